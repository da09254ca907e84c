/- Own work of the session: part LC of a proof that the program's functions do what the statement says (a symbolic executor, contracts of the functions, plain laws). -/
import Derived.Test.YtljlflcgpbenpaaLB
import Derived.RangeFuncBox
import Derived.RangeFuncLeaves
import Derived.RangeFuncFrom
import Derived.Shelf.Abstract
import Derived.WalkKit
import Derived.OwnWalkIn
import Derived.TacticsInMore
import Derived.LoopNIn
import Derived.LoopIn
import Derived.Shelf.RegionOpen
import Derived.Test.YtljlflcgpbenpaaSxC
import Derived.Test.YtljlflcgpbenpaaLA
set_option linter.all false
-- S8
namespace Go.L1
open Go Go.Sx Go.Proofs Go.L5
set_option maxRecDepth 20000
set_option linter.unusedVariables false
set_option linter.unusedSimpArgs false
/-- One piece was put in order. -/
structure Pc (row ys : List Coin) (a b : Nat) : Prop where
  sm : ∀ w, same Coin.wt w ys = same Coin.wt w row
  len : ys.length = row.length
  out : ∀ p, p < a ∨ b ≤ p → wtAt ys p = wtAt row p
  ord : ∀ p q, a ≤ p → p ≤ q → q < b → wtAt ys p ≤ wtAt ys q
theorem pc_of {P o z R : List Coin} (h : Stab Coin.wt o z) : Pc (P ++ (o ++ R)) (P ++ (z ++ R)) P.length (P.length + o.length) := by
  have hl := stab_len h
  refine ⟨fun w => by rw [same_app, same_app, same_app, same_app, h.same], by simp [hl], fun p hp => ?_, fun p q h1 h2 h3 => ?_⟩
  · unfold wtAt
    congr 1
    rw [List.getD_eq_getElem?_getD, List.getD_eq_getElem?_getD]
    congr 1
    rcases hp with hp | hp
    · rw [List.getElem?_append_left hp, List.getElem?_append_left hp]
    · rw [List.getElem?_append_right (by omega), List.getElem?_append_right (by omega), List.getElem?_append_right (by omega), List.getElem?_append_right (by omega), hl]
  · refine rise_at (i := P.length) (j := P.length + o.length) ?_ (by simp; omega) h1 h2 h3
    rw [seg_app _ _ _ rfl (by rw [hl])]
    exact h.rise
theorem pc_seg {row ys : List Coin} {a b : Int} {p q : Nat} (h : SortSeg row ys a b) (ha : a = p) (hb : b = q) : Pc row ys p q := by
  obtain ⟨L, o, z, R, h1, h2, h3, h4, h5⟩ := h.ex
  have e1 : p = L.length := by omega
  have e2 : q = L.length + o.length := by omega
  rw [h1, h2, e1, e2]
  exact pc_of h5
theorem pc_sym {row ys : List Coin} {a b : Nat} (h : SymOut row ys a b) (hab : a ≤ b) (hb : b ≤ row.length) : Pc row ys a b := by
  obtain ⟨Z, h1, h2⟩ := h.ex
  have h3 := pc_of (P := row.take a) (R := row.drop b) h2
  rw [← seg_all row hab, ← h1, seg_len row hb, List.length_take, show min a row.length + (b - a) = b by omega, show min a row.length = a by omega] at h3
  exact h3
def Ord (bs : Nat) (row : List Coin) (lim : Nat) : Prop := ∀ k p q, k * bs ≤ p → p ≤ q → q < (k + 1) * bs → q < lim → wtAt row p ≤ wtAt row q
theorem rise_of {row : List Coin} {i j : Nat} (hj : j ≤ row.length) (h : ∀ p q, i ≤ p → p ≤ q → q < j → wtAt row p ≤ wtAt row q) : Rise Coin.wt (seg row i j) := by
  refine List.pairwise_iff_getElem.2 fun p q h1 h2 h3 => ?_
  rw [seg_len row hj] at h1 h2
  have := h (i + p) (i + q) (by omega) (by omega) (by omega)
  have e1 : (seg row i j)[p]? = row[i + p]? := by rw [seg_get, if_pos h1]
  have e2 : (seg row i j)[q]? = row[i + q]? := by rw [seg_get, if_pos h2]
  rw [List.getElem?_eq_getElem (by rw [seg_len row hj]; omega)] at e1 e2
  rwa [wtAt_some e1.symm, wtAt_some e2.symm] at this
theorem blk_le {bs k k' q : Nat} (h1 : k * bs ≤ q) (h2 : q < (k' + 1) * bs) : k ≤ k' := by
  have : k * bs < (k' + 1) * bs := by omega
  exact Nat.lt_succ_iff.1 (Nat.lt_of_mul_lt_mul_right this)
theorem ord_step {row ys : List Coin} {bs k : Nat} (h : Ord bs row (k * bs)) {b : Nat} (hp : Pc row ys (k * bs) b) (hb : b ≤ (k + 1) * bs) : Ord bs ys b := fun j p q h1 h2 h3 h4 => by
  rcases Nat.lt_or_ge q (k * bs) with h5 | h5
  · rw [hp.out p (.inl (by omega)), hp.out q (.inl h5)]
    exact h j p q h1 h2 h3 h5
  · have : k ≤ j := blk_le h5 h3
    have := Nat.mul_le_mul_right bs this
    exact hp.ord p q (by omega) h2 h4
theorem ord_keep {row ys : List Coin} {bs k e L : Nat} (h : Ord bs row L) {b : Nat} (hp : Pc row ys (k * bs) b) (hb : b = e * bs ∨ L ≤ b) : Ord bs ys L := fun j p q h1 h2 h3 h4 => by
  rcases Nat.lt_or_ge q (k * bs) with h5 | h5
  · rw [hp.out p (.inl (by omega)), hp.out q (.inl h5)]
    exact h j p q h1 h2 h3 h4
  · have : k ≤ j := blk_le h5 h3
    have := Nat.mul_le_mul_right bs this
    rcases Nat.lt_or_ge q b with h6 | h6
    · exact hp.ord p q (by omega) h2 h6
    · have h7 : b = e * bs := by omega
      rw [h7] at h6
      have : e ≤ j := blk_le h6 h3
      have := Nat.mul_le_mul_right bs this
      rw [hp.out p (.inr (by omega)), hp.out q (.inr (by omega))]
      exact h j p q h1 h2 h3 h4
structure InI (xs row : List Coin) (k : Nat) (a b : Int) : Prop where
  sm : ∀ w, same Coin.wt w row = same Coin.wt w xs
  len : row.length = xs.length
  ord : Ord 20 row (k * 20)
  al : k * 20 ≤ xs.length
  ea : a = ((k * 20 : Nat) : Int)
  eb : b = (((k + 1) * 20 : Nat) : Int)
structure SoP (xs : List Coin) (n : Int) : Prop where
  n : n = (xs.length : Int)
  l : xs.length ≤ 1000
def InW (xs : List Coin) (w : List Coin × Int × Int) : Prop := ∃ k, InI xs w.1 k w.2.1 w.2.2
structure InAt (A : Leaf) (xs row : List Coin) (a b : Int) : Prop where
  p : SortB row a b
  nx : ∀ ys, SortSeg row ys a b → InW xs (ys, b, A.ar .add .i64 b 20)
  mu : (xs.length + 20 - A.ar .add .i64 b 20).toNat < (xs.length + 20 - b).toNat
theorem inAt {A : Leaf} {xs row : List Coin} {n a b : Int} (hA : A = .std) (hp : SoP xs n) (hI : InW xs (row, a, b)) (c : A.cmp .leq b n = true) : InAt A xs row a b := by
  obtain ⟨k, h1, h2, h3, h4, h5, h6⟩ := hI
  simp only at h1 h2 h3 h5 h6
  obtain ⟨hn, hl⟩ := hp
  subst hA hn
  have c : b ≤ (xs.length : Int) := of_decide_eq_true c
  have e : Leaf.std.ar .add .i64 b 20 = b + 20 := add_i64 (by omega) (by omega)
  refine ⟨⟨by omega, by omega, by omega, by omega⟩, fun ys hy => ?_, by rw [e]; omega⟩
  have hpc := pc_seg hy h5 h6
  refine ⟨k + 1, fun w => (hpc.sm w).trans (h1 w), hpc.len.trans h2, ord_step h3 hpc (Nat.le_refl _), by omega, h6, ?_⟩
  show Leaf.std.ar .add .i64 b 20 = _
  rw [e]; omega
structure InEnd (xs row : List Coin) (a n : Int) : Prop where
  p : SortB row a n
  nx : ∀ ys, SortSeg row ys a n → (∀ w, same Coin.wt w ys = same Coin.wt w xs) ∧ ys.length = xs.length ∧ Ord 20 ys xs.length
theorem inEnd {A : Leaf} {xs row : List Coin} {n a b : Int} (hA : A = .std) (hp : SoP xs n) (hI : InW xs (row, a, b)) (c : A.cmp .leq b n = false) : InEnd xs row a n := by
  obtain ⟨k, h1, h2, h3, h4, h5, h6⟩ := hI
  simp only at h1 h2 h3 h5 h6
  obtain ⟨hn, hl⟩ := hp
  subst hA hn
  have c : ¬ b ≤ (xs.length : Int) := of_decide_eq_false c
  refine ⟨⟨by omega, by omega, by omega, by omega⟩, fun ys hy => ?_⟩
  have hpc := pc_seg hy h5 rfl
  exact ⟨fun w => (hpc.sm w).trans (h1 w), hpc.len.trans h2, ord_step h3 hpc (by omega)⟩
/-- Blocks are put together. -/
structure MgO (xs row : List Coin) (bs : Nat) (z : Int) : Prop where
  sm : ∀ w, same Coin.wt w row = same Coin.wt w xs
  len : row.length = xs.length
  ord : Ord bs row xs.length
  pos : 20 ≤ bs
  up : bs ≤ 2000
  ez : z = (bs : Int)
def MgW (xs : List Coin) (w : List Coin × Int) : Prop := ∃ bs, MgO xs w.1 bs w.2
structure MgI (xs row : List Coin) (bs k : Nat) (z a b : Int) : Prop where
  o : MgO xs row bs z
  lt : bs < xs.length
  big : Ord (2 * bs) row (k * (2 * bs))
  al : k * (2 * bs) ≤ xs.length
  ea : a = ((k * (2 * bs) : Nat) : Int)
  eb : b = (((k + 1) * (2 * bs) : Nat) : Int)
def MiW (xs : List Coin) (bs : Nat) (z : Int) (w : List Coin × Int × Int) : Prop := ∃ k, MgI xs w.1 bs k z w.2.1 w.2.2
theorem miIni {A : Leaf} {xs row : List Coin} {n z : Int} (hA : A = .std) (hp : SoP xs n) (hI : MgW xs (row, z)) (c : A.cmp .lss z n = true) : ∃ bs, MiW xs bs z (row, 0, A.ar .mul .i64 2 z) := by
  obtain ⟨bs, h⟩ := hI
  have ho : MgO xs row bs z := h
  obtain ⟨h1, h2, h3, h4, h5, h6⟩ := h
  obtain ⟨hn, hl⟩ := hp
  simp only at h1 h2 h3 h6
  subst hA hn h6
  have c : (bs : Int) < (xs.length : Int) := of_decide_eq_true c
  refine ⟨bs, 0, ho, by omega, fun k p q g1 g2 g3 g4 => by omega, by omega, by simp, ?_⟩
  show Leaf.std.ar .mul .i64 2 (bs : Int) = _
  rw [mul_i64 (by omega) (by omega)]; omega
structure MiAt (A : Leaf) (xs row : List Coin) (bs : Nat) (z a b : Int) (a0 m0 b0 : Nat) : Prop where
  p : SymP row a (A.ar .add .i64 a z) b a0 m0 b0
  nx : ∀ ys, SymOut row ys a0 b0 → MiW xs bs z (ys, b, A.ar .add .i64 b (A.ar .mul .i64 2 z))
  mu : (xs.length + 2 * bs - A.ar .add .i64 b (A.ar .mul .i64 2 z)).toNat < (xs.length + 2 * bs - b).toNat
theorem half_ord {row : List Coin} {bs k L : Nat} (h : Ord bs row L) {i j : Nat} (hi : k * bs ≤ i) (hj : j ≤ (k + 1) * bs) (hL : j ≤ L) (hl : L ≤ row.length) : Rise Coin.wt (seg row i j) :=
  rise_of (by omega) fun p q h1 h2 h3 => h k p q (by omega) h2 (by omega) (by omega)
theorem miAt {A : Leaf} {xs row : List Coin} {bs : Nat} {n z a b : Int} (hA : A = .std) (hp : SoP xs n) (hI : MiW xs bs z (row, a, b)) (c : A.cmp .leq b n = true) : ∃ a0 m0 b0, MiAt A xs row bs z a b a0 m0 b0 := by
  obtain ⟨k, ⟨h1, h2, h3, h4, h5, h6⟩, g1, g2, g3, g4, g5⟩ := hI
  obtain ⟨hn, hl⟩ := hp
  simp only at h1 h2 h3 h6 g2 g4 g5
  subst hA hn h6
  have c : b ≤ (xs.length : Int) := of_decide_eq_true c
  have m1 : (k + 1) * (2 * bs) = k * (2 * bs) + 2 * bs := Nat.succ_mul ..
  have m2 : k * (2 * bs) = (2 * k) * bs := by rw [← Nat.mul_assoc, Nat.mul_comm k 2]
  have m3 : (2 * k + 1) * bs = (2 * k) * bs + bs := Nat.succ_mul ..
  have m4 : (2 * k + 1 + 1) * bs = (2 * k + 1) * bs + bs := Nat.succ_mul ..
  have e1 : Leaf.std.ar .add .i64 a bs = a + bs := add_i64 (by omega) (by omega)
  have e2 : Leaf.std.ar .mul .i64 2 bs = 2 * bs := mul_i64 (by omega) (by omega)
  have e3 : Leaf.std.ar .add .i64 b (Leaf.std.ar .mul .i64 2 bs) = b + 2 * bs := by rw [e2]; exact add_i64 (by omega) (by omega)
  refine ⟨k * (2 * bs), k * (2 * bs) + bs, (k + 1) * (2 * bs), ⟨g4, by rw [e1]; omega, g5, by omega, by omega, by omega, by omega, half_ord h3 (k := 2 * k) (by omega) (by omega) (by omega) (by omega), half_ord h3 (k := 2 * k + 1) (by omega) (by omega) (by omega) (by omega)⟩, fun ys hy => ?_, by rw [e3]; omega⟩
  have hpc := pc_sym hy (by omega) (by omega)
  refine ⟨k + 1, ⟨fun w => (hpc.sm w).trans (h1 w), hpc.len.trans h2, ?_, h4, h5, rfl⟩, g1, ord_step g2 hpc (Nat.le_refl _), by omega, g5, ?_⟩
  · rw [m2] at hpc
    exact ord_keep (e := 2 * k + 1 + 1) h3 hpc (.inl (by omega))
  · show Leaf.std.ar .add .i64 b (Leaf.std.ar .mul .i64 2 bs) = _
    rw [e3]
    have m5 : (k + 1 + 1) * (2 * bs) = (k + 1) * (2 * bs) + 2 * bs := Nat.succ_mul ..
    omega
structure MiEnd (A : Leaf) (xs row : List Coin) (n z a : Int) (a0 m0 b0 : Nat) : Prop where
  p : A.cmp .lss (A.ar .add .i64 a z) n = true → SymP row a (A.ar .add .i64 a z) n a0 m0 b0
  nx : ∀ ys, SymOut row ys a0 b0 → A.cmp .lss (A.ar .add .i64 a z) n = true → MgW xs (ys, A.ar .mul .i64 z 2)
  no : A.cmp .lss (A.ar .add .i64 a z) n = false → MgW xs (row, A.ar .mul .i64 z 2)
  mu : (4000 - A.ar .mul .i64 z 2).toNat < (4000 - z).toNat
theorem miEnd {A : Leaf} {xs row : List Coin} {bs : Nat} {n z a b : Int} (hA : A = .std) (hp : SoP xs n) (hI : MiW xs bs z (row, a, b)) (c : A.cmp .leq b n = false) : ∃ a0 m0 b0, MiEnd A xs row n z a a0 m0 b0 := by
  obtain ⟨k, ⟨h1, h2, h3, h4, h5, h6⟩, g1, g2, g3, g4, g5⟩ := hI
  obtain ⟨hn, hl⟩ := hp
  simp only at h1 h2 h3 h6 g2 g4 g5
  subst hA hn h6
  have c : ¬ b ≤ (xs.length : Int) := of_decide_eq_false c
  have m1 : (k + 1) * (2 * bs) = k * (2 * bs) + 2 * bs := Nat.succ_mul ..
  have m2 : k * (2 * bs) = (2 * k) * bs := by rw [← Nat.mul_assoc, Nat.mul_comm k 2]
  have m3 : (2 * k + 1) * bs = (2 * k) * bs + bs := Nat.succ_mul ..
  have m4 : (2 * k + 1 + 1) * bs = (2 * k + 1) * bs + bs := Nat.succ_mul ..
  have e1 : Leaf.std.ar .add .i64 a bs = a + bs := add_i64 (by omega) (by omega)
  have e2 : Leaf.std.ar .mul .i64 bs 2 = ((2 * bs : Nat) : Int) := by rw [mul_i64 (by omega) (by omega)]; omega
  refine ⟨k * (2 * bs), k * (2 * bs) + bs, xs.length, fun d => ?_, fun ys hy d => ?_, fun d => ?_, by rw [e2]; omega⟩
  · rw [e1] at d
    have d : a + bs < (xs.length : Int) := of_decide_eq_true d
    exact ⟨g4, by rw [e1]; omega, rfl, by omega, by omega, by omega, by omega, half_ord h3 (k := 2 * k) (by omega) (by omega) (by omega) (by omega), half_ord h3 (k := 2 * k + 1) (by omega) (by omega) (by omega) (by omega)⟩
  · have hpc := pc_sym hy (by omega) (by omega)
    exact ⟨2 * bs, fun w => (hpc.sm w).trans (h1 w), hpc.len.trans h2, ord_step g2 hpc (by omega), by omega, by omega, e2⟩
  · rw [e1] at d
    have d : ¬ a + bs < (xs.length : Int) := of_decide_eq_false d
    refine ⟨2 * bs, h1, h2, fun j p q f1 f2 f3 f4 => ?_, by omega, by omega, e2⟩
    rcases Nat.lt_or_ge q (k * (2 * bs)) with h5 | h5
    · exact g2 j p q f1 f2 f3 h5
    · have : k ≤ j := blk_le h5 f3
      have := Nat.mul_le_mul_right (2 * bs) this
      exact h3 (2 * k) p q (by omega) f2 (by omega) f4
structure SoOut (xs ys : List Coin) : Prop where
  s : Stab Coin.wt xs ys
theorem soFin {A : Leaf} {xs row : List Coin} {n z : Int} (hA : A = .std) (hp : SoP xs n) (hI : MgW xs (row, z)) (c : A.cmp .lss z n = false) : SoOut xs row := by
  obtain ⟨bs, h1, h2, h3, h4, h5, h6⟩ := hI
  obtain ⟨hn, hl⟩ := hp
  simp only at h1 h2 h3 h6
  subst hA hn h6
  have c : ¬ (bs : Int) < (xs.length : Int) := of_decide_eq_false c
  refine ⟨⟨?_, h1⟩⟩
  have := rise_of (row := row) (i := 0) (j := row.length) (Nat.le_refl _) fun p q f1 f2 f3 => h3 0 p q (by omega) f2 (by omega) (by omega)
  simpa [seg] using this
theorem mgIni {xs ys : List Coin} (h : (∀ w, same Coin.wt w ys = same Coin.wt w xs) ∧ ys.length = xs.length ∧ Ord 20 ys xs.length) : MgW xs (ys, 20) := ⟨20, h.1, h.2.1, h.2.2, by decide, by decide, rfl⟩
theorem stable_ok (xs : List Coin) (n : Int) (hp : SoP xs n) : FOK Try.prog C1 39 (fun _ => true) [.own 0, .int .i64 n, .fn 26 []] [.row 54 (.recs 6 xs)]
    (fun rs H => ∃ ys, rs = [] ∧ H = [.row 54 (.recs 6 ys)] ∧ SoOut xs ys) := by
  refine fok_of (B := ⟨lookT tis, fun _ => true, []⟩) (tab1 _) (zero1 _) cod1 mix1 Try.func39 (by kernel_rfl) rfl rfl rfl fun X F => ?_
  obtain ⟨A, hA⟩ : ∃ A, A = Leaf.std := ⟨_, rfl⟩
  refine F.hold hA 2000 ?_
  cbv
  repeat (first
    | refine OK.drawn (by decide +kernel) ?_
    | refine OK.tree ⟨lookT tis, fun _ => true, []⟩ (by decide +kernel) ?_
    | refine OK.need (by first | assumption | (rw [hA]; first | (show (_ : Int) ≠ _; decide) | (show (0 : Int) ≤ _; decide) | (show (0 : Int) ≤ _ ∧ _ < (256 : Int); decide))) ?_
    | (refine F.hold hA 2000 ?_; cbv))
  refine F.loop (V := List Coin × Int × Int) [0, 1, 2, 6] (InW xs) (fun w => (xs.length + 20 - w.2.2).toNat) (fun w => [(7, .int .i64 w.2.1), (8, .int .i64 w.2.2)]) (fun w => [(0, .row 54 (.recs 6 w.1))]) (_, _, _) (by cbv; repeat (first | exact WkH.nil _ | apply WkH.gone | refine WkH.eq rfl ?_)) (by cbv; repeat (first | apply WkL.any | exact WkL.nil _ | refine WkL.eq rfl ?_ | refine WkL.bool rfl ?_)) (by cbv; exact ⟨rfl⟩) ?_ ?_
  · exact ⟨0, fun _ => rfl, rfl, fun k p q g1 g2 g3 g4 => by omega, by omega, rfl, rfl⟩
  rintro ⟨row, a, b⟩ hI Bk hBk
  repeat (first
    | refine OK.drawn (by decide +kernel) ?_
    | refine OK.tree ⟨lookT tis, fun _ => true, []⟩ (by decide +kernel) ?_
    | refine OK.need (by first | assumption | (rw [hA]; first | (show (_ : Int) ≠ _; decide) | (show (0 : Int) ≤ _; decide) | (show (0 : Int) ≤ _ ∧ _ < (256 : Int); decide))) ?_
    | (refine F.hold hA 2000 ?_; cbv))
  refine OK.branch (fun c1 => ?_) (fun c1 => ?_)
  · have hat := inAt hA hp hI c1
    repeat (first
      | refine OK.drawn (by decide +kernel) ?_
      | refine OK.tree ⟨lookT tis, fun _ => true, []⟩ (by decide +kernel) ?_
      | refine OK.need (by first | assumption | (rw [hA]; first | (show (_ : Int) ≠ _; decide) | (show (0 : Int) ≤ _; decide) | (show (0 : Int) ≤ _ ∧ _ < (256 : Int); decide))) ?_
      | (refine F.hold hA 2000 ?_; cbv))
    refine F.call [0] (insertion_ok _ _ _ hat.p) rfl rfl rfl fun rs H' hq => ?_
    obtain ⟨ys, rfl, rfl, hys⟩ := hq
    refine ⟨rfl, ?_⟩
    repeat (first
      | refine OK.drawn (by decide +kernel) ?_
      | refine OK.tree ⟨lookT tis, fun _ => true, []⟩ (by decide +kernel) ?_
      | refine OK.need (by first | assumption | (rw [hA]; first | (show (_ : Int) ≠ _; decide) | (show (0 : Int) ≤ _; decide) | (show (0 : Int) ≤ _ ∧ _ < (256 : Int); decide))) ?_
      | (refine F.hold hA 2000 ?_; cbv))
    refine OK.back (hBk _ _ (_, _, _) (by cbv; repeat (first | exact WkH.nil _ | apply WkH.gone | refine WkH.eq rfl ?_)) (by cbv; repeat (first | apply WkL.any | exact WkL.nil _ | refine WkL.eq rfl ?_ | refine WkL.bool rfl ?_)) (by cbv; exact ⟨rfl⟩) ?_ ?_)
    · exact hat.nx ys hys
    · exact hat.mu
  · have hen := inEnd hA hp hI c1
    repeat (first
      | refine OK.drawn (by decide +kernel) ?_
      | refine OK.tree ⟨lookT tis, fun _ => true, []⟩ (by decide +kernel) ?_
      | refine OK.need (by first | assumption | (rw [hA]; first | (show (_ : Int) ≠ _; decide) | (show (0 : Int) ≤ _; decide) | (show (0 : Int) ≤ _ ∧ _ < (256 : Int); decide))) ?_
      | (refine F.hold hA 2000 ?_; cbv))
    refine F.call [0] (insertion_ok _ _ _ hen.p) rfl rfl rfl fun rs H' hq => ?_
    obtain ⟨ys, rfl, rfl, hys⟩ := hq
    refine ⟨rfl, ?_⟩
    repeat (first
      | refine OK.drawn (by decide +kernel) ?_
      | refine OK.tree ⟨lookT tis, fun _ => true, []⟩ (by decide +kernel) ?_
      | refine OK.need (by first | assumption | (rw [hA]; first | (show (_ : Int) ≠ _; decide) | (show (0 : Int) ≤ _; decide) | (show (0 : Int) ≤ _ ∧ _ < (256 : Int); decide))) ?_
      | (refine F.hold hA 2000 ?_; cbv))
    refine F.loop (V := List Coin × Int) [0, 1, 2] (MgW xs) (fun w => (4000 - w.2).toNat) (fun w => [(6, .int .i64 w.2)]) (fun w => [(0, .row 54 (.recs 6 w.1))]) (_, _) (by cbv; repeat (first | exact WkH.nil _ | apply WkH.gone | refine WkH.eq rfl ?_)) (by cbv; repeat (first | apply WkL.any | exact WkL.nil _ | refine WkL.eq rfl ?_ | refine WkL.bool rfl ?_)) (by cbv; exact ⟨rfl⟩) ?_ ?_
    · exact mgIni (hen.nx ys hys)
    rintro ⟨row2, z⟩ hI2 Bk2 hBkO
    repeat (first
      | refine OK.drawn (by decide +kernel) ?_
      | refine OK.tree ⟨lookT tis, fun _ => true, []⟩ (by decide +kernel) ?_
      | refine OK.need (by first | assumption | (rw [hA]; first | (show (_ : Int) ≠ _; decide) | (show (0 : Int) ≤ _; decide) | (show (0 : Int) ≤ _ ∧ _ < (256 : Int); decide))) ?_
      | (refine F.hold hA 2000 ?_; cbv))
    refine OK.branch (fun c2 => ?_) (fun c2 => ?_)
    · obtain ⟨bs, hini⟩ := miIni hA hp hI2 c2
      repeat (first
        | refine OK.drawn (by decide +kernel) ?_
        | refine OK.tree ⟨lookT tis, fun _ => true, []⟩ (by decide +kernel) ?_
        | refine OK.need (by first | assumption | (rw [hA]; first | (show (_ : Int) ≠ _; decide) | (show (0 : Int) ≤ _; decide) | (show (0 : Int) ≤ _ ∧ _ < (256 : Int); decide))) ?_
        | (refine F.hold hA 2000 ?_; cbv))
      refine F.loop (V := List Coin × Int × Int) [0, 1, 2, 6] (MiW xs bs z) (fun w => (xs.length + 2 * bs - w.2.2).toNat) (fun w => [(7, .int .i64 w.2.1), (8, .int .i64 w.2.2)]) (fun w => [(0, .row 54 (.recs 6 w.1))]) (_, _, _) (by cbv; repeat (first | exact WkH.nil _ | apply WkH.gone | refine WkH.eq rfl ?_)) (by cbv; repeat (first | apply WkL.any | exact WkL.nil _ | refine WkL.eq rfl ?_ | refine WkL.bool rfl ?_)) (by cbv; exact ⟨rfl⟩) ?_ ?_
      · exact hini
      rintro ⟨row3, a3, b3⟩ hI3 Bk3 hBk3
      repeat (first
        | refine OK.drawn (by decide +kernel) ?_
        | refine OK.tree ⟨lookT tis, fun _ => true, []⟩ (by decide +kernel) ?_
        | refine OK.need (by first | assumption | (rw [hA]; first | (show (_ : Int) ≠ _; decide) | (show (0 : Int) ≤ _; decide) | (show (0 : Int) ≤ _ ∧ _ < (256 : Int); decide))) ?_
        | (refine F.hold hA 2000 ?_; cbv))
      refine OK.branch (fun c3 => ?_) (fun c3 => ?_)
      · obtain ⟨a0, m0, b0, hat⟩ := miAt hA hp hI3 c3
        have hBk := hBk3
        repeat (first
          | refine OK.drawn (by decide +kernel) ?_
          | refine OK.tree ⟨lookT tis, fun _ => true, []⟩ (by decide +kernel) ?_
          | refine OK.need (by first | assumption | (rw [hA]; first | (show (_ : Int) ≠ _; decide) | (show (0 : Int) ≤ _; decide) | (show (0 : Int) ≤ _ ∧ _ < (256 : Int); decide))) ?_
          | (refine F.hold hA 2000 ?_; cbv))
        refine F.call [0] (symMerge_ok _ _ _ _ _ _ _ _ ⟨Nat.le_refl _⟩ hat.p) rfl rfl rfl fun rs H' hq => ?_
        obtain ⟨ys3, rfl, rfl, hys3⟩ := hq
        refine ⟨rfl, ?_⟩
        repeat (first
          | refine OK.drawn (by decide +kernel) ?_
          | refine OK.tree ⟨lookT tis, fun _ => true, []⟩ (by decide +kernel) ?_
          | refine OK.need (by first | assumption | (rw [hA]; first | (show (_ : Int) ≠ _; decide) | (show (0 : Int) ≤ _; decide) | (show (0 : Int) ≤ _ ∧ _ < (256 : Int); decide))) ?_
          | (refine F.hold hA 2000 ?_; cbv))
        refine OK.back (hBk _ _ (_, _, _) (by cbv; repeat (first | exact WkH.nil _ | apply WkH.gone | refine WkH.eq rfl ?_)) (by cbv; repeat (first | apply WkL.any | exact WkL.nil _ | refine WkL.eq rfl ?_ | refine WkL.bool rfl ?_)) (by cbv; exact ⟨rfl⟩) ?_ ?_)
        · exact hat.nx ys3 hys3
        · exact hat.mu
      · obtain ⟨a0, m0, b0, hat⟩ := miEnd hA hp hI3 c3
        have hBk := hBkO
        repeat (first
          | refine OK.drawn (by decide +kernel) ?_
          | refine OK.tree ⟨lookT tis, fun _ => true, []⟩ (by decide +kernel) ?_
          | refine OK.need (by first | assumption | (rw [hA]; first | (show (_ : Int) ≠ _; decide) | (show (0 : Int) ≤ _; decide) | (show (0 : Int) ≤ _ ∧ _ < (256 : Int); decide))) ?_
          | (refine F.hold hA 2000 ?_; cbv))
        refine OK.branch (fun c4 => ?_) (fun c4 => ?_)
        · repeat (first
            | refine OK.drawn (by decide +kernel) ?_
            | refine OK.tree ⟨lookT tis, fun _ => true, []⟩ (by decide +kernel) ?_
            | refine OK.need (by first | assumption | (rw [hA]; first | (show (_ : Int) ≠ _; decide) | (show (0 : Int) ≤ _; decide) | (show (0 : Int) ≤ _ ∧ _ < (256 : Int); decide))) ?_
            | (refine F.hold hA 2000 ?_; cbv))
          refine F.call [0] (symMerge_ok _ _ _ _ _ _ _ _ ⟨Nat.le_refl _⟩ (hat.p c4)) rfl rfl rfl fun rs H' hq => ?_
          obtain ⟨ys3, rfl, rfl, hys3⟩ := hq
          refine ⟨rfl, ?_⟩
          repeat (first
            | refine OK.drawn (by decide +kernel) ?_
            | refine OK.tree ⟨lookT tis, fun _ => true, []⟩ (by decide +kernel) ?_
            | refine OK.need (by first | assumption | (rw [hA]; first | (show (_ : Int) ≠ _; decide) | (show (0 : Int) ≤ _; decide) | (show (0 : Int) ≤ _ ∧ _ < (256 : Int); decide))) ?_
            | (refine F.hold hA 2000 ?_; cbv))
          refine OK.back (hBk _ _ (_, _) (by cbv; repeat (first | exact WkH.nil _ | apply WkH.gone | refine WkH.eq rfl ?_)) (by cbv; repeat (first | apply WkL.any | exact WkL.nil _ | refine WkL.eq rfl ?_ | refine WkL.bool rfl ?_)) (by cbv; exact ⟨rfl⟩) ?_ ?_)
          · exact hat.nx ys3 hys3 c4
          · exact hat.mu
        · repeat (first
            | refine OK.drawn (by decide +kernel) ?_
            | refine OK.tree ⟨lookT tis, fun _ => true, []⟩ (by decide +kernel) ?_
            | refine OK.need (by first | assumption | (rw [hA]; first | (show (_ : Int) ≠ _; decide) | (show (0 : Int) ≤ _; decide) | (show (0 : Int) ≤ _ ∧ _ < (256 : Int); decide))) ?_
            | (refine F.hold hA 2000 ?_; cbv))
          refine OK.back (hBk _ _ (_, _) (by cbv; repeat (first | exact WkH.nil _ | apply WkH.gone | refine WkH.eq rfl ?_)) (by cbv; repeat (first | apply WkL.any | exact WkL.nil _ | refine WkL.eq rfl ?_ | refine WkL.bool rfl ?_)) (by cbv; exact ⟨rfl⟩) ?_ ?_)
          · exact hat.no c4
          · exact hat.mu
    · repeat (first
        | refine OK.drawn (by decide +kernel) ?_
        | refine OK.tree ⟨lookT tis, fun _ => true, []⟩ (by decide +kernel) ?_
        | refine OK.need (by first | assumption | (rw [hA]; first | (show (_ : Int) ≠ _; decide) | (show (0 : Int) ≤ _; decide) | (show (0 : Int) ≤ _ ∧ _ < (256 : Int); decide))) ?_
        | (refine F.hold hA 2000 ?_; cbv))
      exact F.ret0 ⟨_, rfl, rfl, soFin hA hp hI2 c2⟩
theorem sort_ok (xs : List Coin) (hl : xs.length ≤ 1000) : FOK Try.prog C1 25 (fun _ => true) [.own 0, .fn 26 []] [.row 54 (.recs 6 xs)]
    (fun rs H => ∃ ys, rs = [] ∧ H = [.row 54 (.recs 6 ys)] ∧ SoOut xs ys) := by
  refine fok_of (B := ⟨lookT tis, fun _ => true, []⟩) (tab1 _) (zero1 _) cod1 mix1 Try.func25 (by kernel_rfl) rfl rfl rfl fun X F => ?_
  obtain ⟨A, hA⟩ : ∃ A, A = Leaf.std := ⟨_, rfl⟩
  refine F.hold hA 2000 ?_
  cbv
  repeat (first
    | refine OK.drawn (by decide +kernel) ?_
    | refine OK.tree ⟨lookT tis, fun _ => true, []⟩ (by decide +kernel) ?_
    | refine OK.need (by first | assumption | (rw [hA]; first | (show (_ : Int) ≠ _; decide) | (show (0 : Int) ≤ _; decide) | (show (0 : Int) ≤ _ ∧ _ < (256 : Int); decide))) ?_
    | (refine F.hold hA 2000 ?_; cbv))
  refine F.call [0] (stable_ok _ _ ⟨by subst hA; rfl, hl⟩) rfl rfl rfl fun rs H' hq => ?_
  obtain ⟨ys, rfl, rfl, hys⟩ := hq
  refine ⟨rfl, ?_⟩
  repeat (first
    | refine OK.drawn (by decide +kernel) ?_
    | refine OK.tree ⟨lookT tis, fun _ => true, []⟩ (by decide +kernel) ?_
    | refine OK.need (by first | assumption | (rw [hA]; first | (show (_ : Int) ≠ _; decide) | (show (0 : Int) ≤ _; decide) | (show (0 : Int) ≤ _ ∧ _ < (256 : Int); decide))) ?_
    | (refine F.hold hA 2000 ?_; cbv))
  exact F.ret0 ⟨_, rfl, rfl, hys⟩
end Go.L1

-- S9
namespace Go.L1
open Go Go.Sx Go.Proofs Go.L5
set_option maxRecDepth 20000
set_option linter.unusedVariables false
set_option linter.unusedSimpArgs false
structure RvI (xs row : List Coin) (k : Nat) (i j : Int) : Prop where
  len : row.length = xs.length
  ei : i = (k : Int)
  ej : j = (xs.length : Int) - 1 - k
  al : 2 * k ≤ xs.length + 1
  turned : ∀ p, p < xs.length → (p < k ∨ xs.length ≤ p + k) → row[p]? = xs[xs.length - 1 - p]?
  rest : ∀ p, k ≤ p → p + k < xs.length → row[p]? = xs[p]?
def RvW (xs : List Coin) (w : List Coin × Int × Int) : Prop := ∃ k, RvI xs w.1 k w.2.1 w.2.2
structure RvAt (A : Leaf) (xs row : List Coin) (i j : Int) : Prop where
  q1 : A.inb i (A.len row)
  q2 : A.inb j (A.len row)
  q3 : A.inb j (A.len (A.set row i (nd (A.get (Coin.node 0 0 []) row j))))
  nx : RvW xs (A.set (A.set row i (nd (A.get (Coin.node 0 0 []) row j))) j (nd (A.get (Coin.node 0 0 []) row i)), A.ar .add .i64 i 1, A.ar .sub .i64 j 1)
  mu : (A.ar .sub .i64 j 1).toNat < j.toNat
theorem rvAt {A : Leaf} {xs row : List Coin} {i j : Int} (hA : A = .std) (hl : xs.length ≤ 1000) (hI : RvW xs (row, i, j)) (c : A.cmp .lss i j = true) : RvAt A xs row i j := by
  obtain ⟨k, h1, h2, h3, h4, h5, h6⟩ := hI
  simp only at h1 h2 h3 h5 h6
  subst hA h2
  have c : (k : Int) < j := of_decide_eq_true c
  obtain ⟨j0, hj⟩ : ∃ j0 : Nat, j = j0 := ⟨j.toNat, by omega⟩
  subst hj
  have e1 : Leaf.std.ar .add .i64 k 1 = ((k + 1 : Nat) : Int) := by rw [add_i64 (by omega) (by omega)]; omega
  have e2 : Leaf.std.ar .sub .i64 j0 1 = ((j0 - 1 : Nat) : Int) := by rw [sub_i64 (by omega) (by omega)]; omega
  have g1 : Leaf.std.get (Coin.node 0 0 []) row k = row[k]'(by omega) := by show row.getD k _ = _; rw [List.getD_eq_getElem?_getD, List.getElem?_eq_getElem (by omega)]; rfl
  have g2 : Leaf.std.get (Coin.node 0 0 []) row j0 = row[j0]'(by omega) := by show row.getD j0 _ = _; rw [List.getD_eq_getElem?_getD, List.getElem?_eq_getElem (by omega)]; rfl
  have r1 := h6 k (Nat.le_refl _) (by omega)
  have r2 := h6 j0 (by omega) (by omega)
  rw [List.getElem?_eq_getElem (by omega)] at r1 r2
  refine ⟨⟨by omega, ?_⟩, ⟨by omega, ?_⟩, ⟨by omega, ?_⟩, ?_, by rw [e2]; omega⟩
  · show (k : Int) < (row.length : Int); omega
  · show (j0 : Int) < (row.length : Int); omega
  · show (j0 : Int) < ((row.set k _).length : Int); rw [List.length_set]; omega
  · rw [nd_eq, nd_eq, e1, e2, g1, g2]
    show RvW xs ((row.set k _).set j0 _, _, _)
    refine ⟨k + 1, by simp [h1], rfl, by show ((j0 - 1 : Nat) : Int) = _; omega, by omega, fun p hp h7 => ?_, fun p h7 h8 => ?_⟩
    · show ((row.set k _).set j0 _)[p]? = _
      rw [List.getElem?_set, List.getElem?_set]
      by_cases hpj : j0 = p
      · rw [if_pos hpj, if_pos (by rw [List.length_set]; omega), show xs.length - 1 - p = k by omega, r1]
      · rw [if_neg hpj]
        by_cases hpk : k = p
        · rw [if_pos hpk, if_pos (by omega), show xs.length - 1 - p = j0 by omega, r2]
        · rw [if_neg hpk]
          exact h5 p hp (by omega)
    · show ((row.set k _).set j0 _)[p]? = _
      rw [List.getElem?_set, List.getElem?_set, if_neg (by omega), if_neg (by omega)]
      exact h6 p (by omega) (by omega)
theorem rvFin {A : Leaf} {xs row : List Coin} {i j : Int} (hA : A = .std) (hI : RvW xs (row, i, j)) (c : A.cmp .lss i j = false) : row = xs.reverse := by
  obtain ⟨k, h1, h2, h3, h4, h5, h6⟩ := hI
  simp only at h1 h2 h3 h5 h6
  subst hA h2
  have c : ¬ (k : Int) < j := of_decide_eq_false c
  refine List.ext_getElem? fun p => ?_
  rcases Nat.lt_or_ge p xs.length with hp | hp
  · rw [List.getElem?_reverse hp]
    by_cases h7 : p < k ∨ xs.length ≤ p + k
    · exact h5 p hp h7
    · rw [h6 p (by omega) (by omega)]
      congr 1; omega
  · rw [List.getElem?_eq_none (by omega), List.getElem?_eq_none (by rw [List.length_reverse]; omega)]
structure RevIs (xs ys : List Coin) : Prop where
  e : ys = xs.reverse
theorem rvIni {A : Leaf} {xs : List Coin} (hA : A = .std) (hl : xs.length ≤ 1000) : RvW xs (xs, 0, A.ar .sub .i64 (A.len xs) 1) := by
  subst hA
  have e : Leaf.std.ar .sub .i64 (Leaf.std.len xs) 1 = (xs.length : Int) - 1 := sub_i64 (by show _ ≤ (xs.length : Int) - 1; omega) (by show (xs.length : Int) - 1 ≤ _; omega)
  exact ⟨0, rfl, rfl, by show Leaf.std.ar .sub .i64 (Leaf.std.len xs) 1 = (xs.length : Int) - 1 - ((0 : Nat) : Int); rw [e]; omega, by omega, fun p h1 h2 => by omega, fun p _ _ => rfl⟩
theorem reverse_ok (xs : List Coin) (hl : xs.length ≤ 1000) : FOK Try.prog C1 36 (fun _ => true) [.own 0] [.row 54 (.recs 6 xs)]
    (fun rs H => ∃ ys, rs = [] ∧ H = [.row 54 (.recs 6 ys)] ∧ RevIs xs ys) := by
  refine fok_of (B := ⟨lookT tis, fun _ => true, []⟩) (tab1 _) (zero1 _) cod1 mix1 Try.func36 (by kernel_rfl) rfl rfl rfl fun X F => ?_
  obtain ⟨A, hA⟩ : ∃ A, A = Leaf.std := ⟨_, rfl⟩
  refine F.hold hA 2000 ?_
  cbv
  repeat (first
    | refine OK.drawn (by decide +kernel) ?_
    | refine OK.tree ⟨lookT tis, fun _ => true, []⟩ (by decide +kernel) ?_
    | refine OK.need (by first | assumption | (rw [hA]; first | (show (_ : Int) ≠ _; decide) | (show (0 : Int) ≤ _; decide) | (show (0 : Int) ≤ _ ∧ _ < (256 : Int); decide))) ?_
    | (refine F.hold hA 2000 ?_; cbv))
  refine F.loop (V := List Coin × Int × Int) [0] (RvW xs) (fun w => w.2.2.toNat) (fun w => [(2, .int .i64 w.2.1), (3, .int .i64 w.2.2)]) (fun w => [(0, .row 54 (.recs 6 w.1))]) (_, _, _) (by cbv; repeat (first | exact WkH.nil _ | apply WkH.gone | refine WkH.eq rfl ?_)) (by cbv; repeat (first | apply WkL.any | exact WkL.nil _ | refine WkL.eq rfl ?_ | refine WkL.bool rfl ?_)) (by cbv; exact ⟨rfl⟩) ?_ ?_
  · exact rvIni hA hl
  rintro ⟨row, i, j⟩ hI Bk hBk
  repeat (first
    | refine OK.drawn (by decide +kernel) ?_
    | refine OK.tree ⟨lookT tis, fun _ => true, []⟩ (by decide +kernel) ?_
    | refine OK.need (by first | assumption | (rw [hA]; first | (show (_ : Int) ≠ _; decide) | (show (0 : Int) ≤ _; decide) | (show (0 : Int) ≤ _ ∧ _ < (256 : Int); decide))) ?_
    | (refine F.hold hA 2000 ?_; cbv))
  refine OK.branch (fun c1 => ?_) (fun c1 => ?_)
  · have hat := rvAt hA hl hI c1
    have q1 := hat.q1
    have q2 := hat.q2
    have q3 := hat.q3
    repeat' (first
      | refine OK.drawn (by decide +kernel) ?_
      | refine OK.tree ⟨lookT tis, fun _ => true, []⟩ (by decide +kernel) ?_
      | refine OK.both ?_ ?_
      | refine OK.need (by first | assumption | (rw [hA]; first | (show (_ : Int) ≠ _; decide) | (show (0 : Int) ≤ _; decide) | (show (0 : Int) ≤ _ ∧ _ < (256 : Int); decide))) ?_
      | refine OK.need ?_ ?_
      | (refine OK.branch ?_ ?_ <;> intro h)
      | (refine F.hold hA 2000 ?_; cbv))
    all_goals
      refine OK.back (hBk _ _ (_, _, _) (by cbv; repeat (first | exact WkH.nil _ | apply WkH.gone | refine WkH.eq rfl ?_)) (by cbv; repeat (first | apply WkL.any | exact WkL.nil _ | refine WkL.eq rfl ?_ | refine WkL.bool rfl ?_)) (by cbv; exact ⟨rfl⟩) ?_ ?_)
      · exact hat.nx
      · exact hat.mu
  · repeat (first
      | refine OK.drawn (by decide +kernel) ?_
      | refine OK.tree ⟨lookT tis, fun _ => true, []⟩ (by decide +kernel) ?_
      | refine OK.need (by first | assumption | (rw [hA]; first | (show (_ : Int) ≠ _; decide) | (show (0 : Int) ≤ _; decide) | (show (0 : Int) ≤ _ ∧ _ < (256 : Int); decide))) ?_
      | (refine F.hold hA 2000 ?_; cbv))
    exact F.ret0 ⟨_, rfl, rfl, ⟨rvFin hA hI c1⟩⟩
end Go.L1

-- S10
namespace Go.L1
open Go Go.Sx Go.Proofs Go.L5
set_option maxRecDepth 20000
set_option linter.unusedVariables false
set_option linter.unusedSimpArgs false
theorem _root_.Go.Sx.Cv.slot {T : Nat → Type} {X : Ctx T} {l : List (SV T)} {H : List (Ch T)} (i : Nat) {s s' : SV T} (hs : nth l i = some s) (h : ∀ M v, DenV X.C M s v → DenV X.C M s' v) : Cv X l H (setN l i s') H := by
  rw [setN_eq]
  rw [nth_eq] at hs
  refine ⟨by rw [List.length_set]; exact Nat.le_refl _, fun M hS => ⟨M, rfl, hS, fun vs hv j x hx => ?_⟩⟩
  by_cases hj : i = j
  · subst hj
    rw [List.getElem?_set_self (List.getElem?_eq_some_iff.1 hs).1] at hx
    cases hx
    exact h M _ (hv i s hs)
  · rw [List.getElem?_set_ne hj] at hx
    exact hv j x hx
theorem _root_.Go.Sx.OK.moreCv {T : Nat → Type} {X : Ctx T} {k : List (KI T)} {fr fr' : List (SV T)} {H H' : List (Ch T)} (h : Cv X fr H fr' H') (hk : Holds X k fr' H') : OK X (.more ⟨k, fr, H⟩) := OK.more (Holds.cv h hk)
theorem coin_den {C : Cod T1} {M : Mem} {w s : Int} {v : Value} (h : DenV C M (.rp [.int .i64 w, .int .i64 s, .val (.slice none 0 0)] 0) v) : DenV C M (.rp [.int .i64 w, .int .i64 s, .ro (.recs 6 [])] 0) v := by
  have h : Den C M [.rp [.int .i64 w, .int .i64 s, .val (.slice none 0 0)] 0] [v] := h
  show Den C M [.rp [.int .i64 w, .int .i64 s, .ro (.recs 6 [])] 0] [v]
  cases h with
  | rp m off b o us hd ha hm h' =>
    refine .rp _ 0 b o us hd ha ?_ h'
    cases hm with
    | int _ _ hm => cases hm with
      | int _ _ hm => cases hm with
        | val _ _ hm =>
          refine .int _ _ (.int _ _ ?_)
          exact .ro (.recs 6 []) none 0 [] (by simp [Row.length]) (Nat.le_refl _) (fun h => absurd h (by decide)) (fun i e he => by cases he) hm
structure SgI (counts : List Int) (row : List Coin) (i : Int) (k : Nat) : Prop where
  ei : i = (k : Int)
  le : k ≤ counts.length
  row : row = leaves 0 (counts.take k)
  n : counts.length ≤ 400
def SgW (counts : List Int) (w : List Coin × Int) : Prop := ∃ k, SgI counts w.1 w.2 k
theorem leaves_len : ∀ (l : List Int) (k : Int), (leaves k l).length ≤ l.length
  | [], _ => Nat.le_refl _
  | c :: l, k => by
    have := leaves_len l (k + 1)
    rw [leaves]
    split <;> simp only [List.length_cons] <;> omega
theorem small_of {α : Type} {l : List α} (h : l.length ≤ 100000) : Leaf.std.small (Leaf.std.len l) 8 := by
  show (0 : Int) ≤ (l.length : Int) ∧ (l.length : Int) ≤ 140737488355328 ∧ (l.length : Int) * ((8 : Nat) : Int) ≤ 140737488355328
  omega
structure SgAt (A : Leaf) (counts : List Int) (row : List Coin) (i : Int) : Prop where
  q : A.inb i (A.len counts)
  sm : A.small (A.len (A.app row [Coin.node (A.get 0 counts i) i []])) 8
  yes : A.cmp .gtr (A.get 0 counts i) 0 = true → SgW counts (A.app row [Coin.node (A.get 0 counts i) i []], A.ar .add .i64 i 1)
  no : A.cmp .gtr (A.get 0 counts i) 0 = false → SgW counts (row, A.ar .add .i64 i 1)
  mu : (counts.length - A.ar .add .i64 i 1).toNat < (counts.length - i).toNat
theorem sgAt {A : Leaf} {counts : List Int} {row : List Coin} {i : Int} (hA : A = .std) (hI : SgW counts (row, i)) (b : A.cmp .lss i (A.len counts) = true) : SgAt A counts row i := by
  obtain ⟨k, h1, h2, h3, h4⟩ := hI
  simp only at h1 h3
  subst hA h1
  have b : (k : Int) < (counts.length : Int) := of_decide_eq_true b
  have e : Leaf.std.ar .add .i64 (k : Int) 1 = ((k + 1 : Nat) : Int) := by rw [add_i64 (by omega) (by omega)]; omega
  have hk : k < counts.length := by omega
  have eg : Leaf.std.get 0 counts (k : Int) = counts[k] := by show counts.getD _ _ = _; rw [Int.toNat_natCast]; simp [hk]
  have ht : counts.take (k + 1) = counts.take k ++ [counts[k]] := by rw [List.take_append_getElem hk]
  have hl := leaves_len (counts.take k) 0
  rw [List.length_take, ← h3] at hl
  have e0 : (0 : Int) + ((min k counts.length : Nat) : Int) = (k : Int) := by omega
  refine ⟨⟨by omega, by show (k : Int) < (counts.length : Int); omega⟩, ?_, fun hc => ?_, fun hc => ?_, by rw [e]; omega⟩
  · refine small_of (l := row ++ [_]) ?_
    rw [List.length_append, List.length_singleton]
    omega
  · rw [eg] at hc ⊢
    have hc : 0 < counts[k] := of_decide_eq_true hc
    rw [e]
    refine ⟨k + 1, rfl, by omega, ?_, h4⟩
    show row ++ [_] = _
    rw [ht, leaves_app, ← h3, List.length_take, e0, leaves, if_pos hc, leaves]
  · rw [eg] at hc
    have hc : ¬ 0 < counts[k] := of_decide_eq_false hc
    rw [e]
    refine ⟨k + 1, rfl, by omega, ?_, h4⟩
    show row = _
    rw [ht, leaves_app, ← h3, List.length_take, e0, leaves, if_neg hc, leaves, List.append_nil]
structure SgEnd (counts : List Int) (row : List Coin) : Prop where
  e : row = leaves 0 counts
  l : row.length ≤ 1000
theorem sgEnd {A : Leaf} {counts : List Int} {row : List Coin} {i : Int} (hA : A = .std) (hI : SgW counts (row, i)) (b : A.cmp .lss i (A.len counts) = false) : SgEnd counts row := by
  obtain ⟨k, h1, h2, h3, h4⟩ := hI
  simp only at h1 h3
  subst hA h1
  have b : ¬ (k : Int) < (counts.length : Int) := of_decide_eq_false b
  have hk : k = counts.length := by omega
  subst hk
  rw [List.take_length] at h3
  have hl := leaves_len counts 0
  exact ⟨h3, by rw [h3]; omega⟩
theorem sgFin {counts : List Int} {row rev cs : List Coin} (h : SgEnd counts row) (h1 : RevIs row rev) (h2 : SoOut rev cs) : IsCoins counts cs := by
  have := h2.s
  rw [h1.e, h.e] at this
  exact this
theorem RevIs.l {row rev : List Coin} {counts : List Int} (h1 : RevIs row rev) (h : SgEnd counts row) : rev.length ≤ 1000 := by rw [h1.e, List.length_reverse]; exact h.l
theorem single_ok (counts : List Int) (hn : counts.length ≤ 400) : FOK Try.prog C1 22 (fun _ => false) [.ro (.ints .i64 counts)] []
    (fun rs H => ∃ cs, rs = [.own 0] ∧ H = [.row 54 (.recs 6 cs)] ∧ IsCoins counts cs) := by
  refine fok_of (B := ⟨lookT tis, fun _ => false, []⟩) (tab1 _) (zero1 _) cod1 mix1 Try.func22 (by kernel_rfl) rfl rfl rfl fun X F => ?_
  obtain ⟨A, hA⟩ : ∃ A, A = Leaf.std := ⟨_, rfl⟩
  refine F.hold hA 2000 ?_
  cbv
  repeat (first
    | refine OK.drawn (by decide +kernel) ?_
    | refine OK.tree ⟨lookT tis, fun _ => true, []⟩ (by decide +kernel) ?_
    | refine OK.need (by first | assumption | (rw [hA]; first | (show (_ : Int) ≠ _; decide) | (show (0 : Int) ≤ _; decide) | (show (0 : Int) ≤ _ ∧ _ < (256 : Int); decide))) ?_
    | (refine F.hold hA 2000 ?_; cbv))
  refine OK.loopCv (Cv.adopt F.cod 3 54 (ek := .st 6) rfl rfl) ?_
  refine F.loop (V := List Coin × Int) [3, 6, 7] (SgW counts) (fun w => (counts.length - w.2).toNat) (fun w => [(8, .int .i64 w.2)]) (fun w => [(0, .row 54 (.recs 6 w.1))]) (_, _) (by cbv; repeat (first | exact WkH.nil _ | apply WkH.gone | refine WkH.eq rfl ?_)) (by cbv; repeat (first | apply WkL.any | exact WkL.nil _ | refine WkL.eq rfl ?_ | refine WkL.bool rfl ?_)) (by cbv; exact ⟨rfl⟩) ?_ ?_
  · exact ⟨0, rfl, by omega, rfl, hn⟩
  rintro ⟨row, i⟩ hI Bk hBk
  repeat (first
    | refine OK.drawn (by decide +kernel) ?_
    | refine OK.tree ⟨lookT tis, fun _ => true, []⟩ (by decide +kernel) ?_
    | refine OK.need (by first | assumption | (rw [hA]; first | (show (_ : Int) ≠ _; decide) | (show (0 : Int) ≤ _; decide) | (show (0 : Int) ≤ _ ∧ _ < (256 : Int); decide))) ?_
    | (refine F.hold hA 2000 ?_; cbv))
  refine OK.branch (fun b1 => ?_) (fun b1 => ?_)
  · have hat := sgAt hA hI b1
    have q1 := hat.q
    have q2 := hat.sm
    repeat (first
      | refine OK.drawn (by decide +kernel) ?_
      | refine OK.tree ⟨lookT tis, fun _ => true, []⟩ (by decide +kernel) ?_
      | refine OK.need (by first | assumption | (rw [hA]; first | (show (_ : Int) ≠ _; decide) | (show (0 : Int) ≤ _; decide) | (show (0 : Int) ≤ _ ∧ _ < (256 : Int); decide))) ?_
      | (refine F.hold hA 2000 ?_; cbv))
    refine OK.branch (fun b2 => ?_) (fun b2 => ?_)
    · refine F.hold hA 6 ?_
      cbv
      refine OK.moreCv (Cv.trans (Cv.freezeCells F.cod 1 rfl) (Cv.slot 19 rfl fun M v h => coin_den h)) ?_
      repeat (first
        | refine OK.drawn (by decide +kernel) ?_
        | refine OK.tree ⟨lookT tis, fun _ => true, []⟩ (by decide +kernel) ?_
        | refine OK.need (by first | assumption | (rw [hA]; first | (show (_ : Int) ≠ _; decide) | (show (0 : Int) ≤ _; decide) | (show (0 : Int) ≤ _ ∧ _ < (256 : Int); decide))) ?_
        | (refine F.hold hA 2000 ?_; cbv))
      refine OK.back (hBk _ _ (_, _) (by cbv; repeat (first | exact WkH.nil _ | apply WkH.gone | refine WkH.eq rfl ?_)) (by cbv; repeat (first | apply WkL.any | exact WkL.nil _ | refine WkL.eq rfl ?_ | refine WkL.bool rfl ?_)) (by cbv; exact ⟨rfl⟩) ?_ ?_)
      · exact hat.yes b2
      · exact hat.mu
    · repeat (first
        | refine OK.drawn (by decide +kernel) ?_
        | refine OK.tree ⟨lookT tis, fun _ => true, []⟩ (by decide +kernel) ?_
        | refine OK.need (by first | assumption | (rw [hA]; first | (show (_ : Int) ≠ _; decide) | (show (0 : Int) ≤ _; decide) | (show (0 : Int) ≤ _ ∧ _ < (256 : Int); decide))) ?_
        | (refine F.hold hA 2000 ?_; cbv))
      refine OK.back (hBk _ _ (_, _) (by cbv; repeat (first | exact WkH.nil _ | apply WkH.gone | refine WkH.eq rfl ?_)) (by cbv; repeat (first | apply WkL.any | exact WkL.nil _ | refine WkL.eq rfl ?_ | refine WkL.bool rfl ?_)) (by cbv; exact ⟨rfl⟩) ?_ ?_)
      · exact hat.no b2
      · exact hat.mu
  · have hen := sgEnd hA hI b1
    repeat (first
      | refine OK.drawn (by decide +kernel) ?_
      | refine OK.tree ⟨lookT tis, fun _ => true, []⟩ (by decide +kernel) ?_
      | refine OK.need (by first | assumption | (rw [hA]; first | (show (_ : Int) ≠ _; decide) | (show (0 : Int) ≤ _; decide) | (show (0 : Int) ≤ _ ∧ _ < (256 : Int); decide))) ?_
      | (refine F.hold hA 2000 ?_; cbv))
    refine F.call [0] (reverse_ok _ hen.l) rfl rfl rfl fun rs H' hq => ?_
    obtain ⟨rev, rfl, rfl, hrev⟩ := hq
    refine ⟨rfl, ?_⟩
    repeat (first
      | refine OK.drawn (by decide +kernel) ?_
      | refine OK.tree ⟨lookT tis, fun _ => true, []⟩ (by decide +kernel) ?_
      | refine OK.need (by first | assumption | (rw [hA]; first | (show (_ : Int) ≠ _; decide) | (show (0 : Int) ≤ _; decide) | (show (0 : Int) ≤ _ ∧ _ < (256 : Int); decide))) ?_
      | (refine F.hold hA 2000 ?_; cbv))
    refine F.call [0] (sort_ok _ (hrev.l hen)) rfl rfl rfl fun rs H' hq => ?_
    obtain ⟨cs, rfl, rfl, hcs⟩ := hq
    refine ⟨rfl, ?_⟩
    repeat (first
      | refine OK.drawn (by decide +kernel) ?_
      | refine OK.tree ⟨lookT tis, fun _ => true, []⟩ (by decide +kernel) ?_
      | refine OK.need (by first | assumption | (rw [hA]; first | (show (_ : Int) ≠ _; decide) | (show (0 : Int) ≤ _; decide) | (show (0 : Int) ≤ _ ∧ _ < (256 : Int); decide))) ?_
      | (refine F.hold hA 2000 ?_; cbv))
    exact F.ret0 ⟨_, rfl, rfl, sgFin hen hrev hcs⟩
end Go.L1

-- S11
namespace Go.L1
open Go Go.Sx Go.Proofs Go.L5
set_option maxRecDepth 20000
set_option linter.unusedVariables false
set_option linter.unusedSimpArgs false
structure GrP (n : Int) : Prop where
  lo : 0 < n
  hi : n ≤ 100000
structure GrA (A : Leaf) (n : Int) : Prop where
  neg : A.cmp .lss n 0 = true → False
  e : A.ar .sub .i64 n (A.ar .sub .i64 0 0) = n
  pos : A.cmp .gtr (A.ar .sub .i64 n (A.ar .sub .i64 0 0)) 0 = false → False
  q1 : A.slb 0 0 0
  q2 : A.inb 0 (A.ar .sub .i64 n (A.ar .sub .i64 0 0))
  q3 : A.small (A.ar .sub .i64 n (A.ar .sub .i64 0 0)) 8
  q4 : A.slb 0 0 (A.len (A.rep (A.ar .sub .i64 n (A.ar .sub .i64 0 0)) ()))
  r : A.sub (A.rep (A.ar .sub .i64 n (A.ar .sub .i64 0 0)) ()) 0 0 = []
theorem grA {A : Leaf} {n : Int} (hA : A = .std) (hp : GrP n) : GrA A n := by
  obtain ⟨h0, h1⟩ := hp
  subst hA
  have e0 : Leaf.std.ar .sub .i64 0 0 = 0 := by decide
  have e : Leaf.std.ar .sub .i64 n (Leaf.std.ar .sub .i64 0 0) = n := by rw [e0, sub_i64 (by omega) (by omega)]; omega
  refine ⟨fun h => ?_, e, fun h => ?_, ?_, ?_, ?_, ?_, ?_⟩
  · have h : n < 0 := of_decide_eq_true h
    omega
  · rw [e] at h
    have h : ¬ (0 : Int) < n := of_decide_eq_false h
    omega
  · show (0 : Int) ≤ 0 ∧ (0 : Int) ≤ 0 ∧ (0 : Int) ≤ 0; omega
  · rw [e]; show (0 : Int) ≤ 0 ∧ (0 : Int) < n; omega
  · rw [e]; show (0 : Int) ≤ n ∧ n ≤ (140737488355328 : Int) ∧ n * ((8 : Nat) : Int) ≤ (140737488355328 : Int); omega
  · rw [e]; show (0 : Int) ≤ 0 ∧ (0 : Int) ≤ 0 ∧ (0 : Int) ≤ (((List.replicate n.toNat ()).length : Nat) : Int); omega
  · rfl
theorem _root_.Go.Sx.Cv.emptyRow {T : Nat → Type} {X : Ctx T} {l : List (SV T)} {H : List (Ch T)} {c : Nat} {t : TypeId} {r r' : Row T} (hc : nth H c = some (.row t r)) (h0 : r.length = 0) (h1 : r'.length = 0) (hs : r'.elemSz X.C = r.elemSz X.C) : Cv X l H l (setN H c (.row t r')) := by
  refine Cv.chunk hc rfl rfl fun M hm => ?_
  obtain ⟨a1, a2⟩ := hm
  refine ⟨by rw [h1, ← h0]; exact a1, ?_⟩
  rcases a2 with a2 | ⟨g, us, hg, hh, b1, b2, b3, b4⟩
  · exact .inl a2
  · refine .inr ⟨g, us, hg, hh, b1, b2, by rw [hs]; exact b3, fun i e he => ?_⟩
    have := Row.cells_lt he
    omega
theorem grow_ok (n : Int) (hp : GrP n) : FOK Try.prog C1 37 (fun _ => false) [.val (.slice none 0 0), .int .i64 n] [] (fun rs H => rs = [.own 0] ∧ H = [.row 54 (.recs 6 [])]) := by
  refine fok_of (B := ⟨lookT tis, fun _ => false, []⟩) (tab1 _) (zero1 _) cod1 mix1 Try.func37 (by kernel_rfl) rfl rfl rfl fun X F => ?_
  obtain ⟨A, hA⟩ : ∃ A, A = Leaf.std := ⟨_, rfl⟩
  refine F.hold hA 2000 ?_
  cbv
  have hg := grA hA hp
  repeat (first
    | refine OK.drawn (by decide +kernel) ?_
    | refine OK.tree ⟨lookT tis, fun _ => true, []⟩ (by decide +kernel) ?_
    | refine OK.need (by first | assumption | (rw [hA]; first | (show (_ : Int) ≠ _; decide) | (show (0 : Int) ≤ _; decide) | (show (0 : Int) ≤ _ ∧ _ < (256 : Int); decide))) ?_
    | (refine F.hold hA 2000 ?_; cbv))
  refine OK.branch (fun b1 => (hg.neg b1).elim) (fun b1 => ?_)
  repeat (first
    | refine OK.drawn (by decide +kernel) ?_
    | refine OK.tree ⟨lookT tis, fun _ => true, []⟩ (by decide +kernel) ?_
    | refine OK.need (by first | assumption | (rw [hA]; first | (show (_ : Int) ≠ _; decide) | (show (0 : Int) ≤ _; decide) | (show (0 : Int) ≤ _ ∧ _ < (256 : Int); decide))) ?_
    | (refine F.hold hA 2000 ?_; cbv))
  refine OK.branch (fun b2 => ?_) (fun b2 => (hg.pos b2).elim)
  have q1 := hg.q1
  have q2 := hg.q2
  have q3 := hg.q3
  have q4 := hg.q4
  have q5 := hg.r
  repeat (first
    | refine OK.drawn (by decide +kernel) ?_
    | refine OK.tree ⟨lookT tis, fun _ => true, []⟩ (by decide +kernel) ?_
    | refine OK.need (by first | assumption | (rw [hA]; first | (show (_ : Int) ≠ _; decide) | (show (0 : Int) ≤ _; decide) | (show (0 : Int) ≤ _ ∧ _ < (256 : Int); decide))) ?_
    | (refine F.hold hA 2000 ?_; cbv))
  refine F.ret (rs' := [.own 0]) (H' := [.row 54 (.recs 6 [])]) (Cv.trans (Cv.cut (c := 0) (j := 0) (h := 0) (t := 54) (r := .recs 7 (A.rep (A.ar .sub .i64 n (A.ar .sub .i64 0 0)) ())) F.cod hA (F.unpin (Nat.le_refl 0)) rfl rfl q4) ?_) rfl ⟨rfl, rfl⟩
  refine Cv.emptyRow (c := 0) (t := 54) (r := .recs 7 (A.sub (A.rep (A.ar .sub .i64 n (A.ar .sub .i64 0 0)) ()) 0 0)) (r' := .recs 6 []) rfl ?_ rfl ?_
  · exact congrArg List.length q5
  · rw [F.C]; rfl
def sumN (ls : List (List Coin)) : Nat := (ls.map List.length).sum
structure CcP (ls : List (List Coin)) : Prop where
  n : ls.length ≤ 100
  lo : 0 < sumN ls
  hi : sumN ls ≤ 100000
def Cc1 (ls : List (List Coin)) (w : Int × Int) : Prop := ∃ j : Nat, w.2 = j ∧ j ≤ ls.length ∧ w.1 = (sumN (ls.take j) : Nat)
def Cc2 (ls : List (List Coin)) (w : List Coin × Int) : Prop := ∃ j : Nat, w.2 = j ∧ j ≤ ls.length ∧ w.1 = (ls.take j).flatten
theorem sumN_take {ls : List (List Coin)} {j : Nat} (h : j < ls.length) : sumN (ls.take (j + 1)) = sumN (ls.take j) + ls[j].length := by
  unfold sumN
  rw [List.take_succ_eq_append_getElem h, List.map_append, List.sum_append]
  simp
theorem sumN_le (ls : List (List Coin)) (j : Nat) : sumN (ls.take j) ≤ sumN ls := by
  induction ls generalizing j with
  | nil => simp
  | cons a l ih =>
    cases j with
    | zero => simp [sumN]
    | succ j =>
      have := ih j
      simp only [List.take_succ_cons, sumN, List.map_cons, List.sum_cons] at this ⊢
      omega
structure Cc1At (A : Leaf) (ls : List (List Coin)) (sz i : Int) : Prop where
  q : A.inb i (A.len ls)
  d : A.cmp .lss (A.ar .add .i64 sz (A.len (A.get [] ls i))) 0 = true → False
  nx : Cc1 ls (A.ar .add .i64 sz (A.len (A.get [] ls i)), A.ar .add .i64 i 1)
  mu : (ls.length - A.ar .add .i64 i 1).toNat < (ls.length - i).toNat
theorem cc1At {A : Leaf} {ls : List (List Coin)} {sz i : Int} (hA : A = .std) (hp : CcP ls) (hI : Cc1 ls (sz, i)) (b1 : A.cmp .lss i (A.len ls) = true) : Cc1At A ls sz i := by
  obtain ⟨j, e, h2, h3⟩ := hI
  have hn := hp.n
  have hh := hp.hi
  simp only at e h3
  subst hA e
  have b1 : (j : Int) < (ls.length : Int) := of_decide_eq_true b1
  have hj : j < ls.length := by omega
  have ea : Leaf.std.ar .add .i64 (j : Int) 1 = ((j + 1 : Nat) : Int) := by rw [add_i64 (by omega) (by omega)]; omega
  have eg : Leaf.std.get [] ls (j : Int) = ls[j] := by show ls.getD _ [] = _; rw [Int.toNat_natCast]; simp [hj]
  have el : Leaf.std.len ls[j] = (ls[j].length : Int) := rfl
  have ht := sumN_take hj
  have hle := sumN_le ls (j + 1)
  have es : Leaf.std.ar .add .i64 sz (ls[j].length : Int) = ((sumN (ls.take (j + 1)) : Nat) : Int) := by rw [h3, add_i64 (by omega) (by omega)]; omega
  refine ⟨?_, ?_, ?_, by rw [ea]; omega⟩
  · show (0 : Int) ≤ (j : Int) ∧ (j : Int) < (ls.length : Int); omega
  · rw [eg, el, es]
    intro h
    have h : ((sumN (ls.take (j + 1)) : Nat) : Int) < 0 := of_decide_eq_true h
    omega
  · rw [eg, el, es, ea]
    exact ⟨j + 1, rfl, by omega, rfl⟩
theorem Cc1.fin {A : Leaf} {ls : List (List Coin)} {sz i : Int} (hA : A = .std) (hp : CcP ls) (hI : Cc1 ls (sz, i)) (b1 : A.cmp .lss i (A.len ls) = false) : GrP sz := by
  obtain ⟨j, e, h2, h3⟩ := hI
  have h1 := hp.lo
  have hh := hp.hi
  simp only at e h3
  subst hA e
  have b1 : ¬ (j : Int) < (ls.length : Int) := of_decide_eq_false b1
  rw [List.take_of_length_le (by omega)] at h3
  exact ⟨by omega, by omega⟩
structure Cc2At (A : Leaf) (ls : List (List Coin)) (row : List Coin) (i : Int) : Prop where
  q : A.inb i (A.len ls)
  q2 : A.small (A.len (A.app row (A.get [] ls i))) 8
  nx : Cc2 ls (A.app row (A.get [] ls i), A.ar .add .i64 i 1)
  mu : (ls.length - A.ar .add .i64 i 1).toNat < (ls.length - i).toNat
theorem flat_len (ls : List (List Coin)) : ls.flatten.length = sumN ls := by
  unfold sumN
  rw [List.length_flatten]
theorem cc2At {A : Leaf} {ls : List (List Coin)} {row : List Coin} {i : Int} (hA : A = .std) (hp : CcP ls) (hI : Cc2 ls (row, i)) (b1 : A.cmp .lss i (A.len ls) = true) : Cc2At A ls row i := by
  obtain ⟨j, e, h2, h3⟩ := hI
  have hn := hp.n
  have hh := hp.hi
  simp only at e h3
  subst hA e
  have b1 : (j : Int) < (ls.length : Int) := of_decide_eq_true b1
  have hj : j < ls.length := by omega
  have ea : Leaf.std.ar .add .i64 (j : Int) 1 = ((j + 1 : Nat) : Int) := by rw [add_i64 (by omega) (by omega)]; omega
  have eg : Leaf.std.get [] ls (j : Int) = ls[j] := by show ls.getD _ [] = _; rw [Int.toNat_natCast]; simp [hj]
  have hle := sumN_le ls (j + 1)
  have ef : row ++ ls[j] = (ls.take (j + 1)).flatten := by
    rw [h3, List.take_succ_eq_append_getElem hj, List.flatten_append]; simp
  refine ⟨?_, ?_, ?_, by rw [ea]; omega⟩
  · show (0 : Int) ≤ (j : Int) ∧ (j : Int) < (ls.length : Int); omega
  · rw [eg]
    have e2 : Leaf.std.len (Leaf.std.app row ls[j]) = ((sumN (ls.take (j + 1)) : Nat) : Int) := by
      show (((row ++ ls[j]).length : Nat) : Int) = _
      rw [ef, flat_len]
    rw [e2]
    show (0 : Int) ≤ _ ∧ _ ≤ (140737488355328 : Int) ∧ _ * ((8 : Nat) : Int) ≤ (140737488355328 : Int)
    omega
  · rw [eg, ea]
    exact ⟨j + 1, rfl, by omega, ef⟩
theorem Cc2.fin {A : Leaf} {ls : List (List Coin)} {row : List Coin} {i : Int} (hA : A = .std) (hI : Cc2 ls (row, i)) (b1 : A.cmp .lss i (A.len ls) = false) : row = ls.flatten := by
  obtain ⟨j, e, h2, h3⟩ := hI
  simp only at e h3
  subst hA e
  have b1 : ¬ (j : Int) < (ls.length : Int) := of_decide_eq_false b1
  rw [List.take_of_length_le (by omega)] at h3
  exact h3
structure FlatIs (ls : List (List Coin)) (ys : List Coin) : Prop where
  e : ys = ls.flatten
theorem concat_ok (ls : List (List Coin)) (hp : CcP ls) : FOK Try.prog C1 23 (fun _ => false) [.ro (.recs 8 ls)] [] (fun rs H => ∃ ys, rs = [.own 0] ∧ H = [.row 54 (.recs 6 ys)] ∧ FlatIs ls ys) := by
  refine fok_of (B := ⟨lookT tis, fun _ => false, []⟩) (tab1 _) (zero1 _) cod1 mix1 Try.func23 (by kernel_rfl) rfl rfl rfl fun X F => ?_
  obtain ⟨A, hA⟩ : ∃ A, A = Leaf.std := ⟨_, rfl⟩
  refine F.hold hA 2000 ?_
  cbv
  repeat (first
    | refine OK.drawn (by decide +kernel) ?_
    | refine OK.tree ⟨lookT tis, fun _ => true, []⟩ (by decide +kernel) ?_
    | refine OK.need (by first | assumption | (rw [hA]; first | (show (_ : Int) ≠ _; decide) | (show (0 : Int) ≤ _; decide) | (show (0 : Int) ≤ _ ∧ _ < (256 : Int); decide))) ?_
    | (refine F.hold hA 2000 ?_; cbv))
  refine F.loop (V := Int × Int) [0, 9, 10] (Cc1 ls) (fun w => (ls.length - w.2).toNat) (fun w => [(3, .int .i64 w.1), (11, .int .i64 w.2)]) (fun w => []) (_, _) (by cbv; repeat (first | exact WkH.nil _ | apply WkH.gone | refine WkH.eq rfl ?_)) (by cbv; repeat (first | apply WkL.any | exact WkL.nil _ | refine WkL.eq rfl ?_ | refine WkL.bool rfl ?_)) (by cbv; exact ⟨rfl⟩) ?_ ?_
  · exact ⟨0, rfl, Nat.zero_le _, rfl⟩
  rintro ⟨sz, i⟩ hI Bk hBk
  repeat (first
    | refine OK.drawn (by decide +kernel) ?_
    | refine OK.tree ⟨lookT tis, fun _ => true, []⟩ (by decide +kernel) ?_
    | refine OK.need (by first | assumption | (rw [hA]; first | (show (_ : Int) ≠ _; decide) | (show (0 : Int) ≤ _; decide) | (show (0 : Int) ≤ _ ∧ _ < (256 : Int); decide))) ?_
    | (refine F.hold hA 2000 ?_; cbv))
  refine OK.branch (fun b1 => ?_) (fun b1 => ?_)
  · have hat := cc1At hA hp hI b1
    have q := hat.q
    repeat (first
      | refine OK.drawn (by decide +kernel) ?_
      | refine OK.tree ⟨lookT tis, fun _ => true, []⟩ (by decide +kernel) ?_
      | refine OK.need (by first | assumption | (rw [hA]; first | (show (_ : Int) ≠ _; decide) | (show (0 : Int) ≤ _; decide) | (show (0 : Int) ≤ _ ∧ _ < (256 : Int); decide))) ?_
      | (refine F.hold hA 2000 ?_; cbv))
    refine OK.branch (fun b2 => (hat.d b2).elim) (fun b2 => ?_)
    repeat (first
      | refine OK.drawn (by decide +kernel) ?_
      | refine OK.tree ⟨lookT tis, fun _ => true, []⟩ (by decide +kernel) ?_
      | refine OK.need (by first | assumption | (rw [hA]; first | (show (_ : Int) ≠ _; decide) | (show (0 : Int) ≤ _; decide) | (show (0 : Int) ≤ _ ∧ _ < (256 : Int); decide))) ?_
      | (refine F.hold hA 2000 ?_; cbv))
    refine OK.back (hBk _ _ (_, _) (by cbv; repeat (first | exact WkH.nil _ | apply WkH.gone | refine WkH.eq rfl ?_)) (by cbv; repeat (first | apply WkL.any | exact WkL.nil _ | refine WkL.eq rfl ?_ | refine WkL.bool rfl ?_)) (by cbv; exact ⟨rfl⟩) ?_ ?_)
    · exact hat.nx
    · exact hat.mu
  · have hg := hI.fin hA hp b1
    repeat (first
      | refine OK.drawn (by decide +kernel) ?_
      | refine OK.tree ⟨lookT tis, fun _ => true, []⟩ (by decide +kernel) ?_
      | refine OK.need (by first | assumption | (rw [hA]; first | (show (_ : Int) ≠ _; decide) | (show (0 : Int) ≤ _; decide) | (show (0 : Int) ≤ _ ∧ _ < (256 : Int); decide))) ?_
      | (refine F.hold hA 2000 ?_; cbv))
    refine F.call [] (grow_ok sz hg) rfl rfl rfl fun rs H' hq => ?_
    obtain ⟨rfl, rfl⟩ := hq
    refine ⟨rfl, ?_⟩
    repeat (first
      | refine OK.drawn (by decide +kernel) ?_
      | refine OK.tree ⟨lookT tis, fun _ => true, []⟩ (by decide +kernel) ?_
      | refine OK.need (by first | assumption | (rw [hA]; first | (show (_ : Int) ≠ _; decide) | (show (0 : Int) ≤ _; decide) | (show (0 : Int) ≤ _ ∧ _ < (256 : Int); decide))) ?_
      | (refine F.hold hA 2000 ?_; cbv))
    refine F.loop (V := List Coin × Int) [6, 25, 26] (Cc2 ls) (fun w => (ls.length - w.2).toNat) (fun w => [(27, .int .i64 w.2)]) (fun w => [(0, .row 54 (.recs 6 w.1))]) (_, _) (by cbv; repeat (first | exact WkH.nil _ | apply WkH.gone | refine WkH.eq rfl ?_)) (by cbv; repeat (first | apply WkL.any | exact WkL.nil _ | refine WkL.eq rfl ?_ | refine WkL.bool rfl ?_)) (by cbv; exact ⟨rfl⟩) ?_ ?_
    · exact ⟨0, rfl, Nat.zero_le _, rfl⟩
    rintro ⟨row, i2⟩ hI2 Bk2 hBk2
    repeat (first
      | refine OK.drawn (by decide +kernel) ?_
      | refine OK.tree ⟨lookT tis, fun _ => true, []⟩ (by decide +kernel) ?_
      | refine OK.need (by first | assumption | (rw [hA]; first | (show (_ : Int) ≠ _; decide) | (show (0 : Int) ≤ _; decide) | (show (0 : Int) ≤ _ ∧ _ < (256 : Int); decide))) ?_
      | (refine F.hold hA 2000 ?_; cbv))
    refine OK.branch (fun b3 => ?_) (fun b3 => ?_)
    · have hat := cc2At hA hp hI2 b3
      have q := hat.q
      have q2 := hat.q2
      have hBk := hBk2
      repeat (first
        | refine OK.drawn (by decide +kernel) ?_
        | refine OK.tree ⟨lookT tis, fun _ => true, []⟩ (by decide +kernel) ?_
        | refine OK.need (by first | assumption | (rw [hA]; first | (show (_ : Int) ≠ _; decide) | (show (0 : Int) ≤ _; decide) | (show (0 : Int) ≤ _ ∧ _ < (256 : Int); decide))) ?_
        | (refine F.hold hA 2000 ?_; cbv))
      refine OK.back (hBk _ _ (_, _) (by cbv; repeat (first | exact WkH.nil _ | apply WkH.gone | refine WkH.eq rfl ?_)) (by cbv; repeat (first | apply WkL.any | exact WkL.nil _ | refine WkL.eq rfl ?_ | refine WkL.bool rfl ?_)) (by cbv; exact ⟨rfl⟩) ?_ ?_)
      · exact hat.nx
      · exact hat.mu
    · repeat (first
        | refine OK.drawn (by decide +kernel) ?_
        | refine OK.tree ⟨lookT tis, fun _ => true, []⟩ (by decide +kernel) ?_
        | refine OK.need (by first | assumption | (rw [hA]; first | (show (_ : Int) ≠ _; decide) | (show (0 : Int) ≤ _; decide) | (show (0 : Int) ≤ _ ∧ _ < (256 : Int); decide))) ?_
        | (refine F.hold hA 2000 ?_; cbv))
      exact F.ret0 ⟨_, rfl, rfl, ⟨hI2.fin hA b3⟩⟩
end Go.L1

-- S12
namespace Go.Proofs
open Go.RowKit Go.Shelf
attribute [local go_sem] Oper.semAt_some
namespace L5c
def upto (k : Nat) : List Nat := (List.range k).map (2 * ·)
theorem upto_succ (k : Nat) : upto (k + 1) = upto k ++ [2 * k] := by simp [upto, List.range_succ]
theorem upto_length (k : Nat) : (upto k).length = k := by simp [upto]
/-- All blocks up to here but one lie as they lay. -/
def Keeps (n₁ : Nat) (B : Nat → Prop) (W W' : World) : Prop := ∀ b, b < n₁ → ¬ B b → W'.heap[b]? = W.heap[b]?
theorem Keeps.refl (n₁ : Nat) (B : Nat → Prop) (W : World) : Keeps n₁ B W W := fun _ _ _ => rfl
theorem Keeps.trans {n₁ : Nat} {B : Nat → Prop} {W W' W'' : World} (h : Keeps n₁ B W W') (k : Keeps n₁ B W' W'') : Keeps n₁ B W W'' := fun b h1 h2 => (k b h1 h2).trans (h b h1 h2)
theorem Keeps.cell {n₁ : Nat} {B : Nat → Prop} {W W' : World} (h : Keeps n₁ B W W') {b o : Nat} (h1 : b < n₁) (h2 : ¬ B b) : W'.cell? ⟨b, o, none⟩ = W.cell? ⟨b, o, none⟩ := by simp [World.cell?, h b h1 h2]
/-- A chunk as it is handed over. -/
def enc (b off len : Nat) (x : Nat) : Array Value := #[.slice (some ⟨b, off + x, none⟩) (min 2 (len - x)) (min 2 (len - x))]
set_option maxRecDepth 100000 in
set_option maxHeartbeats 4000000 in
theorem chunk1_in (F : Fence) (n : Nat) (h7 : F.fn 45) (hro : F.round = none) (hn : 1 ≤ n) (l Bs Bn n₁ : Nat) (B : Nat → Prop) (b off len cap : Nat) (hreach : len ≤ 100000) (hcap : len ≤ cap) (hs1 : Bs < n₁) (hs2 : ¬ B Bs) (hn1 : Bn < n₁) (hn2 : ¬ B Bn) (J Jx : List Nat → World → Prop) (W : World)
    (hJ : AbidesFrom W.heap.size J)
    (hY : ∀ pre x W, J pre W → pre.length < len → YieldAt F (n - 1) Try.prog l (enc b off len x) W fun e W' =>
      (e = .returned (.bool true) ∧ J (pre ++ [x]) W' ∧ Keeps n₁ B W W') ∨ (e = .returned (.bool false) ∧ Jx (pre ++ [x]) W'))
    (hBs : W.cell? ⟨Bs, 0, none⟩ = some (.slice (some ⟨b, off, none⟩) len cap)) (hBn : W.cell? ⟨Bn, 0, none⟩ = some (.int .i64 2)) (h0 : J [] W) :
    CallsIn F n Try.prog 45 #[.func (.yield l) #[] #[], .pointer (some ⟨Bs, 0, none⟩), .pointer (some ⟨Bn, 0, none⟩)] W fun e W' => (∃ v, e = .returned v) ∧
      ((∃ ys, ys = upto ((len + 1) / 2) ∧ J ys W') ∨ (∃ pre, Jx pre W')) := by
  refine callsIn_of_wp Try.func45 rfl h7 ?_ hro
  simp only [Try.ntmps45, List.size_toArray, List.length_cons, List.length_nil, Nat.reduceAdd, Nat.reduceSub, Array.replicate_succ, Array.replicate_zero, List.push_toArray, List.append_toArray, List.nil_append, List.cons_append]
  gi_wp2
  gi_loopw [4] (fun i wr => ∃ k : Nat, 2 * k ≤ len + 1 ∧ i = .int .i64 ((2 * k : Nat) : Int) ∧ J (upto k) wr ∧ Keeps n₁ B W wr)
    (fun i _ => len + 1 - (intOf i).toNat)
  case atStart => exact ⟨0, Nat.zero_le _, rfl, h0, Keeps.refl _ _ _⟩
  case round =>
    obtain ⟨k, hk, rfl, hJs, hnx⟩ := hrel
    have hBs' := (hnx.cell (o := 0) hs1 hs2).trans hBs
    have hBn' := (hnx.cell (o := 0) hn1 hn2).trans hBn
    by_cases hlt : 2 * k < len
    · have hJd : J (upto k) wr.drew := hJ _ _ _ none hJs ⟨rfl, rfl, rfl, Nat.le_refl _, fun _ _ _ => rfl⟩ (fun r e => by cases e)
      obtain ⟨fn, tmps, assign, body, hy, hR⟩ := hY _ (2 * k) wr.drew hJd (by rw [upto_length]; omega)
      have hnd : Keeps n₁ B W wr.drew := hnx
      by_cases h2 : 2 * k + 2 ≤ len
      · have henc : enc b off len (2 * k) = #[.slice (some ⟨b, off + 2 * k, none⟩) 2 2] := by unfold enc; rw [show min 2 (len - 2 * k) = 2 by omega]
        rw [henc] at hy
        gi_wp2
        gi_region
        all_goals (have e1 : ¬ ((len - 2 * k : Nat) : Int) < 2 := by omega)
        all_goals (simp only [if_neg e1])
        all_goals gi_wp2
        all_goals
          refine hR.mono ?_
          rintro e W3 (⟨rfl, hJ3, hk3⟩ | ⟨rfl, hJx3⟩)
          · have hnx3 := hnd.trans hk3
            have hBn3 := (hnx3.cell (o := 0) hn1 hn2).trans hBn
            gi_wp2
            go_roundw
            case rel => exact ⟨k + 1, by omega, by simp; omega, by rw [upto_succ]; exact hJ3, hnx3⟩
            case measure => simp [intOf]; omega
          · gi_wp2
            refine bodyPost_ret (results_none rfl _ _ _) rfl ?_
            exact ⟨⟨_, rfl⟩, .inr ⟨_, hJx3⟩⟩
      · have henc : enc b off len (2 * k) = #[.slice (some ⟨b, off + 2 * k, none⟩) 1 1] := by unfold enc; rw [show min 2 (len - 2 * k) = 1 by omega]
        rw [henc] at hy
        gi_wp2
        gi_region
        all_goals (have e1 : ((len - 2 * k : Nat) : Int) < 2 := by omega)
        all_goals (simp only [if_pos e1, show ((len - 2 * k : Nat) : Int) = 1 by omega])
        all_goals gi_wp2
        all_goals
          refine hR.mono ?_
          rintro e W3 (⟨rfl, hJ3, hk3⟩ | ⟨rfl, hJx3⟩)
          · have hnx3 := hnd.trans hk3
            have hBn3 := (hnx3.cell (o := 0) hn1 hn2).trans hBn
            gi_wp2
            go_roundw
            case rel => exact ⟨k + 1, by omega, by simp; omega, by rw [upto_succ]; exact hJ3, hnx3⟩
            case measure => simp [intOf]; omega
          · gi_wp2
            refine bodyPost_ret (results_none rfl _ _ _) rfl ?_
            exact ⟨⟨_, rfl⟩, .inr ⟨_, hJx3⟩⟩
    · have hk2 : k = (len + 1) / 2 := by omega
      gi_wp2
      go_end0
      exact ⟨⟨_, rfl⟩, .inl ⟨_, by rw [hk2], hJs⟩⟩
set_option maxRecDepth 100000 in
set_option maxHeartbeats 1000000 in
theorem chunk0_in (F : Fence) (n : Nat) (h7 : F.fn 45) (hro : F.round = none) (l Bs Bn : Nat) (ad : Option Addr) (cap : Nat) (J : List Nat → World → Prop) (W : World)
    (hBs : W.cell? ⟨Bs, 0, none⟩ = some (.slice ad 0 cap)) (h0 : J [] W) :
    CallsIn F n Try.prog 45 #[.func (.yield l) #[] #[], .pointer (some ⟨Bs, 0, none⟩), .pointer (some ⟨Bn, 0, none⟩)] W fun e W' => (∃ v, e = .returned v) ∧ J [] W' := by
  refine callsIn_of_wp Try.func45 rfl h7 ?_ hro
  simp only [Try.ntmps45, List.size_toArray, List.length_cons, List.length_nil, Nat.reduceAdd, Nat.reduceSub, Array.replicate_succ, Array.replicate_zero, List.push_toArray, List.append_toArray, List.nil_append, List.cons_append]
  gi_wp2
  gi_loopw [4] (fun i wr => i = .int .i64 0 ∧ J [] wr ∧ wr = W) (fun _ _ => 0)
  case atStart => exact ⟨rfl, h0, rfl⟩
  case round =>
    obtain ⟨rfl, hJs, rfl⟩ := hrel
    gi_wp2
    go_end0
    exact ⟨⟨_, rfl⟩, hJs⟩
/-- What slices.Chunk(.., 2) hands back. -/
theorem chunk_stops (F : Fence) (n : Nat) (h7 : F.fn 45) (hro : F.round = none) (hn : 1 ≤ n) (Bs Bn n₁ : Nat) (B : Nat → Prop) (b off len cap : Nat) (ad : Option Addr) (had : 0 < len → ad = some ⟨b, off, none⟩) (hreach : len ≤ 100000) (hcap : len ≤ cap) (hs1 : Bs < n₁) (hs2 : ¬ B Bs) (hn1 : Bn < n₁) (hn2 : ¬ B Bn) (w : World)
    (hs3 : Bs < w.heap.size) (hn3 : Bn < w.heap.size) (hBs : w.cell? ⟨Bs, 0, none⟩ = some (.slice ad len cap)) (hBn : w.cell? ⟨Bn, 0, none⟩ = some (.int .i64 2)) :
    SeqStopsK F n Try.prog 45 #[.pointer (some ⟨Bs, 0, none⟩), .pointer (some ⟨Bn, 0, none⟩)] (enc b off len) (Keeps n₁ B) (fun ys => ys = upto ((len + 1) / 2)) (fun _ => True) len w := fun l J Jx W hW hJ _ hY h0 => by
  have h1 := (hW.cell (p := ⟨Bs, 0, none⟩) hs3).trans hBs
  have h2 := (hW.cell (p := ⟨Bn, 0, none⟩) hn3).trans hBn
  rcases Nat.eq_zero_or_pos len with h | h
  · subst h
    exact (chunk0_in F n h7 hro l Bs Bn ad cap J W h1 h0).mono fun e W' h => ⟨h.1, .inl ⟨[], rfl, h.2⟩⟩
  · rw [had h] at h1
    refine (chunk1_in F n h7 hro hn l Bs Bn n₁ B b off len cap hreach hcap hs1 hs2 hn1 hn2 J Jx W hJ hY h1 h2 h0).mono ?_
    rintro e W' ⟨he, h | ⟨pre, h⟩⟩
    · exact ⟨he, .inl h⟩
    · exact ⟨he, .inr ⟨pre, trivial, h⟩⟩
end L5c
end Go.Proofs

-- S13
namespace Go.L1
open Go Go.Sx Go.Proofs Go.L5
set_option maxRecDepth 20000
set_option linter.unusedVariables false
set_option linter.unusedSimpArgs false
theorem chunk_ok (xs : List Coin) : FOK Try.prog C1 38 (fun _ => false) [.ro (.recs 6 xs), .int .i64 2] []
    (fun rs H => rs = [.fn 45 [.ptr 0 0, .ptr 1 0]] ∧ H = [.cells 50 [.ro (.recs 6 xs)], .cells 3 [.int .i64 2]]) := by
  refine fok_of (B := ⟨lookT tis, fun _ => false, []⟩) (tab1 _) (zero1 _) cod1 mix1 Try.func38 (by kernel_rfl) rfl rfl rfl fun X F => ?_
  obtain ⟨A, hA⟩ : ∃ A, A = Leaf.std := ⟨_, rfl⟩
  refine F.hold hA 2000 ?_
  cbv
  repeat (first
    | refine OK.drawn (by decide +kernel) ?_
    | refine OK.tree ⟨lookT tis, fun _ => true, []⟩ (by decide +kernel) ?_
    | refine OK.need (by first | assumption | (rw [hA]; first | (show (_ : Int) ≠ _; decide) | (show (0 : Int) ≤ _; decide) | (show (0 : Int) ≤ _ ∧ _ < (256 : Int); decide))) ?_
    | (refine F.hold hA 2000 ?_; cbv))
  refine OK.branch (fun b1 => ?_) (fun b1 => ?_)
  · subst hA
    have b1 : (2 : Int) < 1 := of_decide_eq_true b1
    exact absurd b1 (by decide)
  · repeat (first
      | refine OK.drawn (by decide +kernel) ?_
      | refine OK.tree ⟨lookT tis, fun _ => true, []⟩ (by decide +kernel) ?_
      | refine OK.need (by first | assumption | (rw [hA]; first | (show (_ : Int) ≠ _; decide) | (show (0 : Int) ≤ _; decide) | (show (0 : Int) ≤ _ ∧ _ < (256 : Int); decide))) ?_
      | (refine F.hold hA 2000 ?_; cbv))
    exact F.ret0 ⟨rfl, rfl⟩
def qR0 (c : Code) : Code := match c with | .seq a _ => a | _ => .skip
def qR1 (c : Code) : Code := match c with | .seq _ (.seq a _) => a | _ => .skip
def qR2 (c : Code) : Code := match c with | .seq _ (.seq _ (.seq (.seq a _) _)) => a | _ => .skip
def qAs (c : Code) : Code := match c with | .seq _ (.seq _ (.seq (.seq _ (.block _ (.rangeFunc _ _ a _))) _)) => a | _ => .skip
def qBody (c : Code) : Code := match c with | .seq _ (.seq _ (.seq (.seq _ (.block _ (.rangeFunc _ _ _ a))) _)) => a | _ => .skip
def qR6 (c : Code) : Code := match c with | .seq _ (.seq _ (.seq _ (.seq a _))) => a | _ => .skip
theorem pc_eq : Try.f24.body = some (.seq (qR0 (codeOf Try.f24)) (.seq (qR1 (codeOf Try.f24)) (.seq (.seq (qR2 (codeOf Try.f24)) (.block 0 (.rangeFunc (.tmp 6) #[7] (qAs (codeOf Try.f24)) (qBody (codeOf Try.f24))))) (.seq (qR6 (codeOf Try.f24)) .ret)))) := rfl
def no2 : List (SV T1) → List (Ch T1) → Prop := fun _ _ => False
def no3 : List PanicEntry → List (SV T1) → List (Ch T1) → Prop := fun _ _ _ => False
/-- A part's context. -/
def cx (P : Program) (fn : Func) (pin : Nat → Bool) (E : Env) (n0 : Nat) (ds : List Deferred) : Ctx T1 := ⟨P, C1, ⟨lookT tis, pin, []⟩, E, fn, n0, no2, no3, ds⟩
theorem fits_cx {pin : Nat → Bool} {E : Env} {n0 : Nat} {ds : List Deferred} (hA : ∀ c h, E.A c = some h → pin c = true ∧ c < n0) : Fits (cx Try.prog Try.f24 pin E n0 ds) Try.prog C1 ⟨lookT tis, pin, []⟩ [.tmp 2] n0 no2 :=
  ⟨rfl, rfl, rfl, rfl, rfl, rfl, ⟨tab1 _, zero1 _, cod1, (fun c hc => by
    show E.A c = none
    cases h : E.A c with
    | none => rfl
    | some x =>
      have h1 := (hA c x h).1
      have hc : pin c = false := hc
      rw [h1] at hc; cases hc), mix1⟩, fun c h hc => (hA c h hc).2⟩
def hd4 (xs : List Coin) : List (Ch T1) := [.cells 50 [.own 1], .row 54 (.recs 6 []), .cells 50 [.ro (.recs 6 xs)], .cells 3 [.int .i64 2]]
def fr4 (xs : List Coin) : List (SV T1) := [.ro (.recs 6 xs), .any, .any, .ptr 0 0, .any, .any, .fn 45 [.ptr 2 0, .ptr 3 0], .any, .any, .any, .any, .any, .any, .any, .any, .any, .any, .any, .any, .any, .any, .any, .any, .any, .any, .any, .any, .any, .any, .any, .any]
theorem head_ok {E : Env} (hA : ∀ c, E.A c = none) (xs : List Coin) : Holds (cx Try.prog Try.f24 (fun _ => false) E 0 []) [.code (qR0 (codeOf Try.f24)), .code (qR1 (codeOf Try.f24)), .code (qR2 (codeOf Try.f24)), .back (fun fr H => Cv (cx Try.prog Try.f24 (fun _ => false) E 0 []) fr H (fr4 xs) (hd4 xs))] (.ro (.recs 6 xs) :: anys 30) [] := by
  have F := fits_cx (pin := fun _ => false) (E := E) (n0 := 0) (ds := []) (fun c h hc => by rw [hA] at hc; cases hc)
  generalize hX : cx Try.prog Try.f24 (fun _ => false) E 0 [] = X at *
  obtain ⟨A, hA⟩ : ∃ A, A = Leaf.std := ⟨_, rfl⟩
  refine F.hold hA 6 ?_
  cbv
  refine OK.moreCv (Cv.adoptIn F.cod 0 0 54 (ek := .st 6) rfl rfl rfl) ?_
  repeat (first
    | refine OK.drawn (by decide +kernel) ?_
    | refine OK.tree ⟨lookT tis, fun _ => true, []⟩ (by decide +kernel) ?_
    | refine OK.need (by first | assumption | (rw [hA]; first | (show (_ : Int) ≠ _; decide) | (show (0 : Int) ≤ _; decide) | (show (0 : Int) ≤ _ ∧ _ < (256 : Int); decide))) ?_
    | (refine F.hold hA 2000 ?_; cbv))
  refine F.call [] (chunk_ok xs) rfl rfl rfl fun rs H' hq => ?_
  obtain ⟨rfl, rfl⟩ := hq
  refine ⟨rfl, ?_⟩
  repeat (first
    | refine OK.drawn (by decide +kernel) ?_
    | refine OK.tree ⟨lookT tis, fun _ => true, []⟩ (by decide +kernel) ?_
    | refine OK.need (by first | assumption | (rw [hA]; first | (show (_ : Int) ≠ _; decide) | (show (0 : Int) ≤ _; decide) | (show (0 : Int) ≤ _ ∧ _ < (256 : Int); decide))) ?_
    | (refine F.hold hA 2000 ?_; cbv))
  exact OK.back (F.cv (by cbv; exact ⟨rfl⟩) (by cbv; repeat (first | apply WkL.any | exact WkL.nil _ | refine WkL.eq rfl ?_)) (by cbv; repeat (first | exact WkH.nil _ | apply WkH.gone | refine WkH.eq rfl ?_)))
def h4 (out : List Coin) : List (Ch T1) := [.cells 50 [.own 1], .row 54 (.recs 6 out), .gone, .gone]
def frB (ys : List Coin) : List (SV T1) := [.any, .any, .any, .ptr 0 0, .ro (.recs 6 ys), .any, .any, .any, .any, .any, .any, .any, .any, .any, .any, .any, .any, .any, .any, .any, .any, .any, .any, .any, .any, .any, .any, .any, .any, .any, .any]
/-- What one chunk adds. -/
structure BodyOut (out ys o2 : List Coin) : Prop where
  e : o2 = out ++ prs ys
abbrev pinB : Nat → Bool := fun c => Nat.beq c 0
structure WtB (xs : List Coin) : Prop where
  h : ∀ x ∈ xs, 0 ≤ x.wt ∧ x.wt ≤ 1152921504606846976
structure BodyAt (A : Leaf) (out ys : List Coin) : Prop where
  q1 : A.inb 0 (A.len ys)
  q2 : A.inb 1 (A.len ys)
  q3 : A.small (A.len (A.app out [Coin.node (A.ar .add .i64 (A.get d0 ys 0).wt (A.get d0 ys 1).wt) 0 ys])) 8
  nx : BodyOut out ys (A.app out [Coin.node (A.ar .add .i64 (A.get d0 ys 0).wt (A.get d0 ys 1).wt) 0 ys])
theorem bodyAt {A : Leaf} {out ys : List Coin} (hA : A = .std) (hw : WtB ys) (hout : out.length ≤ 90000) (b1 : A.cmp .eql (A.len ys) 2 = true) : BodyAt A out ys := by
  subst hA
  have b1 : ((ys.length : Int) == 2) = true := b1
  rw [beq_iff_eq] at b1
  match ys, b1, hw with
  | [x, y], _, hw =>
    have h1 := hw.h x (by simp)
    have h2 := hw.h y (by simp)
    refine ⟨⟨by decide, by show (0 : Int) < ((2 : Nat) : Int); decide⟩, ⟨by decide, by show (1 : Int) < ((2 : Nat) : Int); decide⟩, small_of (l := out ++ [_]) (by simp; omega), ⟨?_⟩⟩
    show out ++ [Coin.node (Leaf.std.ar .add .i64 x.wt y.wt) 0 [x, y]] = out ++ prs [x, y]
    rw [add_i64 (by omega) (by omega)]
    simp [prs]
theorem bodyNo {A : Leaf} {out ys : List Coin} (hA : A = .std) (hys : ys.length ≤ 2) (b1 : A.cmp .eql (A.len ys) 2 = false) : BodyOut out ys out := by
  subst hA
  have b1 : ((ys.length : Int) == 2) = false := b1
  rw [beq_eq_false_iff_ne] at b1
  match ys, hys, b1 with
  | [], _, _ => exact ⟨by simp [prs]⟩
  | [x], _, _ => exact ⟨by simp [prs]⟩
  | [x, y], _, h => exact absurd rfl h
theorem body_ok {E : Env} (hA : ∀ c h, E.A c = some h → c = 0) (out ys : List Coin) (hys : ys.length ≤ 2) (hw : WtB ys) (hout : out.length ≤ 90000) : Rd.Holds (cx Try.prog Try.f24 pinB E 4 []) [.code (qBody (codeOf Try.f24)), .back (fun fr H => ∃ o2, BodyOut out ys o2 ∧ Cv (cx Try.prog Try.f24 pinB E 4 []) fr H [] (h4 o2))] (frB ys) (h4 out) := by
  have F := fits_cx (pin := pinB) (E := E) (n0 := 4) (ds := []) (fun c h hc => by have := hA c h hc; subst this; exact ⟨rfl, by decide⟩)
  generalize hX : cx Try.prog Try.f24 pinB E 4 [] = X at *
  obtain ⟨A, hA⟩ : ∃ A, A = Leaf.std := ⟨_, rfl⟩
  refine Rd.hold F hA 2000 ?_
  cbv
  refine Rd.OK.branch (fun b1 => ?_) (fun b1 => ?_)
  · have hat := bodyAt (out := out) hA hw hout b1
    refine Rd.hold F hA 19 ?_
    cbv
    refine Rd.OK.drawn (by decide +kernel) ?_
    refine Rd.OK.need hat.q1 ?_
    refine Rd.OK.need hat.q2 ?_
    refine Rd.OK.moreCv (Cv.freezeCells F.cod 4 rfl) ?_
    refine Rd.hold F hA 2000 ?_
    cbv
    refine Rd.OK.need hat.q3 ?_
    exact Rd.OK.back ⟨_, hat.nx, F.cv (by cbv; exact ⟨rfl⟩) (WkL.nil _) (by cbv; repeat (first | exact WkH.nil _ | apply WkH.gone | refine WkH.eq rfl ?_))⟩
  · have hno := bodyNo (out := out) hA hys b1
    refine Rd.hold F hA 2000 ?_
    cbv
    exact Rd.OK.back ⟨_, hno, F.cv (by cbv; exact ⟨rfl⟩) (WkL.nil _) (by cbv; repeat (first | exact WkH.nil _ | apply WkH.gone | refine WkH.eq rfl ?_))⟩
def frT : List (SV T1) := [.any, .any, .any, .ptr 0 0, .any, .any, .any, .any, .any, .any, .any, .any, .any, .any, .any, .any, .any, .any, .any, .any, .any, .any, .any, .any, .any, .any, .any, .any, .any, .any, .any]
theorem tail_ok {E : Env} (hA : ∀ c, E.A c = none) (ds : List Deferred) (out : List Coin) : Holds (cx Try.prog Try.f24 (fun _ => false) E 0 ds) [.code (qR6 (codeOf Try.f24)), .back (fun fr H => Cv (cx Try.prog Try.f24 (fun _ => false) E 0 ds) fr H [.any, .any, .ro (.recs 6 out)] [.gone, .gone, .gone, .gone])] frT (h4 out) := by
  have F := fits_cx (pin := fun _ => false) (E := E) (n0 := 0) (ds := ds) (fun c h hc => by rw [hA] at hc; cases hc)
  generalize hX : cx Try.prog Try.f24 (fun _ => false) E 0 ds = X at *
  obtain ⟨A, hA⟩ : ∃ A, A = Leaf.std := ⟨_, rfl⟩
  refine F.hold hA 2000 ?_
  cbv
  refine OK.back (Cv.trans (Cv.freeze F.cod 1 rfl) ?_)
  exact (F.cv (by cbv; exact ⟨rfl⟩) (by cbv; repeat (first | apply WkL.any | exact WkL.nil _ | refine WkL.eq rfl ?_)) (by cbv; repeat (first | exact WkH.nil _ | apply WkH.gone | refine WkH.eq rfl ?_)))
end Go.L1

-- S14
namespace Go.L1
open Go Go.Sx Go.Proofs Go.Proofs.L5c Go.L5
set_option maxRecDepth 20000
set_option linter.unusedVariables false
set_option linter.unusedSimpArgs false
def outOf (xs : List Coin) (pre : List Nat) : List Coin := pre.flatMap fun x => prs ((xs.drop x).take 2)
theorem prs_two (l : List Coin) : (prs (l.take 2)).length ≤ 1 := by rw [prs_length, List.length_take]; omega
theorem outOf_len (xs : List Coin) (pre : List Nat) : (outOf xs pre).length ≤ pre.length := by
  unfold outOf
  induction pre with
  | nil => simp
  | cons x pre ih =>
    rw [List.flatMap_cons, List.length_append, List.length_cons]
    have := prs_two (xs.drop x)
    omega
theorem outOf_snoc (xs : List Coin) (pre : List Nat) (x : Nat) : outOf xs (pre ++ [x]) = outOf xs pre ++ prs ((xs.drop x).take 2) := by
  unfold outOf
  rw [List.flatMap_append]; simp
theorem prs_step (l : List Coin) : prs l = prs (l.take 2) ++ prs (l.drop 2) := by
  match l with
  | [] => simp [prs]
  | [x] => simp [prs]
  | x :: y :: l => simp [prs]
theorem outOf_upto (xs : List Coin) : ∀ k, outOf xs (upto k) ++ prs (xs.drop (2 * k)) = prs xs
  | 0 => by simp [outOf, upto]
  | k + 1 => by
    rw [upto_succ, outOf_snoc, List.append_assoc]
    have := prs_step (xs.drop (2 * k))
    rw [List.drop_drop] at this
    rw [show 2 * (k + 1) = 2 * k + 2 by omega, ← this, outOf_upto xs k]
theorem outOf_all (xs : List Coin) : outOf xs (upto ((xs.length + 1) / 2)) = prs xs := by
  have := outOf_upto xs ((xs.length + 1) / 2)
  rw [List.drop_of_length_le (by omega)] at this
  simpa [prs] using this
theorem ro_chunk {M : Mem} {xs : List Coin} {ad : Option Addr} {len cap b off : Nat} (h : Den C1 M [.ro (.recs 6 xs)] [.slice ad len cap]) (had : 0 < len → ad = some ⟨b, off, none⟩) (x : Nat) :
    Den C1 M [.ro (.recs 6 ((xs.drop x).take 2))] [.slice (some ⟨b, off + x, none⟩) (min 2 (len - x)) (min 2 (len - x))] := by
  cases h with
  | ro r a cap us hu hc ha h h' =>
    have e1 : (Row.recs (T := T1) 6 xs).elemSz C1 = 1 := rfl
    have hu : us.length = xs.length * 1 := hu
    have hl : (Row.recs (T := T1) 6 xs).length = xs.length := rfl
    have hm : min 2 (xs.length - x) = (Row.recs (T := T1) 6 ((xs.drop x).take 2)).length := by
      show _ = ((xs.drop x).take 2).length
      rw [List.length_take, List.length_drop]
    rw [hl] at had ⊢
    rw [hm]
    refine Den.ro (T := T1) (C := C1) (Row.recs (T := T1) 6 ((xs.drop x).take 2)) _ _ ((us.drop x).take 2) ?_ (Nat.le_refl _) (fun h0 => ?_) (fun i e he => ?_) .nil
    · show ((us.drop x).take 2).length = ((xs.drop x).take 2).length * 1
      rw [List.length_take, List.length_take, List.length_drop, List.length_drop]; omega
    · have h0 : 0 < ((xs.drop x).take 2).length := h0
      rw [List.length_take, List.length_drop] at h0
      obtain ⟨b', o', e, hD, hq⟩ := ha (by rw [hl]; omega)
      rw [had (by omega)] at e
      cases e
      refine ⟨b, off + x, rfl, hD, fun q hql => ?_⟩
      rw [List.length_take, List.length_drop] at hql
      rw [Nat.add_assoc, hq (x + q) (by omega), List.getElem?_take, if_pos (by omega), List.getElem?_drop]
    · have he : ((xs.drop x).take 2)[i]?.map (fun y => C1.enc 6 y) = some e := he
      rw [List.getElem?_take] at he
      split at he
      · rename_i hi
        rw [List.getElem?_drop] at he
        have h2 := h (x + i) e he
        have e3 : (Row.recs (T := T1) 6 ((xs.drop x).take 2)).elemSz C1 = 1 := rfl
        rw [e1] at h2
        rw [e3]
        have : ((us.drop x).take 2).drop (i * 1) = ((us.drop (x + i)).take (2 - i)) := by
          rw [Nat.mul_one, List.drop_take, List.drop_drop]
        rw [this, List.take_take, show min 1 (2 - i) = 1 by omega]
        rw [Nat.mul_one] at h2
        exact h2
      · cases he
theorem frB_ok {M : Mem} {ys : List Coin} {a : Act} (hs : 31 ≤ a.tmps.size) (h3 : DenV C1 M (.ptr 0 0) (a.tmps.getD 3 undef)) (h4 : DenV C1 M (.ro (.recs 6 ys)) (a.tmps.getD 4 undef)) : FrOK C1 M (frB ys) a := by
  refine ⟨hs, fun i s hi => ?_⟩
  have he : frB ys = .any :: .any :: .any :: .ptr 0 0 :: .ro (.recs 6 ys) :: anys 26 := rfl
  rw [he] at hi
  match i, hi with
  | 0, hi => cases hi; trivial
  | 1, hi => cases hi; trivial
  | 2, hi => cases hi; trivial
  | 3, hi => cases hi; exact h3
  | 4, hi => cases hi; exact h4
  | i + 5, hi =>
    have : (anys 26 : List (SV T1))[i]? = some s := by simpa using hi
    rw [anys_get _ _ _ this]
    trivial
theorem frT_ok {M : Mem} {a : Act} (hs : 31 ≤ a.tmps.size) (h3 : DenV C1 M (.ptr 0 0) (a.tmps.getD 3 undef)) : FrOK C1 M frT a := by
  refine ⟨hs, fun i s hi => ?_⟩
  have he : frT = .any :: .any :: .any :: .ptr 0 0 :: anys 27 := rfl
  rw [he] at hi
  match i, hi with
  | 0, hi => cases hi; trivial
  | 1, hi => cases hi; trivial
  | 2, hi => cases hi; trivial
  | 3, hi => cases hi; exact h3
  | i + 4, hi =>
    have : (anys 27 : List (SV T1))[i]? = some s := by simpa using hi
    rw [anys_get _ _ _ this]
    trivial
theorem wtB_chunk {xs : List Coin} (h : WtB xs) (x : Nat) : WtB ((xs.drop x).take 2) := ⟨fun y hy => h.h y (List.mem_of_mem_drop (List.mem_of_mem_take hy))⟩
theorem live_h4 {out : List Coin} {c : Nat} (h : live (h4 out) c) : c = 0 ∨ c = 1 := by
  obtain ⟨x, hx, hl⟩ := h
  match c, hx with
  | 0, _ => exact .inl rfl
  | 1, _ => exact .inr rfl
  | 2, hx => cases hx; cases hl
  | 3, hx => cases hx; cases hl
  | c + 4, hx => cases hx
theorem getD_set2 (t : Array Value) (v u : Value) (h : 31 ≤ t.size) : ((t.setIfInBounds 7 v).setIfInBounds 4 u).getD 3 undef = t.getD 3 undef ∧ ((t.setIfInBounds 7 v).setIfInBounds 4 u).getD 4 undef = u := by
  have h3 : 3 < t.size := by omega
  have h4 : 4 < t.size := by omega
  constructor
  · simp [Array.getD, h3]
  · simp [Array.getD, h4]
theorem getD_set1 (t : Array Value) (v : Value) (h : 31 ≤ t.size) : (t.setIfInBounds 7 v).getD 7 undef = v := by
  have h7 : 7 < t.size := by omega
  simp [Array.getD, h7]
end Go.L1

-- S15
namespace Go.L1
open Go Go.RowKit Go.Sx Go.Proofs Go.Proofs.L5c Go.L5
set_option maxRecDepth 20000
set_option linter.unusedVariables false
set_option linter.unusedSimpArgs false
theorem den_ptr {M : Mem} {c : Nat} {v : Value} (h : DenV C1 M (.ptr c 0) v) : ∃ g, v = .pointer (some ⟨g, 0, none⟩) ∧ (M.ρ c).blk = some g := by
  obtain ⟨g, h1, _, h2⟩ := denV_ptr h
  exact ⟨g, h1, h2⟩
def vAt (b off len x : Nat) : Value := .slice (some ⟨b, off + x, none⟩) (min 2 (len - x)) (min 2 (len - x))
theorem ptr_den {M : Mem} {c g : Nat} (hc : c < M.n) (h : (M.ρ c).blk = some g) : DenV C1 M (.ptr c 0) (.pointer (some ⟨g, 0, none⟩)) := .ptr c 0 g hc h .nil
set_option maxHeartbeats 1000000 in
theorem loop_part {E : Env} (hA0 : ∀ c, E.A c = none) (xs : List Coin) (hl : xs.length ≤ 2000) (hw : WtB xs) {M : Mem} {a : Act} (hS : Sat C1 E M (hd4 xs)) (hF : FrOK C1 M (fr4 xs) a) (hds : a.defers = []) {Q : Exit → Act → World → Prop}
    (hQ : ∀ (D : Nat) (M' : Mem), E.w0.heap.size ≤ D → Sat C1 E M' (h4 (prs xs)) → FrOK C1 M' frT a → M'.w.heap[D]? = some (.deferred (some [])) → Q .normal { a with defers := { target := .collected D, args := #[] } :: a.defers } M'.w) :
    (Code.rangeFunc (.tmp 6) #[7] (qAs (codeOf Try.f24)) (qBody (codeOf Try.f24))).wpIn Fence.wide 3 Try.prog Q a M.w := by
  have hsz : 31 ≤ a.tmps.size := hF.1
  obtain ⟨v0, hv0⟩ : ∃ v0, a.tmps.getD 0 undef = v0 := ⟨_, rfl⟩
  have h0 := hF.2 0 _ rfl
  have h3 := hF.2 3 _ rfl
  have h6 := hF.2 6 _ rfl
  rw [hv0] at h0
  obtain ⟨g0, hp3, hg0⟩ := den_ptr h3
  -- the row as it was told
  obtain ⟨ad, cap, hve, hlc⟩ : ∃ ad cap, v0 = .slice ad xs.length cap ∧ xs.length ≤ cap := by
    have h0 : Den C1 M [.ro (.recs 6 xs)] [v0] := h0
    cases h0 with
    | ro r ad cap us hu hc ha h h' => exact ⟨ad, cap, rfl, hc⟩
  subst hve
  have h0 : Den C1 M [.ro (.recs 6 xs)] [.slice ad xs.length cap] := h0
  -- the iterator
  obtain ⟨us, hfn, hus⟩ : ∃ us : List Value, a.tmps.getD 6 undef = .func (.func 45) #[] us.toArray ∧ Den C1 M [.ptr 2 0, .ptr 3 0] us := by
    have h6 : Den C1 M [.fn 45 [.ptr 2 0, .ptr 3 0]] [a.tmps.getD 6 undef] := h6
    generalize a.tmps.getD 6 undef = v at h6
    cases h6 with
    | fn f m us h h' => exact ⟨us, rfl, h⟩
  obtain ⟨g2, g3, rfl, hg2, hg3⟩ : ∃ g2 g3, us = [.pointer (some ⟨g2, 0, none⟩), .pointer (some ⟨g3, 0, none⟩)] ∧ (M.ρ 2).blk = some g2 ∧ (M.ρ 3).blk = some g3 := by
    cases hus with
    | ptr c off g hc h h' => cases h' with
      | ptr c off g' hc' h' h'' => cases h''; exact ⟨g, g', rfl, h, h'⟩
  have l2 : live (hd4 xs) 2 := ⟨_, rfl, rfl⟩
  have l3 : live (hd4 xs) 3 := ⟨_, rfl, rfl⟩
  have lt2 := (hS.lt 2 g2 l2 hg2).1
  have lt3 := (hS.lt 3 g3 l3 hg3).1
  obtain ⟨ad', cap', hc2, hlc', hden2⟩ : ∃ ad' cap', M.w.cell? ⟨g2, 0, none⟩ = some (.slice ad' xs.length cap') ∧ xs.length ≤ cap' ∧ Den C1 M [.ro (.recs 6 xs)] [.slice ad' xs.length cap'] := by
    obtain ⟨g, us, e1, e2, e3⟩ := hS.ch 2 _ rfl
    rw [hg2] at e1
    cases e1
    have e3 : Den C1 M [.ro (.recs 6 xs)] us := e3
    have hk := e3
    cases e3 with
    | ro r ad' cap' us' hu hc ha h h' =>
      cases h'
      exact ⟨ad', cap', by simp [World.cell?, e2]; rfl, hc, hk⟩
  have hc3 : M.w.cell? ⟨g3, 0, none⟩ = some (.int .i64 2) := by
    obtain ⟨g, us, e1, e2, e3⟩ := hS.ch 3 _ rfl
    rw [hg3] at e1
    cases e1
    have e3 : Den C1 M [.int .i64 2] us := e3
    cases e3 with
    | int k n h' => cases h'; simp [World.cell?, e2]
  obtain ⟨b, off, had⟩ : ∃ b off, 0 < xs.length → ad' = some ⟨b, off, none⟩ := by
    cases hden2 with
    | ro r ad' cap' us' hu hc ha h h' =>
      rcases Nat.eq_zero_or_pos xs.length with hz | hz
      · exact ⟨0, 0, fun h => by omega⟩
      · obtain ⟨b, o, e, _⟩ := ha hz
        exact ⟨b, o, fun _ => e⟩
  -- the boxes are let go
  obtain ⟨M1, hw1, hρ1, e1, hS1⟩ := hS.drop cod1 2
  obtain ⟨M2, hw2, hρ2, e2, hS2⟩ := hS1.drop cod1 3
  have hS2 : Sat C1 E M2 (h4 []) := hS2
  have hw12 : M2.w = M.w := hw2.trans hw1
  have hρ : M2.ρ = M.ρ := hρ2.trans hρ1
  obtain ⟨A1, hA1⟩ : ∃ A1 : Nat → Option Hd, A1 = fun c => if c = 0 then some (M2.ρ 0) else none := ⟨_, rfl⟩
  have hanch : ∀ c h, A1 c = some h → c < (h4 []).length ∧ M2.ρ c = h := fun c h e => by
    rw [hA1] at e
    simp only at e
    split at e
    · rename_i hc; subst hc; cases e; exact ⟨by decide, rfl⟩
    · cases e
  have hA10 : ∀ c h, A1 c = some h → c = 0 := fun c h e => by
    rw [hA1] at e
    simp only at e
    split at e
    · assumption
    · cases e
  have hS3 := hS2.from hanch
  obtain ⟨E1, hE1⟩ : ∃ E1, E1 = E.from M2 (h4 []) hS2.size A1 := ⟨_, rfl⟩
  rw [← hE1] at hS3
  have hE1A : E1.A = A1 := by rw [hE1]; rfl
  have hE1w : E1.w0 = M.w := by rw [hE1]; exact hw12
  have hE1S : ∀ g, E1.S g → (M.ρ 0).blk = some g ∨ (M.ρ 1).blk = some g := fun g h => by
    rw [hE1] at h
    obtain ⟨c, hc, hcg⟩ := h
    rw [hρ] at hcg
    rcases live_h4 hc with rfl | rfl
    · exact .inl hcg
    · exact .inr hcg
  have notS : ∀ c g, 2 ≤ c → live (hd4 xs) c → (M.ρ c).blk = some g → ¬ E1.S g := fun c g hc hlc hcg hs => by
    rcases hE1S g hs with h | h
    · have := hS.inj c 0 g hlc ⟨_, rfl, rfl⟩ hcg h; omega
    · have := hS.inj c 1 g hlc ⟨_, rfl, rfl⟩ hcg h; omega
  have hd0 : Den C1 M2 [.ro (.recs 6 xs)] [.slice ad' xs.length cap'] := (hden2.ext cod1 e1).ext cod1 e2
  refine wpIn_rangeFunc_ownF (F := Fence.wide) (n := 3) (gf := 45) (lb := #[.pointer (some ⟨g2, 0, none⟩), .pointer (some ⟨g3, 0, none⟩)]) rfl (by decide) hfn trivial (enters_of Try.func45 (by kernel_rfl) rfl)
    (chunk_stops Fence.wide 2 trivial rfl (by decide) g2 g3 M.w.heap.size E1.S b off xs.length cap' ad' had (by omega) hlc' lt2 (notS 2 g2 (by decide) l2 hg2) lt3 (notS 3 g3 (by decide) l3 hg3) M.w lt2 lt3 hc2 hc3)
    (fun h k => h.trans k) (fun W l o o' hl ho _ _ => fun b hb _ => World.putObj_heap_other (by omega)) (Below.refl _ _) (fun _ => rfl)
    (fun pre W => ∃ M', M'.w = W ∧ Sat C1 E1 M' (h4 (outOf xs pre)) ∧ Den C1 M' [.ro (.recs 6 xs)] [.slice ad' xs.length cap']) (fun _ _ _ => False)
    ?kOwn (fun _ _ _ _ _ hs _ _ => hs) ⟨M2, hw12, hS3, hd0⟩
    (fun x => ({ tmps := a.tmps.setIfInBounds 7 (vAt b off xs.length x), defers := [] } : Act).put (some 4) (({ tmps := a.tmps.setIfInBounds 7 (vAt b off xs.length x), defers := [] } : Act).eval (.tmp 7))) ?kAssign ?kBody ?kDone ?kStop
  case kOwn =>
    rintro pre W W' row ⟨M', rfl, h1, h2⟩ hg hr
    have hr' : ∀ r, row = some r → E1.w0.heap.size ≤ r ∧ ∃ o : Obj, M'.w.heap[r]? = some o ∧ o.isCells = false := fun r e => by rw [hE1w]; exact hr r e
    exact ⟨_, rfl, h1.grown hg hr', Den.grown h1 hg hr' h2⟩
  case kAssign =>
    intro l x W K hK
    refine Rd.fw_in (P := Try.prog) _ (fun _ _ h => h) (by decide +kernel) ?_
    refine .inl ?_
    have e : (#[7].zip (enc b off xs.length x)).foldl (fun t (p, v) => t.setIfInBounds p v) a.tmps = a.tmps.setIfInBounds 7 (vAt b off xs.length x) := by simp [enc, vAt]
    rw [e]
    unfold Oper.wp
    simp only [execOp, Sem.run_pure, Oper.upon]
    exact hK
  case kBody =>
    rintro l pre x W ⟨M', rfl, h1, h2⟩ hlen
    have hlo := outOf_len xs pre
    have hch := ro_chunk h2 had x
    have hs := getD_set2 a.tmps (vAt b off xs.length x) (({ tmps := a.tmps.setIfInBounds 7 (vAt b off xs.length x), defers := [] } : Act).eval (.tmp 7)) hsz
    have hρ0 : M'.ρ 0 = M2.ρ 0 := (h1.anch 0 (M2.ρ 0) (by rw [hE1A, hA1]; rfl)).2
    have hFr : FrOK C1 M' (frB ((xs.drop x).take 2)) (({ tmps := a.tmps.setIfInBounds 7 (vAt b off xs.length x), defers := [] } : Act).put (some 4) (({ tmps := a.tmps.setIfInBounds 7 (vAt b off xs.length x), defers := [] } : Act).eval (.tmp 7))) := by
      refine frB_ok (by show 31 ≤ ((a.tmps.setIfInBounds 7 _).setIfInBounds 4 _).size; simpa using hsz) ?_ ?_
      · show DenV C1 M' _ (((a.tmps.setIfInBounds 7 _).setIfInBounds 4 _).getD 3 undef)
        rw [hs.1, hp3]
        exact ptr_den (by rw [h1.n]; exact Nat.succ_pos 3) (by rw [hρ0, hρ]; exact hg0)
      · show DenV C1 M' _ (((a.tmps.setIfInBounds 7 _).setIfInBounds 4 _).getD 4 undef)
        rw [hs.2]
        show DenV C1 M' _ ((a.tmps.setIfInBounds 7 _).getD 7 undef)
        rw [getD_set1 _ _ hsz]
        exact hch
    have hS4 := h1.from h1.anch
    have hb := Rd.in_round (X := cx Try.prog Try.f24 pinB (E1.from M' (h4 (outOf xs pre)) h1.size E1.A) 4 []) (by decide +kernel) (body_ok (E := E1.from M' (h4 (outOf xs pre)) h1.size E1.A) (fun c h hc => hA10 c h (by rw [← hE1A]; exact hc)) (outOf xs pre) ((xs.drop x).take 2) (by rw [List.length_take]; omega) (wtB_chunk hw x) (by omega)) hS4 hFr rfl l 1
    refine wpIn_mono hb fun e a' w' hq => ?_
    cases e with
    | normal =>
      obtain ⟨fr, H, M3, ⟨o2, ho2, _, hcv⟩, hS5, _, _, rfl⟩ := hq
      obtain ⟨M4, hw4, hS6, _⟩ := hcv M3 hS5
      have hS6 : Sat C1 (E1.from M' (h4 (outOf xs pre)) h1.size E1.A) M4 (h4 o2) := hS6
      rw [ho2.e, ← outOf_snoc] at hS6
      rw [← hw4]
      refine ⟨h1.others hS6, fun b hb hbS => hS6.kept b (by have := h1.size; rw [hE1w] at this; show b < M'.w.heap.size; omega) ?_, ⟨M4, rfl, h1.up (fun _ _ h => h) hS6, h1.stillDen cod1 hS6 (fun c => rfl) h2⟩⟩
      rintro ⟨c, hc, hcb⟩
      rcases (h1.lt c b hc hcb).2.2 with h | h
      · exact hbS h
      · rw [hE1w] at h; omega
    | ret => exact (by obtain ⟨_, v, rs, H, M, _, _, h, _⟩ := hq; exact h.elim)
    | exit id => exact hq.elim
    | goto t => exact hq.elim
    | panic ch => exact (by obtain ⟨_, fr, H, M, _, _, h, _⟩ := hq; exact h.elim)
    | outgrown => exact hq.elim
  case kDone =>
    rintro D ys W hD rfl ⟨M', rfl, h1, h2⟩ hK
    rw [outOf_all] at h1
    have hρ0 : M'.ρ 0 = M2.ρ 0 := (h1.anch 0 (M2.ρ 0) (by rw [hE1A, hA1]; rfl)).2
    have hS7 : Sat C1 E M' (h4 (prs xs)) := hS2.up (A := A1) (fun c h e => by rw [hA0 c] at e; cases e) (by rw [← hE1]; exact h1)
    refine hQ D M' (Nat.le_trans hS.size hD) hS7 (frT_ok hsz ?_) hK
    rw [hp3]
    exact ptr_den (by rw [h1.n]; exact Nat.succ_pos 3) (by rw [hρ0, hρ]; exact hg0)
  case kStop =>
    rintro D c pre W _ _ h _
    exact h.elim
theorem qk_none {X : Ctx T1} (h2 : X.Post = no2) (h3 : X.PE = no3) {k : List (KI T1)} {B : List (SV T1) → List (Ch T1) → Prop} {e : Exit} {a : Act} {w : World} : (k = [.back B] ∨ ∃ c, k = [.code c, .back B]) ∨ (∃ c c', k = [.code c, .code c', .back B]) → QK X k e a w → e = .normal := by
  have base : ∀ {e : Exit}, e ≠ .normal → ¬ QK X [] e a w := fun {e} he h => by
    cases e with
    | normal => exact he rfl
    | ret => obtain ⟨_, v, rs, H, M, _, _, h, _⟩ := h; rw [h2] at h; exact h
    | exit id => exact h
    | goto t => exact h
    | panic ch => obtain ⟨_, fr, H, M, _, _, h, _⟩ := h; rw [h3] at h; exact h
    | outgrown => exact h
  intro hk h
  rcases Classical.em (e = .normal) with he | he
  · exact he
  · exfalso
    rcases hk with (rfl | ⟨c, rfl⟩) | ⟨c, c', rfl⟩ <;> cases e <;> first | exact he rfl | exact base he h
structure PrsIs (xs ys : List Coin) : Prop where
  e : ys = prs xs
theorem frOK_enter {M : Mem} {vals : Array Value} {args : List (SV T1)} (n : Nat) (hl : vals.size = args.length) (hd : ∀ (i : Nat) s u, args[i]? = some s → vals[i]? = some u → DenV C1 M s u) (hn : args.length ≤ n) :
    FrOK C1 M (args ++ anys (n - args.length)) { tmps := vals ++ Array.replicate (n - vals.size) undef, defers := [] } := by
  refine ⟨by simp [anys_length, hl], fun i s hs => ?_⟩
  rcases Nat.lt_or_ge i args.length with hi | hi
  · rw [List.getElem?_append_left hi] at hs
    have hv : i < vals.size := by omega
    have : (vals ++ Array.replicate (n - vals.size) undef).getD i undef = vals[i] := by
      simp [Array.getD, hv]
      omega
    show DenV C1 M s ((vals ++ Array.replicate (n - vals.size) undef).getD i undef)
    rw [this]
    exact hd i s _ hs (Array.getElem?_eq_getElem hv)
  · rw [List.getElem?_append_right hi] at hs
    rw [anys_get _ _ _ hs]
    trivial
set_option maxHeartbeats 1000000 in
theorem pairs_ok (xs : List Coin) (hl : xs.length ≤ 2000) (hw : WtB xs) : FOK Try.prog C1 24 (fun _ => false) [.ro (.recs 6 xs)] [] (fun rs H => ∃ ys, rs = [.ro (.recs 6 ys)] ∧ H = [.gone, .gone, .gone, .gone] ∧ PrsIs xs ys) := by
  refine ⟨Try.f24, _, Try.func24, by kernel_rfl, pc_eq, fun E M vals hA hS hlv hd => ?_⟩
  have hA0 : ∀ c, E.A c = none := fun c => hA c rfl
  refine (callsIn_wide (n := 3)).1 (callsIn_of_wp_marks Try.func24 pc_eq trivial ?_)
  have hF : FrOK C1 M (.ro (.recs 6 xs) :: anys 30) { tmps := vals ++ Array.replicate (Try.f24.ntmps - vals.size) undef, defers := [] } := frOK_enter (args := [.ro (.recs 6 xs)]) 31 hlv hd (by show 1 ≤ 31; decide)
  have h := head_ok hA0 xs M _ hS hF rfl
  refine wpIn_seq (wpIn_wide.2 (wp_mono h fun e a w hq => ?_))
  have he := qk_none rfl rfl (.inr ⟨_, _, rfl⟩) hq
  subst he
  refine wpIn_seq (wpIn_wide.2 (wp_mono hq fun e a w hq => ?_))
  have he := qk_none rfl rfl (.inl (.inr ⟨_, rfl⟩)) hq
  subst he
  refine wpIn_seq (wpIn_seq (wpIn_wide.2 (wp_mono hq fun e a w hq => ?_)))
  have he := qk_none rfl rfl (.inl (.inl rfl)) hq
  subst he
  obtain ⟨fr, H, M1, ⟨hlen, hcv⟩, hS1, hF1, hd1, rfl⟩ := hq
  obtain ⟨M2, hw2, hS2, hv2⟩ := hcv M1 hS1
  have hF2 : FrOK C1 M2 (fr4 xs) a := ⟨Nat.le_trans hlen hF1.1, fun i s hs => hv2 (fun i => a.tmps.getD i undef) (fun i s hs => hF1.2 i s hs) i s hs⟩
  rw [← hw2]
  refine wpIn_block (loop_part hA0 xs hl hw hS2 hF2 hd1 fun D M' hD hS3 hF3 hK => ?_)
  have hd1 : a.defers = [] := hd1
  have hT := hS3.from (A := fun _ => none) (fun c h e => by cases e)
  have ht := tail_ok (E := E.from M' (h4 (prs xs)) hS3.size (fun _ => none)) (fun c => rfl) [{ target := .collected D, args := #[] }] (prs xs) M' { a with defers := { target := .collected D, args := #[] } :: a.defers } hT hF3 (by rw [hd1]; rfl)
  refine wpIn_seq (wpIn_wide.2 (wp_mono ht fun e a w hq => ?_))
  have he := qk_none rfl rfl (.inl (.inl rfl)) hq
  subst he
  obtain ⟨fr, H, M3, ⟨hlen, hcv⟩, hS4, hF4, hd4, rfl⟩ := hq
  obtain ⟨M4, hw4, hS5, hv5⟩ := hcv M3 hS4
  have hS5 : Sat C1 (E.from M' (h4 (prs xs)) hS3.size (fun _ => none)) M4 [.gone, .gone, .gone, .gone] := hS5
  have hres : DenV C1 M4 (.ro (.recs 6 (prs xs))) (a.tmps.getD 2 undef) := hv5 (fun i => a.tmps.getD i undef) (fun i s hs => hF4.2 i s hs) 2 _ rfl
  have hS6 := hS3.up (fun c h e => by rw [hA0 c] at e; cases e) hS5
  have hK4 : M4.w.heap[D]? = some (.deferred (some [])) := (hS3.others hS5).same D _ hK rfl
  refine wpIn_ret ?_
  show LeavesInM Fence.wide 3 Try.prog Try.f24 a.tmps _ a.defers .returning M3.w
  have hd4 : a.defers = [{ target := .collected D, args := #[] }] := hd4
  rw [hd4, ← hw4]
  refine ⟨(by simp), .inl ⟨_, _, rfl, run_takeDeferred hK4, ?_⟩⟩
  refine ⟨_, results_tmp rfl _ _ _, ?_⟩
  have hg : M4.w.grownBy (M4.w.putObj D (.deferred none)) (some D) := grownBy_putObj' M4.w D (.deferred none)
  have hr : ∀ r, some D = some r → E.w0.heap.size ≤ r ∧ ∃ o : Obj, M4.w.heap[r]? = some o ∧ o.isCells = false := fun r e => by cases e; exact ⟨hD, _, hK4, rfl⟩
  exact ⟨_, _, _, ⟨_, rfl, rfl, ⟨rfl⟩⟩, hS6.grown hg hr, rfl, Den.grown hS6 hg hr hres⟩
end Go.L1

-- S16
namespace Go.L1
open Go Go.Sx Go.Proofs Go.L5
set_option maxRecDepth 20000
set_option linter.unusedVariables false
set_option linter.unusedSimpArgs false
structure EachP (l : List Int) (S : List Int) : Prop where
  s : ∀ s ∈ S, 0 ≤ s ∧ s < l.length
  v : ∀ v ∈ l, 0 ≤ v ∧ v + S.length ≤ 100000000
  n : l.length ≤ 1000
structure EachOut (l : List Int) (S : List Int) (l2 : List Int) : Prop where
  len : l2.length = l.length
  at_ : ∀ (t : Nat) (v : Int), l[t]? = some v → l2[t]? = some (v + (S.count (t : Int) : Nat))
theorem EachOut.refl (l : List Int) : EachOut l [] l := ⟨rfl, fun t v h => by simpa using h⟩
theorem EachOut.trans {l S l1 S' l2 : List Int} (h : EachOut l S l1) (k : EachOut l1 S' l2) : EachOut l (S ++ S') l2 :=
  ⟨k.len.trans h.len, fun t v ht => by
    rw [k.at_ t _ (h.at_ t v ht), List.count_append]
    congr 1; omega⟩
theorem EachP.next {l S S' l1 : List Int} (h : EachP l (S ++ S')) (k : EachOut l S l1) : EachP l1 S' := by
  refine ⟨fun s hs => ?_, fun v hv => ?_, by rw [k.len]; exact h.n⟩
  · rw [k.len]; exact h.s s (List.mem_append.2 (.inr hs))
  · obtain ⟨t, ht⟩ := List.mem_iff_getElem?.1 hv
    have htl : t < l.length := by rw [← k.len]; exact (List.getElem?_eq_some_iff.1 ht).1
    have h1 := k.at_ t l[t] (List.getElem?_eq_getElem htl)
    rw [ht] at h1
    cases h1
    have h2 := h.v l[t] (List.getElem_mem htl)
    rw [List.length_append] at h2
    have h3 := List.count_le_length (a := (t : Int)) (l := S)
    omega
theorem EachP.first {l S S' : List Int} (h : EachP l (S ++ S')) : EachP l S := by
  refine ⟨fun s hs => h.s s (List.mem_append.2 (.inl hs)), fun v hv => ?_, h.n⟩
  have := h.v v hv
  rw [List.length_append] at this
  omega
theorem symsL_take {ks : List Coin} {k : Nat} (h : k < ks.length) : symsL (ks.take (k + 1)) = symsL (ks.take k) ++ syms ks[k] := by
  rw [List.take_succ_eq_append_getElem h, symsL_app, symsL, symsL, List.append_nil]
theorem symsL_split {ks : List Coin} {k : Nat} (h : k < ks.length) : symsL ks = symsL (ks.take k) ++ (syms ks[k] ++ symsL (ks.drop (k + 1))) := by
  have : ks = ks.take k ++ (ks[k] :: ks.drop (k + 1)) := by rw [List.getElem_cons_drop, List.take_append_drop]
  rw [← symsL, ← symsL_app, ← this]
/-- One more. -/
structure BumpAt (A : Leaf) (l : List Int) (s : Int) : Prop where
  q : A.inb s (A.len l)
  nx : EachOut l [s] (A.set l s (A.ar .add .i64 (A.get 0 l s) 1))
theorem bumpAt {A : Leaf} {l : List Int} {s : Int} (hA : A = .std) (hp : EachP l [s]) : BumpAt A l s := by
  subst hA
  have h1 := hp.s s (by simp)
  obtain ⟨t, rfl⟩ : ∃ t : Nat, s = t := ⟨s.toNat, by omega⟩
  have ht : t < l.length := by omega
  have h2 := hp.v l[t] (List.getElem_mem ht)
  simp only [List.length_singleton] at h2
  have eg : Leaf.std.get 0 l (t : Int) = l[t] := by show l.getD _ _ = _; rw [Int.toNat_natCast]; simp [ht]
  refine ⟨⟨by omega, by show (t : Int) < (l.length : Int); omega⟩, ⟨?_, fun j v hv => ?_⟩⟩
  · show (l.set _ _).length = _; rw [List.length_set]
  · show (l.set (t : Int).toNat (Leaf.std.ar .add .i64 (Leaf.std.get 0 l (t : Int)) 1))[j]? = _
    rw [eg, add_i64 (by omega) (by omega), Int.toNat_natCast, List.getElem?_set]
    by_cases hj : t = j
    · subst hj
      rw [List.getElem?_eq_getElem ht] at hv
      cases hv
      rw [if_pos rfl, if_pos ht]
      simp
    · rw [if_neg hj, hv, List.count_singleton]
      have : ¬ ((t : Int) == (j : Int)) = true := by rw [beq_iff_eq]; omega
      rw [if_neg this]; simp
def EaW (l1 : List Int) (ks : List Coin) (w : List Int × Int) : Prop := ∃ k : Nat, w.2 = k ∧ k ≤ ks.length ∧ EachOut l1 (symsL (ks.take k)) w.1
structure Small (x : Coin) (N : Nat) : Prop where
  h : SizeOf.sizeOf x ≤ N
structure EaAt (A : Leaf) (l1 l : List Int) (ks : List Coin) (i : Int) (N : Nat) (x : Coin) : Prop where
  q : A.inb i (A.len ks)
  e : A.get (Coin.node 0 0 []) ks i = x
  p : EachP l (syms (nd x))
  sm : Small (nd x) N
  nx : ∀ l2, EachOut l (syms (nd x)) l2 → EaW l1 ks (l2, A.ar .add .i64 i 1)
  mu : (ks.length - A.ar .add .i64 i 1).toNat < (ks.length - i).toNat
theorem eaAt {A : Leaf} {l1 l : List Int} {w s : Int} {ks : List Coin} {i : Int} {N : Nat} (hA : A = .std) (hk : ks.length ≤ 1000) (hN : Small (Coin.node w s ks) (N + 1)) (hp : EachP l1 (symsL ks)) (hI : EaW l1 ks (l, i)) (b : A.cmp .lss i (A.len ks) = true) : EaAt A l1 l ks i N (A.get (Coin.node 0 0 []) ks i) := by
  obtain ⟨k, h1, h2, h3⟩ := hI
  simp only at h1 h3
  subst hA h1
  have b : (k : Int) < (ks.length : Int) := of_decide_eq_true b
  have hkl : k < ks.length := by omega
  have eg : Leaf.std.get (Coin.node 0 0 []) ks (k : Int) = ks[k] := by show ks.getD _ _ = _; rw [Int.toNat_natCast]; simp [hkl]
  have e : Leaf.std.ar .add .i64 (k : Int) 1 = ((k + 1 : Nat) : Int) := by rw [add_i64 (by omega) (by omega)]; omega
  rw [eg]
  refine ⟨⟨by omega, by show (k : Int) < (ks.length : Int); omega⟩, eg, ?_, ⟨?_⟩, fun l2 h => ?_, by rw [e]; omega⟩
  · rw [nd_eq]
    rw [symsL_split hkl] at hp
    exact (hp.next h3).first
  · have h4 := hN.h
    rw [Coin.node.sizeOf_spec] at h4
    have h5 := List.sizeOf_lt_of_mem (List.getElem_mem hkl)
    rw [nd_eq]
    omega
  · rw [e]
    rw [nd_eq] at h
    exact ⟨k + 1, rfl, by omega, by rw [symsL_take hkl]; exact h3.trans h⟩
theorem eaFin {A : Leaf} {l1 l : List Int} {ks : List Coin} {i : Int} (hA : A = .std) (hI : EaW l1 ks (l, i)) (b : A.cmp .lss i (A.len ks) = false) : EachOut l1 (symsL ks) l := by
  obtain ⟨k, h1, h2, h3⟩ := hI
  simp only at h1 h3
  subst hA h1
  have b : ¬ (k : Int) < (ks.length : Int) := of_decide_eq_false b
  rwa [List.take_of_length_le (by omega)] at h3
theorem leaf_of {A : Leaf} {w s : Int} {ks : List Coin} (hA : A = .std) (b : A.cmp .eql (A.len ks) 0 = true) : ks = [] ∧ syms (Coin.node w s ks) = [s] := by
  subst hA
  have b : ((ks.length : Int) == 0) = true := b
  rw [beq_iff_eq] at b
  have : ks = [] := List.length_eq_zero_iff.1 (by omega)
  subst this
  exact ⟨rfl, syms_leaf w s⟩
theorem node_of {A : Leaf} {w s : Int} {ks : List Coin} (hA : A = .std) (b : A.cmp .eql (A.len ks) 0 = false) : syms (Coin.node w s ks) = symsL ks := by
  subst hA
  have b : ((ks.length : Int) == 0) = false := b
  rw [beq_eq_false_iff_ne] at b
  cases ks with
  | nil => exact absurd rfl b
  | cons c l => exact syms_cons w s c l
/-- Nowhere too many together. -/
inductive Fit : Coin → Prop
  | mk {w s : Int} {ks : List Coin} (h : ks.length ≤ 2) (k : ∀ x ∈ ks, Fit x) : Fit (Coin.node w s ks)
theorem Fit.kids {w s : Int} {ks : List Coin} : Fit (Coin.node w s ks) → ks.length ≤ 2 ∧ ∀ x ∈ ks, Fit x
  | .mk h k => ⟨h, k⟩
theorem fit_get {A : Leaf} (hA : A = .std) {ks : List Coin} (h : ∀ x ∈ ks, Fit x) {i : Int} (hq : A.inb i (A.len ks)) : Fit (nd (A.get (Coin.node 0 0 []) ks i)) := by
  rw [nd_eq]
  subst hA
  obtain ⟨h1, h2⟩ := hq
  have h2 : i < (ks.length : Int) := h2
  have hl : i.toNat < ks.length := by omega
  have : Leaf.std.get (Coin.node 0 0 []) ks i = ks[i.toNat] := by show ks.getD _ _ = _; simp [hl]
  rw [this]
  exact h _ (List.getElem_mem hl)
theorem leafNo {A : Leaf} (hA : A = .std) {ks : List Coin} (hks : ks = []) {i : Int} (h : ∃ k : Nat, i = k) (b : A.cmp .lss i (A.len ks) = true) : False := by
  subst hA hks
  obtain ⟨k, rfl⟩ := h
  have b : (k : Int) < 0 := of_decide_eq_true b
  omega
theorem leafFin {l l1 l2 : List Int} {s : Int} {ks : List Coin} (hks : ks = []) (h : EachOut l1 (symsL ks) l2) (h1 : EachOut l [s] l1) : EachOut l [s] l2 := by
  subst hks
  have := h1.trans h
  rwa [symsL, List.append_nil] at this
theorem each_ok (N : Nat) : ∀ (w s : Int) (ks : List Coin) (l : List Int), Small (Coin.node w s ks) N → Fit (Coin.node w s ks) → EachP l (syms (Coin.node w s ks)) → FOK Try.prog C1 27 (fun _ => true) [.rp [.int .i64 w, .int .i64 s, .ro (.recs 6 ks)] 0, .own 0] [.row 3 (.ints .i64 l)]
    (fun rs H => ∃ l2, rs = [] ∧ H = [.row 3 (.ints .i64 l2)] ∧ EachOut l (syms (Coin.node w s ks)) l2) := by
  induction N with
  | zero => intro w s ks l h; exact absurd h.h (by rw [Coin.node.sizeOf_spec]; omega)
  | succ N ih =>
  intro w s ks l hN hf hp
  obtain ⟨hk2, hfk⟩ := hf.kids
  have hk : ks.length ≤ 1000 := by omega
  refine fok_of (B := ⟨lookT tis, fun _ => true, []⟩) (tab1 _) (zero1 _) cod1 mix1 Try.func27 (by kernel_rfl) rfl rfl rfl fun X F => ?_
  obtain ⟨A, hA⟩ : ∃ A, A = Leaf.std := ⟨_, rfl⟩
  refine F.hold hA 2000 ?_
  cbv
  repeat (first
    | refine OK.drawn (by decide +kernel) ?_
    | refine OK.tree ⟨lookT tis, fun _ => true, []⟩ (by decide +kernel) ?_
    | refine OK.need (by first | assumption | (rw [hA]; first | (show (_ : Int) ≠ _; decide) | (show (0 : Int) ≤ _; decide) | (show (0 : Int) ≤ _ ∧ _ < (256 : Int); decide))) ?_
    | (refine F.hold hA 2000 ?_; cbv))
  refine OK.branch (fun b1 => ?_) (fun b1 => ?_)
  · obtain ⟨hks, hs⟩ := leaf_of (w := w) (s := s) hA b1
    rw [hs] at hp
    have hb := bumpAt hA hp
    have q := hb.q
    repeat (first
      | refine OK.drawn (by decide +kernel) ?_
      | refine OK.tree ⟨lookT tis, fun _ => true, []⟩ (by decide +kernel) ?_
      | refine OK.need (by first | assumption | (rw [hA]; first | (show (_ : Int) ≠ _; decide) | (show (0 : Int) ≤ _; decide) | (show (0 : Int) ≤ _ ∧ _ < (256 : Int); decide))) ?_
      | (refine F.hold hA 2000 ?_; cbv))
    refine F.loop (V := List Int × Int) [1, 24, 25] (fun w' => EaW (A.set l s (A.ar .add .i64 (A.get 0 l s) 1)) ks w') (fun w => (ks.length - w.2).toNat) (fun w => [(26, .int .i64 w.2)]) (fun w => [(0, .row 3 (.ints .i64 w.1))]) (_, _) (by cbv; repeat (first | exact WkH.nil _ | apply WkH.gone | refine WkH.eq rfl ?_)) (by cbv; repeat (first | apply WkL.any | exact WkL.nil _ | refine WkL.eq rfl ?_ | refine WkL.bool rfl ?_)) (by cbv; exact ⟨rfl⟩) ?_ ?_
    · exact ⟨0, rfl, Nat.zero_le _, by rw [List.take_zero, symsL]; exact .refl _⟩
    rintro ⟨l', i⟩ hI Bk hBk
    repeat (first
      | refine OK.drawn (by decide +kernel) ?_
      | refine OK.tree ⟨lookT tis, fun _ => true, []⟩ (by decide +kernel) ?_
      | refine OK.need (by first | assumption | (rw [hA]; first | (show (_ : Int) ≠ _; decide) | (show (0 : Int) ≤ _; decide) | (show (0 : Int) ≤ _ ∧ _ < (256 : Int); decide))) ?_
      | (refine F.hold hA 2000 ?_; cbv))
    refine OK.branch (fun b2 => ?_) (fun b2 => ?_)
    · exact (leafNo hA hks (by obtain ⟨k, h1, h2, h3⟩ := hI; exact ⟨k, h1⟩) b2).elim
    · repeat (first
        | refine OK.drawn (by decide +kernel) ?_
        | refine OK.tree ⟨lookT tis, fun _ => true, []⟩ (by decide +kernel) ?_
        | refine OK.need (by first | assumption | (rw [hA]; first | (show (_ : Int) ≠ _; decide) | (show (0 : Int) ≤ _; decide) | (show (0 : Int) ≤ _ ∧ _ < (256 : Int); decide))) ?_
        | (refine F.hold hA 2000 ?_; cbv))
      refine F.ret0 ⟨_, rfl, rfl, ?_⟩
      rw [hs]
      exact leafFin hks (eaFin hA hI b2) hb.nx
  · have hs := node_of (w := w) (s := s) hA b1
    rw [hs] at hp
    repeat (first
      | refine OK.drawn (by decide +kernel) ?_
      | refine OK.tree ⟨lookT tis, fun _ => true, []⟩ (by decide +kernel) ?_
      | refine OK.need (by first | assumption | (rw [hA]; first | (show (_ : Int) ≠ _; decide) | (show (0 : Int) ≤ _; decide) | (show (0 : Int) ≤ _ ∧ _ < (256 : Int); decide))) ?_
      | (refine F.hold hA 2000 ?_; cbv))
    refine F.loop (V := List Int × Int) [1, 24, 25] (EaW l ks) (fun w => (ks.length - w.2).toNat) (fun w => [(26, .int .i64 w.2)]) (fun w => [(0, .row 3 (.ints .i64 w.1))]) (_, _) (by cbv; repeat (first | exact WkH.nil _ | apply WkH.gone | refine WkH.eq rfl ?_)) (by cbv; repeat (first | apply WkL.any | exact WkL.nil _ | refine WkL.eq rfl ?_ | refine WkL.bool rfl ?_)) (by cbv; exact ⟨rfl⟩) ?_ ?_
    · exact ⟨0, rfl, Nat.zero_le _, by rw [List.take_zero, symsL]; exact .refl _⟩
    rintro ⟨l', i⟩ hI Bk hBk
    repeat (first
      | refine OK.drawn (by decide +kernel) ?_
      | refine OK.tree ⟨lookT tis, fun _ => true, []⟩ (by decide +kernel) ?_
      | refine OK.need (by first | assumption | (rw [hA]; first | (show (_ : Int) ≠ _; decide) | (show (0 : Int) ≤ _; decide) | (show (0 : Int) ≤ _ ∧ _ < (256 : Int); decide))) ?_
      | (refine F.hold hA 2000 ?_; cbv))
    refine OK.branch (fun b2 => ?_) (fun b2 => ?_)
    · have hat := eaAt hA hk hN hp hI b2
      have q := hat.q
      have hfi := fit_get hA hfk hat.q
      repeat (first
        | refine OK.drawn (by decide +kernel) ?_
        | refine OK.tree ⟨lookT tis, fun _ => true, []⟩ (by decide +kernel) ?_
        | refine OK.need (by first | assumption | (rw [hA]; first | (show (_ : Int) ≠ _; decide) | (show (0 : Int) ≤ _; decide) | (show (0 : Int) ≤ _ ∧ _ < (256 : Int); decide))) ?_
        | (refine F.hold hA 2000 ?_; cbv))
      refine F.call [0] (ih _ _ _ _ hat.sm hfi hat.p) rfl rfl rfl fun rs H' hq => ?_
      obtain ⟨l2, rfl, rfl, hl2⟩ := hq
      refine ⟨rfl, ?_⟩
      repeat (first
        | refine OK.drawn (by decide +kernel) ?_
        | refine OK.tree ⟨lookT tis, fun _ => true, []⟩ (by decide +kernel) ?_
        | refine OK.need (by first | assumption | (rw [hA]; first | (show (_ : Int) ≠ _; decide) | (show (0 : Int) ≤ _; decide) | (show (0 : Int) ≤ _ ∧ _ < (256 : Int); decide))) ?_
        | (refine F.hold hA 2000 ?_; cbv))
      refine OK.back (hBk _ _ (_, _) (by cbv; repeat (first | exact WkH.nil _ | apply WkH.gone | refine WkH.eq rfl ?_)) (by cbv; repeat (first | apply WkL.any | exact WkL.nil _ | refine WkL.eq rfl ?_ | refine WkL.bool rfl ?_)) (by cbv; exact ⟨rfl⟩) ?_ ?_)
      · exact hat.nx l2 hl2
      · exact hat.mu
    · repeat (first
        | refine OK.drawn (by decide +kernel) ?_
        | refine OK.tree ⟨lookT tis, fun _ => true, []⟩ (by decide +kernel) ?_
        | refine OK.need (by first | assumption | (rw [hA]; first | (show (_ : Int) ≠ _; decide) | (show (0 : Int) ≤ _; decide) | (show (0 : Int) ≤ _ ∧ _ < (256 : Int); decide))) ?_
        | (refine F.hold hA 2000 ?_; cbv))
      refine F.ret0 ⟨_, rfl, rfl, ?_⟩
      rw [hs]
      exact eaFin hA hI b2
end Go.L1

-- S17
namespace Go.L1
open Go Go.Sx Go.Proofs Go.L5
set_option maxRecDepth 20000
set_option linter.unusedVariables false
set_option linter.unusedSimpArgs false
structure IdxIs (p : Int → Bool) (l : List Int) (r : Int) : Prop where
  yes : 0 ≤ r ↔ ∃ c ∈ l, p c = true
def IdW (p : Int → Bool) (l : List Int) (i : Int) : Prop := ∃ k : Nat, i = k ∧ k ≤ l.length ∧ ∀ c ∈ l.take k, p c = false
structure IdAt (A : Leaf) (p : Int → Bool) (l : List Int) (i : Int) : Prop where
  q : A.inb i (A.len l)
  yes : p (A.get 0 l i) = true → IdxIs p l i
  no : p (A.get 0 l i) = false → IdW p l (A.ar .add .i64 i 1)
  mu : (l.length - A.ar .add .i64 i 1).toNat < (l.length - i).toNat
theorem idAt {A : Leaf} {p : Int → Bool} {l : List Int} {i : Int} (hA : A = .std) (hl : l.length ≤ 100000) (hI : IdW p l i) (b : A.cmp .lss i (A.len l) = true) : IdAt A p l i := by
  obtain ⟨k, h1, h2, h3⟩ := hI
  subst hA h1
  have b : (k : Int) < (l.length : Int) := of_decide_eq_true b
  have hk : k < l.length := by omega
  have eg : Leaf.std.get 0 l (k : Int) = l[k] := by show l.getD _ _ = _; rw [Int.toNat_natCast]; simp [hk]
  have e : Leaf.std.ar .add .i64 (k : Int) 1 = ((k + 1 : Nat) : Int) := by rw [add_i64 (by omega) (by omega)]; omega
  refine ⟨⟨by omega, by show (k : Int) < (l.length : Int); omega⟩, fun h => ⟨⟨fun _ => ?_, fun _ => by omega⟩⟩, fun h => ?_, by rw [e]; omega⟩
  · rw [eg] at h; exact ⟨_, List.getElem_mem hk, h⟩
  · rw [eg] at h
    rw [e]
    refine ⟨k + 1, rfl, by omega, fun c hc => ?_⟩
    rw [List.take_succ_eq_append_getElem hk] at hc
    rcases List.mem_append.1 hc with hc | hc
    · exact h3 c hc
    · rw [List.mem_singleton] at hc; subst hc; exact h
theorem idFin {A : Leaf} {p : Int → Bool} {l : List Int} {i : Int} (hA : A = .std) (hI : IdW p l i) (b : A.cmp .lss i (A.len l) = false) : IdxIs p l (-1) := by
  obtain ⟨k, h1, h2, h3⟩ := hI
  subst hA h1
  have b : ¬ (k : Int) < (l.length : Int) := of_decide_eq_false b
  rw [List.take_of_length_le (by omega)] at h3
  exact ⟨⟨fun h => absurd h (by decide), fun ⟨c, hc, h⟩ => by rw [h3 c hc] at h; cases h⟩⟩
theorem index_ok (f : FuncId) (p : Int → Bool) (hf : ∀ c, FOK Try.prog C1 f (fun _ => true) [.int .i64 c] [] (fun rs H => ∃ b, rs = [.bool (.e b)] ∧ H = [] ∧ b = p c)) (l : List Int) (hl : l.length ≤ 100000) :
    FOK Try.prog C1 41 (fun _ => true) [.ro (.ints .i64 l), .fn f []] [] (fun rs H => ∃ r, rs = [.int .i64 r] ∧ H = [] ∧ IdxIs p l r) := by
  refine fok_of (B := ⟨lookT tis, fun _ => true, []⟩) (tab1 _) (zero1 _) cod1 mix1 Try.func41 (by kernel_rfl) rfl rfl rfl fun X F => ?_
  obtain ⟨A, hA⟩ : ∃ A, A = Leaf.std := ⟨_, rfl⟩
  refine F.hold hA 2000 ?_
  cbv
  repeat (first
    | refine OK.drawn (by decide +kernel) ?_
    | refine OK.tree ⟨lookT tis, fun _ => true, []⟩ (by decide +kernel) ?_
    | refine OK.need (by first | assumption | (rw [hA]; first | (show (_ : Int) ≠ _; decide) | (show (0 : Int) ≤ _; decide) | (show (0 : Int) ≤ _ ∧ _ < (256 : Int); decide))) ?_
    | (refine F.hold hA 2000 ?_; cbv))
  refine F.loop (V := Int) [0, 1, 6, 7] (IdW p l) (fun w => (l.length - w).toNat) (fun w => [(8, .int .i64 w)]) (fun w => []) _ (by cbv; repeat (first | exact WkH.nil _ | apply WkH.gone | refine WkH.eq rfl ?_)) (by cbv; repeat (first | apply WkL.any | exact WkL.nil _ | refine WkL.eq rfl ?_ | refine WkL.bool rfl ?_)) (by cbv; exact ⟨rfl⟩) ?_ ?_
  · exact ⟨0, rfl, Nat.zero_le _, fun c hc => by simp at hc⟩
  rintro i hI Bk hBk
  repeat (first
    | refine OK.drawn (by decide +kernel) ?_
    | refine OK.tree ⟨lookT tis, fun _ => true, []⟩ (by decide +kernel) ?_
    | refine OK.need (by first | assumption | (rw [hA]; first | (show (_ : Int) ≠ _; decide) | (show (0 : Int) ≤ _; decide) | (show (0 : Int) ≤ _ ∧ _ < (256 : Int); decide))) ?_
    | (refine F.hold hA 2000 ?_; cbv))
  refine OK.branch (fun b1 => ?_) (fun b1 => ?_)
  · have hat := idAt hA hl hI b1
    have q := hat.q
    repeat (first
      | refine OK.drawn (by decide +kernel) ?_
      | refine OK.tree ⟨lookT tis, fun _ => true, []⟩ (by decide +kernel) ?_
      | refine OK.need (by first | assumption | (rw [hA]; first | (show (_ : Int) ≠ _; decide) | (show (0 : Int) ≤ _; decide) | (show (0 : Int) ≤ _ ∧ _ < (256 : Int); decide))) ?_
      | (refine F.hold hA 2000 ?_; cbv))
    refine F.call [] (hf _) rfl rfl rfl fun rs H' hq => ?_
    obtain ⟨b, rfl, rfl, hb⟩ := hq
    refine ⟨rfl, ?_⟩
    repeat (first
      | refine OK.drawn (by decide +kernel) ?_
      | refine OK.tree ⟨lookT tis, fun _ => true, []⟩ (by decide +kernel) ?_
      | refine OK.need (by first | assumption | (rw [hA]; first | (show (_ : Int) ≠ _; decide) | (show (0 : Int) ≤ _; decide) | (show (0 : Int) ≤ _ ∧ _ < (256 : Int); decide))) ?_
      | (refine F.hold hA 2000 ?_; cbv))
    refine OK.branch (fun b2 => ?_) (fun b2 => ?_)
    · repeat (first
        | refine OK.drawn (by decide +kernel) ?_
        | refine OK.tree ⟨lookT tis, fun _ => true, []⟩ (by decide +kernel) ?_
        | refine OK.need (by first | assumption | (rw [hA]; first | (show (_ : Int) ≠ _; decide) | (show (0 : Int) ≤ _; decide) | (show (0 : Int) ≤ _ ∧ _ < (256 : Int); decide))) ?_
        | (refine F.hold hA 2000 ?_; cbv))
      exact F.ret0 ⟨_, rfl, rfl, hat.yes (hb.symm.trans b2)⟩
    · repeat (first
        | refine OK.drawn (by decide +kernel) ?_
        | refine OK.tree ⟨lookT tis, fun _ => true, []⟩ (by decide +kernel) ?_
        | refine OK.need (by first | assumption | (rw [hA]; first | (show (_ : Int) ≠ _; decide) | (show (0 : Int) ≤ _; decide) | (show (0 : Int) ≤ _ ∧ _ < (256 : Int); decide))) ?_
        | (refine F.hold hA 2000 ?_; cbv))
      refine OK.back (hBk _ _ _ (by cbv; repeat (first | exact WkH.nil _ | apply WkH.gone | refine WkH.eq rfl ?_)) (by cbv; repeat (first | apply WkL.any | exact WkL.nil _ | refine WkL.eq rfl ?_ | refine WkL.bool rfl ?_)) (by cbv; exact ⟨rfl⟩) ?_ ?_)
      · exact hat.no (hb.symm.trans b2)
      · exact hat.mu
  · repeat (first
      | refine OK.drawn (by decide +kernel) ?_
      | refine OK.tree ⟨lookT tis, fun _ => true, []⟩ (by decide +kernel) ?_
      | refine OK.need (by first | assumption | (rw [hA]; first | (show (_ : Int) ≠ _; decide) | (show (0 : Int) ≤ _; decide) | (show (0 : Int) ≤ _ ∧ _ < (256 : Int); decide))) ?_
      | (refine F.hold hA 2000 ?_; cbv))
    exact F.ret0 ⟨_, rfl, rfl, idFin hA hI b1⟩
structure AnyIs (p : Int → Bool) (l : List Int) (b : Bool) : Prop where
  yes : b = true ↔ ∃ c ∈ l, p c = true
theorem anyIs {A : Leaf} {p : Int → Bool} {l : List Int} {r : Int} (hA : A = .std) (h : IdxIs p l r) : AnyIs p l (A.cmp .geq r 0) := by
  subst hA
  refine ⟨?_⟩
  rw [← h.yes]
  show decide (0 ≤ r) = true ↔ _
  rw [decide_eq_true_eq]
theorem contains_ok (f : FuncId) (p : Int → Bool) (hf : ∀ c, FOK Try.prog C1 f (fun _ => true) [.int .i64 c] [] (fun rs H => ∃ b, rs = [.bool (.e b)] ∧ H = [] ∧ b = p c)) (l : List Int) (hl : l.length ≤ 100000) :
    FOK Try.prog C1 28 (fun _ => true) [.ro (.ints .i64 l), .fn f []] [] (fun rs H => ∃ b, rs = [.bool (.e b)] ∧ H = [] ∧ AnyIs p l b) := by
  refine fok_of (B := ⟨lookT tis, fun _ => true, []⟩) (tab1 _) (zero1 _) cod1 mix1 Try.func28 (by kernel_rfl) rfl rfl rfl fun X F => ?_
  obtain ⟨A, hA⟩ : ∃ A, A = Leaf.std := ⟨_, rfl⟩
  refine F.hold hA 2000 ?_
  cbv
  repeat (first
    | refine OK.drawn (by decide +kernel) ?_
    | refine OK.tree ⟨lookT tis, fun _ => true, []⟩ (by decide +kernel) ?_
    | refine OK.need (by first | assumption | (rw [hA]; first | (show (_ : Int) ≠ _; decide) | (show (0 : Int) ≤ _; decide) | (show (0 : Int) ≤ _ ∧ _ < (256 : Int); decide))) ?_
    | (refine F.hold hA 2000 ?_; cbv))
  refine F.call [] (index_ok f p hf l hl) rfl rfl rfl fun rs H' hq => ?_
  obtain ⟨r, rfl, rfl, hr⟩ := hq
  refine ⟨rfl, ?_⟩
  repeat (first
    | refine OK.drawn (by decide +kernel) ?_
    | refine OK.tree ⟨lookT tis, fun _ => true, []⟩ (by decide +kernel) ?_
    | refine OK.need (by first | assumption | (rw [hA]; first | (show (_ : Int) ≠ _; decide) | (show (0 : Int) ≤ _; decide) | (show (0 : Int) ≤ _ ∧ _ < (256 : Int); decide))) ?_
    | (refine F.hold hA 2000 ?_; cbv))
  exact F.retE rfl ⟨_, rfl, rfl, anyIs hA hr⟩
def outP (c : Int) : Bool := decide (c < 0) || decide (1099511627776 < c)
theorem outB_ok (c : Int) : FOK Try.prog C1 35 (fun _ => true) [.int .i64 c] [] (fun rs H => ∃ b, rs = [.bool (.e b)] ∧ H = [] ∧ b = outP c) := by
  refine fok_of (B := ⟨lookT tis, fun _ => true, []⟩) (tab1 _) (zero1 _) cod1 mix1 Try.func35 (by kernel_rfl) rfl rfl rfl fun X F => ?_
  obtain ⟨A, hA⟩ : ∃ A, A = Leaf.std := ⟨_, rfl⟩
  refine F.hold hA 2000 ?_
  cbv
  repeat' (first
    | refine OK.drawn (by decide +kernel) ?_
    | refine OK.tree ⟨lookT tis, fun _ => true, []⟩ (by decide +kernel) ?_
    | refine OK.both ?_ ?_
    | refine OK.need (by first | assumption | (rw [hA]; first | (show (_ : Int) ≠ _; decide) | (show (0 : Int) ≤ _; decide) | (show (0 : Int) ≤ _ ∧ _ < (256 : Int); decide))) ?_
    | refine OK.need ?_ ?_
    | (refine OK.branch ?_ ?_ <;> intro h)
    | (refine F.hold hA 2000 ?_; cbv))
  all_goals (refine F.retE rfl ⟨_, rfl, rfl, ?_⟩)
  · subst hA
    have h : decide (c < 0) = true := by assumption
    unfold outP; rw [h]; rfl
  · subst hA
    have h : decide (c < 0) = false := by assumption
    unfold outP; rw [h]; rfl
structure WrongIs (counts : List Int) (limit : Int) (b : Bool) : Prop where
  yes : b = true ↔ 320 < counts.length ∨ (∃ c ∈ counts, outP c = true) ∨ limit < 1 ∨ 15 < limit
theorem wrong1 {A : Leaf} (hA : A = .std) {counts : List Int} {limit : Int} (b1 : A.cmp .gtr (A.len counts) 320 = true) : WrongIs counts limit true := by
  subst hA
  have b1 : (320 : Int) < (counts.length : Int) := of_decide_eq_true b1
  exact ⟨⟨fun _ => .inl (by omega), fun _ => rfl⟩⟩
theorem wrong2 {counts : List Int} {limit : Int} {b : Bool} (hb : AnyIs outP counts b) (b2 : b = true) : WrongIs counts limit true :=
  ⟨⟨fun _ => .inr (.inl (hb.yes.1 b2)), fun _ => rfl⟩⟩
theorem wrong3 {A : Leaf} (hA : A = .std) {counts : List Int} {limit : Int} (b3 : A.cmp .lss limit 1 = true) : WrongIs counts limit true := by
  subst hA
  have b3 : limit < 1 := of_decide_eq_true b3
  exact ⟨⟨fun _ => .inr (.inr (.inl b3)), fun _ => rfl⟩⟩
theorem wrong4 {A : Leaf} (hA : A = .std) {counts : List Int} {limit : Int} {b : Bool} (b1 : A.cmp .gtr (A.len counts) 320 = false) (hb : AnyIs outP counts b) (b2 : b = false) (b3 : A.cmp .lss limit 1 = false) : WrongIs counts limit (A.cmp .gtr limit 15) := by
  subst hA
  have b1 : ¬ (320 : Int) < (counts.length : Int) := of_decide_eq_false b1
  have b3 : ¬ limit < 1 := of_decide_eq_false b3
  refine ⟨?_⟩
  show decide (15 < limit) = true ↔ _
  rw [decide_eq_true_eq]
  constructor
  · intro h; exact .inr (.inr (.inr h))
  · rintro (h | h | h | h)
    · omega
    · rw [hb.yes.2 h] at b2; cases b2
    · omega
    · exact h
theorem wrong_ok (counts : List Int) (limit : Int) (hl : counts.length ≤ 100000) : FOK Try.prog C1 21 (fun _ => true) [.ro (.ints .i64 counts), .int .i64 limit] [] (fun rs H => ∃ b, rs = [.bool (.e b)] ∧ H = [] ∧ WrongIs counts limit b) := by
  refine fok_of (B := ⟨lookT tis, fun _ => true, []⟩) (tab1 _) (zero1 _) cod1 mix1 Try.func21 (by kernel_rfl) rfl rfl rfl fun X F => ?_
  obtain ⟨A, hA⟩ : ∃ A, A = Leaf.std := ⟨_, rfl⟩
  refine F.hold hA 2000 ?_
  cbv
  repeat (first
    | refine OK.drawn (by decide +kernel) ?_
    | refine OK.tree ⟨lookT tis, fun _ => true, []⟩ (by decide +kernel) ?_
    | refine OK.need (by first | assumption | (rw [hA]; first | (show (_ : Int) ≠ _; decide) | (show (0 : Int) ≤ _; decide) | (show (0 : Int) ≤ _ ∧ _ < (256 : Int); decide))) ?_
    | (refine F.hold hA 2000 ?_; cbv))
  refine OK.branch (fun b1 => ?_) (fun b1 => ?_)
  · repeat' (first
      | refine OK.drawn (by decide +kernel) ?_
      | refine OK.tree ⟨lookT tis, fun _ => true, []⟩ (by decide +kernel) ?_
      | refine OK.both ?_ ?_
      | refine OK.need (by first | assumption | (rw [hA]; first | (show (_ : Int) ≠ _; decide) | (show (0 : Int) ≤ _; decide) | (show (0 : Int) ≤ _ ∧ _ < (256 : Int); decide))) ?_
      | refine OK.need ?_ ?_
      | (refine OK.branch ?_ ?_ <;> intro h)
      | (refine F.hold hA 2000 ?_; cbv))
    all_goals (refine F.retE rfl ⟨_, rfl, rfl, ?_⟩)
    all_goals exact wrong1 hA b1
  · repeat (first
      | refine OK.drawn (by decide +kernel) ?_
      | refine OK.tree ⟨lookT tis, fun _ => true, []⟩ (by decide +kernel) ?_
      | refine OK.need (by first | assumption | (rw [hA]; first | (show (_ : Int) ≠ _; decide) | (show (0 : Int) ≤ _; decide) | (show (0 : Int) ≤ _ ∧ _ < (256 : Int); decide))) ?_
      | (refine F.hold hA 2000 ?_; cbv))
    refine F.call [] (contains_ok _ outP outB_ok counts hl) rfl rfl rfl fun rs H' hq => ?_
    obtain ⟨b, rfl, rfl, hb⟩ := hq
    refine ⟨rfl, ?_⟩
    repeat (first
      | refine OK.drawn (by decide +kernel) ?_
      | refine OK.tree ⟨lookT tis, fun _ => true, []⟩ (by decide +kernel) ?_
      | refine OK.need (by first | assumption | (rw [hA]; first | (show (_ : Int) ≠ _; decide) | (show (0 : Int) ≤ _; decide) | (show (0 : Int) ≤ _ ∧ _ < (256 : Int); decide))) ?_
      | (refine F.hold hA 2000 ?_; cbv))
    refine OK.branch (fun b2 => ?_) (fun b2 => ?_)
    · repeat' (first
        | refine OK.drawn (by decide +kernel) ?_
        | refine OK.tree ⟨lookT tis, fun _ => true, []⟩ (by decide +kernel) ?_
        | refine OK.both ?_ ?_
        | refine OK.need (by first | assumption | (rw [hA]; first | (show (_ : Int) ≠ _; decide) | (show (0 : Int) ≤ _; decide) | (show (0 : Int) ≤ _ ∧ _ < (256 : Int); decide))) ?_
        | refine OK.need ?_ ?_
        | (refine OK.branch ?_ ?_ <;> intro h)
        | (refine F.hold hA 2000 ?_; cbv))
      all_goals (refine F.retE rfl ⟨_, rfl, rfl, ?_⟩)
      all_goals exact wrong2 hb b2
    · repeat (first
        | refine OK.drawn (by decide +kernel) ?_
        | refine OK.tree ⟨lookT tis, fun _ => true, []⟩ (by decide +kernel) ?_
        | refine OK.need (by first | assumption | (rw [hA]; first | (show (_ : Int) ≠ _; decide) | (show (0 : Int) ≤ _; decide) | (show (0 : Int) ≤ _ ∧ _ < (256 : Int); decide))) ?_
        | (refine F.hold hA 2000 ?_; cbv))
      refine OK.branch (fun b3 => ?_) (fun b3 => ?_)
      · repeat' (first
          | refine OK.drawn (by decide +kernel) ?_
          | refine OK.tree ⟨lookT tis, fun _ => true, []⟩ (by decide +kernel) ?_
          | refine OK.both ?_ ?_
          | refine OK.need (by first | assumption | (rw [hA]; first | (show (_ : Int) ≠ _; decide) | (show (0 : Int) ≤ _; decide) | (show (0 : Int) ≤ _ ∧ _ < (256 : Int); decide))) ?_
          | refine OK.need ?_ ?_
          | (refine OK.branch ?_ ?_ <;> intro h)
          | (refine F.hold hA 2000 ?_; cbv))
        all_goals (refine F.retE rfl ⟨_, rfl, rfl, ?_⟩)
        all_goals exact wrong3 hA b3
      · repeat' (first
          | refine OK.drawn (by decide +kernel) ?_
          | refine OK.tree ⟨lookT tis, fun _ => true, []⟩ (by decide +kernel) ?_
          | refine OK.both ?_ ?_
          | refine OK.need (by first | assumption | (rw [hA]; first | (show (_ : Int) ≠ _; decide) | (show (0 : Int) ≤ _; decide) | (show (0 : Int) ≤ _ ∧ _ < (256 : Int); decide))) ?_
          | refine OK.need ?_ ?_
          | (refine OK.branch ?_ ?_ <;> intro h)
          | (refine F.hold hA 2000 ?_; cbv))
        all_goals (refine F.retE rfl ⟨_, rfl, rfl, ?_⟩)
        all_goals exact wrong4 hA b1 hb b2 b3
end Go.L1

-- S18
namespace Go.L1
open Go Go.Sx Go.Proofs Go.L5
set_option maxRecDepth 20000
set_option linter.unusedVariables false
set_option linter.unusedSimpArgs false
def WrongB (counts : List Int) (limit : Int) : Prop := 320 < counts.length ∨ (∃ c ∈ counts, outP c = true) ∨ limit < 1 ∨ 15 < limit
def lensAll (cs : List Coin) (d len : Nat) : List Int := if cs.length = 1 then (List.replicate len (0 : Int)).set (cs.getD 0 d0).sym.toNat 1 else lensOf cs d len
structure BuildIs (counts : List Int) (limit : Int) (l : List Int) (e : Int) : Prop where
  wr : WrongB counts limit → e = 11 ∧ l = []
  ok : ¬ WrongB counts limit → ∃ cs, IsCoins counts cs ∧ (2 ^ limit.toNat < cs.length → e = 14 ∧ l = []) ∧ (cs.length ≤ 2 ^ limit.toNat → e = 0 ∧ l = lensAll cs limit.toNat counts.length)
theorem nil_den {C : Cod T1} {M : Mem} {v : Value} (h : DenV C M (.val (.slice none 0 0)) v) : DenV C M (.ro (.ints .i64 [])) v := by
  have h : Den C M [.val (.slice none 0 0)] [v] := h
  show Den C M [.ro (.ints .i64 [])] [v]
  cases h with
  | val _ _ hm => exact .ro (.ints .i64 []) none 0 [] (by simp [Row.length]) (Nat.le_refl _) (fun h => absurd h (by decide)) (fun i e he => by cases he) .nil
theorem nil_den6 {C : Cod T1} {M : Mem} {v : Value} (h : DenV C M (.val (.slice none 0 0)) v) : DenV C M (.ro (.recs 6 [])) v := by
  have h : Den C M [.val (.slice none 0 0)] [v] := h
  show Den C M [.ro (.recs 6 [])] [v]
  cases h with
  | val _ _ hm => exact .ro (.recs 6 []) none 0 [] (by simp [Row.length]) (Nat.le_refl _) (fun h => absurd h (by decide)) (fun i e he => by cases he) .nil
structure BuQ (A : Leaf) (counts : List Int) (limit : Int) : Prop where
  q1 : A.small (A.len counts) 8
  q2 : A.slb 0 (A.len counts) (A.len counts)
  q3 : A.nn limit
  lo : 1 ≤ limit
  hi : limit ≤ 15
  n : counts.length ≤ 320
  z : A.rep (A.len counts) (0 : Int) = List.replicate counts.length 0
  pos : ∀ c ∈ counts, 0 ≤ c ∧ c ≤ 1099511627776
theorem buQ {A : Leaf} {counts : List Int} {limit : Int} (hA : A = .std) (h : ¬ WrongB counts limit) : BuQ A counts limit := by
  subst hA
  unfold WrongB at h
  have h1 : counts.length ≤ 320 := Nat.le_of_not_lt fun h2 => h (.inl h2)
  have h2 : 1 ≤ limit := Int.not_lt.1 fun h2 => h (.inr (.inr (.inl h2)))
  have h3 : limit ≤ 15 := Int.not_lt.1 fun h2 => h (.inr (.inr (.inr h2)))
  refine ⟨small_of (l := counts) (by omega), ?_, ?_, h2, h3, h1, ?_, fun c hc => ?_⟩
  · show (0 : Int) ≤ 0 ∧ (0 : Int) ≤ (counts.length : Int) ∧ (counts.length : Int) ≤ (counts.length : Int); omega
  · show (0 : Int) ≤ limit; omega
  · show List.replicate (counts.length : Int).toNat (0 : Int) = _
    rw [Int.toNat_natCast]
  · have : ¬ outP c = true := fun h4 => h (.inr (.inl ⟨c, hc, h4⟩))
    unfold outP at this
    rw [Bool.or_eq_true, decide_eq_true_eq, decide_eq_true_eq] at this
    omega
theorem shl_lim {limit : Int} (h1 : 1 ≤ limit) (h2 : limit ≤ 15) : Leaf.std.ar .shl .i64 1 limit = ((2 ^ limit.toNat : Nat) : Int) := by
  have hp : (2 : Nat) ^ limit.toNat ≤ 2 ^ 15 := Nat.pow_le_pow_right (by decide) (by omega)
  have hc : ((2 ^ limit.toNat : Nat) : Int) = 1 * (2 : Int) ^ limit.toNat := by rw [Int.one_mul]; exact Int.natCast_pow 2 _
  obtain ⟨p, hpe⟩ : ∃ p : Nat, p = 2 ^ limit.toNat := ⟨_, rfl⟩
  rw [← hpe] at hp hc ⊢
  have := l_shl_i64 (a := 1) (b := limit) (by omega) (by omega) (by rw [← hc]; omega) (by rw [← hc]; omega)
  rw [hc]
  exact this
theorem many_of {A : Leaf} {counts : List Int} {limit : Int} {cs : List Coin} (hA : A = .std) (hq : BuQ A counts limit) (b : A.cmp .gtr (A.len cs) (A.ar .shl .i64 1 limit) = true) : 2 ^ limit.toNat < cs.length := by
  subst hA
  rw [shl_lim hq.lo hq.hi] at b
  have b : ((2 ^ limit.toNat : Nat) : Int) < (cs.length : Int) := of_decide_eq_true b
  omega
theorem few_of {A : Leaf} {counts : List Int} {limit : Int} {cs : List Coin} (hA : A = .std) (hq : BuQ A counts limit) (b : A.cmp .gtr (A.len cs) (A.ar .shl .i64 1 limit) = false) : cs.length ≤ 2 ^ limit.toNat := by
  subst hA
  rw [shl_lim hq.lo hq.hi] at b
  have b : ¬ ((2 ^ limit.toNat : Nat) : Int) < (cs.length : Int) := of_decide_eq_false b
  omega
structure BuOne (A : Leaf) (counts : List Int) (limit : Int) (cs : List Coin) : Prop where
  q1 : A.inb 0 (A.len cs)
  q2 : A.inb (A.get (Coin.node 0 0 []) cs 0).sym (A.len (A.rep (A.len counts) (0 : Int)))
  fin : BuildIs counts limit (A.set (A.rep (A.len counts) (0 : Int)) (A.get (Coin.node 0 0 []) cs 0).sym 1) 0
theorem buOne {A : Leaf} {counts : List Int} {limit : Int} {cs : List Coin} (hA : A = .std) (hnw : ¬ WrongB counts limit) (hq : BuQ A counts limit) (hcs : IsCoins counts cs) (hf : cs.length ≤ 2 ^ limit.toNat) (b : A.cmp .eql (A.len cs) 1 = true) : BuOne A counts limit cs := by
  subst hA
  have b : ((cs.length : Int) == 1) = true := b
  rw [beq_iff_eq] at b
  have hall := hcs.all
  have hz := hq.z
  have hn := hq.n
  have hl : cs.length = 1 := by omega
  match cs, hl, hall, hcs, hf with
  | [x], _, hall, hcs, hf =>
    obtain ⟨t, c, h1, h2, rfl⟩ := (hall.mem x).1 (by simp)
    have ht := (List.getElem?_eq_some_iff.1 h1).1
    refine ⟨⟨by decide, by show (0 : Int) < ((1 : Nat) : Int); decide⟩, ⟨?_, ?_⟩, ⟨fun h => absurd h hnw, fun _ => ⟨_, hcs, fun h => absurd h (Nat.not_lt.2 hf), fun _ => ⟨rfl, ?_⟩⟩⟩⟩
    · show (0 : Int) ≤ (t : Int); omega
    · show (t : Int) < (((Leaf.std.rep (Leaf.std.len counts) (0 : Int)).length : Nat) : Int)
      rw [hz, List.length_replicate]; omega
    · unfold lensAll
      have h1 : ([Coin.node c t []] : List Coin).length = 1 := rfl
      rw [if_pos h1]
      show (Leaf.std.rep (Leaf.std.len counts) (0 : Int)).set _ 1 = _
      rw [hz]; rfl
theorem notOne_len {A : Leaf} {cs : List Coin} {k : Nat} (hA : A = .std) (b : A.cmp .eql (A.len cs) (k : Int) = false) : cs.length ≠ k := by
  subst hA
  have b : ((cs.length : Int) == (k : Int)) = false := b
  rw [beq_eq_false_iff_ne] at b
  omega
theorem isZero_len {A : Leaf} {cs : List Coin} (hA : A = .std) (b : A.cmp .eql (A.len cs) 0 = true) : cs = [] := by
  subst hA
  have b : ((cs.length : Int) == 0) = true := b
  rw [beq_iff_eq] at b
  exact List.length_eq_zero_iff.1 (by omega)
theorem lensOf_nil (d len : Nat) : lensOf [] d len = List.replicate len 0 := by
  unfold lensOf
  refine List.ext_getElem? fun t => ?_
  rw [List.getElem?_map, List.getElem?_replicate]
  split
  · rename_i h
    rw [List.getElem?_range h]
    simp [symsL]
  · rename_i h
    rw [List.getElem?_eq_none (by rw [List.length_range]; omega)]; rfl
theorem buZero {A : Leaf} {counts : List Int} {limit : Int} {cs : List Coin} (hnw : ¬ WrongB counts limit) (hq : BuQ A counts limit) (hcs : IsCoins counts cs) (h0 : cs = []) : BuildIs counts limit (A.rep (A.len counts) (0 : Int)) 0 := by
  subst h0
  refine ⟨fun h => absurd h hnw, fun _ => ⟨_, hcs, fun h => absurd h (by simp), fun _ => ⟨rfl, ?_⟩⟩⟩
  rw [hq.z]
  unfold lensAll
  rw [if_neg (by decide), lensOf_nil]
/-- The rows. -/
structure RwI (cs : List Coin) (row : List Coin) (i : Int) (d : Nat) (limit : Int) : Prop where
  ei : i = (d : Int)
  le : (d : Int) ≤ limit
  row : row = rows cs d
def RwW (cs : List Coin) (limit : Int) (w : List Coin × Int) : Prop := ∃ d, RwI cs w.1 w.2 d limit
structure CoB (counts : List Int) (cs : List Coin) : Prop where
  all : Coins counts cs
  n : cs.length ≤ 320
  n2 : 2 ≤ cs.length
  w : ∀ c ∈ cs, 0 ≤ c.wt ∧ c.wt ≤ 1099511627776
theorem coB {A : Leaf} {counts : List Int} {limit : Int} {cs : List Coin} (hq : BuQ A counts limit) (hcs : IsCoins counts cs) (h0 : cs.length ≠ 0) (h1 : cs.length ≠ 1) : CoB counts cs := by
  have hall := hcs.all
  refine ⟨hall, ?_, by omega, fun c hc => ?_⟩
  · have h1 := hall.perm.length_eq
    have h2 := leaves_len counts 0
    have := hq.n
    omega
  · obtain ⟨t, c', h1, h2, rfl⟩ := (hall.mem c).1 hc
    have := hq.pos c' (List.mem_of_getElem? h1)
    exact ⟨this.1, this.2⟩
theorem wtB_rows {counts : List Int} {cs : List Coin} (h : CoB counts cs) {d : Nat} (hd : d ≤ 15) : WtB (rows cs d) := ⟨fun y hy => by
  have h1 := rows_wt h.w d y hy
  have h2 : (1099511627776 : Int) * 2 ^ d ≤ 1099511627776 * 2 ^ 15 := Int.mul_le_mul_of_nonneg_left (by
    have : (2 : Nat) ^ d ≤ 2 ^ 15 := Nat.pow_le_pow_right (by decide) hd
    exact_mod_cast this) (by decide)
  have h3 : (1099511627776 : Int) * 2 ^ 15 = 36028797018963968 := by decide
  omega⟩
structure RwAt (A : Leaf) (cs : List Coin) (limit : Int) (row : List Coin) (i : Int) : Prop where
  l : row.length ≤ 2000
  w : WtB row
  cc : ∀ ys, PrsIs row ys → CcP [cs, ys]
  so : ∀ ys zs, PrsIs row ys → FlatIs [cs, ys] zs → zs.length ≤ 1000
  nx : ∀ ys zs r2, PrsIs row ys → FlatIs [cs, ys] zs → SoOut zs r2 → RwW cs limit (r2, A.ar .add .i64 i 1)
  mu : (limit - A.ar .add .i64 i 1).toNat < (limit - i).toNat
theorem rwAt {A : Leaf} {counts : List Int} {limit : Int} {cs row : List Coin} {i : Int} (hA : A = .std) (hq : BuQ A counts limit) (hc : CoB counts cs) (hI : RwW cs limit (row, i)) (b : A.cmp .lss i limit = true) : RwAt A cs limit row i := by
  obtain ⟨d, h1, h2, h3⟩ := hI
  simp only at h1 h3
  have hlo := hq.lo
  have hhi := hq.hi
  subst hA h1 h3
  have b : (d : Int) < limit := of_decide_eq_true b
  have hn := hc.n
  have hn2 := hc.n2
  have hlen := rows_len2 cs d
  have e : Leaf.std.ar .add .i64 (d : Int) 1 = ((d + 1 : Nat) : Int) := by rw [add_i64 (by omega) (by omega)]; omega
  refine ⟨by omega, wtB_rows hc (by omega), fun ys hy => ?_, fun ys zs hy hz => ?_, fun ys zs r2 hy hz hr => ?_, by rw [e]; omega⟩
  · have := prs_length (rows cs d)
    rw [← hy.e] at this
    refine ⟨by show 2 ≤ 100; decide, ?_, ?_⟩ <;> (unfold sumN; simp only [List.map_cons, List.map_nil, List.sum_cons, List.sum_nil]; omega)
  · have := prs_length (rows cs d)
    rw [← hy.e] at this
    rw [hz.e]
    simp only [List.flatten_cons, List.flatten_nil, List.append_nil, List.length_append]
    omega
  · rw [e]
    refine ⟨d + 1, rfl, by omega, ?_⟩
    have h4 := hr.s
    rw [hz.e, hy.e] at h4
    simp only [List.flatten_cons, List.flatten_nil, List.append_nil] at h4
    exact h4.uniq (rows_stab hc.all.rise d)
theorem rwFin {A : Leaf} {limit : Int} {cs row : List Coin} {i : Int} (hA : A = .std) (hlo : 1 ≤ limit) (hI : RwW cs limit (row, i)) (b : A.cmp .lss i limit = false) : row = rows cs limit.toNat := by
  obtain ⟨d, h1, h2, h3⟩ := hI
  simp only at h1 h3
  subst hA h1
  have b : ¬ (d : Int) < limit := of_decide_eq_false b
  rw [h3]
  congr 1
  omega
structure TkQ (A : Leaf) (cs row : List Coin) : Prop where
  q : A.slb 0 (A.ar .sub .i64 (A.ar .mul .i64 2 (A.len cs)) 2) (A.len row)
  e : A.sub row 0 (A.ar .sub .i64 (A.ar .mul .i64 2 (A.len cs)) 2) = row.take (2 * cs.length - 2)
theorem tkQ {A : Leaf} {counts : List Int} {limit : Int} {cs row : List Coin} (hA : A = .std) (hq : BuQ A counts limit) (hc : CoB counts cs) (hf : cs.length ≤ 2 ^ limit.toNat) (hr : row = rows cs limit.toNat) : TkQ A cs row := by
  have hlo := hq.lo
  have hn := hc.n
  have hn2 := hc.n2
  subst hA hr
  have e1 : Leaf.std.ar .mul .i64 2 (Leaf.std.len cs) = 2 * (cs.length : Int) := mul_i64 (by show _ ≤ 2 * (cs.length : Int); omega) (by show 2 * (cs.length : Int) ≤ _; omega)
  have e2 : Leaf.std.ar .sub .i64 (Leaf.std.ar .mul .i64 2 (Leaf.std.len cs)) 2 = ((2 * cs.length - 2 : Nat) : Int) := by rw [e1, sub_i64 (by omega) (by omega)]; omega
  have h1 := rows_has cs (by omega) (d := limit.toNat) (by omega) hf
  refine ⟨?_, ?_⟩
  · rw [e2]
    show (0 : Int) ≤ 0 ∧ (0 : Int) ≤ ((2 * cs.length - 2 : Nat) : Int) ∧ ((2 * cs.length - 2 : Nat) : Int) ≤ ((rows cs limit.toNat).length : Int)
    omega
  · rw [e2]
    show ((rows cs limit.toNat).drop (0 : Int).toNat).take (((2 * cs.length - 2 : Nat) : Int) - 0).toNat = _
    rw [show (((2 * cs.length - 2 : Nat) : Int) - 0).toNat = 2 * cs.length - 2 by omega]
    rfl
/-- The symbols are counted. -/
structure CnP (z : List Int) (tk : List Coin) : Prop where
  p : EachP z (symsL tk)
  n : tk.length ≤ 1000
  f : ∀ x ∈ tk, Fit x
theorem fit_rows {cs : List Coin} (h : ∀ c ∈ cs, c.kids = []) : ∀ d, ∀ y ∈ rows cs d, Fit y
  | 0, y, hy => by cases hy
  | d + 1, y, hy => by
    rcases (rows_mem cs d y).1 hy with hy | hy
    · have := h y hy
      cases y with
      | node w s k =>
        have this : k = [] := this
        subst this
        exact .mk (by simp) (fun x hx => by cases hx)
    · obtain ⟨a, b, ha, hb, rfl⟩ := prs_mem _ _ hy
      refine .mk (by simp) (fun x hx => ?_)
      rcases List.mem_cons.1 hx with rfl | hx
      · exact fit_rows h d _ ha
      · rw [List.mem_singleton] at hx
        subst hx
        exact fit_rows h d _ hb
theorem cnP {A : Leaf} {counts : List Int} {limit : Int} {cs row : List Coin} (hA : A = .std) (hq : BuQ A counts limit) (hc : CoB counts cs) (hr : row = rows cs limit.toNat) (ht : TkQ A cs row) : CnP (A.rep (A.len counts) (0 : Int)) (A.sub row 0 (A.ar .sub .i64 (A.ar .mul .i64 2 (A.len cs)) 2)) := by
  rw [ht.e, hq.z, hr]
  have hn := hc.n
  have hhi := hq.hi
  have hlen := rows_len2 cs limit.toNat
  have hlf := hc.all.leaf
  have hcn := hq.n
  refine ⟨⟨fun s hs => ?_, fun v hv => ?_, by rw [List.length_replicate]; omega⟩, by rw [List.length_take]; omega, fun x hx => fit_rows hlf _ _ (List.mem_of_mem_take hx)⟩
  · obtain ⟨y, hy, hs⟩ := symsL_mem.1 hs
    obtain ⟨x, hx, rfl⟩ := rows_syms hlf _ y (List.mem_of_mem_take hy) s hs
    obtain ⟨t, c, h1, h2, rfl⟩ := (hc.all.mem x).1 hx
    have := (List.getElem?_eq_some_iff.1 h1).1
    rw [List.length_replicate]
    show 0 ≤ (t : Int) ∧ (t : Int) < _
    omega
  · rw [List.mem_replicate] at hv
    rw [hv.2]
    have h1 := symsL_len (l := (rows cs limit.toNat).take (2 * cs.length - 2)) (n := 2 ^ 15) fun y hy => Nat.le_trans (rows_symlen hlf _ y (List.mem_of_mem_take hy)) (Nat.pow_le_pow_right (by decide) (by omega))
    have h2 : ((rows cs limit.toNat).take (2 * cs.length - 2)).length * 2 ^ 15 ≤ 640 * 2 ^ 15 := Nat.mul_le_mul_right _ (by rw [List.length_take]; omega)
    omega
theorem cnFin {A : Leaf} {counts : List Int} {limit : Int} {cs row : List Coin} {l : List Int} (hnw : ¬ WrongB counts limit) (hq : BuQ A counts limit) (hc : CoB counts cs) (hcs : IsCoins counts cs) (hf : cs.length ≤ 2 ^ limit.toNat) (hr : row = rows cs limit.toNat) (ht : TkQ A cs row)
    (h : EachOut (A.rep (A.len counts) (0 : Int)) (symsL (A.sub row 0 (A.ar .sub .i64 (A.ar .mul .i64 2 (A.len cs)) 2))) l) : BuildIs counts limit l 0 := by
  refine ⟨fun h => absurd h hnw, fun _ => ⟨_, hcs, fun h => absurd h (Nat.not_lt.2 hf), fun _ => ⟨rfl, ?_⟩⟩⟩
  have hn2 := hc.n2
  unfold lensAll
  rw [if_neg (by omega)]
  rw [ht.e, hq.z, hr] at h
  refine List.ext_getElem? fun t => ?_
  rcases Nat.lt_or_ge t counts.length with h1 | h1
  · rw [h.at_ t 0 (by rw [List.getElem?_replicate, if_pos h1]), lensOf_get h1, Int.zero_add]
  · rw [List.getElem?_eq_none (by rw [h.len, List.length_replicate]; exact h1), List.getElem?_eq_none (by rw [lensOf_length]; exact h1)]
theorem eaIni {z : List Int} {tk : List Coin} : EaW z tk (z, 0) := ⟨0, rfl, Nat.zero_le _, by rw [List.take_zero, symsL]; exact .refl _⟩
theorem mu2 {A : Leaf} (hA : A = .std) {z l : List Int} {tk : List Coin} {j : Int} (hn : tk.length ≤ 1000) (hI : EaW z tk (l, j)) (b : A.cmp .lss j (A.len tk) = true) : (2000 - A.ar .add .i64 j 1).toNat < (2000 - j).toNat := by
  obtain ⟨k, h1, h2, h3⟩ := hI
  simp only at h1
  subst hA h1
  have b : (k : Int) < (tk.length : Int) := of_decide_eq_true b
  rw [add_i64 (by omega) (by omega)]
  omega
theorem build_ok (counts : List Int) (limit : Int) (hl : counts.length ≤ 400) : FOK Try.prog C1 9 (fun _ => false) [.ro (.ints .i64 counts), .int .i64 limit] []
    (fun rs H => ∃ l e, rs = [.ro (.ints .i64 l), .int .i64 e] ∧ H = [] ∧ BuildIs counts limit l e) := by
  refine fok_of (B := ⟨lookT tis, fun _ => false, []⟩) (tab1 _) (zero1 _) cod1 mix1 Try.func9 (by kernel_rfl) rfl rfl rfl fun X F => ?_
  obtain ⟨A, hA⟩ : ∃ A, A = Leaf.std := ⟨_, rfl⟩
  refine F.hold hA 2000 ?_
  cbv
  repeat (first
    | refine OK.drawn (by decide +kernel) ?_
    | refine OK.tree ⟨lookT tis, fun _ => true, []⟩ (by decide +kernel) ?_
    | refine OK.need (by first | assumption | (rw [hA]; first | (show (_ : Int) ≠ _; decide) | (show (0 : Int) ≤ _; decide) | (show (0 : Int) ≤ _ ∧ _ < (256 : Int); decide))) ?_
    | (refine F.hold hA 2000 ?_; cbv))
  refine F.call [] (wrong_ok counts limit (by omega)) rfl rfl rfl fun rs H' hq => ?_
  obtain ⟨b, rfl, rfl, hb⟩ := hq
  refine ⟨rfl, ?_⟩
  repeat (first
    | refine OK.drawn (by decide +kernel) ?_
    | refine OK.tree ⟨lookT tis, fun _ => true, []⟩ (by decide +kernel) ?_
    | refine OK.need (by first | assumption | (rw [hA]; first | (show (_ : Int) ≠ _; decide) | (show (0 : Int) ≤ _; decide) | (show (0 : Int) ≤ _ ∧ _ < (256 : Int); decide))) ?_
    | (refine F.hold hA 2000 ?_; cbv))
  refine OK.branch (fun b1 => ?_) (fun b1 => ?_)
  · repeat (first
      | refine OK.drawn (by decide +kernel) ?_
      | refine OK.tree ⟨lookT tis, fun _ => true, []⟩ (by decide +kernel) ?_
      | refine OK.need (by first | assumption | (rw [hA]; first | (show (_ : Int) ≠ _; decide) | (show (0 : Int) ≤ _; decide) | (show (0 : Int) ≤ _ ∧ _ < (256 : Int); decide))) ?_
      | (refine F.hold hA 2000 ?_; cbv))
    exact F.ret (rs' := [.ro (.ints .i64 []), .int .i64 11]) (H' := []) (Cv.slot 0 rfl fun M v h => nil_den h) rfl ⟨_, _, rfl, rfl, ⟨fun _ => ⟨rfl, rfl⟩, fun h => absurd (hb.yes.1 b1) h⟩⟩
  · have hnw : ¬ WrongB counts limit := fun h => by rw [hb.yes.2 h] at b1; cases b1
    repeat (first
      | refine OK.drawn (by decide +kernel) ?_
      | refine OK.tree ⟨lookT tis, fun _ => true, []⟩ (by decide +kernel) ?_
      | refine OK.need (by first | assumption | (rw [hA]; first | (show (_ : Int) ≠ _; decide) | (show (0 : Int) ≤ _; decide) | (show (0 : Int) ≤ _ ∧ _ < (256 : Int); decide))) ?_
      | (refine F.hold hA 2000 ?_; cbv))
    refine F.call [] (single_ok counts hl) rfl rfl rfl fun rs H' hq => ?_
    obtain ⟨cs, rfl, rfl, hcs⟩ := hq
    refine ⟨rfl, ?_⟩
    refine Holds.cv (Cv.freeze F.cod 0 rfl) ?_
    have hq := buQ hA hnw
    have q1 := hq.q1
    have q2 := hq.q2
    have q3 := hq.q3
    repeat (first
      | refine OK.drawn (by decide +kernel) ?_
      | refine OK.tree ⟨lookT tis, fun _ => true, []⟩ (by decide +kernel) ?_
      | refine OK.need (by first | assumption | (rw [hA]; first | (show (_ : Int) ≠ _; decide) | (show (0 : Int) ≤ _; decide) | (show (0 : Int) ≤ _ ∧ _ < (256 : Int); decide))) ?_
      | (refine F.hold hA 2000 ?_; cbv))
    refine OK.branch (fun b2 => ?_) (fun b2 => ?_)
    · have hm := many_of hA hq b2
      repeat (first
        | refine OK.drawn (by decide +kernel) ?_
        | refine OK.tree ⟨lookT tis, fun _ => true, []⟩ (by decide +kernel) ?_
        | refine OK.need (by first | assumption | (rw [hA]; first | (show (_ : Int) ≠ _; decide) | (show (0 : Int) ≤ _; decide) | (show (0 : Int) ≤ _ ∧ _ < (256 : Int); decide))) ?_
        | (refine F.hold hA 2000 ?_; cbv))
      exact F.ret (rs' := [.ro (.ints .i64 []), .int .i64 14]) (H' := []) (Cv.trans (Cv.slot 0 rfl fun M v h => nil_den h) (F.cv ⟨rfl⟩ (by cbv; repeat (first | apply WkL.any | exact WkL.nil _ | refine WkL.eq rfl ?_)) (WkH.nil _))) rfl ⟨_, _, rfl, rfl, ⟨fun h => absurd h hnw, fun _ => ⟨_, hcs, fun _ => ⟨rfl, rfl⟩, fun h => absurd hm (Nat.not_lt.2 h)⟩⟩⟩
    · have hf := few_of hA hq b2
      repeat (first
        | refine OK.drawn (by decide +kernel) ?_
        | refine OK.tree ⟨lookT tis, fun _ => true, []⟩ (by decide +kernel) ?_
        | refine OK.need (by first | assumption | (rw [hA]; first | (show (_ : Int) ≠ _; decide) | (show (0 : Int) ≤ _; decide) | (show (0 : Int) ≤ _ ∧ _ < (256 : Int); decide))) ?_
        | (refine F.hold hA 2000 ?_; cbv))
      refine OK.branch (fun b3 => ?_) (fun b3 => ?_)
      · have ho := buOne hA hnw hq hcs hf b3
        have q4 := ho.q1
        have q5 := ho.q2
        have hfin := ho.fin
        repeat (first
          | refine OK.drawn (by decide +kernel) ?_
          | refine OK.tree ⟨lookT tis, fun _ => true, []⟩ (by decide +kernel) ?_
          | refine OK.need (by first | assumption | (rw [hA]; first | (show (_ : Int) ≠ _; decide) | (show (0 : Int) ≤ _; decide) | (show (0 : Int) ≤ _ ∧ _ < (256 : Int); decide))) ?_
          | (refine F.hold hA 2000 ?_; cbv))
        exact F.ret (rs' := [.ro (.ints .i64 _), .int .i64 0]) (H' := []) (Cv.trans (Cv.freeze F.cod 1 rfl) (F.cv ⟨rfl⟩ (by cbv; repeat (first | apply WkL.any | exact WkL.nil _ | refine WkL.eq rfl ?_)) (WkH.nil _))) rfl ⟨_, _, rfl, rfl, hfin⟩
      · have hn1 := notOne_len (k := 1) hA b3
        repeat (first
          | refine OK.drawn (by decide +kernel) ?_
          | refine OK.tree ⟨lookT tis, fun _ => true, []⟩ (by decide +kernel) ?_
          | refine OK.need (by first | assumption | (rw [hA]; first | (show (_ : Int) ≠ _; decide) | (show (0 : Int) ≤ _; decide) | (show (0 : Int) ≤ _ ∧ _ < (256 : Int); decide))) ?_
          | (refine F.hold hA 2000 ?_; cbv))
        refine OK.branch (fun b4 => ?_) (fun b4 => ?_)
        · have hfin := buZero hnw hq hcs (isZero_len hA b4)
          repeat (first
            | refine OK.drawn (by decide +kernel) ?_
            | refine OK.tree ⟨lookT tis, fun _ => true, []⟩ (by decide +kernel) ?_
            | refine OK.need (by first | assumption | (rw [hA]; first | (show (_ : Int) ≠ _; decide) | (show (0 : Int) ≤ _; decide) | (show (0 : Int) ≤ _ ∧ _ < (256 : Int); decide))) ?_
            | (refine F.hold hA 2000 ?_; cbv))
          exact F.ret (rs' := [.ro (.ints .i64 _), .int .i64 0]) (H' := []) (Cv.trans (Cv.freeze F.cod 1 rfl) (F.cv ⟨rfl⟩ (by cbv; repeat (first | apply WkL.any | exact WkL.nil _ | refine WkL.eq rfl ?_)) (WkH.nil _))) rfl ⟨_, _, rfl, rfl, hfin⟩
        · have hn0 := notOne_len (k := 0) hA b4
          have hc := coB hq hcs hn0 hn1
          repeat (first
            | refine OK.drawn (by decide +kernel) ?_
            | refine OK.tree ⟨lookT tis, fun _ => true, []⟩ (by decide +kernel) ?_
            | refine OK.need (by first | assumption | (rw [hA]; first | (show (_ : Int) ≠ _; decide) | (show (0 : Int) ≤ _; decide) | (show (0 : Int) ≤ _ ∧ _ < (256 : Int); decide))) ?_
            | (refine F.hold hA 2000 ?_; cbv))
          refine OK.loopCv (Cv.slot 9 rfl fun M v h => nil_den6 h) ?_
          refine F.loop (V := List Coin × Int) [1, 6, 7, 43] (RwW cs limit) (fun w => (limit - w.2).toNat) (fun w => [(9, .ro (.recs 6 w.1)), (44, .int .i64 w.2)]) (fun w => []) (_, _) (by cbv; repeat (first | exact WkH.nil _ | apply WkH.gone | refine WkH.eq rfl ?_)) (by cbv; repeat (first | apply WkL.any | exact WkL.nil _ | refine WkL.eq rfl ?_ | refine WkL.bool rfl ?_)) (by cbv; exact ⟨rfl⟩) ?_ ?_
          · exact ⟨0, rfl, Int.le_trans (by decide) hq.lo, rfl⟩
          rintro ⟨row, i⟩ hI Bk hBk
          repeat (first
            | refine OK.drawn (by decide +kernel) ?_
            | refine OK.tree ⟨lookT tis, fun _ => true, []⟩ (by decide +kernel) ?_
            | refine OK.need (by first | assumption | (rw [hA]; first | (show (_ : Int) ≠ _; decide) | (show (0 : Int) ≤ _; decide) | (show (0 : Int) ≤ _ ∧ _ < (256 : Int); decide))) ?_
            | (refine F.hold hA 2000 ?_; cbv))
          refine OK.branch (fun b5 => ?_) (fun b5 => ?_)
          · have hat := rwAt hA hq hc hI b5
            repeat (first
              | refine OK.drawn (by decide +kernel) ?_
              | refine OK.tree ⟨lookT tis, fun _ => true, []⟩ (by decide +kernel) ?_
              | refine OK.need (by first | assumption | (rw [hA]; first | (show (_ : Int) ≠ _; decide) | (show (0 : Int) ≤ _; decide) | (show (0 : Int) ≤ _ ∧ _ < (256 : Int); decide))) ?_
              | (refine F.hold hA 2000 ?_; cbv))
            refine F.call [] (pairs_ok _ hat.l hat.w) rfl rfl rfl fun rs H' hq => ?_
            obtain ⟨ys, rfl, rfl, hys⟩ := hq
            refine ⟨rfl, ?_⟩
            repeat (first
              | refine OK.drawn (by decide +kernel) ?_
              | refine OK.tree ⟨lookT tis, fun _ => true, []⟩ (by decide +kernel) ?_
              | refine OK.need (by first | assumption | (rw [hA]; first | (show (_ : Int) ≠ _; decide) | (show (0 : Int) ≤ _; decide) | (show (0 : Int) ≤ _ ∧ _ < (256 : Int); decide))) ?_
              | (refine F.hold hA 2000 ?_; cbv))
            refine F.callFrz 6 rfl rfl rfl rfl ?_
            refine F.call [] (concat_ok _ (hat.cc ys hys)) rfl rfl rfl fun rs H' hq => ?_
            obtain ⟨zs, rfl, rfl, hzs⟩ := hq
            refine ⟨rfl, ?_⟩
            repeat (first
              | refine OK.drawn (by decide +kernel) ?_
              | refine OK.tree ⟨lookT tis, fun _ => true, []⟩ (by decide +kernel) ?_
              | refine OK.need (by first | assumption | (rw [hA]; first | (show (_ : Int) ≠ _; decide) | (show (0 : Int) ≤ _; decide) | (show (0 : Int) ≤ _ ∧ _ < (256 : Int); decide))) ?_
              | (refine F.hold hA 2000 ?_; cbv))
            refine F.call [7] (sort_ok _ (hat.so ys zs hys hzs)) rfl rfl rfl fun rs H' hq => ?_
            obtain ⟨r2, rfl, rfl, hr2⟩ := hq
            refine ⟨rfl, ?_⟩
            refine Holds.cv (Cv.freeze F.cod 7 rfl) ?_
            repeat (first
              | refine OK.drawn (by decide +kernel) ?_
              | refine OK.tree ⟨lookT tis, fun _ => true, []⟩ (by decide +kernel) ?_
              | refine OK.need (by first | assumption | (rw [hA]; first | (show (_ : Int) ≠ _; decide) | (show (0 : Int) ≤ _; decide) | (show (0 : Int) ≤ _ ∧ _ < (256 : Int); decide))) ?_
              | (refine F.hold hA 2000 ?_; cbv))
            refine OK.back (hBk _ _ (_, _) (by cbv; repeat (first | exact WkH.nil _ | apply WkH.gone | refine WkH.eq rfl ?_)) (by cbv; repeat (first | apply WkL.any | exact WkL.nil _ | refine WkL.eq rfl ?_ | refine WkL.bool rfl ?_)) (by cbv; exact ⟨rfl⟩) ?_ ?_)
            · exact hat.nx ys zs r2 hys hzs hr2
            · exact hat.mu
          · have hr := rwFin hA hq.lo hI b5
            have ht := tkQ hA hq hc hf hr
            have q6 := ht.q
            have hcp := cnP hA hq hc hr ht
            repeat (first
              | refine OK.drawn (by decide +kernel) ?_
              | refine OK.tree ⟨lookT tis, fun _ => true, []⟩ (by decide +kernel) ?_
              | refine OK.need (by first | assumption | (rw [hA]; first | (show (_ : Int) ≠ _; decide) | (show (0 : Int) ≤ _; decide) | (show (0 : Int) ≤ _ ∧ _ < (256 : Int); decide))) ?_
              | (refine F.hold hA 2000 ?_; cbv))
            refine F.loop (V := List Int × Int) [7, 59, 60] (fun w => EaW (A.rep (A.len counts) (0 : Int)) (A.sub row 0 (A.ar .sub .i64 (A.ar .mul .i64 2 (A.len cs)) 2)) w) (fun w => (2000 - w.2).toNat) (fun w => [(61, .int .i64 w.2)]) (fun w => [(1, .row 3 (.ints .i64 w.1))]) (_, _) (by cbv; repeat (first | exact WkH.nil _ | apply WkH.gone | refine WkH.eq rfl ?_)) (by cbv; repeat (first | apply WkL.any | exact WkL.nil _ | refine WkL.eq rfl ?_ | refine WkL.bool rfl ?_)) (by cbv; exact ⟨rfl⟩) ?_ ?_
            · exact eaIni
            rintro ⟨l', j⟩ hI2 Bk2 hBk2
            repeat (first
              | refine OK.drawn (by decide +kernel) ?_
              | refine OK.tree ⟨lookT tis, fun _ => true, []⟩ (by decide +kernel) ?_
              | refine OK.need (by first | assumption | (rw [hA]; first | (show (_ : Int) ≠ _; decide) | (show (0 : Int) ≤ _; decide) | (show (0 : Int) ≤ _ ∧ _ < (256 : Int); decide))) ?_
              | (refine F.hold hA 2000 ?_; cbv))
            refine OK.branch (fun b6 => ?_) (fun b6 => ?_)
            · have hat := eaAt hA hcp.n (w := 0) (s := 0) ⟨Nat.le_succ _⟩ hcp.p hI2 b6
              have q7 := hat.q
              have hfi := fit_get hA hcp.f hat.q
              have hmu := mu2 hA hcp.n hI2 b6
              have hBk := hBk2
              repeat (first
                | refine OK.drawn (by decide +kernel) ?_
                | refine OK.tree ⟨lookT tis, fun _ => true, []⟩ (by decide +kernel) ?_
                | refine OK.need (by first | assumption | (rw [hA]; first | (show (_ : Int) ≠ _; decide) | (show (0 : Int) ≤ _; decide) | (show (0 : Int) ≤ _ ∧ _ < (256 : Int); decide))) ?_
                | (refine F.hold hA 2000 ?_; cbv))
              refine F.call [1] (each_ok _ _ _ _ _ hat.sm hfi hat.p) rfl rfl rfl fun rs H' hq => ?_
              obtain ⟨l2, rfl, rfl, hl2⟩ := hq
              refine ⟨rfl, ?_⟩
              repeat (first
                | refine OK.drawn (by decide +kernel) ?_
                | refine OK.tree ⟨lookT tis, fun _ => true, []⟩ (by decide +kernel) ?_
                | refine OK.need (by first | assumption | (rw [hA]; first | (show (_ : Int) ≠ _; decide) | (show (0 : Int) ≤ _; decide) | (show (0 : Int) ≤ _ ∧ _ < (256 : Int); decide))) ?_
                | (refine F.hold hA 2000 ?_; cbv))
              refine OK.back (hBk _ _ (_, _) (by cbv; repeat (first | exact WkH.nil _ | apply WkH.gone | refine WkH.eq rfl ?_)) (by cbv; repeat (first | apply WkL.any | exact WkL.nil _ | refine WkL.eq rfl ?_ | refine WkL.bool rfl ?_)) (by cbv; exact ⟨rfl⟩) ?_ ?_)
              · exact hat.nx l2 hl2
              · exact hmu
            · have hfin := cnFin hnw hq hc hcs hf hr ht (eaFin hA hI2 b6)
              repeat (first
                | refine OK.drawn (by decide +kernel) ?_
                | refine OK.tree ⟨lookT tis, fun _ => true, []⟩ (by decide +kernel) ?_
                | refine OK.need (by first | assumption | (rw [hA]; first | (show (_ : Int) ≠ _; decide) | (show (0 : Int) ≤ _; decide) | (show (0 : Int) ≤ _ ∧ _ < (256 : Int); decide))) ?_
                | (refine F.hold hA 2000 ?_; cbv))
              exact F.ret (rs' := [.ro (.ints .i64 _), .int .i64 0]) (H' := []) (Cv.trans (Cv.freeze F.cod 1 rfl) (F.cv ⟨rfl⟩ (by cbv; repeat (first | apply WkL.any | exact WkL.nil _ | refine WkL.eq rfl ?_)) (WkH.nil _))) rfl ⟨_, _, rfl, rfl, hfin⟩
end Go.L1
