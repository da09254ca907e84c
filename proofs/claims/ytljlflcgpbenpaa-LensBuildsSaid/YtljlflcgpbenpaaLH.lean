/- Own work of the session: part LH of a proof that the program's functions do what the statement says (a symbolic executor, contracts of the functions, plain laws). -/
import Derived.Test.YtljlflcgpbenpaaLE
import Derived.Test.YtljlflcgpbenpaaLF
import Derived.Test.YtljlflcgpbenpaaLD
set_option linter.all false
-- S29
namespace Go.L1
open Go Go.Sx Go.Proofs Go.L5
set_option maxRecDepth 20000
set_option linter.unusedVariables false
set_option linter.unusedSimpArgs false
def Desc (l : List Int) : Prop := l.Pairwise fun a b => b ≤ a
structure UsI (counts out : List Int) (i : Int) (k : Nat) : Prop where
  ei : i = (k : Int)
  le : k ≤ counts.length
  d : Desc out
  p : out.Perm ((counts.take k).filter fun c => decide (0 < c))
  b : ∀ c ∈ counts.take k, outP c = false
def UsW (counts : List Int) (w : List Int × Int) : Prop := ∃ k, UsI counts w.1 w.2 k
def InW2 (out : List Int) (x : Int) (w : List Int × Int) : Prop := ∃ A B : List Int, w.1 = A ++ x :: B ∧ w.2 = (A.length : Int) ∧ A ++ B = out ∧ ∀ b ∈ B, b < x
structure UsAt (A : Leaf) (counts out : List Int) (i c : Int) : Prop where
  q : A.inb i (A.len counts)
  bad1 : A.cmp .lss c 0 = true → ∃ x ∈ counts, outP x = true
  bad2 : A.cmp .gtr c 1099511627776 = true → ∃ x ∈ counts, outP x = true
  sm : A.small (A.len (A.app out [c])) 8
  k : A.ar .sub .i64 (A.len (A.app out [c])) 1 = (out.length : Int)
  ini : InW2 out c (A.app out [c], A.ar .sub .i64 (A.len (A.app out [c])) 1)
  zero : A.cmp .lss c 0 = false → A.cmp .gtr c 1099511627776 = false → A.cmp .eql c 0 = true → UsW counts (out, A.ar .add .i64 i 1)
  nx : A.cmp .lss c 0 = false → A.cmp .gtr c 1099511627776 = false → A.cmp .eql c 0 = false → ∀ row, Desc row → row.Perm (c :: out) → UsW counts (row, A.ar .add .i64 i 1)
  mu : (1000 - A.ar .add .i64 i 1).toNat < (1000 - i).toNat
  ol : out.length ≤ 400
  d : Desc out
theorem usAt {A : Leaf} {counts out : List Int} {i : Int} (hA : A = .std) (hn : counts.length ≤ 400) (hI : UsW counts (out, i)) (b : A.cmp .lss i (A.len counts) = true) : UsAt A counts out i (A.get 0 counts i) := by
  obtain ⟨k, h1, h2, h3, h4, h5⟩ := hI
  simp only at h1 h3 h4
  subst hA h1
  have b : (k : Int) < (counts.length : Int) := of_decide_eq_true b
  have hk : k < counts.length := by omega
  have eg : Leaf.std.get 0 counts (k : Int) = counts[k] := by show counts.getD _ _ = _; rw [Int.toNat_natCast]; simp [hk]
  have e : Leaf.std.ar .add .i64 (k : Int) 1 = ((k + 1 : Nat) : Int) := by rw [add_i64 (by omega) (by omega)]; omega
  have hol : out.length ≤ k := by
    rw [h4.length_eq]
    exact Nat.le_trans (List.length_filter_le _ _) (by rw [List.length_take]; omega)
  have hmem := List.getElem_mem hk
  have hl1 : ((Leaf.std.len (Leaf.std.app out [counts[k]])) : Int) = (out.length : Int) + 1 := by
    show (((out ++ [counts[k]]).length : Nat) : Int) = _
    rw [List.length_append, List.length_singleton]; omega
  have ek : Leaf.std.ar .sub .i64 (Leaf.std.len (Leaf.std.app out [counts[k]])) 1 = (out.length : Int) := by
    rw [hl1, sub_i64 (by omega) (by omega)]; omega
  have htake : counts.take (k + 1) = counts.take k ++ [counts[k]] := List.take_succ_eq_append_getElem hk
  have hin : ∀ c1 c2, Leaf.std.cmp .lss counts[k] 0 = c1 → c1 = false → Leaf.std.cmp .gtr counts[k] 1099511627776 = c2 → c2 = false → 0 ≤ counts[k] ∧ ∀ c ∈ counts.take (k + 1), outP c = false := fun c1 c2 e1 f1 e2 f2 => by
    subst e1 e2
    have g1 : ¬ counts[k] < 0 := of_decide_eq_false f1
    have g2 : ¬ 1099511627776 < counts[k] := of_decide_eq_false f2
    refine ⟨by omega, fun c hc => ?_⟩
    rw [htake] at hc
    rcases List.mem_append.1 hc with hc | hc
    · exact h5 c hc
    · rw [List.mem_singleton] at hc
      subst hc
      unfold outP
      rw [Bool.or_eq_false_iff, decide_eq_false_iff_not, decide_eq_false_iff_not]
      omega
  rw [eg]
  refine ⟨⟨by omega, b⟩, fun h => ⟨_, hmem, ?_⟩, fun h => ⟨_, hmem, ?_⟩, small_of (l := out ++ [_]) (by rw [List.length_append, List.length_singleton]; omega), ek, ?_, fun f1 f2 f3 => ?_, fun f1 f2 f3 row hd hp => ?_, by rw [e]; omega, by omega, h3⟩
  · have h : counts[k] < 0 := of_decide_eq_true h
    unfold outP
    rw [Bool.or_eq_true, decide_eq_true_eq]; exact .inl h
  · have h : 1099511627776 < counts[k] := of_decide_eq_true h
    unfold outP
    rw [Bool.or_eq_true, decide_eq_true_eq, decide_eq_true_eq]; exact .inr h
  · rw [ek]
    exact ⟨out, [], rfl, rfl, by simp, nofun⟩
  · obtain ⟨g1, g2⟩ := hin _ _ rfl f1 rfl f2
    have f3 : (counts[k] == 0) = true := f3
    rw [beq_iff_eq] at f3
    rw [e]
    refine ⟨k + 1, rfl, by omega, h3, ?_, g2⟩
    rw [htake, List.filter_append]
    have : [counts[k]].filter (fun c => decide (0 < c)) = [] := by rw [f3]; rfl
    rw [this, List.append_nil]
    exact h4
  · obtain ⟨g1, g2⟩ := hin _ _ rfl f1 rfl f2
    have f3 : (counts[k] == 0) = false := f3
    rw [beq_eq_false_iff_ne] at f3
    rw [e]
    refine ⟨k + 1, rfl, by omega, hd, ?_, g2⟩
    rw [htake, List.filter_append]
    have : [counts[k]].filter (fun c => decide (0 < c)) = [counts[k]] := by
      have : decide (0 < counts[k]) = true := decide_eq_true (by omega)
      simp [this]
    rw [this]
    exact hp.trans ((List.perm_append_singleton _ _).symm.trans (h4.append_right _))
structure InAt2 (A : Leaf) (out : List Int) (x : Int) (row : List Int) (k : Int) : Prop where
  q1 : A.inb (A.ar .sub .i64 k 1) (A.len row)
  q2 : A.inb k (A.len row)
  q3 : A.inb (A.ar .sub .i64 k 1) (A.len (A.set row k (A.get 0 row (A.ar .sub .i64 k 1))))
  yes : A.cmp .lss (A.get 0 row (A.ar .sub .i64 k 1)) (A.get 0 row k) = true → InW2 out x (A.set (A.set row k (A.get 0 row (A.ar .sub .i64 k 1))) (A.ar .sub .i64 k 1) (A.get 0 row k), A.ar .sub .i64 k 1)
  no : A.cmp .lss (A.get 0 row (A.ar .sub .i64 k 1)) (A.get 0 row k) = false → Desc row ∧ row.Perm (x :: out)
  mu : (A.ar .sub .i64 k 1).toNat < k.toNat
theorem desc_mid {A B : List Int} {x : Int} (h : Desc (A ++ B)) (h1 : ∀ a ∈ A, x ≤ a) (h2 : ∀ b ∈ B, b < x) : Desc (A ++ x :: B) := by
  have h := List.pairwise_append.1 h
  refine List.pairwise_append.2 ⟨h.1, List.pairwise_cons.2 ⟨fun b hb => Int.le_of_lt (h2 b hb), h.2.1⟩, fun a ha b hb => ?_⟩
  rcases List.mem_cons.1 hb with rfl | hb
  · exact h1 a ha
  · exact h.2.2 a ha b hb
theorem inAt2 {A : Leaf} {out row : List Int} {x k : Int} (hA : A = .std) (hd : Desc out) (hol : out.length ≤ 400) (hI : InW2 out x (row, k)) (b : A.cmp .gtr k 0 = true) : InAt2 A out x row k := by
  obtain ⟨P, B, h1, h2, h3, h4⟩ := hI
  simp only at h1 h2
  subst hA
  have b : 0 < k := of_decide_eq_true b
  obtain ⟨Pi, y, rfl⟩ := last_split (l := P) (by intro h0; subst h0; simp at h2; omega)
  rw [List.length_append, List.length_singleton] at h2
  have hl := congrArg List.length h3
  rw [List.length_append, List.length_append, List.length_singleton] at hl
  have e1 : Leaf.std.ar .sub .i64 k 1 = (Pi.length : Int) := by rw [sub_i64 (by omega) (by omega)]; omega
  have r1 : row = Pi ++ y :: (x :: B) := by rw [h1]; simp
  have r2 : row = (Pi ++ [y]) ++ x :: B := h1
  have tk : k.toNat = (Pi ++ [y]).length := by rw [List.length_append, List.length_singleton]; omega
  have g1 : Leaf.std.get 0 row (Pi.length : Int) = y := by show row.getD (Pi.length : Int).toNat 0 = _; rw [Int.toNat_natCast, r1, getD_app]
  have g2 : Leaf.std.get 0 row k = x := by show row.getD k.toNat 0 = _; rw [tk, r2, getD_app]
  have hrl : row.length = Pi.length + (B.length + 2) := by rw [r1]; simp
  have s1 : Leaf.std.set row k y = Pi ++ y :: (y :: B) := by show row.set k.toNat y = _; rw [tk, r2, set_app]; simp
  have s2 : Leaf.std.set (Pi ++ y :: (y :: B)) (Pi.length : Int) x = Pi ++ x :: (y :: B) := by show List.set _ (Pi.length : Int).toNat x = _; rw [Int.toNat_natCast, set_app]
  refine ⟨?_, ?_, ?_, fun h => ?_, fun h => ?_, by rw [e1]; omega⟩
  · rw [e1]; exact ⟨by omega, by show (Pi.length : Int) < (row.length : Int); omega⟩
  · exact ⟨by omega, by show k < (row.length : Int); omega⟩
  · rw [e1]
    refine ⟨by omega, ?_⟩
    show (Pi.length : Int) < (((row.set _ _).length : Nat) : Int)
    rw [List.length_set]; omega
  · rw [e1, g1, g2] at h ⊢
    rw [s1, s2]
    have h : y < x := of_decide_eq_true h
    refine ⟨Pi, y :: B, rfl, rfl, by rw [← h3]; simp, fun b hb => ?_⟩
    rcases List.mem_cons.1 hb with rfl | hb
    · exact h
    · exact h4 b hb
  · rw [e1, g1, g2] at h
    have h : ¬ y < x := of_decide_eq_false h
    refine ⟨?_, ?_⟩
    · rw [h1]
      refine desc_mid (by rw [h3]; exact hd) (fun a ha => ?_) h4
      have hd2 : Desc (Pi ++ [y] ++ B) := by rw [h3]; exact hd
      have h5 := (List.pairwise_append.1 (List.pairwise_append.1 hd2).1).2.2
      rcases List.mem_append.1 ha with ha | ha
      · have := h5 a ha y (by simp)
        omega
      · rw [List.mem_singleton] at ha; omega
    · rw [h1, ← h3]
      exact List.perm_middle
theorem inEnd2 {A : Leaf} {out row : List Int} {x k : Int} (hA : A = .std) (hd : Desc out) (hI : InW2 out x (row, k)) (b : A.cmp .gtr k 0 = false) : Desc row ∧ row.Perm (x :: out) := by
  obtain ⟨P, B, h1, h2, h3, h4⟩ := hI
  simp only at h1 h2
  subst hA
  have b : ¬ 0 < k := of_decide_eq_false b
  have : P = [] := List.length_eq_zero_iff.1 (by omega)
  subst this
  rw [List.nil_append] at h1 h3
  subst h1 h3
  exact ⟨List.pairwise_cons.2 ⟨fun b hb => Int.le_of_lt (h4 b hb), hd⟩, .refl _⟩
structure UsedIs (counts l : List Int) (ok : Bool) : Prop where
  yes : ok = true → Desc l ∧ l.Perm (counts.filter fun c => decide (0 < c)) ∧ ∀ c ∈ counts, outP c = false
  no : ok = false → ∃ c ∈ counts, outP c = true
theorem usFin {A : Leaf} {counts out : List Int} {i : Int} (hA : A = .std) (hI : UsW counts (out, i)) (b : A.cmp .lss i (A.len counts) = false) : UsedIs counts out true := by
  obtain ⟨k, h1, h2, h3, h4, h5⟩ := hI
  simp only at h1 h3 h4
  subst hA h1
  have b : ¬ (k : Int) < (counts.length : Int) := of_decide_eq_false b
  rw [List.take_of_length_le (by omega)] at h4 h5
  exact ⟨(fun _ => ⟨h3, h4, h5⟩), (fun h => by cases h)⟩
theorem used_ok (counts : List Int) (hn : counts.length ≤ 400) : FOK Try.prog C1 33 (fun _ => false) [.ro (.ints .i64 counts)] []
    (fun rs H => ∃ l ok, rs = [.ro (.ints .i64 l), .bool (.e ok)] ∧ H = [] ∧ UsedIs counts l ok) := by
  refine fok_of (B := ⟨lookT tis, fun _ => false, []⟩) (tab1 _) (zero1 _) cod1 mix1 Try.func33 (by kernel_rfl) rfl rfl rfl fun X F => ?_
  obtain ⟨A, hA⟩ : ∃ A, A = Leaf.std := ⟨_, rfl⟩
  refine F.hold hA 2000 ?_
  cbv
  repeat (first
    | refine OK.drawn (by decide +kernel) ?_
    | refine OK.tree ⟨lookT tis, fun _ => true, []⟩ (by decide +kernel) ?_
    | refine OK.need (by first | assumption | (rw [hA]; first | (show (_ : Int) ≠ _; decide) | (show (0 : Int) ≤ _; decide) | (show (0 : Int) ≤ _ ∧ _ < (256 : Int); decide))) ?_
    | (refine F.hold hA 2000 ?_; cbv))
  refine F.loop (V := List Int × Int) [0, 4] (UsW counts) (fun w => (1000 - w.2).toNat) (fun w => [(5, .int .i64 w.2)]) (fun w => [(0, .row 3 (.ints .i64 w.1))]) (_, _) (by cbv; repeat (first | exact WkH.nil _ | apply WkH.gone | refine WkH.eq rfl ?_)) (by cbv; repeat (first | apply WkL.any | exact WkL.nil _ | refine WkL.eq rfl ?_ | refine WkL.bool rfl ?_)) (by cbv; exact ⟨rfl⟩) ?_ ?_
  · exact ⟨0, rfl, Nat.zero_le _, List.Pairwise.nil, .refl _, fun c hc => by cases hc⟩
  rintro ⟨out, i⟩ hI Bk hBkO
  repeat (first
    | refine OK.drawn (by decide +kernel) ?_
    | refine OK.tree ⟨lookT tis, fun _ => true, []⟩ (by decide +kernel) ?_
    | refine OK.need (by first | assumption | (rw [hA]; first | (show (_ : Int) ≠ _; decide) | (show (0 : Int) ≤ _; decide) | (show (0 : Int) ≤ _ ∧ _ < (256 : Int); decide))) ?_
    | (refine F.hold hA 2000 ?_; cbv))
  refine OK.branch (fun b1 => ?_) (fun b1 => ?_)
  · have hat := usAt hA hn hI b1
    have q1 := hat.q
    have q2 := hat.sm
    repeat (first
      | refine OK.drawn (by decide +kernel) ?_
      | refine OK.tree ⟨lookT tis, fun _ => true, []⟩ (by decide +kernel) ?_
      | refine OK.need (by first | assumption | (rw [hA]; first | (show (_ : Int) ≠ _; decide) | (show (0 : Int) ≤ _; decide) | (show (0 : Int) ≤ _ ∧ _ < (256 : Int); decide))) ?_
      | (refine F.hold hA 2000 ?_; cbv))
    refine OK.branch (fun c1 => ?_) (fun c1 => ?_)
    · have hb := hat.bad1 c1
      repeat (first
        | refine OK.drawn (by decide +kernel) ?_
        | refine OK.tree ⟨lookT tis, fun _ => true, []⟩ (by decide +kernel) ?_
        | refine OK.need (by first | assumption | (rw [hA]; first | (show (_ : Int) ≠ _; decide) | (show (0 : Int) ≤ _; decide) | (show (0 : Int) ≤ _ ∧ _ < (256 : Int); decide))) ?_
        | (refine F.hold hA 2000 ?_; cbv))
      exact F.ret (rs' := [.ro (.ints .i64 []), .bool (.e false)]) (H' := []) (Cv.trans (Cv.slot 0 rfl fun M v h => nil_den h) (F.cv ⟨rfl⟩ (by cbv; repeat (first | refine WkL.eq rfl ?_ | refine WkL.bool rfl ?_ | exact WkL.nil _)) (WkH.nil _))) rfl ⟨_, _, rfl, rfl, ⟨(fun h => by cases h), (fun _ => hb)⟩⟩
    repeat (first
      | refine OK.drawn (by decide +kernel) ?_
      | refine OK.tree ⟨lookT tis, fun _ => true, []⟩ (by decide +kernel) ?_
      | refine OK.need (by first | assumption | (rw [hA]; first | (show (_ : Int) ≠ _; decide) | (show (0 : Int) ≤ _; decide) | (show (0 : Int) ≤ _ ∧ _ < (256 : Int); decide))) ?_
      | (refine F.hold hA 2000 ?_; cbv))
    refine OK.branch (fun c2 => ?_) (fun c2 => ?_)
    · have hb := hat.bad2 c2
      repeat (first
        | refine OK.drawn (by decide +kernel) ?_
        | refine OK.tree ⟨lookT tis, fun _ => true, []⟩ (by decide +kernel) ?_
        | refine OK.need (by first | assumption | (rw [hA]; first | (show (_ : Int) ≠ _; decide) | (show (0 : Int) ≤ _; decide) | (show (0 : Int) ≤ _ ∧ _ < (256 : Int); decide))) ?_
        | (refine F.hold hA 2000 ?_; cbv))
      exact F.ret (rs' := [.ro (.ints .i64 []), .bool (.e false)]) (H' := []) (Cv.trans (Cv.slot 0 rfl fun M v h => nil_den h) (F.cv ⟨rfl⟩ (by cbv; repeat (first | refine WkL.eq rfl ?_ | refine WkL.bool rfl ?_ | exact WkL.nil _)) (WkH.nil _))) rfl ⟨_, _, rfl, rfl, ⟨(fun h => by cases h), (fun _ => hb)⟩⟩
    repeat (first
      | refine OK.drawn (by decide +kernel) ?_
      | refine OK.tree ⟨lookT tis, fun _ => true, []⟩ (by decide +kernel) ?_
      | refine OK.need (by first | assumption | (rw [hA]; first | (show (_ : Int) ≠ _; decide) | (show (0 : Int) ≤ _; decide) | (show (0 : Int) ≤ _ ∧ _ < (256 : Int); decide))) ?_
      | (refine F.hold hA 2000 ?_; cbv))
    refine OK.branch (fun c3 => ?_) (fun c3 => ?_)
    · have hBk := hBkO
      repeat (first
        | refine OK.drawn (by decide +kernel) ?_
        | refine OK.tree ⟨lookT tis, fun _ => true, []⟩ (by decide +kernel) ?_
        | refine OK.need (by first | assumption | (rw [hA]; first | (show (_ : Int) ≠ _; decide) | (show (0 : Int) ≤ _; decide) | (show (0 : Int) ≤ _ ∧ _ < (256 : Int); decide))) ?_
        | (refine F.hold hA 2000 ?_; cbv))
      refine OK.back (hBk _ _ (_, _) (by cbv; repeat (first | exact WkH.nil _ | apply WkH.gone | refine WkH.eq rfl ?_)) (by cbv; repeat (first | apply WkL.any | exact WkL.nil _ | refine WkL.eq rfl ?_ | refine WkL.bool rfl ?_)) (by cbv; exact ⟨rfl⟩) ?_ ?_)
      · exact hat.zero c1 c2 c3
      · exact hat.mu
    repeat (first
      | refine OK.drawn (by decide +kernel) ?_
      | refine OK.tree ⟨lookT tis, fun _ => true, []⟩ (by decide +kernel) ?_
      | refine OK.need (by first | assumption | (rw [hA]; first | (show (_ : Int) ≠ _; decide) | (show (0 : Int) ≤ _; decide) | (show (0 : Int) ≤ _ ∧ _ < (256 : Int); decide))) ?_
      | (refine F.hold hA 2000 ?_; cbv))
    refine F.loop (V := List Int × Int) [0, 4, 5, 6] (fun w => InW2 out (A.get 0 counts i) w) (fun w => w.2.toNat) (fun w => [(7, .int .i64 w.2)]) (fun w => [(0, .row 3 (.ints .i64 w.1))]) (_, _) (by cbv; repeat (first | exact WkH.nil _ | apply WkH.gone | refine WkH.eq rfl ?_)) (by cbv; repeat (first | apply WkL.any | exact WkL.nil _ | refine WkL.eq rfl ?_ | refine WkL.bool rfl ?_)) (by cbv; exact ⟨rfl⟩) ?_ ?_
    · exact hat.ini
    rintro ⟨row, k⟩ hI2 Bk2 hBk2
    repeat (first
      | refine OK.drawn (by decide +kernel) ?_
      | refine OK.tree ⟨lookT tis, fun _ => true, []⟩ (by decide +kernel) ?_
      | refine OK.need (by first | assumption | (rw [hA]; first | (show (_ : Int) ≠ _; decide) | (show (0 : Int) ≤ _; decide) | (show (0 : Int) ≤ _ ∧ _ < (256 : Int); decide))) ?_
      | (refine F.hold hA 2000 ?_; cbv))
    refine OK.branch (fun d1 => ?_) (fun d1 => ?_)
    · have hi := inAt2 hA hat.d hat.ol hI2 d1
      have q3 := hi.q1
      have q4 := hi.q2
      have q5 := hi.q3
      repeat (first
        | refine OK.drawn (by decide +kernel) ?_
        | refine OK.tree ⟨lookT tis, fun _ => true, []⟩ (by decide +kernel) ?_
        | refine OK.need (by first | assumption | (rw [hA]; first | (show (_ : Int) ≠ _; decide) | (show (0 : Int) ≤ _; decide) | (show (0 : Int) ≤ _ ∧ _ < (256 : Int); decide))) ?_
        | (refine F.hold hA 2000 ?_; cbv))
      refine OK.branch (fun d2 => ?_) (fun d2 => ?_)
      · have hBk := hBk2
        repeat (first
          | refine OK.drawn (by decide +kernel) ?_
          | refine OK.tree ⟨lookT tis, fun _ => true, []⟩ (by decide +kernel) ?_
          | refine OK.need (by first | assumption | (rw [hA]; first | (show (_ : Int) ≠ _; decide) | (show (0 : Int) ≤ _; decide) | (show (0 : Int) ≤ _ ∧ _ < (256 : Int); decide))) ?_
          | (refine F.hold hA 2000 ?_; cbv))
        refine OK.back (hBk _ _ (_, _) (by cbv; repeat (first | exact WkH.nil _ | apply WkH.gone | refine WkH.eq rfl ?_)) (by cbv; repeat (first | apply WkL.any | exact WkL.nil _ | refine WkL.eq rfl ?_ | refine WkL.bool rfl ?_)) (by cbv; exact ⟨rfl⟩) ?_ ?_)
        · exact hi.yes d2
        · exact hi.mu
      · obtain ⟨n1, n2⟩ := hi.no d2
        have hBk := hBkO
        repeat (first
          | refine OK.drawn (by decide +kernel) ?_
          | refine OK.tree ⟨lookT tis, fun _ => true, []⟩ (by decide +kernel) ?_
          | refine OK.need (by first | assumption | (rw [hA]; first | (show (_ : Int) ≠ _; decide) | (show (0 : Int) ≤ _; decide) | (show (0 : Int) ≤ _ ∧ _ < (256 : Int); decide))) ?_
          | (refine F.hold hA 2000 ?_; cbv))
        refine OK.back (hBk _ _ (_, _) (by cbv; repeat (first | exact WkH.nil _ | apply WkH.gone | refine WkH.eq rfl ?_)) (by cbv; repeat (first | apply WkL.any | exact WkL.nil _ | refine WkL.eq rfl ?_ | refine WkL.bool rfl ?_)) (by cbv; exact ⟨rfl⟩) ?_ ?_)
        · exact hat.nx c1 c2 c3 row n1 n2
        · exact hat.mu
    · obtain ⟨n1, n2⟩ := inEnd2 hA hat.d hI2 d1
      have hBk := hBkO
      repeat (first
        | refine OK.drawn (by decide +kernel) ?_
        | refine OK.tree ⟨lookT tis, fun _ => true, []⟩ (by decide +kernel) ?_
        | refine OK.need (by first | assumption | (rw [hA]; first | (show (_ : Int) ≠ _; decide) | (show (0 : Int) ≤ _; decide) | (show (0 : Int) ≤ _ ∧ _ < (256 : Int); decide))) ?_
        | (refine F.hold hA 2000 ?_; cbv))
      refine OK.back (hBk _ _ (_, _) (by cbv; repeat (first | exact WkH.nil _ | apply WkH.gone | refine WkH.eq rfl ?_)) (by cbv; repeat (first | apply WkL.any | exact WkL.nil _ | refine WkL.eq rfl ?_ | refine WkL.bool rfl ?_)) (by cbv; exact ⟨rfl⟩) ?_ ?_)
      · exact hat.nx c1 c2 c3 row n1 n2
      · exact hat.mu
  · have hfin := usFin hA hI b1
    repeat (first
      | refine OK.drawn (by decide +kernel) ?_
      | refine OK.tree ⟨lookT tis, fun _ => true, []⟩ (by decide +kernel) ?_
      | refine OK.need (by first | assumption | (rw [hA]; first | (show (_ : Int) ≠ _; decide) | (show (0 : Int) ≤ _; decide) | (show (0 : Int) ≤ _ ∧ _ < (256 : Int); decide))) ?_
      | (refine F.hold hA 2000 ?_; cbv))
    exact F.ret (rs' := [.ro (.ints .i64 _), .bool (.e true)]) (H' := []) (Cv.trans (Cv.freeze F.cod 0 rfl) (F.cv ⟨rfl⟩ (by cbv; repeat (first | refine WkL.eq rfl ?_ | refine WkL.bool rfl ?_ | exact WkL.nil _)) (WkH.nil _))) rfl ⟨_, _, rfl, rfl, hfin⟩
end Go.L1

-- S30
namespace Go.L1
open Go Go.Sx Go.Proofs Go.L5
set_option maxRecDepth 20000
set_option linter.unusedVariables false
set_option linter.unusedSimpArgs false
def posN (counts : List Int) : Nat := (counts.filter fun c => decide (0 < c)).length
structure FaultIs (counts : List Int) (limit e : Int) : Prop where
  wr : WrongB counts limit → e = 11
  many : ¬ WrongB counts limit → 2 ^ limit.toNat < posN counts → e = 14
  few : ¬ WrongB counts limit → posN counts ≤ 2 ^ limit.toNat → e = 0
theorem fa_out {counts l : List Int} {limit : Int} {ok : Bool} (hu : UsedIs counts l ok) (h : WrongB counts limit) : FaultIs counts limit 11 := ⟨fun _ => rfl, fun h2 => absurd h h2, fun h2 => absurd h h2⟩
structure FaIn (A : Leaf) (counts l : List Int) (limit : Int) : Prop where
  nn : A.nn (A.conv .u64 limit)
  yes : A.cmp .gtr (A.len l) (A.ar .shl .i64 1 (A.conv .u64 limit)) = true → FaultIs counts limit 14
  no : A.cmp .gtr (A.len l) (A.ar .shl .i64 1 (A.conv .u64 limit)) = false → FaultIs counts limit 0
theorem faIn {A : Leaf} {counts l : List Int} {limit : Int} {ok : Bool} (hA : A = .std) (hu : UsedIs counts l ok) (c1 : A.cmp .gtr (A.len counts) 320 = false) (c2 : A.bnot ok = false) (c3 : A.cmp .lss limit 1 = false) (c4 : A.cmp .gtr limit 15 = false) : FaIn A counts l limit := by
  subst hA
  have hok : ok = true := by cases ok with | true => rfl | false => exact absurd c2 (by decide)
  obtain ⟨u1, u2, u3⟩ := hu.yes hok
  have c1 : ¬ (320 : Int) < (counts.length : Int) := of_decide_eq_false c1
  have c3 : ¬ limit < 1 := of_decide_eq_false c3
  have c4 : ¬ 15 < limit := of_decide_eq_false c4
  have hnw : ¬ WrongB counts limit := by
    rintro (h | ⟨c, h, h2⟩ | h | h)
    · omega
    · rw [u3 c h] at h2; cases h2
    · omega
    · omega
  have cx : Leaf.std.conv .u64 limit = limit := l_conv_u64 (by omega) (by omega)
  have hl : l.length = posN counts := u2.length_eq
  refine ⟨by rw [cx]; show (0 : Int) ≤ limit; omega, fun h => ?_, fun h => ?_⟩
  · rw [cx, shl_lim (by omega) (by omega)] at h
    have h : ((2 ^ limit.toNat : Nat) : Int) < (l.length : Int) := of_decide_eq_true h
    exact ⟨fun h2 => absurd h2 hnw, fun _ _ => rfl, fun _ h2 => by omega⟩
  · rw [cx, shl_lim (by omega) (by omega)] at h
    have h : ¬ ((2 ^ limit.toNat : Nat) : Int) < (l.length : Int) := of_decide_eq_false h
    exact ⟨fun h2 => absurd h2 hnw, fun _ h2 => by omega, fun _ _ => rfl⟩
theorem fault_ok (counts : List Int) (limit : Int) (hn : counts.length ≤ 400) : FOK Try.prog C1 18 (fun _ => false) [.ro (.ints .i64 counts), .int .i64 limit] []
    (fun rs H => ∃ e, rs = [.int .i64 e] ∧ H = [] ∧ FaultIs counts limit e) := by
  refine fok_of (B := ⟨lookT tis, fun _ => false, []⟩) (tab1 _) (zero1 _) cod1 mix1 Try.func18 (by kernel_rfl) rfl rfl rfl fun X F => ?_
  obtain ⟨A, hA⟩ : ∃ A, A = Leaf.std := ⟨_, rfl⟩
  refine F.hold hA 2000 ?_
  cbv
  repeat (first
    | refine OK.drawn (by decide +kernel) ?_
    | refine OK.tree ⟨lookT tis, fun _ => true, []⟩ (by decide +kernel) ?_
    | refine OK.need (by first | assumption | (rw [hA]; first | (show (_ : Int) ≠ _; decide) | (show (0 : Int) ≤ _; decide) | (show (0 : Int) ≤ _ ∧ _ < (256 : Int); decide))) ?_
    | (refine F.hold hA 2000 ?_; cbv))
  refine F.call [] (used_ok counts hn) rfl rfl rfl fun rs H' hq => ?_
  obtain ⟨l, ok, rfl, rfl, hu⟩ := hq
  refine ⟨rfl, ?_⟩
  repeat (first
    | refine OK.drawn (by decide +kernel) ?_
    | refine OK.tree ⟨lookT tis, fun _ => true, []⟩ (by decide +kernel) ?_
    | refine OK.need (by first | assumption | (rw [hA]; first | (show (_ : Int) ≠ _; decide) | (show (0 : Int) ≤ _; decide) | (show (0 : Int) ≤ _ ∧ _ < (256 : Int); decide))) ?_
    | (refine F.hold hA 2000 ?_; cbv))
  refine OK.branch (fun c1 => ?_) (fun c1 => ?_)
  · have h := fa_out (limit := limit) hu (.inl (by have := gtrT hA c1; subst hA; have this : (320 : Int) < (counts.length : Int) := this; omega))
    repeat (first
      | refine OK.drawn (by decide +kernel) ?_
      | refine OK.tree ⟨lookT tis, fun _ => true, []⟩ (by decide +kernel) ?_
      | refine OK.need (by first | assumption | (rw [hA]; first | (show (_ : Int) ≠ _; decide) | (show (0 : Int) ≤ _; decide) | (show (0 : Int) ≤ _ ∧ _ < (256 : Int); decide))) ?_
      | (refine F.hold hA 2000 ?_; cbv))
    exact F.ret0 ⟨_, rfl, rfl, h⟩
  repeat (first
    | refine OK.drawn (by decide +kernel) ?_
    | refine OK.tree ⟨lookT tis, fun _ => true, []⟩ (by decide +kernel) ?_
    | refine OK.need (by first | assumption | (rw [hA]; first | (show (_ : Int) ≠ _; decide) | (show (0 : Int) ≤ _; decide) | (show (0 : Int) ≤ _ ∧ _ < (256 : Int); decide))) ?_
    | (refine F.hold hA 2000 ?_; cbv))
  refine OK.branch (fun c2 => ?_) (fun c2 => ?_)
  · have h := fa_out (limit := limit) hu (.inr (.inl (hu.no (by subst hA; cases ok with | true => exact absurd c2 (by decide) | false => rfl))))
    repeat (first
      | refine OK.drawn (by decide +kernel) ?_
      | refine OK.tree ⟨lookT tis, fun _ => true, []⟩ (by decide +kernel) ?_
      | refine OK.need (by first | assumption | (rw [hA]; first | (show (_ : Int) ≠ _; decide) | (show (0 : Int) ≤ _; decide) | (show (0 : Int) ≤ _ ∧ _ < (256 : Int); decide))) ?_
      | (refine F.hold hA 2000 ?_; cbv))
    exact F.ret0 ⟨_, rfl, rfl, h⟩
  repeat (first
    | refine OK.drawn (by decide +kernel) ?_
    | refine OK.tree ⟨lookT tis, fun _ => true, []⟩ (by decide +kernel) ?_
    | refine OK.need (by first | assumption | (rw [hA]; first | (show (_ : Int) ≠ _; decide) | (show (0 : Int) ≤ _; decide) | (show (0 : Int) ≤ _ ∧ _ < (256 : Int); decide))) ?_
    | (refine F.hold hA 2000 ?_; cbv))
  refine OK.branch (fun c3 => ?_) (fun c3 => ?_)
  · have h := fa_out (limit := limit) hu (.inr (.inr (.inl (by subst hA; exact of_decide_eq_true c3))))
    repeat (first
      | refine OK.drawn (by decide +kernel) ?_
      | refine OK.tree ⟨lookT tis, fun _ => true, []⟩ (by decide +kernel) ?_
      | refine OK.need (by first | assumption | (rw [hA]; first | (show (_ : Int) ≠ _; decide) | (show (0 : Int) ≤ _; decide) | (show (0 : Int) ≤ _ ∧ _ < (256 : Int); decide))) ?_
      | (refine F.hold hA 2000 ?_; cbv))
    exact F.ret0 ⟨_, rfl, rfl, h⟩
  repeat (first
    | refine OK.drawn (by decide +kernel) ?_
    | refine OK.tree ⟨lookT tis, fun _ => true, []⟩ (by decide +kernel) ?_
    | refine OK.need (by first | assumption | (rw [hA]; first | (show (_ : Int) ≠ _; decide) | (show (0 : Int) ≤ _; decide) | (show (0 : Int) ≤ _ ∧ _ < (256 : Int); decide))) ?_
    | (refine F.hold hA 2000 ?_; cbv))
  refine OK.branch (fun c4 => ?_) (fun c4 => ?_)
  · have h := fa_out (limit := limit) hu (.inr (.inr (.inr (gtrT hA c4))))
    repeat (first
      | refine OK.drawn (by decide +kernel) ?_
      | refine OK.tree ⟨lookT tis, fun _ => true, []⟩ (by decide +kernel) ?_
      | refine OK.need (by first | assumption | (rw [hA]; first | (show (_ : Int) ≠ _; decide) | (show (0 : Int) ≤ _; decide) | (show (0 : Int) ≤ _ ∧ _ < (256 : Int); decide))) ?_
      | (refine F.hold hA 2000 ?_; cbv))
    exact F.ret0 ⟨_, rfl, rfl, h⟩
  have hi := faIn hA hu c1 c2 c3 c4
  have q := hi.nn
  repeat (first
    | refine OK.drawn (by decide +kernel) ?_
    | refine OK.tree ⟨lookT tis, fun _ => true, []⟩ (by decide +kernel) ?_
    | refine OK.need (by first | assumption | (rw [hA]; first | (show (_ : Int) ≠ _; decide) | (show (0 : Int) ≤ _; decide) | (show (0 : Int) ≤ _ ∧ _ < (256 : Int); decide))) ?_
    | (refine F.hold hA 2000 ?_; cbv))
  refine OK.branch (fun c5 => ?_) (fun c5 => ?_)
  · have h := hi.yes c5
    repeat (first
      | refine OK.drawn (by decide +kernel) ?_
      | refine OK.tree ⟨lookT tis, fun _ => true, []⟩ (by decide +kernel) ?_
      | refine OK.need (by first | assumption | (rw [hA]; first | (show (_ : Int) ≠ _; decide) | (show (0 : Int) ≤ _; decide) | (show (0 : Int) ≤ _ ∧ _ < (256 : Int); decide))) ?_
      | (refine F.hold hA 2000 ?_; cbv))
    exact F.ret0 ⟨_, rfl, rfl, h⟩
  · have h := hi.no c5
    repeat (first
      | refine OK.drawn (by decide +kernel) ?_
      | refine OK.tree ⟨lookT tis, fun _ => true, []⟩ (by decide +kernel) ?_
      | refine OK.need (by first | assumption | (rw [hA]; first | (show (_ : Int) ≠ _; decide) | (show (0 : Int) ≤ _; decide) | (show (0 : Int) ≤ _ ∧ _ < (256 : Int); decide))) ?_
      | (refine F.hold hA 2000 ?_; cbv))
    exact F.ret0 ⟨_, rfl, rfl, h⟩
/-- A rising row and a falling one, made one rising row. -/
structure MeP (row l : List Int) : Prop where
  r : RiseN row
  d : Desc l
  n : row.length + l.length ≤ 2000
structure MeI (row l out : List Int) (i k : Int) (a b : Nat) : Prop where
  ei : i = (a : Int)
  ek : k = (b : Int) - 1
  ai : a ≤ row.length
  bk : b ≤ l.length
  r : RiseN out
  p : out.Perm (row.take a ++ l.drop b)
  h1 : ∀ x ∈ out, ∀ y ∈ row.drop a, x ≤ y
  h2 : ∀ x ∈ out, ∀ y ∈ l.take b, x ≤ y
def MeW (row l : List Int) (w : List Int × Int × Int) : Prop := ∃ a b, MeI row l w.1 w.2.1 w.2.2 a b
structure MeRow (A : Leaf) (row l out : List Int) (i k : Int) : Prop where
  q : A.inb i (A.len row)
  sm : A.small (A.len (A.app out [A.get 0 row i])) 8
  nx : MeW row l (A.app out [A.get 0 row i], A.ar .add .i64 i 1, k)
  mu : ((3000 - A.ar .add .i64 i 1) + k).toNat < ((3000 - i) + k).toNat
structure MeCnt (A : Leaf) (row l out : List Int) (i k : Int) : Prop where
  q : A.inb k (A.len l)
  sm : A.small (A.len (A.app out [A.get 0 l k])) 8
  nx : MeW row l (A.app out [A.get 0 l k], i, A.ar .sub .i64 k 1)
  mu : ((3000 - i) + A.ar .sub .i64 k 1).toNat < ((3000 - i) + k).toNat
theorem me_len {row l out : List Int} {i k : Int} {a b : Nat} (hp : MeP row l) (h : MeI row l out i k a b) : out.length ≤ 2000 := by
  have := h.p.length_eq
  rw [List.length_append, List.length_take, List.length_drop] at this
  have := hp.n
  omega
theorem rise_snoc {out : List Int} {x : Int} (h : RiseN out) (hx : ∀ y ∈ out, y ≤ x) : RiseN (out ++ [x]) :=
  List.pairwise_append.2 ⟨h, List.pairwise_singleton .., fun a ha b hb => by rw [List.mem_singleton] at hb; subst hb; exact hx a ha⟩
theorem meRow {A : Leaf} {row l out : List Int} {i k : Int} {a b : Nat} (hA : A = .std) (hp : MeP row l) (h : MeI row l out i k a b) (hi : a < row.length) (hle : b = 0 ∨ ∃ hb : b - 1 < l.length, 0 < b ∧ row[a] ≤ l[b - 1]) : MeRow A row l out i k := by
  have hl := me_len hp h
  have hn := hp.n
  obtain ⟨e1, e2, h3, h4, h5, h6, h7, h8⟩ := h
  subst hA e1
  have eg : Leaf.std.get 0 row (a : Int) = row[a] := by show row.getD _ _ = _; rw [Int.toNat_natCast]; simp [hi]
  have e : Leaf.std.ar .add .i64 (a : Int) 1 = ((a + 1 : Nat) : Int) := by rw [add_i64 (by omega) (by omega)]; omega
  have hd : row.drop a = row[a] :: row.drop (a + 1) := List.drop_eq_getElem_cons hi
  have hmem : row[a] ∈ row.drop a := by rw [hd]; exact List.mem_cons_self ..
  rw [show MeRow Leaf.std row l out (a : Int) k = MeRow Leaf.std row l out (a : Int) k from rfl]
  refine ⟨⟨by omega, by show (a : Int) < (row.length : Int); omega⟩, ?_, ?_, by rw [e]; omega⟩
  · rw [eg]
    exact small_of (l := out ++ [_]) (by rw [List.length_append, List.length_singleton]; omega)
  rw [eg, e]
  refine ⟨a + 1, b, rfl, e2, by omega, h4, ?_, ?_, fun x hx y hy => ?_, fun x hx y hy => ?_⟩
  · exact rise_snoc h5 fun y hy => h7 y hy _ hmem
  · show (out ++ [row[a]]).Perm _
    rw [List.take_succ_eq_append_getElem hi, List.append_assoc]
    refine (h6.append_right _).trans ?_
    rw [List.append_assoc]
    exact (List.perm_append_comm (l₁ := l.drop b) (l₂ := [row[a]])).append_left _
  · rcases List.mem_append.1 hx with hx | hx
    · exact h7 x hx y (by rw [hd]; exact List.mem_cons_of_mem _ hy)
    · rw [List.mem_singleton] at hx; subst hx
      have hr : RiseN (row.drop a) := hp.r.sublist (List.drop_sublist ..)
      rw [hd] at hr
      exact (List.pairwise_cons.1 hr).1 y hy
  · rcases List.mem_append.1 hx with hx | hx
    · exact h8 x hx y hy
    · rw [List.mem_singleton] at hx; subst hx
      rcases hle with hb | ⟨hb, hb0, hle⟩
      · subst hb; cases hy
      · obtain ⟨j, hj, rfl⟩ := List.mem_take_iff_getElem.1 hy
        have hj2 : j < l.length := by omega
        rcases Nat.lt_or_ge j (b - 1) with hlt | hge
        · have := List.pairwise_iff_getElem.1 hp.d j (b - 1) hj2 hb hlt
          omega
        · have : j = b - 1 := by omega
          subst this
          exact hle
theorem meCnt {A : Leaf} {row l out : List Int} {i k : Int} {a b : Nat} (hA : A = .std) (hp : MeP row l) (h : MeI row l out i k a b) (hb0 : 0 < b) (hle : a = row.length ∨ ∃ (ha : a < row.length) (hb : b - 1 < l.length), l[b - 1] ≤ row[a]) : MeCnt A row l out i k := by
  have hl := me_len hp h
  have hn := hp.n
  obtain ⟨e1, e2, h3, h4, h5, h6, h7, h8⟩ := h
  have hb : b - 1 < l.length := by omega
  have ek : k = ((b - 1 : Nat) : Int) := by omega
  subst hA e1 ek
  have eg : Leaf.std.get 0 l ((b - 1 : Nat) : Int) = l[b - 1] := by show l.getD _ _ = _; rw [Int.toNat_natCast]; simp [hb]
  have e : Leaf.std.ar .sub .i64 ((b - 1 : Nat) : Int) 1 = ((b - 1 : Nat) : Int) - 1 := sub_i64 (by omega) (by omega)
  have hd : l.drop (b - 1) = l[b - 1] :: l.drop b := by rw [List.drop_eq_getElem_cons hb]; congr 2; omega
  have ht : l.take b = l.take (b - 1) ++ [l[b - 1]] := by
    have := List.take_succ_eq_append_getElem hb
    rwa [show b - 1 + 1 = b by omega] at this
  have hmem : l[b - 1] ∈ l.take b := by rw [ht]; exact List.mem_append.2 (.inr (List.mem_singleton.2 rfl))
  refine ⟨⟨by omega, by show ((b - 1 : Nat) : Int) < (l.length : Int); omega⟩, ?_, ?_, by rw [e]; omega⟩
  · rw [eg]
    exact small_of (l := out ++ [_]) (by rw [List.length_append, List.length_singleton]; omega)
  rw [eg, e]
  refine ⟨a, b - 1, rfl, rfl, h3, by omega, ?_, ?_, fun x hx y hy => ?_, fun x hx y hy => ?_⟩
  · exact rise_snoc h5 fun y hy => h8 y hy _ hmem
  · show (out ++ [l[b - 1]]).Perm _
    rw [hd]
    refine (h6.append_right _).trans ?_
    rw [List.append_assoc]
    exact (List.perm_append_singleton _ _).append_left _
  · rcases List.mem_append.1 hx with hx | hx
    · exact h7 x hx y hy
    · rw [List.mem_singleton] at hx; subst hx
      rcases hle with ha | ⟨ha, _, hle⟩
      · rw [ha, List.drop_length] at hy; cases hy
      · obtain ⟨j, hj⟩ := List.mem_iff_getElem?.1 hy
        rw [List.getElem?_drop] at hj
        obtain ⟨hjl, rfl⟩ := List.getElem?_eq_some_iff.1 hj
        rcases Nat.eq_zero_or_pos j with hz | hz
        · subst hz; exact hle
        · have : row[a] ≤ row[a + j] := List.pairwise_iff_getElem.1 hp.r a (a + j) ha hjl (by omega)
          omega
  · rcases List.mem_append.1 hx with hx | hx
    · exact h8 x hx y (by rw [ht]; exact List.mem_append.2 (.inl hy))
    · rw [List.mem_singleton] at hx; subst hx
      obtain ⟨j, hj, rfl⟩ := List.mem_take_iff_getElem.1 hy
      exact List.pairwise_iff_getElem.1 hp.d j (b - 1) (by omega) hb (by omega)
structure MeOut (row l out : List Int) : Prop where
  r : RiseN out
  p : out.Perm (row ++ l)
theorem meFin {A : Leaf} {row l out : List Int} {i k : Int} (hA : A = .std) (hI : MeW row l (out, i, k)) (b1 : A.cmp .lss i (A.len row) = false) (b2 : A.cmp .geq k 0 = false) : MeOut row l out := by
  obtain ⟨a, b, e1, e2, h3, h4, h5, h6, h7, h8⟩ := hI
  simp only at e1 e2 h5 h6
  have g2 := geqF hA b2
  subst hA e1
  have g1 : ¬ (a : Int) < (row.length : Int) := of_decide_eq_false b1
  have hb : b = 0 := by omega
  subst hb
  rw [List.take_of_length_le (by omega), List.drop_zero] at h6
  exact ⟨h5, h6⟩
theorem me_a {A : Leaf} {row l out : List Int} {i k : Int} (hA : A = .std) (hp : MeP row l) (hI : MeW row l (out, i, k)) (b1 : A.cmp .lss i (A.len row) = true ∨ A.cmp .geq k 0 = true) (c : A.cmp .lss k 0 = true) : MeRow A row l out i k := by
  obtain ⟨a, b, h⟩ := hI
  have h' := h
  obtain ⟨e1, e2, h3, h4, _⟩ := h'
  simp only at e1 e2
  have c : k < 0 := by subst hA; exact of_decide_eq_true c
  refine meRow hA hp h ?_ (.inl (by omega))
  rcases b1 with b1 | b1
  · subst hA e1
    have : (a : Int) < (row.length : Int) := of_decide_eq_true b1
    omega
  · have := geqT hA b1
    omega
structure MeCmp (A : Leaf) (row l out : List Int) (i k : Int) : Prop where
  q1 : A.inb i (A.len row)
  q2 : A.inb k (A.len l)
  yes : A.cmp .leq (A.get 0 row i) (A.get 0 l k) = true → MeRow A row l out i k
  no : A.cmp .leq (A.get 0 row i) (A.get 0 l k) = false → MeCnt A row l out i k
theorem me_b {A : Leaf} {row l out : List Int} {i k : Int} (hA : A = .std) (hp : MeP row l) (hI : MeW row l (out, i, k)) (c : A.cmp .lss k 0 = false) (d : A.cmp .lss i (A.len row) = true) : MeCmp A row l out i k := by
  obtain ⟨a, b, h⟩ := hI
  have h' := h
  obtain ⟨e1, e2, h3, h4, _⟩ := h'
  simp only at e1 e2
  have c : ¬ k < 0 := by subst hA; exact of_decide_eq_false c
  have ek : k = ((b - 1 : Nat) : Int) := by omega
  have d : (a : Int) < (row.length : Int) := by subst hA e1; exact of_decide_eq_true d
  have ha : a < row.length := by omega
  have hb : b - 1 < l.length := by omega
  have g1 : A.get 0 row i = row[a] := by subst hA e1; show row.getD _ _ = _; rw [Int.toNat_natCast]; simp [ha]
  have g2 : A.get 0 l k = l[b - 1] := by subst hA ek; show l.getD _ _ = _; rw [Int.toNat_natCast]; simp [hb]
  refine ⟨?_, ?_, fun hc => meRow hA hp h ha (.inr ⟨hb, by omega, ?_⟩), fun hc => meCnt hA hp h (by omega) (.inr ⟨ha, hb, ?_⟩)⟩
  · subst hA e1; exact ⟨by omega, by show (a : Int) < (row.length : Int); omega⟩
  · subst hA ek; exact ⟨by omega, by show ((b - 1 : Nat) : Int) < (l.length : Int); omega⟩
  · rw [g1, g2] at hc
    subst hA
    exact of_decide_eq_true hc
  · rw [g1, g2] at hc
    subst hA
    have hc : ¬ row[a] ≤ l[b - 1] := of_decide_eq_false hc
    omega
theorem me_c {A : Leaf} {row l out : List Int} {i k : Int} (hA : A = .std) (hp : MeP row l) (hI : MeW row l (out, i, k)) (c : A.cmp .lss k 0 = false) (d : A.cmp .lss i (A.len row) = false) : MeCnt A row l out i k := by
  obtain ⟨a, b, h⟩ := hI
  have h' := h
  obtain ⟨e1, e2, h3, h4, _⟩ := h'
  simp only at e1 e2
  have c : ¬ k < 0 := by subst hA; exact of_decide_eq_false c
  have d : ¬ (a : Int) < (row.length : Int) := by subst hA e1; exact of_decide_eq_false d
  exact meCnt hA hp h (by omega) (.inl (by omega))
theorem meIni {A : Leaf} {row l : List Int} (hA : A = .std) (hp : MeP row l) : MeW row l ([], 0, A.ar .sub .i64 (A.len l) 1) := by
  have hn := hp.n
  subst hA
  have e : Leaf.std.ar .sub .i64 (Leaf.std.len l) 1 = (l.length : Int) - 1 := sub_i64 (by show _ ≤ (l.length : Int) - 1; omega) (by show (l.length : Int) - 1 ≤ _; omega)
  rw [e]
  exact ⟨0, l.length, rfl, rfl, Nat.zero_le _, Nat.le_refl _, List.Pairwise.nil, (by rw [List.drop_length]; exact .refl _), (fun x hx => by cases hx), (fun x hx => by cases hx)⟩
theorem merged_ok (row l : List Int) (hp : MeP row l) : FOK Try.prog C1 34 (fun _ => false) [.ro (.ints .i64 row), .ro (.ints .i64 l)] []
    (fun rs H => ∃ out, rs = [.ro (.ints .i64 out)] ∧ H = [] ∧ MeOut row l out) := by
  refine fok_of (B := ⟨lookT tis, fun _ => false, []⟩) (tab1 _) (zero1 _) cod1 mix1 Try.func34 (by kernel_rfl) rfl rfl rfl fun X F => ?_
  obtain ⟨A, hA⟩ : ∃ A, A = Leaf.std := ⟨_, rfl⟩
  refine F.hold hA 2000 ?_
  cbv
  repeat (first
    | refine OK.drawn (by decide +kernel) ?_
    | refine OK.tree ⟨lookT tis, fun _ => true, []⟩ (by decide +kernel) ?_
    | refine OK.need (by first | assumption | (rw [hA]; first | (show (_ : Int) ≠ _; decide) | (show (0 : Int) ≤ _; decide) | (show (0 : Int) ≤ _ ∧ _ < (256 : Int); decide))) ?_
    | (refine F.hold hA 2000 ?_; cbv))
  refine F.loop (V := List Int × Int × Int) [0, 1, 5] (MeW row l) (fun w => ((3000 - w.2.1) + w.2.2).toNat) (fun w => [(7, .int .i64 w.2.1), (6, .int .i64 w.2.2)]) (fun w => [(0, .row 3 (.ints .i64 w.1))]) (_, _, _) (by cbv; repeat (first | exact WkH.nil _ | apply WkH.gone | refine WkH.eq rfl ?_)) (by cbv; repeat (first | apply WkL.any | exact WkL.nil _ | refine WkL.eq rfl ?_ | refine WkL.bool rfl ?_)) (by cbv; exact ⟨rfl⟩) ?_ ?_
  · exact meIni hA hp
  rintro ⟨out, i, k⟩ hI Bk hBk
  repeat (first
    | refine OK.drawn (by decide +kernel) ?_
    | refine OK.tree ⟨lookT tis, fun _ => true, []⟩ (by decide +kernel) ?_
    | refine OK.need (by first | assumption | (rw [hA]; first | (show (_ : Int) ≠ _; decide) | (show (0 : Int) ≤ _; decide) | (show (0 : Int) ≤ _ ∧ _ < (256 : Int); decide))) ?_
    | (refine F.hold hA 2000 ?_; cbv))
  refine OK.branch (fun b1 => ?_) (fun b1 => ?_)
  · have hb : A.cmp .lss i (A.len row) = true ∨ A.cmp .geq k 0 = true := .inl b1
    repeat (first
      | refine OK.drawn (by decide +kernel) ?_
      | refine OK.tree ⟨lookT tis, fun _ => true, []⟩ (by decide +kernel) ?_
      | refine OK.need (by first | assumption | (rw [hA]; first | (show (_ : Int) ≠ _; decide) | (show (0 : Int) ≤ _; decide) | (show (0 : Int) ≤ _ ∧ _ < (256 : Int); decide))) ?_
      | (refine F.hold hA 2000 ?_; cbv))
    refine OK.branch (fun c => ?_) (fun c => ?_)
    · have hr := me_a hA hp hI hb c
      have q1 := hr.q
      have q2 := hr.sm
      repeat (first
        | refine OK.drawn (by decide +kernel) ?_
        | refine OK.tree ⟨lookT tis, fun _ => true, []⟩ (by decide +kernel) ?_
        | refine OK.need (by first | assumption | (rw [hA]; first | (show (_ : Int) ≠ _; decide) | (show (0 : Int) ≤ _; decide) | (show (0 : Int) ≤ _ ∧ _ < (256 : Int); decide))) ?_
        | (refine F.hold hA 2000 ?_; cbv))
      refine OK.back (hBk _ _ (_, _, _) (by cbv; repeat (first | exact WkH.nil _ | apply WkH.gone | refine WkH.eq rfl ?_)) (by cbv; repeat (first | apply WkL.any | exact WkL.nil _ | refine WkL.eq rfl ?_ | refine WkL.bool rfl ?_)) (by cbv; exact ⟨rfl⟩) ?_ ?_)
      · exact hr.nx
      · exact hr.mu
    · repeat (first
        | refine OK.drawn (by decide +kernel) ?_
        | refine OK.tree ⟨lookT tis, fun _ => true, []⟩ (by decide +kernel) ?_
        | refine OK.need (by first | assumption | (rw [hA]; first | (show (_ : Int) ≠ _; decide) | (show (0 : Int) ≤ _; decide) | (show (0 : Int) ≤ _ ∧ _ < (256 : Int); decide))) ?_
        | (refine F.hold hA 2000 ?_; cbv))
      refine OK.branch (fun d => ?_) (fun d => ?_)
      · have hc := me_b hA hp hI c d
        have q3 := hc.q1
        have q4 := hc.q2
        repeat (first
          | refine OK.drawn (by decide +kernel) ?_
          | refine OK.tree ⟨lookT tis, fun _ => true, []⟩ (by decide +kernel) ?_
          | refine OK.need (by first | assumption | (rw [hA]; first | (show (_ : Int) ≠ _; decide) | (show (0 : Int) ≤ _; decide) | (show (0 : Int) ≤ _ ∧ _ < (256 : Int); decide))) ?_
          | (refine F.hold hA 2000 ?_; cbv))
        refine OK.branch (fun e => ?_) (fun e => ?_)
        · have hr := hc.yes e
          have q1 := hr.q
          have q2 := hr.sm
          repeat (first
            | refine OK.drawn (by decide +kernel) ?_
            | refine OK.tree ⟨lookT tis, fun _ => true, []⟩ (by decide +kernel) ?_
            | refine OK.need (by first | assumption | (rw [hA]; first | (show (_ : Int) ≠ _; decide) | (show (0 : Int) ≤ _; decide) | (show (0 : Int) ≤ _ ∧ _ < (256 : Int); decide))) ?_
            | (refine F.hold hA 2000 ?_; cbv))
          refine OK.back (hBk _ _ (_, _, _) (by cbv; repeat (first | exact WkH.nil _ | apply WkH.gone | refine WkH.eq rfl ?_)) (by cbv; repeat (first | apply WkL.any | exact WkL.nil _ | refine WkL.eq rfl ?_ | refine WkL.bool rfl ?_)) (by cbv; exact ⟨rfl⟩) ?_ ?_)
          · exact hr.nx
          · exact hr.mu
        · have hr := hc.no e
          have q1 := hr.q
          have q2 := hr.sm
          repeat (first
            | refine OK.drawn (by decide +kernel) ?_
            | refine OK.tree ⟨lookT tis, fun _ => true, []⟩ (by decide +kernel) ?_
            | refine OK.need (by first | assumption | (rw [hA]; first | (show (_ : Int) ≠ _; decide) | (show (0 : Int) ≤ _; decide) | (show (0 : Int) ≤ _ ∧ _ < (256 : Int); decide))) ?_
            | (refine F.hold hA 2000 ?_; cbv))
          refine OK.back (hBk _ _ (_, _, _) (by cbv; repeat (first | exact WkH.nil _ | apply WkH.gone | refine WkH.eq rfl ?_)) (by cbv; repeat (first | apply WkL.any | exact WkL.nil _ | refine WkL.eq rfl ?_ | refine WkL.bool rfl ?_)) (by cbv; exact ⟨rfl⟩) ?_ ?_)
          · exact hr.nx
          · exact hr.mu
      · have hr := me_c hA hp hI c d
        have q1 := hr.q
        have q2 := hr.sm
        repeat (first
          | refine OK.drawn (by decide +kernel) ?_
          | refine OK.tree ⟨lookT tis, fun _ => true, []⟩ (by decide +kernel) ?_
          | refine OK.need (by first | assumption | (rw [hA]; first | (show (_ : Int) ≠ _; decide) | (show (0 : Int) ≤ _; decide) | (show (0 : Int) ≤ _ ∧ _ < (256 : Int); decide))) ?_
          | (refine F.hold hA 2000 ?_; cbv))
        refine OK.back (hBk _ _ (_, _, _) (by cbv; repeat (first | exact WkH.nil _ | apply WkH.gone | refine WkH.eq rfl ?_)) (by cbv; repeat (first | apply WkL.any | exact WkL.nil _ | refine WkL.eq rfl ?_ | refine WkL.bool rfl ?_)) (by cbv; exact ⟨rfl⟩) ?_ ?_)
        · exact hr.nx
        · exact hr.mu
  · repeat (first
      | refine OK.drawn (by decide +kernel) ?_
      | refine OK.tree ⟨lookT tis, fun _ => true, []⟩ (by decide +kernel) ?_
      | refine OK.need (by first | assumption | (rw [hA]; first | (show (_ : Int) ≠ _; decide) | (show (0 : Int) ≤ _; decide) | (show (0 : Int) ≤ _ ∧ _ < (256 : Int); decide))) ?_
      | (refine F.hold hA 2000 ?_; cbv))
    refine OK.branch (fun b2 => ?_) (fun b2 => ?_)
    · have hb : A.cmp .lss i (A.len row) = true ∨ A.cmp .geq k 0 = true := .inr b2
      repeat (first
        | refine OK.drawn (by decide +kernel) ?_
        | refine OK.tree ⟨lookT tis, fun _ => true, []⟩ (by decide +kernel) ?_
        | refine OK.need (by first | assumption | (rw [hA]; first | (show (_ : Int) ≠ _; decide) | (show (0 : Int) ≤ _; decide) | (show (0 : Int) ≤ _ ∧ _ < (256 : Int); decide))) ?_
        | (refine F.hold hA 2000 ?_; cbv))
      refine OK.branch (fun c => ?_) (fun c => ?_)
      · have hr := me_a hA hp hI hb c
        have q1 := hr.q
        have q2 := hr.sm
        repeat (first
          | refine OK.drawn (by decide +kernel) ?_
          | refine OK.tree ⟨lookT tis, fun _ => true, []⟩ (by decide +kernel) ?_
          | refine OK.need (by first | assumption | (rw [hA]; first | (show (_ : Int) ≠ _; decide) | (show (0 : Int) ≤ _; decide) | (show (0 : Int) ≤ _ ∧ _ < (256 : Int); decide))) ?_
          | (refine F.hold hA 2000 ?_; cbv))
        refine OK.back (hBk _ _ (_, _, _) (by cbv; repeat (first | exact WkH.nil _ | apply WkH.gone | refine WkH.eq rfl ?_)) (by cbv; repeat (first | apply WkL.any | exact WkL.nil _ | refine WkL.eq rfl ?_ | refine WkL.bool rfl ?_)) (by cbv; exact ⟨rfl⟩) ?_ ?_)
        · exact hr.nx
        · exact hr.mu
      · repeat (first
          | refine OK.drawn (by decide +kernel) ?_
          | refine OK.tree ⟨lookT tis, fun _ => true, []⟩ (by decide +kernel) ?_
          | refine OK.need (by first | assumption | (rw [hA]; first | (show (_ : Int) ≠ _; decide) | (show (0 : Int) ≤ _; decide) | (show (0 : Int) ≤ _ ∧ _ < (256 : Int); decide))) ?_
          | (refine F.hold hA 2000 ?_; cbv))
        refine OK.branch (fun d => ?_) (fun d => ?_)
        · have hc := me_b hA hp hI c d
          have q3 := hc.q1
          have q4 := hc.q2
          repeat (first
            | refine OK.drawn (by decide +kernel) ?_
            | refine OK.tree ⟨lookT tis, fun _ => true, []⟩ (by decide +kernel) ?_
            | refine OK.need (by first | assumption | (rw [hA]; first | (show (_ : Int) ≠ _; decide) | (show (0 : Int) ≤ _; decide) | (show (0 : Int) ≤ _ ∧ _ < (256 : Int); decide))) ?_
            | (refine F.hold hA 2000 ?_; cbv))
          refine OK.branch (fun e => ?_) (fun e => ?_)
          · have hr := hc.yes e
            have q1 := hr.q
            have q2 := hr.sm
            repeat (first
              | refine OK.drawn (by decide +kernel) ?_
              | refine OK.tree ⟨lookT tis, fun _ => true, []⟩ (by decide +kernel) ?_
              | refine OK.need (by first | assumption | (rw [hA]; first | (show (_ : Int) ≠ _; decide) | (show (0 : Int) ≤ _; decide) | (show (0 : Int) ≤ _ ∧ _ < (256 : Int); decide))) ?_
              | (refine F.hold hA 2000 ?_; cbv))
            refine OK.back (hBk _ _ (_, _, _) (by cbv; repeat (first | exact WkH.nil _ | apply WkH.gone | refine WkH.eq rfl ?_)) (by cbv; repeat (first | apply WkL.any | exact WkL.nil _ | refine WkL.eq rfl ?_ | refine WkL.bool rfl ?_)) (by cbv; exact ⟨rfl⟩) ?_ ?_)
            · exact hr.nx
            · exact hr.mu
          · have hr := hc.no e
            have q1 := hr.q
            have q2 := hr.sm
            repeat (first
              | refine OK.drawn (by decide +kernel) ?_
              | refine OK.tree ⟨lookT tis, fun _ => true, []⟩ (by decide +kernel) ?_
              | refine OK.need (by first | assumption | (rw [hA]; first | (show (_ : Int) ≠ _; decide) | (show (0 : Int) ≤ _; decide) | (show (0 : Int) ≤ _ ∧ _ < (256 : Int); decide))) ?_
              | (refine F.hold hA 2000 ?_; cbv))
            refine OK.back (hBk _ _ (_, _, _) (by cbv; repeat (first | exact WkH.nil _ | apply WkH.gone | refine WkH.eq rfl ?_)) (by cbv; repeat (first | apply WkL.any | exact WkL.nil _ | refine WkL.eq rfl ?_ | refine WkL.bool rfl ?_)) (by cbv; exact ⟨rfl⟩) ?_ ?_)
            · exact hr.nx
            · exact hr.mu
        · have hr := me_c hA hp hI c d
          have q1 := hr.q
          have q2 := hr.sm
          repeat (first
            | refine OK.drawn (by decide +kernel) ?_
            | refine OK.tree ⟨lookT tis, fun _ => true, []⟩ (by decide +kernel) ?_
            | refine OK.need (by first | assumption | (rw [hA]; first | (show (_ : Int) ≠ _; decide) | (show (0 : Int) ≤ _; decide) | (show (0 : Int) ≤ _ ∧ _ < (256 : Int); decide))) ?_
            | (refine F.hold hA 2000 ?_; cbv))
          refine OK.back (hBk _ _ (_, _, _) (by cbv; repeat (first | exact WkH.nil _ | apply WkH.gone | refine WkH.eq rfl ?_)) (by cbv; repeat (first | apply WkL.any | exact WkL.nil _ | refine WkL.eq rfl ?_ | refine WkL.bool rfl ?_)) (by cbv; exact ⟨rfl⟩) ?_ ?_)
          · exact hr.nx
          · exact hr.mu
    · have hfin := meFin hA hI b1 b2
      repeat (first
        | refine OK.drawn (by decide +kernel) ?_
        | refine OK.tree ⟨lookT tis, fun _ => true, []⟩ (by decide +kernel) ?_
        | refine OK.need (by first | assumption | (rw [hA]; first | (show (_ : Int) ≠ _; decide) | (show (0 : Int) ≤ _; decide) | (show (0 : Int) ≤ _ ∧ _ < (256 : Int); decide))) ?_
        | (refine F.hold hA 2000 ?_; cbv))
      exact F.ret (rs' := [.ro (.ints .i64 _)]) (H' := []) (Cv.trans (Cv.freeze F.cod 0 rfl) (F.cv ⟨rfl⟩ (by cbv; repeat (first | apply WkL.any | exact WkL.nil _ | refine WkL.eq rfl ?_)) (WkH.nil _))) rfl ⟨_, rfl, rfl, hfin⟩
end Go.L1

-- S31
namespace Go.L1
open Go Go.Sx Go.Proofs Go.L5
set_option maxRecDepth 20000
set_option linter.unusedVariables false
set_option linter.unusedSimpArgs false
/-- What is known ahead. -/
structure LeP (counts : List Int) (limit : Int) (cs : List Coin) : Prop where
  co : Coins counts cs
  nw : ¬ WrongB counts limit
  few : cs.length ≤ 2 ^ limit.toNat
  tot : costN (cs.map Coin.wt) limit.toNat ≤ 10000000000000000
theorem leP {counts l : List Int} {limit : Int} {cs : List Coin} (h : BuGood counts limit l cs) : LeP counts limit cs := by
  obtain ⟨f1, f2, f3, f4⟩ := nw_facts h.nw
  refine ⟨h.ic.all, h.nw, h.few, ?_⟩
  rw [← good_cost h]
  have := costL_le counts l
  omega
structure LeC (counts ul : List Int) (limit : Int) (cs : List Coin) : Prop where
  p : LeP counts limit cs
  d : Desc ul
  e : ul.reverse = cs.map Coin.wt
  n : ul.length = cs.length
  n2 : cs.length ≤ 320
theorem leC {counts ul : List Int} {limit : Int} {cs : List Coin} {ok : Bool} (hp : LeP counts limit cs) (hu : UsedIs counts ul ok) : LeC counts ul limit cs := by
  obtain ⟨f1, f2, f3, f4⟩ := nw_facts hp.nw
  have hok : ok = true := by
    cases ok with
    | true => rfl
    | false =>
      obtain ⟨c, hc, h⟩ := hu.no rfl
      exact absurd (.inr (.inl ⟨c, hc, h⟩)) hp.nw
  obtain ⟨u1, u2, u3⟩ := hu.yes hok
  obtain ⟨p1, r1⟩ := coins_wts hp.co
  have hr : RiseN ul.reverse := List.pairwise_reverse.2 u1
  have he : ul.reverse = cs.map Coin.wt := rise_perm hr r1 ((List.reverse_perm _).trans (u2.trans p1.symm))
  have hn : ul.length = cs.length := by
    have := congrArg List.length he
    rwa [List.length_reverse, List.length_map] at this
  refine ⟨hp, u1, he, hn, ?_⟩
  have h1 := hp.co.perm.length_eq
  have h2 := leaves_len counts 0
  omega
structure LeastIs (cs : List Coin) (limit n : Int) : Prop where
  e : n = costN (cs.map Coin.wt) limit.toNat
theorem leZero {A : Leaf} {counts ul : List Int} {limit : Int} {cs : List Coin} (hA : A = .std) (hc : LeC counts ul limit cs) (b : A.cmp .eql (A.len ul) 0 = true) : LeastIs cs limit 0 := by
  have h := eqT hA b
  subst hA
  have h : (ul.length : Int) = 0 := h
  have : cs = [] := List.length_eq_zero_iff.1 (by have := hc.n; omega)
  subst this
  exact ⟨rfl⟩
structure LeOne (A : Leaf) (ul : List Int) (cs : List Coin) (limit : Int) : Prop where
  q : A.inb 0 (A.len ul)
  fin : LeastIs cs limit (A.get 0 ul 0)
theorem leOne {A : Leaf} {counts ul : List Int} {limit : Int} {cs : List Coin} (hA : A = .std) (hc : LeC counts ul limit cs) (b : A.cmp .eql (A.len ul) 1 = true) : LeOne A ul cs limit := by
  have h := eqT hA b
  subst hA
  have h : (ul.length : Int) = 1 := h
  have hn := hc.n
  have he := hc.e
  match cs, hn, he with
  | [x], hn, he =>
    match ul, hn, he with
    | [u], _, he =>
      simp at he
      refine ⟨⟨by decide, by show (0 : Int) < ((1 : Nat) : Int); decide⟩, ⟨?_⟩⟩
      show u = x.wt
      exact he
  | [], hn, _ => simp at hn; rw [hn] at h; simp at h
  | _ :: _ :: _, hn, _ => simp at hn; omega
structure LwI (cs : List Coin) (limit : Int) (row : List Int) (i : Int) (d : Nat) : Prop where
  ei : i = (d : Int)
  le : (d : Int) ≤ limit
  row : row = nrows (cs.map Coin.wt) d
def LwW (cs : List Coin) (limit : Int) (w : List Int × Int) : Prop := ∃ d, LwI cs limit w.1 w.2 d
structure RowB (row : List Int) : Prop where
  n : row.length ≤ 640
  v : ∀ x ∈ row, 0 ≤ x ∧ x ≤ 36028797018963968
theorem rowB {counts ul : List Int} {limit : Int} {cs : List Coin} (hc : LeC counts ul limit cs) {d : Nat} (hd : (d : Int) ≤ limit) : RowB (nrows (cs.map Coin.wt) d) := by
  obtain ⟨f1, f2, f3, f4⟩ := nw_facts hc.p.nw
  rw [← rows_map]
  have hn := hc.n2
  refine ⟨by rw [List.length_map]; have := rows_len2 cs d; omega, fun x hx => ?_⟩
  obtain ⟨y, hy, rfl⟩ := List.mem_map.1 hx
  have h1 := rows_wt (W := 1099511627776) (fun c hc' => by
    obtain ⟨t, c', h1, h2, rfl⟩ := (hc.p.co.mem c).1 hc'
    exact f4 c' (List.mem_of_getElem? h1)) d y hy
  have h2 : (1099511627776 : Int) * 2 ^ d ≤ 1099511627776 * 2 ^ 15 := Int.mul_le_mul_of_nonneg_left (by
    have : (2 : Nat) ^ d ≤ 2 ^ 15 := Nat.pow_le_pow_right (by decide) (by omega)
    exact_mod_cast this) (by decide)
  have h3 : (1099511627776 : Int) * 2 ^ 15 = 36028797018963968 := by decide
  omega
def NxW (row : List Int) (w : List Int × Int) : Prop := ∃ a : Nat, w.2 = ((2 * a : Nat) : Int) ∧ 2 * a ≤ row.length + 1 ∧ w.1 = prn (row.take (2 * a))
structure NxAt (A : Leaf) (row next : List Int) (i : Int) : Prop where
  q1 : A.inb i (A.len row)
  q2 : A.inb (A.ar .add .i64 i 1) (A.len row)
  sm : A.small (A.len (A.app next [A.ar .add .i64 (A.get 0 row i) (A.get 0 row (A.ar .add .i64 i 1))])) 8
  nx : NxW row (A.app next [A.ar .add .i64 (A.get 0 row i) (A.get 0 row (A.ar .add .i64 i 1))], A.ar .add .i64 i 2)
  mu : (2000 - A.ar .add .i64 i 2).toNat < (2000 - i).toNat
theorem prn_snoc : ∀ (l : List Int) (x y : Int), l.length % 2 = 0 → prn (l ++ [x, y]) = prn l ++ [x + y]
  | [], x, y, _ => rfl
  | [_], x, y, h => by simp at h
  | a :: b :: l, x, y, h => by
    rw [List.cons_append, List.cons_append, prn, prn_snoc l x y (by simp only [List.length_cons] at h; omega), prn]; rfl
theorem prn_len : ∀ l : List Int, (prn l).length = l.length / 2
  | [] => rfl
  | [_] => by simp [prn]
  | a :: b :: l => by rw [prn, List.length_cons, prn_len l]; simp only [List.length_cons]; omega
theorem nxAt {A : Leaf} {row next : List Int} {i : Int} (hA : A = .std) (hb : RowB row) (hI : NxW row (next, i)) (b : A.cmp .lss (A.ar .add .i64 i 1) (A.len row) = true) : NxAt A row next i := by
  obtain ⟨a, h1, h2, h3⟩ := hI
  simp only at h1 h3
  have hn := hb.n
  subst hA h1
  have e1 : Leaf.std.ar .add .i64 ((2 * a : Nat) : Int) 1 = ((2 * a + 1 : Nat) : Int) := by rw [add_i64 (by omega) (by omega)]; omega
  have e2 : Leaf.std.ar .add .i64 ((2 * a : Nat) : Int) 2 = ((2 * (a + 1) : Nat) : Int) := by rw [add_i64 (by omega) (by omega)]; omega
  rw [e1] at b
  have b : ((2 * a + 1 : Nat) : Int) < (row.length : Int) := of_decide_eq_true b
  have hk : 2 * a < row.length := by omega
  have hk1 : 2 * a + 1 < row.length := by omega
  have g1 : Leaf.std.get 0 row ((2 * a : Nat) : Int) = row[2 * a] := by show row.getD _ _ = _; rw [Int.toNat_natCast]; simp [hk]
  have g2 : Leaf.std.get 0 row ((2 * a + 1 : Nat) : Int) = row[2 * a + 1] := by show row.getD _ _ = _; rw [Int.toNat_natCast]; simp [hk1]
  have v1 := hb.v _ (List.getElem_mem hk)
  have v2 := hb.v _ (List.getElem_mem hk1)
  have hnl : next.length ≤ 640 := by rw [h3, prn_len, List.length_take]; omega
  rw [show NxAt Leaf.std row next ((2 * a : Nat) : Int) = NxAt Leaf.std row next ((2 * a : Nat) : Int) from rfl]
  refine ⟨⟨by omega, by show ((2 * a : Nat) : Int) < (row.length : Int); omega⟩, by rw [e1]; exact ⟨by omega, b⟩, small_of (l := next ++ [_]) (by rw [List.length_append, List.length_singleton]; omega), ?_, by rw [e2]; omega⟩
  rw [e1, e2, g1, g2, add_i64 (by omega) (by omega)]
  refine ⟨a + 1, rfl, by omega, ?_⟩
  show next ++ [_] = _
  have ht : row.take (2 * (a + 1)) = row.take (2 * a) ++ [row[2 * a], row[2 * a + 1]] := by
    rw [show 2 * (a + 1) = 2 * a + 1 + 1 by omega, List.take_succ_eq_append_getElem hk1, List.take_succ_eq_append_getElem hk, List.append_assoc]; rfl
  rw [ht, prn_snoc _ _ _ (by rw [List.length_take]; omega), ← h3]
theorem prn_rest : ∀ (l : List Int) (a : Nat), l.length ≤ 2 * a + 1 → prn (l.take (2 * a)) = prn l
  | l, 0, h => by
    match l, h with
    | [], _ => rfl
    | [_], _ => rfl
    | _ :: _ :: _, h => simp at h
  | [], a + 1, _ => by simp
  | [_], a + 1, _ => by rw [List.take_of_length_le (by simp; omega)]
  | x :: y :: l, a + 1, h => by
    rw [show 2 * (a + 1) = 2 * a + 1 + 1 by omega, List.take_succ_cons, List.take_succ_cons, prn, prn, prn_rest l a (by simp only [List.length_cons] at h; omega)]
structure NxEnd (row next : List Int) : Prop where
  e : next = prn row
theorem nxEnd {A : Leaf} {row next : List Int} {i : Int} (hA : A = .std) (hb : RowB row) (hI : NxW row (next, i)) (b : A.cmp .lss (A.ar .add .i64 i 1) (A.len row) = false) : NxEnd row next := by
  obtain ⟨a, h1, h2, h3⟩ := hI
  simp only at h1 h3
  have hn := hb.n
  subst hA h1
  have e1 : Leaf.std.ar .add .i64 ((2 * a : Nat) : Int) 1 = ((2 * a + 1 : Nat) : Int) := by rw [add_i64 (by omega) (by omega)]; omega
  rw [e1] at b
  have b : ¬ ((2 * a + 1 : Nat) : Int) < (row.length : Int) := of_decide_eq_false b
  exact ⟨by rw [h3, prn_rest _ _ (by omega)]⟩
structure LwAt (A : Leaf) (counts ul : List Int) (cs : List Coin) (limit : Int) (row : List Int) (i : Int) : Prop where
  b : RowB row
  me : ∀ next, NxEnd row next → MeP next ul
  nx : ∀ next out, NxEnd row next → MeOut next ul out → LwW cs limit (out, A.ar .add .i64 i 1)
  mu : (limit - A.ar .add .i64 i 1).toNat < (limit - i).toNat
theorem lwAt {A : Leaf} {counts ul : List Int} {limit : Int} {cs : List Coin} {row : List Int} {i : Int} (hA : A = .std) (hc : LeC counts ul limit cs) (hI : LwW cs limit (row, i)) (b : A.cmp .lss i limit = true) : LwAt A counts ul cs limit row i := by
  obtain ⟨d, h1, h2, h3⟩ := hI
  simp only at h1 h3
  obtain ⟨f1, f2, f3, f4⟩ := nw_facts hc.p.nw
  subst hA h1 h3
  have b : (d : Int) < limit := of_decide_eq_true b
  have e : Leaf.std.ar .add .i64 (d : Int) 1 = ((d + 1 : Nat) : Int) := by rw [add_i64 (by omega) (by omega)]; omega
  have hb := rowB hc h2
  have hbn := hb.n
  have hn := hc.n
  have hn2 := hc.n2
  have hws : RiseN (cs.map Coin.wt) := riseN hc.p.co.rise
  have hr := nrows_rise hws d
  refine ⟨hb, fun next hx => ⟨by rw [hx.e]; exact prn_rise hr, hc.d, by rw [hx.e, prn_len]; omega⟩, fun next out hx ho => ?_, by rw [e]; omega⟩
  rw [e]
  refine ⟨d + 1, rfl, by omega, ?_⟩
  refine rise_perm ho.r (nrows_rise hws (d + 1)) ?_
  rw [nrows]
  refine ho.p.trans ?_
  rw [hx.e]
  refine .trans ?_ (mrg_perm ..).symm
  rw [← hc.e]
  exact (List.perm_append_comm).trans ((List.reverse_perm ul).symm.append_right _)
structure LeEnd (cs : List Coin) (limit : Int) (row : List Int) : Prop where
  e : row = nrows (cs.map Coin.wt) limit.toNat
  b : RowB row
theorem leEnd {A : Leaf} {counts ul : List Int} {limit : Int} {cs : List Coin} {row : List Int} {i : Int} (hA : A = .std) (hc : LeC counts ul limit cs) (hI : LwW cs limit (row, i)) (b : A.cmp .lss i limit = false) : LeEnd cs limit row := by
  obtain ⟨d, h1, h2, h3⟩ := hI
  simp only at h1 h3
  subst hA h1
  have b : ¬ (d : Int) < limit := of_decide_eq_false b
  have hb := rowB hc h2
  rw [← h3] at hb
  refine ⟨?_, hb⟩
  rw [h3]; congr 1; omega
def CsW (row : List Int) (n : Nat) (w : Int × Int) : Prop := ∃ k : Nat, w.2 = k ∧ k ≤ 2 * n - 2 ∧ w.1 = isum (row.take k)
theorem isum_take_le {l : List Int} (h : ∀ x ∈ l, 0 ≤ x) {a b : Nat} (hab : a ≤ b) : isum (l.take a) ≤ isum (l.take b) := by
  have : l.take b = l.take a ++ (l.drop a).take (b - a) := by
    have : b = a + (b - a) := by omega
    rw [this, List.take_add]; congr 2; omega
  rw [this, isum_app]
  have := isum_nn (l := (l.drop a).take (b - a)) fun x hx => h x (List.mem_of_mem_drop (List.mem_of_mem_take hx))
  omega
structure CsQ (A : Leaf) (ul row : List Int) (n : Nat) : Prop where
  n2 : 2 ≤ n
  n3 : n ≤ 320
  e : A.ar .sub .i64 (A.ar .mul .i64 2 (A.len ul)) 2 = ((2 * n - 2 : Nat) : Int)
  len : 2 * n - 2 ≤ row.length
  tot : isum (row.take (2 * n - 2)) ≤ 10000000000000000
  nn : ∀ x ∈ row, 0 ≤ x
theorem csQ {A : Leaf} {counts ul : List Int} {limit : Int} {cs : List Coin} {row : List Int} (hA : A = .std) (hc : LeC counts ul limit cs) (he : LeEnd cs limit row) (b0 : A.cmp .eql (A.len ul) 0 = false) (b1 : A.cmp .eql (A.len ul) 1 = false) : CsQ A ul row cs.length := by
  obtain ⟨f1, f2, f3, f4⟩ := nw_facts hc.p.nw
  have h0 := eqF hA b0
  have h1 := eqF hA b1
  have hn := hc.n
  have hn2 := hc.n2
  subst hA
  have h0 : (ul.length : Int) ≠ 0 := h0
  have h1 : (ul.length : Int) ≠ 1 := h1
  have e1 : Leaf.std.ar .mul .i64 2 (Leaf.std.len ul) = 2 * (ul.length : Int) := mul_i64 (by show _ ≤ 2 * (ul.length : Int); omega) (by show 2 * (ul.length : Int) ≤ _; omega)
  have hlen : 2 * cs.length - 2 ≤ row.length := by
    rw [he.e, ← rows_map, List.length_map]
    exact rows_has cs (by omega) (by omega) hc.p.few
  refine ⟨by omega, hn2, by rw [e1, sub_i64 (by omega) (by omega)]; omega, hlen, ?_, fun x hx => (he.b.v x hx).1⟩
  have := hc.p.tot
  rw [costN_two (by rw [List.length_map]; omega), List.length_map, ← he.e] at this
  exact this
structure CsAt (A : Leaf) (row : List Int) (n : Nat) (c i : Int) : Prop where
  q : A.inb i (A.len row)
  nx : CsW row n (A.ar .add .i64 c (A.get 0 row i), A.ar .add .i64 i 1)
  mu : (2000 - A.ar .add .i64 i 1).toNat < (2000 - i).toNat
theorem csAt {A : Leaf} {ul row : List Int} {n : Nat} {c i : Int} (hA : A = .std) (hq : CsQ A ul row n) (hI : CsW row n (c, i)) (b : A.cmp .lss i (A.ar .sub .i64 (A.ar .mul .i64 2 (A.len ul)) 2) = true) : CsAt A row n c i := by
  obtain ⟨k, h1, h2, h3⟩ := hI
  simp only at h1 h3
  obtain ⟨q1, q2, q3, q4, q5, q6⟩ := hq
  rw [q3] at b
  subst hA h1
  have b : (k : Int) < ((2 * n - 2 : Nat) : Int) := of_decide_eq_true b
  have hk : k < row.length := by omega
  have eg : Leaf.std.get 0 row (k : Int) = row[k] := by show row.getD _ _ = _; rw [Int.toNat_natCast]; simp [hk]
  have e : Leaf.std.ar .add .i64 (k : Int) 1 = ((k + 1 : Nat) : Int) := by rw [add_i64 (by omega) (by omega)]; omega
  have hs : isum (row.take (k + 1)) = c + row[k] := by
    rw [List.take_succ_eq_append_getElem hk, isum_app, ← h3, isum, isum]; omega
  have h4 := isum_take_le q6 (a := k + 1) (b := 2 * n - 2) (by omega)
  have h5 : 0 ≤ c := by rw [h3]; exact isum_nn fun x hx => q6 x (List.mem_of_mem_take hx)
  have h6 := q6 _ (List.getElem_mem hk)
  refine ⟨⟨by omega, by show (k : Int) < (row.length : Int); omega⟩, ?_, by rw [e]; omega⟩
  rw [eg, e, add_i64 (by omega) (by omega)]
  exact ⟨k + 1, rfl, by omega, hs.symm⟩
theorem csFin {A : Leaf} {counts ul : List Int} {limit : Int} {cs : List Coin} {row : List Int} {c i : Int} (hA : A = .std) (he : LeEnd cs limit row) (hq : CsQ A ul row cs.length) (hI : CsW row cs.length (c, i)) (b : A.cmp .lss i (A.ar .sub .i64 (A.ar .mul .i64 2 (A.len ul)) 2) = false) : LeastIs cs limit c := by
  obtain ⟨k, h1, h2, h3⟩ := hI
  simp only at h1 h3
  obtain ⟨q1, q2, q3, q4, q5, q6⟩ := hq
  rw [q3] at b
  subst hA h1
  have b : ¬ (k : Int) < ((2 * cs.length - 2 : Nat) : Int) := of_decide_eq_false b
  have hk : k = 2 * cs.length - 2 := by omega
  refine ⟨?_⟩
  rw [costN_two (by rw [List.length_map]; exact q1), List.length_map, ← he.e, h3, hk]
theorem least_ok (counts : List Int) (limit : Int) (cs : List Coin) (hn : counts.length ≤ 400) (hp : LeP counts limit cs) : FOK Try.prog C1 20 (fun _ => false) [.ro (.ints .i64 counts), .int .i64 limit] []
    (fun rs H => ∃ n, rs = [.int .i64 n] ∧ H = [] ∧ LeastIs cs limit n) := by
  refine fok_of (B := ⟨lookT tis, fun _ => false, []⟩) (tab1 _) (zero1 _) cod1 mix1 Try.func20 (by kernel_rfl) rfl rfl rfl fun X F => ?_
  obtain ⟨A, hA⟩ : ∃ A, A = Leaf.std := ⟨_, rfl⟩
  refine F.hold hA 2000 ?_
  cbv
  repeat (first
    | refine OK.drawn (by decide +kernel) ?_
    | refine OK.tree ⟨lookT tis, fun _ => true, []⟩ (by decide +kernel) ?_
    | refine OK.need (by first | assumption | (rw [hA]; first | (show (_ : Int) ≠ _; decide) | (show (0 : Int) ≤ _; decide) | (show (0 : Int) ≤ _ ∧ _ < (256 : Int); decide))) ?_
    | (refine F.hold hA 2000 ?_; cbv))
  refine F.call [] (used_ok counts hn) rfl rfl rfl fun rs H' hq => ?_
  obtain ⟨ul, ok, rfl, rfl, hu⟩ := hq
  refine ⟨rfl, ?_⟩
  have hc := leC hp hu
  repeat (first
    | refine OK.drawn (by decide +kernel) ?_
    | refine OK.tree ⟨lookT tis, fun _ => true, []⟩ (by decide +kernel) ?_
    | refine OK.need (by first | assumption | (rw [hA]; first | (show (_ : Int) ≠ _; decide) | (show (0 : Int) ≤ _; decide) | (show (0 : Int) ≤ _ ∧ _ < (256 : Int); decide))) ?_
    | (refine F.hold hA 2000 ?_; cbv))
  refine OK.branch (fun b0 => ?_) (fun b0 => ?_)
  · have hf := leZero hA hc b0
    repeat (first
      | refine OK.drawn (by decide +kernel) ?_
      | refine OK.tree ⟨lookT tis, fun _ => true, []⟩ (by decide +kernel) ?_
      | refine OK.need (by first | assumption | (rw [hA]; first | (show (_ : Int) ≠ _; decide) | (show (0 : Int) ≤ _; decide) | (show (0 : Int) ≤ _ ∧ _ < (256 : Int); decide))) ?_
      | (refine F.hold hA 2000 ?_; cbv))
    exact F.ret0 ⟨_, rfl, rfl, hf⟩
  repeat (first
    | refine OK.drawn (by decide +kernel) ?_
    | refine OK.tree ⟨lookT tis, fun _ => true, []⟩ (by decide +kernel) ?_
    | refine OK.need (by first | assumption | (rw [hA]; first | (show (_ : Int) ≠ _; decide) | (show (0 : Int) ≤ _; decide) | (show (0 : Int) ≤ _ ∧ _ < (256 : Int); decide))) ?_
    | (refine F.hold hA 2000 ?_; cbv))
  refine OK.branch (fun b1 => ?_) (fun b1 => ?_)
  · have hf := leOne hA hc b1
    have q := hf.q
    have hff := hf.fin
    repeat (first
      | refine OK.drawn (by decide +kernel) ?_
      | refine OK.tree ⟨lookT tis, fun _ => true, []⟩ (by decide +kernel) ?_
      | refine OK.need (by first | assumption | (rw [hA]; first | (show (_ : Int) ≠ _; decide) | (show (0 : Int) ≤ _; decide) | (show (0 : Int) ≤ _ ∧ _ < (256 : Int); decide))) ?_
      | (refine F.hold hA 2000 ?_; cbv))
    exact F.ret0 ⟨_, rfl, rfl, hff⟩
  repeat (first
    | refine OK.drawn (by decide +kernel) ?_
    | refine OK.tree ⟨lookT tis, fun _ => true, []⟩ (by decide +kernel) ?_
    | refine OK.need (by first | assumption | (rw [hA]; first | (show (_ : Int) ≠ _; decide) | (show (0 : Int) ≤ _; decide) | (show (0 : Int) ≤ _ ∧ _ < (256 : Int); decide))) ?_
    | (refine F.hold hA 2000 ?_; cbv))
  refine OK.loopCv (Cv.freeze F.cod 0 rfl) ?_
  refine F.loop (V := List Int × Int) [1, 5, 7] (LwW cs limit) (fun w => (limit - w.2).toNat) (fun w => [(8, .ro (.ints .i64 w.1)), (9, .int .i64 w.2)]) (fun w => []) (_, _) (by cbv; repeat (first | exact WkH.nil _ | apply WkH.gone | refine WkH.eq rfl ?_)) (by cbv; repeat (first | apply WkL.any | exact WkL.nil _ | refine WkL.eq rfl ?_ | refine WkL.bool rfl ?_)) (by cbv; exact ⟨rfl⟩) ?_ ?_
  · exact ⟨0, rfl, Int.le_trans (by decide) (nw_facts hp.nw).1, rfl⟩
  rintro ⟨row, i⟩ hI Bk hBkO
  repeat (first
    | refine OK.drawn (by decide +kernel) ?_
    | refine OK.tree ⟨lookT tis, fun _ => true, []⟩ (by decide +kernel) ?_
    | refine OK.need (by first | assumption | (rw [hA]; first | (show (_ : Int) ≠ _; decide) | (show (0 : Int) ≤ _; decide) | (show (0 : Int) ≤ _ ∧ _ < (256 : Int); decide))) ?_
    | (refine F.hold hA 2000 ?_; cbv))
  refine OK.branch (fun d0 => ?_) (fun d0 => ?_)
  · have hat := lwAt hA hc hI d0
    repeat (first
      | refine OK.drawn (by decide +kernel) ?_
      | refine OK.tree ⟨lookT tis, fun _ => true, []⟩ (by decide +kernel) ?_
      | refine OK.need (by first | assumption | (rw [hA]; first | (show (_ : Int) ≠ _; decide) | (show (0 : Int) ≤ _; decide) | (show (0 : Int) ≤ _ ∧ _ < (256 : Int); decide))) ?_
      | (refine F.hold hA 2000 ?_; cbv))
    refine F.loop (V := List Int × Int) [1, 5, 7, 8, 9, 10] (NxW row) (fun w => (2000 - w.2).toNat) (fun w => [(11, .int .i64 w.2)]) (fun w => [(1, .row 3 (.ints .i64 w.1))]) (_, _) (by cbv; repeat (first | exact WkH.nil _ | apply WkH.gone | refine WkH.eq rfl ?_)) (by cbv; repeat (first | apply WkL.any | exact WkL.nil _ | refine WkL.eq rfl ?_ | refine WkL.bool rfl ?_)) (by cbv; exact ⟨rfl⟩) ?_ ?_
    · exact ⟨0, rfl, Nat.zero_le _, rfl⟩
    rintro ⟨next, j⟩ hI2 Bk2 hBk2
    repeat (first
      | refine OK.drawn (by decide +kernel) ?_
      | refine OK.tree ⟨lookT tis, fun _ => true, []⟩ (by decide +kernel) ?_
      | refine OK.need (by first | assumption | (rw [hA]; first | (show (_ : Int) ≠ _; decide) | (show (0 : Int) ≤ _; decide) | (show (0 : Int) ≤ _ ∧ _ < (256 : Int); decide))) ?_
      | (refine F.hold hA 2000 ?_; cbv))
    refine OK.branch (fun d1 => ?_) (fun d1 => ?_)
    · have hx := nxAt hA hat.b hI2 d1
      have q1 := hx.q1
      have q2 := hx.q2
      have q3 := hx.sm
      have hBk := hBk2
      repeat' (first
        | refine OK.drawn (by decide +kernel) ?_
        | refine OK.tree ⟨lookT tis, fun _ => true, []⟩ (by decide +kernel) ?_
        | refine OK.both ?_ ?_
        | refine OK.need (by first | assumption | (rw [hA]; first | (show (_ : Int) ≠ _; decide) | (show (0 : Int) ≤ _; decide) | (show (0 : Int) ≤ _ ∧ _ < (256 : Int); decide))) ?_
        | refine OK.need ?_ ?_
        | (refine OK.branch ?_ ?_ <;> intro h)
        | (refine F.hold hA 2000 ?_; cbv))
      all_goals
        refine OK.back (hBk _ _ (_, _) (by cbv; repeat (first | exact WkH.nil _ | apply WkH.gone | refine WkH.eq rfl ?_)) (by cbv; repeat (first | apply WkL.any | exact WkL.nil _ | refine WkL.eq rfl ?_ | refine WkL.bool rfl ?_)) (by cbv; exact ⟨rfl⟩) ?_ ?_)
        · exact hx.nx
        · exact hx.mu
    · have hx := nxEnd hA hat.b hI2 d1
      have hBk := hBkO
      repeat (first
        | refine OK.drawn (by decide +kernel) ?_
        | refine OK.tree ⟨lookT tis, fun _ => true, []⟩ (by decide +kernel) ?_
        | refine OK.need (by first | assumption | (rw [hA]; first | (show (_ : Int) ≠ _; decide) | (show (0 : Int) ≤ _; decide) | (show (0 : Int) ≤ _ ∧ _ < (256 : Int); decide))) ?_
        | (refine F.hold hA 2000 ?_; cbv))
      refine F.callFrz 1 rfl rfl rfl rfl ?_
      refine F.call [] (merged_ok next ul (hat.me next hx)) rfl rfl rfl fun rs H' hq => ?_
      obtain ⟨out, rfl, rfl, ho⟩ := hq
      refine ⟨rfl, ?_⟩
      repeat (first
        | refine OK.drawn (by decide +kernel) ?_
        | refine OK.tree ⟨lookT tis, fun _ => true, []⟩ (by decide +kernel) ?_
        | refine OK.need (by first | assumption | (rw [hA]; first | (show (_ : Int) ≠ _; decide) | (show (0 : Int) ≤ _; decide) | (show (0 : Int) ≤ _ ∧ _ < (256 : Int); decide))) ?_
        | (refine F.hold hA 2000 ?_; cbv))
      refine OK.back (hBk _ _ (_, _) (by cbv; repeat (first | exact WkH.nil _ | apply WkH.gone | refine WkH.eq rfl ?_)) (by cbv; repeat (first | apply WkL.any | exact WkL.nil _ | refine WkL.eq rfl ?_ | refine WkL.bool rfl ?_)) (by cbv; exact ⟨rfl⟩) ?_ ?_)
      · exact hat.nx next out hx ho
      · exact hat.mu
  · have he := leEnd hA hc hI d0
    have hq := csQ hA hc he b0 b1
    repeat (first
      | refine OK.drawn (by decide +kernel) ?_
      | refine OK.tree ⟨lookT tis, fun _ => true, []⟩ (by decide +kernel) ?_
      | refine OK.need (by first | assumption | (rw [hA]; first | (show (_ : Int) ≠ _; decide) | (show (0 : Int) ≤ _; decide) | (show (0 : Int) ≤ _ ∧ _ < (256 : Int); decide))) ?_
      | (refine F.hold hA 2000 ?_; cbv))
    refine F.loop (V := Int × Int) [7, 8] (CsW row cs.length) (fun w => (2000 - w.2).toNat) (fun w => [(12, .int .i64 w.1), (13, .int .i64 w.2)]) (fun w => []) (_, _) (by cbv; repeat (first | exact WkH.nil _ | apply WkH.gone | refine WkH.eq rfl ?_)) (by cbv; repeat (first | apply WkL.any | exact WkL.nil _ | refine WkL.eq rfl ?_ | refine WkL.bool rfl ?_)) (by cbv; exact ⟨rfl⟩) ?_ ?_
    · exact ⟨0, rfl, Nat.zero_le _, rfl⟩
    rintro ⟨c, j⟩ hI2 Bk2 hBk2
    repeat (first
      | refine OK.drawn (by decide +kernel) ?_
      | refine OK.tree ⟨lookT tis, fun _ => true, []⟩ (by decide +kernel) ?_
      | refine OK.need (by first | assumption | (rw [hA]; first | (show (_ : Int) ≠ _; decide) | (show (0 : Int) ≤ _; decide) | (show (0 : Int) ≤ _ ∧ _ < (256 : Int); decide))) ?_
      | (refine F.hold hA 2000 ?_; cbv))
    refine OK.branch (fun d1 => ?_) (fun d1 => ?_)
    · have hx := csAt hA hq hI2 d1
      have q1 := hx.q
      have hBk := hBk2
      repeat (first
        | refine OK.drawn (by decide +kernel) ?_
        | refine OK.tree ⟨lookT tis, fun _ => true, []⟩ (by decide +kernel) ?_
        | refine OK.need (by first | assumption | (rw [hA]; first | (show (_ : Int) ≠ _; decide) | (show (0 : Int) ≤ _; decide) | (show (0 : Int) ≤ _ ∧ _ < (256 : Int); decide))) ?_
        | (refine F.hold hA 2000 ?_; cbv))
      refine OK.back (hBk _ _ (_, _) (by cbv; repeat (first | exact WkH.nil _ | apply WkH.gone | refine WkH.eq rfl ?_)) (by cbv; repeat (first | apply WkL.any | exact WkL.nil _ | refine WkL.eq rfl ?_ | refine WkL.bool rfl ?_)) (by cbv; exact ⟨rfl⟩) ?_ ?_)
      · exact hx.nx
      · exact hx.mu
    · have hf := csFin (counts := counts) hA he hq hI2 d1
      repeat (first
        | refine OK.drawn (by decide +kernel) ?_
        | refine OK.tree ⟨lookT tis, fun _ => true, []⟩ (by decide +kernel) ?_
        | refine OK.need (by first | assumption | (rw [hA]; first | (show (_ : Int) ≠ _; decide) | (show (0 : Int) ≤ _; decide) | (show (0 : Int) ≤ _ ∧ _ < (256 : Int); decide))) ?_
        | (refine F.hold hA 2000 ?_; cbv))
      exact F.ret (rs' := [.int .i64 _]) (H' := []) (F.cv ⟨rfl⟩ (by cbv; repeat (first | apply WkL.any | exact WkL.nil _ | refine WkL.eq rfl ?_)) (WkH.nil _)) rfl ⟨_, rfl, rfl, hf⟩
end Go.L1

-- S32
namespace Go.L1
open Go Go.Sx Go.Proofs Go.L5 Go.Huff
set_option maxRecDepth 20000
set_option linter.unusedVariables false
set_option linter.unusedSimpArgs false
theorem coins_len {counts : List Int} {cs : List Coin} (h : Coins counts cs) : cs.length = posN counts := by
  have := (coins_wts h).1.length_eq
  rwa [List.length_map] at this
theorem bu_fault {counts l : List Int} {limit e e2 : Int} (h : BuildIs counts limit l e) (hf : FaultIs counts limit e2) : e = e2 := by
  by_cases hw : WrongB counts limit
  · rw [(h.wr hw).1, hf.wr hw]
  · obtain ⟨cs, h1, h2, h3⟩ := h.ok hw
    have hl := coins_len h1.all
    rcases Nat.lt_or_ge (2 ^ limit.toNat) cs.length with h4 | h4
    · rw [(h2 h4).1, hf.many hw (by omega)]
    · rw [(h3 h4).1, hf.few hw (by omega)]
structure BlNil (A : Leaf) (l : List Int) : Prop where
  f : A.cmp .eql (A.len l) 0 = true
theorem blNil {A : Leaf} {counts l : List Int} {limit e : Int} (hA : A = .std) (h : BuildIs counts limit l e) (he : A.cmp .neq e 0 = true) : BlNil A l := by
  have h0 := neqT hA he
  have hl : l = [] := by
    by_cases hw : WrongB counts limit
    · exact (h.wr hw).2
    · obtain ⟨cs, h1, h2, h3⟩ := h.ok hw
      rcases Nat.lt_or_ge (2 ^ limit.toNat) cs.length with h4 | h4
      · exact (h2 h4).2
      · exact absurd (h3 h4).1 h0
  subst hl hA
  exact ⟨rfl⟩
structure BlC (A : Leaf) (counts l : List Int) (limit : Int) (cs : List Coin) : Prop where
  g : BuGood counts limit l cs
  len : A.cmp .neq (A.len l) (A.len counts) = true → False
theorem blC {A : Leaf} {counts l : List Int} {limit : Int} {cs : List Coin} (hA : A = .std) (h : BuGood counts limit l cs) : BlC A counts l limit cs := by
  refine ⟨h, fun hh => ?_⟩
  have := neqT hA hh
  subst hA
  have this : (l.length : Int) ≠ (counts.length : Int) := this
  rw [(all_at h).1] at this
  exact this rfl
structure BlI (counts l : List Int) (many cost i : Int) (k : Nat) : Prop where
  ei : i = (k : Int)
  le : k ≤ counts.length
  m : many = ((posN (counts.take k) : Nat) : Int)
  c : cost = costL (counts.take k) (l.take k)
def BlW (counts l : List Int) (w : Int × Int × Int) : Prop := ∃ k, BlI counts l w.1 w.2.1 w.2.2 k
structure BlAt (A : Leaf) (counts l : List Int) (limit many cost i : Int) : Prop where
  q1 : A.inb i (A.len l)
  q2 : A.inb i (A.len counts)
  b1 : A.bnot (A.beq (A.cmp .eql (A.get 0 l i) 0) (A.cmp .eql (A.get 0 counts i) 0)) = true → False
  b2 : A.cmp .lss (A.get 0 l i) 0 = true → False
  b3 : A.cmp .gtr (A.get 0 l i) limit = true → False
  yes : A.cmp .gtr (A.get 0 l i) 0 = true → BlW counts l (A.ar .add .i64 many 1, A.ar .add .i64 cost (A.ar .mul .i64 (A.get 0 l i) (A.get 0 counts i)), A.ar .add .i64 i 1)
  no : A.cmp .gtr (A.get 0 l i) 0 = false → BlW counts l (many, A.ar .add .i64 cost (A.ar .mul .i64 (A.get 0 l i) (A.get 0 counts i)), A.ar .add .i64 i 1)
  mu : (1000 - A.ar .add .i64 i 1).toNat < (1000 - i).toNat
theorem posN_snoc (l : List Int) (c : Int) : posN (l ++ [c]) = posN l + if 0 < c then 1 else 0 := by
  unfold posN
  rw [List.filter_append, List.length_append, List.filter_cons]
  by_cases h : 0 < c
  · rw [if_pos (by simpa using h), if_pos h]; rfl
  · rw [if_neg (by simpa using h), if_neg h]; rfl
theorem posN_le (l : List Int) : posN l ≤ l.length := List.length_filter_le ..
theorem blAt {A : Leaf} {counts l : List Int} {limit many cost i : Int} {cs : List Coin} (hA : A = .std) (hc : BlC A counts l limit cs) (hI : BlW counts l (many, cost, i)) (b : A.cmp .lss i (A.len l) = true) : BlAt A counts l limit many cost i := by
  obtain ⟨f1, f2, f3, f4⟩ := nw_facts hc.g.nw
  obtain ⟨hl, hat⟩ := all_at hc.g
  obtain ⟨k, h1, h2, h3, h4⟩ := hI
  simp only at h1 h3 h4
  subst hA h1
  have b : (k : Int) < (l.length : Int) := of_decide_eq_true b
  have hk1 : k < counts.length := by omega
  have hk2 : k < l.length := by omega
  have g1 : Leaf.std.get 0 counts (k : Int) = counts[k] := by show counts.getD _ _ = _; rw [Int.toNat_natCast]; simp [hk1]
  have g2 : Leaf.std.get 0 l (k : Int) = l[k] := by show l.getD _ _ = _; rw [Int.toNat_natCast]; simp [hk2]
  have e : Leaf.std.ar .add .i64 (k : Int) 1 = ((k + 1 : Nat) : Int) := by rw [add_i64 (by omega) (by omega)]; omega
  obtain ⟨x, e1, e2, e3⟩ := hat k _ (List.getElem?_eq_getElem hk1)
  rw [List.getElem?_eq_getElem hk2] at e1
  cases e1
  have hcb := f4 _ (List.getElem_mem hk1)
  have hs : costL (counts.take (k + 1)) (l.take (k + 1)) = cost + termC counts[k] l[k] := by
    rw [List.take_succ_eq_append_getElem hk1, List.take_succ_eq_append_getElem hk2, costL_snoc _ _ _ _ (by rw [List.length_take, List.length_take]; omega), ← h4]
  have hp : posN (counts.take (k + 1)) = posN (counts.take k) + if 0 < counts[k] then 1 else 0 := by
    rw [List.take_succ_eq_append_getElem hk1, posN_snoc]
  have ht : termC counts[k] l[k] = l[k] * counts[k] := by
    unfold termC
    rcases Int.lt_or_le 0 counts[k] with h0 | h0
    · have := e2 h0
      rw [if_pos ⟨h0, hcb.2, by omega, by omega⟩, Int.mul_comm]
    · have hz : counts[k] = 0 := by omega
      rw [if_neg (by omega), hz, Int.mul_zero]
  have hle := term_le counts[k] l[k]
  have hcl := costL_le (counts.take k) (l.take k)
  have hcl2 : (counts.take k).length ≤ 320 := by rw [List.length_take]; omega
  have em : Leaf.std.ar .mul .i64 l[k] counts[k] = termC counts[k] l[k] := by rw [ht] at hle ⊢; exact mul_i64 (by omega) (by omega)
  have ec : Leaf.std.ar .add .i64 cost (termC counts[k] l[k]) = costL (counts.take (k + 1)) (l.take (k + 1)) := by rw [hs]; exact add_i64 (by omega) (by omega)
  have hpl := posN_le (counts.take k)
  refine ⟨⟨by omega, by show (k : Int) < (l.length : Int); omega⟩, ⟨by omega, by show (k : Int) < (counts.length : Int); omega⟩, fun h => ?_, fun h => ?_, fun h => ?_, fun h => ?_, fun h => ?_, by rw [e]; omega⟩
  · rw [g1, g2] at h
    have h : (!((l[k] == (0 : Int)) == (counts[k] == (0 : Int)))) = true := h
    rcases Int.lt_or_le 0 counts[k] with h0 | h0
    · have := e2 h0
      rw [show (l[k] == (0 : Int)) = false from beq_eq_false_iff_ne.2 (by omega), show (counts[k] == (0 : Int)) = false from beq_eq_false_iff_ne.2 (by omega)] at h
      cases h
    · have := e3 h0
      rw [show (l[k] == (0 : Int)) = true from beq_iff_eq.2 this, show (counts[k] == (0 : Int)) = true from beq_iff_eq.2 (by omega)] at h
      cases h
  · rw [g2] at h
    have h : l[k] < 0 := of_decide_eq_true h
    rcases Int.lt_or_le 0 counts[k] with h0 | h0
    · have := e2 h0; omega
    · have := e3 h0; omega
  · rw [g2] at h
    have h : limit < l[k] := of_decide_eq_true h
    rcases Int.lt_or_le 0 counts[k] with h0 | h0
    · have := e2 h0; omega
    · have := e3 h0; omega
  · rw [g1, g2, em, ec, e]
    rw [g2] at h
    have h : 0 < l[k] := of_decide_eq_true h
    have h0 : 0 < counts[k] := by
      rcases Int.lt_or_le 0 counts[k] with h0 | h0
      · exact h0
      · have := e3 h0; omega
    refine ⟨k + 1, rfl, hk1, ?_, rfl⟩
    show _ = _
    rw [hp, if_pos h0, add_i64 (by omega) (by omega)]; omega
  · rw [g1, g2, em, ec, e]
    rw [g2] at h
    have h : ¬ 0 < l[k] := of_decide_eq_false h
    have h0 : ¬ 0 < counts[k] := fun h0 => by have := e2 h0; omega
    refine ⟨k + 1, rfl, hk1, ?_, rfl⟩
    show _ = _
    rw [hp, if_neg h0]; exact h3
structure BlEnd (counts l : List Int) (cs : List Coin) (many cost : Int) : Prop where
  m : many = (cs.length : Int)
  c : cost = costL counts l
theorem blEnd {A : Leaf} {counts l : List Int} {limit many cost i : Int} {cs : List Coin} (hA : A = .std) (hc : BlC A counts l limit cs) (hI : BlW counts l (many, cost, i)) (b : A.cmp .lss i (A.len l) = false) : BlEnd counts l cs many cost := by
  obtain ⟨hl, hat⟩ := all_at hc.g
  obtain ⟨k, h1, h2, h3, h4⟩ := hI
  simp only at h1 h3 h4
  subst hA h1
  have b : ¬ (k : Int) < (l.length : Int) := of_decide_eq_false b
  rw [List.take_of_length_le (by omega)] at h3 h4
  rw [List.take_of_length_le (by omega)] at h4
  exact ⟨by rw [h3, coins_len hc.g.ic.all], h4⟩
theorem good_room {counts l : List Int} {limit : Int} {cs : List Coin} (h : BuGood counts limit l cs) : (2 ≤ cs.length → roomN l = 32768) ∧ (cs.length = 1 → roomN l = 16384) := by
  obtain ⟨f1, f2, f3, f4⟩ := nw_facts h.nw
  have hall := h.ic.all
  have hl := h.l
  refine ⟨fun h2 => ?_, fun h1 => ?_⟩
  · rw [lensAll_two (by omega)] at hl
    have := lensOf_room hall (d := limit.toNat) (by omega) (by omega) h2 h.few
    rw [← hl] at this
    exact this
  · obtain ⟨x, rfl⟩ := List.length_eq_one_iff.1 h1
    obtain ⟨t0, c0, h3, h4, rfl⟩ := (hall.mem x).1 (by simp)
    have hlen := (List.getElem?_eq_some_iff.1 h3).1
    have hl : l = (List.replicate counts.length (0 : Int)).set t0 1 := hl
    rw [hl]
    have key : ∀ (n t : Nat), t < n → roomN ((List.replicate n (0 : Int)).set t 1) = 16384 := by
      intro n
      induction n with
      | zero => intro t h; omega
      | succ n ih =>
        intro t ht
        have hz : ∀ n : Nat, roomN (List.replicate n (0 : Int)) = 0 := by
          intro n
          induction n with
          | zero => rfl
          | succ n ih =>
            rw [List.replicate_succ]
            unfold roomN at ih ⊢
            rw [List.map_cons, List.sum_cons, ih]; rfl
        cases t with
        | zero =>
          rw [List.replicate_succ, List.set_cons_zero]
          have := hz n
          unfold roomN at this ⊢
          rw [List.map_cons, List.sum_cons, this]; rfl
        | succ t =>
          have := ih t (by omega)
          rw [List.replicate_succ, List.set_cons_succ]
          unfold roomN at this ⊢
          rw [List.map_cons, List.sum_cons, this]; rfl
    exact key _ _ hlen
structure BlFin (A : Leaf) (limit : Int) (cs : List Coin) (counts l : List Int) (many cost r : Int) (ok : Bool) : Prop where
  ok : A.bnot ok = true → False
  two : A.cmp .gtr many 1 = true → A.cmp .neq r 32768 = true → False
  one : A.cmp .eql many 1 = true → A.cmp .neq r 16384 = true → False
  least : ∀ n, LeastIs cs limit n → A.cmp .eql cost n = true
  cost : ∀ n, CostIs counts l n → A.cmp .eql n cost = true
theorem blFin {A : Leaf} {counts l : List Int} {limit many cost r : Int} {cs : List Coin} {ok : Bool} (hA : A = .std) (hc : BlC A counts l limit cs) (he : BlEnd counts l cs many cost) (hr : RoomIs l r ok) : BlFin A limit cs counts l many cost r ok := by
  obtain ⟨f1, f2, f3, f4⟩ := nw_facts hc.g.nw
  obtain ⟨hl, hat⟩ := all_at hc.g
  obtain ⟨g1, g2⟩ := good_room hc.g
  have hin : InB l := by
    intro x hx
    obtain ⟨k, hk, rfl⟩ := List.mem_iff_getElem.1 hx
    have hk1 : k < counts.length := by omega
    obtain ⟨x, e1, e2, e3⟩ := hat k _ (List.getElem?_eq_getElem hk1)
    rw [List.getElem?_eq_getElem hk] at e1
    cases e1
    rcases Int.lt_or_le 0 counts[k] with h0 | h0
    · have := e2 h0; omega
    · have := e3 h0; omega
  obtain ⟨m1, m2⟩ := he
  rcases hr with ⟨r1, r2, r3, r4⟩ | ⟨r1, r2, r3⟩
  · refine ⟨fun h => notB hA r1 h, fun h1 h2 => ?_, fun h1 h2 => ?_, fun n hn => ?_, fun n hn => ?_⟩
    · have h1 := gtrT hA h1
      have h2 := neqT hA h2
      rw [r4, g1 (by omega)] at h2
      exact h2 rfl
    · have h1 := eqT hA h1
      have h2 := neqT hA h2
      rw [r4, g2 (by omega)] at h2
      exact h2 rfl
    · subst hA
      show (cost == n) = true
      rw [beq_iff_eq, hn.e, m2, good_cost hc.g]
    · subst hA
      show (n == cost) = true
      rw [beq_iff_eq, hn.e, m2]
  · exact absurd ⟨by omega, hin⟩ r2
theorem tf {b : Bool} (h1 : b = true) (h2 : b = false) : False := by rw [h1] at h2; cases h2
structure BlQ (counts l : List Int) : Prop where
  c : Le400 counts
  l : l.length ≤ 400
theorem builds_ok (counts : List Int) (limit : Int) : FOK Try.prog C1 7 (fun _ => false) [.ro (.ints .i64 counts), .int .i64 limit] [] Yes := by
  refine fok_of (B := ⟨lookT tis, fun _ => false, []⟩) (tab1 _) (zero1 _) cod1 mix1 Try.func7 (by kernel_rfl) rfl rfl rfl fun X F => ?_
  obtain ⟨A, hA⟩ : ∃ A, A = Leaf.std := ⟨_, rfl⟩
  refine F.hold hA 2000 ?_
  cbv
  repeat (first
    | refine OK.drawn (by decide +kernel) ?_
    | refine OK.tree ⟨lookT tis, fun _ => true, []⟩ (by decide +kernel) ?_
    | refine OK.need (by first | assumption | (rw [hA]; first | (show (_ : Int) ≠ _; decide) | (show (0 : Int) ≤ _; decide) | (show (0 : Int) ≤ _ ∧ _ < (256 : Int); decide))) ?_
    | (refine F.hold hA 2000 ?_; cbv))
  refine F.call [] (alive_ok) rfl rfl rfl fun rs H' hq => ?_
  obtain ⟨b, rfl, rfl, hb⟩ := hq
  refine ⟨rfl, ?_⟩
  repeat (first
    | refine OK.drawn (by decide +kernel) ?_
    | refine OK.tree ⟨lookT tis, fun _ => true, []⟩ (by decide +kernel) ?_
    | refine OK.need (by first | assumption | (rw [hA]; first | (show (_ : Int) ≠ _; decide) | (show (0 : Int) ≤ _; decide) | (show (0 : Int) ≤ _ ∧ _ < (256 : Int); decide))) ?_
    | (refine F.hold hA 2000 ?_; cbv))
  refine OK.branch (fun h => (notB hA hb h).elim) (fun _ => ?_)
  repeat (first
    | refine OK.drawn (by decide +kernel) ?_
    | refine OK.tree ⟨lookT tis, fun _ => true, []⟩ (by decide +kernel) ?_
    | refine OK.need (by first | assumption | (rw [hA]; first | (show (_ : Int) ≠ _; decide) | (show (0 : Int) ≤ _; decide) | (show (0 : Int) ≤ _ ∧ _ < (256 : Int); decide))) ?_
    | (refine F.hold hA 2000 ?_; cbv))
  refine OK.branch (fun c1 => ?_) (fun c1 => ?_)
  · repeat (first
      | refine OK.drawn (by decide +kernel) ?_
      | refine OK.tree ⟨lookT tis, fun _ => true, []⟩ (by decide +kernel) ?_
      | refine OK.need (by first | assumption | (rw [hA]; first | (show (_ : Int) ≠ _; decide) | (show (0 : Int) ≤ _; decide) | (show (0 : Int) ≤ _ ∧ _ < (256 : Int); decide))) ?_
      | (refine F.hold hA 2000 ?_; cbv))
    exact F.ret0 ⟨_, rfl, rfl⟩
  have hl4 : Le400 counts := ⟨by subst hA; have c1 : ¬ (400 : Int) < (counts.length : Int) := of_decide_eq_false c1; omega⟩
  repeat (first
    | refine OK.drawn (by decide +kernel) ?_
    | refine OK.tree ⟨lookT tis, fun _ => true, []⟩ (by decide +kernel) ?_
    | refine OK.need (by first | assumption | (rw [hA]; first | (show (_ : Int) ≠ _; decide) | (show (0 : Int) ≤ _; decide) | (show (0 : Int) ≤ _ ∧ _ < (256 : Int); decide))) ?_
    | (refine F.hold hA 2000 ?_; cbv))
  refine F.call [] (copyInts_ok counts hl4) rfl rfl rfl fun rs H' hq => ?_
  obtain ⟨rfl, rfl⟩ := hq
  refine ⟨rfl, ?_⟩
  repeat (first
    | refine OK.drawn (by decide +kernel) ?_
    | refine OK.tree ⟨lookT tis, fun _ => true, []⟩ (by decide +kernel) ?_
    | refine OK.need (by first | assumption | (rw [hA]; first | (show (_ : Int) ≠ _; decide) | (show (0 : Int) ≤ _; decide) | (show (0 : Int) ≤ _ ∧ _ < (256 : Int); decide))) ?_
    | (refine F.hold hA 2000 ?_; cbv))
  refine F.callFrz 0 rfl rfl rfl rfl ?_
  refine F.call [] (build_ok counts limit hl4.l) rfl rfl rfl fun rs H' hq => ?_
  obtain ⟨l, e, rfl, rfl, hbu⟩ := hq
  refine ⟨rfl, ?_⟩
  repeat (first
    | refine OK.drawn (by decide +kernel) ?_
    | refine OK.tree ⟨lookT tis, fun _ => true, []⟩ (by decide +kernel) ?_
    | refine OK.need (by first | assumption | (rw [hA]; first | (show (_ : Int) ≠ _; decide) | (show (0 : Int) ≤ _; decide) | (show (0 : Int) ≤ _ ∧ _ < (256 : Int); decide))) ?_
    | (refine F.hold hA 2000 ?_; cbv))
  refine F.call [] (fault_ok counts limit hl4.l) rfl rfl rfl fun rs H' hq => ?_
  obtain ⟨e2, rfl, rfl, hfa⟩ := hq
  refine ⟨rfl, ?_⟩
  have hee := bu_fault hbu hfa
  subst hee
  repeat (first
    | refine OK.drawn (by decide +kernel) ?_
    | refine OK.tree ⟨lookT tis, fun _ => true, []⟩ (by decide +kernel) ?_
    | refine OK.need (by first | assumption | (rw [hA]; first | (show (_ : Int) ≠ _; decide) | (show (0 : Int) ≤ _; decide) | (show (0 : Int) ≤ _ ∧ _ < (256 : Int); decide))) ?_
    | (refine F.hold hA 2000 ?_; cbv))
  refine OK.branch (fun h => (cmp_self hA h).elim) (fun _ => ?_)
  repeat (first
    | refine OK.drawn (by decide +kernel) ?_
    | refine OK.tree ⟨lookT tis, fun _ => true, []⟩ (by decide +kernel) ?_
    | refine OK.need (by first | assumption | (rw [hA]; first | (show (_ : Int) ≠ _; decide) | (show (0 : Int) ≤ _; decide) | (show (0 : Int) ≤ _ ∧ _ < (256 : Int); decide))) ?_
    | (refine F.hold hA 2000 ?_; cbv))
  refine F.call [] (sameInts_ok counts hl4) rfl rfl rfl fun rs H' hq => ?_
  obtain ⟨rfl, rfl⟩ := hq
  refine ⟨rfl, ?_⟩
  repeat (first
    | refine OK.drawn (by decide +kernel) ?_
    | refine OK.tree ⟨lookT tis, fun _ => true, []⟩ (by decide +kernel) ?_
    | refine OK.need (by first | assumption | (rw [hA]; first | (show (_ : Int) ≠ _; decide) | (show (0 : Int) ≤ _; decide) | (show (0 : Int) ≤ _ ∧ _ < (256 : Int); decide))) ?_
    | (refine F.hold hA 2000 ?_; cbv))
  refine OK.branch (fun h => ?_) (fun h => ?_)
  · have hn := blNil hA hbu h
    have hnf := hn.f
    repeat (first
      | refine OK.drawn (by decide +kernel) ?_
      | refine OK.tree ⟨lookT tis, fun _ => true, []⟩ (by decide +kernel) ?_
      | refine OK.need (by first | assumption | (rw [hA]; first | (show (_ : Int) ≠ _; decide) | (show (0 : Int) ≤ _; decide) | (show (0 : Int) ≤ _ ∧ _ < (256 : Int); decide))) ?_
      | (refine F.hold hA 2000 ?_; cbv))
    exact F.ret0 ⟨_, rfl, hnf⟩
  obtain ⟨cs, hg⟩ := build_good hbu (neqF hA h)
  have hc := blC hA hg
  repeat (first
    | refine OK.drawn (by decide +kernel) ?_
    | refine OK.tree ⟨lookT tis, fun _ => true, []⟩ (by decide +kernel) ?_
    | refine OK.need (by first | assumption | (rw [hA]; first | (show (_ : Int) ≠ _; decide) | (show (0 : Int) ≤ _; decide) | (show (0 : Int) ≤ _ ∧ _ < (256 : Int); decide))) ?_
    | (refine F.hold hA 2000 ?_; cbv))
  refine OK.branch (fun h => (hc.len h).elim) (fun _ => ?_)
  repeat (first
    | refine OK.drawn (by decide +kernel) ?_
    | refine OK.tree ⟨lookT tis, fun _ => true, []⟩ (by decide +kernel) ?_
    | refine OK.need (by first | assumption | (rw [hA]; first | (show (_ : Int) ≠ _; decide) | (show (0 : Int) ≤ _; decide) | (show (0 : Int) ≤ _ ∧ _ < (256 : Int); decide))) ?_
    | (refine F.hold hA 2000 ?_; cbv))
  refine F.loop (V := Int × Int × Int) [0, 1, 6] (BlW counts l) (fun w => (1000 - w.2.2).toNat) (fun w => [(8, .int .i64 w.1), (9, .int .i64 w.2.1), (10, .int .i64 w.2.2)]) (fun w => []) (_, _, _) (by cbv; repeat (first | exact WkH.nil _ | apply WkH.gone | refine WkH.eq rfl ?_)) (by cbv; repeat (first | apply WkL.any | exact WkL.nil _ | refine WkL.eq rfl ?_ | refine WkL.bool rfl ?_)) (by cbv; exact ⟨rfl⟩) ?_ ?_
  · exact ⟨0, rfl, Nat.zero_le _, rfl, rfl⟩
  rintro ⟨many, cost, i⟩ hI Bk hBk
  repeat (first
    | refine OK.drawn (by decide +kernel) ?_
    | refine OK.tree ⟨lookT tis, fun _ => true, []⟩ (by decide +kernel) ?_
    | refine OK.need (by first | assumption | (rw [hA]; first | (show (_ : Int) ≠ _; decide) | (show (0 : Int) ≤ _; decide) | (show (0 : Int) ≤ _ ∧ _ < (256 : Int); decide))) ?_
    | (refine F.hold hA 2000 ?_; cbv))
  refine OK.branch (fun d => ?_) (fun d => ?_)
  · have hat := blAt hA hc hI d
    have q1 := hat.q1
    have q2 := hat.q2
    repeat (first
      | refine OK.drawn (by decide +kernel) ?_
      | refine OK.tree ⟨lookT tis, fun _ => true, []⟩ (by decide +kernel) ?_
      | refine OK.need (by first | assumption | (rw [hA]; first | (show (_ : Int) ≠ _; decide) | (show (0 : Int) ≤ _; decide) | (show (0 : Int) ≤ _ ∧ _ < (256 : Int); decide))) ?_
      | (refine F.hold hA 2000 ?_; cbv))
    refine OK.branch (fun h => (hat.b1 h).elim) (fun _ => ?_)
    repeat (first
      | refine OK.drawn (by decide +kernel) ?_
      | refine OK.tree ⟨lookT tis, fun _ => true, []⟩ (by decide +kernel) ?_
      | refine OK.need (by first | assumption | (rw [hA]; first | (show (_ : Int) ≠ _; decide) | (show (0 : Int) ≤ _; decide) | (show (0 : Int) ≤ _ ∧ _ < (256 : Int); decide))) ?_
      | (refine F.hold hA 2000 ?_; cbv))
    refine OK.branch (fun h => (hat.b2 h).elim) (fun _ => ?_)
    repeat (first
      | refine OK.drawn (by decide +kernel) ?_
      | refine OK.tree ⟨lookT tis, fun _ => true, []⟩ (by decide +kernel) ?_
      | refine OK.need (by first | assumption | (rw [hA]; first | (show (_ : Int) ≠ _; decide) | (show (0 : Int) ≤ _; decide) | (show (0 : Int) ≤ _ ∧ _ < (256 : Int); decide))) ?_
      | (refine F.hold hA 2000 ?_; cbv))
    refine OK.branch (fun h => (hat.b3 h).elim) (fun _ => ?_)
    repeat (first
      | refine OK.drawn (by decide +kernel) ?_
      | refine OK.tree ⟨lookT tis, fun _ => true, []⟩ (by decide +kernel) ?_
      | refine OK.need (by first | assumption | (rw [hA]; first | (show (_ : Int) ≠ _; decide) | (show (0 : Int) ≤ _; decide) | (show (0 : Int) ≤ _ ∧ _ < (256 : Int); decide))) ?_
      | (refine F.hold hA 2000 ?_; cbv))
    refine OK.branch (fun h => ?_) (fun h => ?_)
    · have hy := hat.yes h
      repeat (first
        | refine OK.drawn (by decide +kernel) ?_
        | refine OK.tree ⟨lookT tis, fun _ => true, []⟩ (by decide +kernel) ?_
        | refine OK.need (by first | assumption | (rw [hA]; first | (show (_ : Int) ≠ _; decide) | (show (0 : Int) ≤ _; decide) | (show (0 : Int) ≤ _ ∧ _ < (256 : Int); decide))) ?_
        | (refine F.hold hA 2000 ?_; cbv))
      refine OK.back (hBk _ _ (_, _, _) (by cbv; repeat (first | exact WkH.nil _ | apply WkH.gone | refine WkH.eq rfl ?_)) (by cbv; repeat (first | apply WkL.any | exact WkL.nil _ | refine WkL.eq rfl ?_ | refine WkL.bool rfl ?_)) (by cbv; exact ⟨rfl⟩) ?_ ?_)
      · exact hy
      · exact hat.mu
    · have hy := hat.no h
      repeat (first
        | refine OK.drawn (by decide +kernel) ?_
        | refine OK.tree ⟨lookT tis, fun _ => true, []⟩ (by decide +kernel) ?_
        | refine OK.need (by first | assumption | (rw [hA]; first | (show (_ : Int) ≠ _; decide) | (show (0 : Int) ≤ _; decide) | (show (0 : Int) ≤ _ ∧ _ < (256 : Int); decide))) ?_
        | (refine F.hold hA 2000 ?_; cbv))
      refine OK.back (hBk _ _ (_, _, _) (by cbv; repeat (first | exact WkH.nil _ | apply WkH.gone | refine WkH.eq rfl ?_)) (by cbv; repeat (first | apply WkL.any | exact WkL.nil _ | refine WkL.eq rfl ?_ | refine WkL.bool rfl ?_)) (by cbv; exact ⟨rfl⟩) ?_ ?_)
      · exact hy
      · exact hat.mu
  · have he := blEnd hA hc hI d
    repeat (first
      | refine OK.drawn (by decide +kernel) ?_
      | refine OK.tree ⟨lookT tis, fun _ => true, []⟩ (by decide +kernel) ?_
      | refine OK.need (by first | assumption | (rw [hA]; first | (show (_ : Int) ≠ _; decide) | (show (0 : Int) ≤ _; decide) | (show (0 : Int) ≤ _ ∧ _ < (256 : Int); decide))) ?_
      | (refine F.hold hA 2000 ?_; cbv))
    refine F.call [] (room_ok l) rfl rfl rfl fun rs H' hq => ?_
    obtain ⟨r, ok, rfl, rfl, hr⟩ := hq
    refine ⟨rfl, ?_⟩
    have hf := blFin hA hc he hr
    have hll : l.length ≤ 400 := by have := (all_at hg).1; have := hl4.l; omega
    repeat (first
      | refine OK.drawn (by decide +kernel) ?_
      | refine OK.tree ⟨lookT tis, fun _ => true, []⟩ (by decide +kernel) ?_
      | refine OK.need (by first | assumption | (rw [hA]; first | (show (_ : Int) ≠ _; decide) | (show (0 : Int) ≤ _; decide) | (show (0 : Int) ≤ _ ∧ _ < (256 : Int); decide))) ?_
      | (refine F.hold hA 2000 ?_; cbv))
    refine OK.branch (fun h => (hf.ok h).elim) (fun _ => ?_)
    repeat (first
      | refine OK.drawn (by decide +kernel) ?_
      | refine OK.tree ⟨lookT tis, fun _ => true, []⟩ (by decide +kernel) ?_
      | refine OK.need (by first | assumption | (rw [hA]; first | (show (_ : Int) ≠ _; decide) | (show (0 : Int) ≤ _; decide) | (show (0 : Int) ≤ _ ∧ _ < (256 : Int); decide))) ?_
      | (refine F.hold hA 2000 ?_; cbv))
    refine OK.branch (fun h => ?_) (fun h => ?_)
    · repeat (first
        | refine OK.drawn (by decide +kernel) ?_
        | refine OK.tree ⟨lookT tis, fun _ => true, []⟩ (by decide +kernel) ?_
        | refine OK.need (by first | assumption | (rw [hA]; first | (show (_ : Int) ≠ _; decide) | (show (0 : Int) ≤ _; decide) | (show (0 : Int) ≤ _ ∧ _ < (256 : Int); decide))) ?_
        | (refine F.hold hA 2000 ?_; cbv))
      refine OK.branch (fun h2 => (hf.two h h2).elim) (fun _ => ?_)
      repeat (first
        | refine OK.drawn (by decide +kernel) ?_
        | refine OK.tree ⟨lookT tis, fun _ => true, []⟩ (by decide +kernel) ?_
        | refine OK.need (by first | assumption | (rw [hA]; first | (show (_ : Int) ≠ _; decide) | (show (0 : Int) ≤ _; decide) | (show (0 : Int) ≤ _ ∧ _ < (256 : Int); decide))) ?_
        | (refine F.hold hA 2000 ?_; cbv))
      refine OK.branch (fun h2 => ?_) (fun h2 => ?_)
      · repeat (first
          | refine OK.drawn (by decide +kernel) ?_
          | refine OK.tree ⟨lookT tis, fun _ => true, []⟩ (by decide +kernel) ?_
          | refine OK.need (by first | assumption | (rw [hA]; first | (show (_ : Int) ≠ _; decide) | (show (0 : Int) ≤ _; decide) | (show (0 : Int) ≤ _ ∧ _ < (256 : Int); decide))) ?_
          | (refine F.hold hA 2000 ?_; cbv))
        refine OK.branch (fun h3 => (hf.one h2 h3).elim) (fun _ => ?_)
        repeat (first
          | refine OK.drawn (by decide +kernel) ?_
          | refine OK.tree ⟨lookT tis, fun _ => true, []⟩ (by decide +kernel) ?_
          | refine OK.need (by first | assumption | (rw [hA]; first | (show (_ : Int) ≠ _; decide) | (show (0 : Int) ≤ _; decide) | (show (0 : Int) ≤ _ ∧ _ < (256 : Int); decide))) ?_
          | (refine F.hold hA 2000 ?_; cbv))
        refine F.call [] (least_ok counts limit cs hl4.l (leP hg)) rfl rfl rfl fun rs H' hq => ?_
        obtain ⟨n, rfl, rfl, hn⟩ := hq
        refine ⟨rfl, ?_⟩
        have hn1 := hf.least n hn
        repeat (first
          | refine OK.drawn (by decide +kernel) ?_
          | refine OK.tree ⟨lookT tis, fun _ => true, []⟩ (by decide +kernel) ?_
          | refine OK.need (by first | assumption | (rw [hA]; first | (show (_ : Int) ≠ _; decide) | (show (0 : Int) ≤ _; decide) | (show (0 : Int) ≤ _ ∧ _ < (256 : Int); decide))) ?_
          | (refine F.hold hA 2000 ?_; cbv))
        refine OK.branch (fun _ => ?_) (fun h => (tf hn1 h).elim)
        repeat (first
          | refine OK.drawn (by decide +kernel) ?_
          | refine OK.tree ⟨lookT tis, fun _ => true, []⟩ (by decide +kernel) ?_
          | refine OK.need (by first | assumption | (rw [hA]; first | (show (_ : Int) ≠ _; decide) | (show (0 : Int) ≤ _; decide) | (show (0 : Int) ≤ _ ∧ _ < (256 : Int); decide))) ?_
          | (refine F.hold hA 2000 ?_; cbv))
        refine F.call [] (cost_ok counts l hl4.l hll) rfl rfl rfl fun rs H' hq => ?_
        obtain ⟨n2, rfl, rfl, hn2⟩ := hq
        refine ⟨rfl, ?_⟩
        repeat (first
          | refine OK.drawn (by decide +kernel) ?_
          | refine OK.tree ⟨lookT tis, fun _ => true, []⟩ (by decide +kernel) ?_
          | refine OK.need (by first | assumption | (rw [hA]; first | (show (_ : Int) ≠ _; decide) | (show (0 : Int) ≤ _; decide) | (show (0 : Int) ≤ _ ∧ _ < (256 : Int); decide))) ?_
          | (refine F.hold hA 2000 ?_; cbv))
        exact F.ret0 ⟨_, rfl, hf.cost n2 hn2⟩
      · skip
        repeat (first
          | refine OK.drawn (by decide +kernel) ?_
          | refine OK.tree ⟨lookT tis, fun _ => true, []⟩ (by decide +kernel) ?_
          | refine OK.need (by first | assumption | (rw [hA]; first | (show (_ : Int) ≠ _; decide) | (show (0 : Int) ≤ _; decide) | (show (0 : Int) ≤ _ ∧ _ < (256 : Int); decide))) ?_
          | (refine F.hold hA 2000 ?_; cbv))
        refine F.call [] (least_ok counts limit cs hl4.l (leP hg)) rfl rfl rfl fun rs H' hq => ?_
        obtain ⟨n, rfl, rfl, hn⟩ := hq
        refine ⟨rfl, ?_⟩
        have hn1 := hf.least n hn
        repeat (first
          | refine OK.drawn (by decide +kernel) ?_
          | refine OK.tree ⟨lookT tis, fun _ => true, []⟩ (by decide +kernel) ?_
          | refine OK.need (by first | assumption | (rw [hA]; first | (show (_ : Int) ≠ _; decide) | (show (0 : Int) ≤ _; decide) | (show (0 : Int) ≤ _ ∧ _ < (256 : Int); decide))) ?_
          | (refine F.hold hA 2000 ?_; cbv))
        refine OK.branch (fun _ => ?_) (fun h => (tf hn1 h).elim)
        repeat (first
          | refine OK.drawn (by decide +kernel) ?_
          | refine OK.tree ⟨lookT tis, fun _ => true, []⟩ (by decide +kernel) ?_
          | refine OK.need (by first | assumption | (rw [hA]; first | (show (_ : Int) ≠ _; decide) | (show (0 : Int) ≤ _; decide) | (show (0 : Int) ≤ _ ∧ _ < (256 : Int); decide))) ?_
          | (refine F.hold hA 2000 ?_; cbv))
        refine F.call [] (cost_ok counts l hl4.l hll) rfl rfl rfl fun rs H' hq => ?_
        obtain ⟨n2, rfl, rfl, hn2⟩ := hq
        refine ⟨rfl, ?_⟩
        repeat (first
          | refine OK.drawn (by decide +kernel) ?_
          | refine OK.tree ⟨lookT tis, fun _ => true, []⟩ (by decide +kernel) ?_
          | refine OK.need (by first | assumption | (rw [hA]; first | (show (_ : Int) ≠ _; decide) | (show (0 : Int) ≤ _; decide) | (show (0 : Int) ≤ _ ∧ _ < (256 : Int); decide))) ?_
          | (refine F.hold hA 2000 ?_; cbv))
        exact F.ret0 ⟨_, rfl, hf.cost n2 hn2⟩
    · skip
      repeat (first
        | refine OK.drawn (by decide +kernel) ?_
        | refine OK.tree ⟨lookT tis, fun _ => true, []⟩ (by decide +kernel) ?_
        | refine OK.need (by first | assumption | (rw [hA]; first | (show (_ : Int) ≠ _; decide) | (show (0 : Int) ≤ _; decide) | (show (0 : Int) ≤ _ ∧ _ < (256 : Int); decide))) ?_
        | (refine F.hold hA 2000 ?_; cbv))
      refine OK.branch (fun h2 => ?_) (fun h2 => ?_)
      · repeat (first
          | refine OK.drawn (by decide +kernel) ?_
          | refine OK.tree ⟨lookT tis, fun _ => true, []⟩ (by decide +kernel) ?_
          | refine OK.need (by first | assumption | (rw [hA]; first | (show (_ : Int) ≠ _; decide) | (show (0 : Int) ≤ _; decide) | (show (0 : Int) ≤ _ ∧ _ < (256 : Int); decide))) ?_
          | (refine F.hold hA 2000 ?_; cbv))
        refine OK.branch (fun h3 => (hf.one h2 h3).elim) (fun _ => ?_)
        repeat (first
          | refine OK.drawn (by decide +kernel) ?_
          | refine OK.tree ⟨lookT tis, fun _ => true, []⟩ (by decide +kernel) ?_
          | refine OK.need (by first | assumption | (rw [hA]; first | (show (_ : Int) ≠ _; decide) | (show (0 : Int) ≤ _; decide) | (show (0 : Int) ≤ _ ∧ _ < (256 : Int); decide))) ?_
          | (refine F.hold hA 2000 ?_; cbv))
        refine F.call [] (least_ok counts limit cs hl4.l (leP hg)) rfl rfl rfl fun rs H' hq => ?_
        obtain ⟨n, rfl, rfl, hn⟩ := hq
        refine ⟨rfl, ?_⟩
        have hn1 := hf.least n hn
        repeat (first
          | refine OK.drawn (by decide +kernel) ?_
          | refine OK.tree ⟨lookT tis, fun _ => true, []⟩ (by decide +kernel) ?_
          | refine OK.need (by first | assumption | (rw [hA]; first | (show (_ : Int) ≠ _; decide) | (show (0 : Int) ≤ _; decide) | (show (0 : Int) ≤ _ ∧ _ < (256 : Int); decide))) ?_
          | (refine F.hold hA 2000 ?_; cbv))
        refine OK.branch (fun _ => ?_) (fun h => (tf hn1 h).elim)
        repeat (first
          | refine OK.drawn (by decide +kernel) ?_
          | refine OK.tree ⟨lookT tis, fun _ => true, []⟩ (by decide +kernel) ?_
          | refine OK.need (by first | assumption | (rw [hA]; first | (show (_ : Int) ≠ _; decide) | (show (0 : Int) ≤ _; decide) | (show (0 : Int) ≤ _ ∧ _ < (256 : Int); decide))) ?_
          | (refine F.hold hA 2000 ?_; cbv))
        refine F.call [] (cost_ok counts l hl4.l hll) rfl rfl rfl fun rs H' hq => ?_
        obtain ⟨n2, rfl, rfl, hn2⟩ := hq
        refine ⟨rfl, ?_⟩
        repeat (first
          | refine OK.drawn (by decide +kernel) ?_
          | refine OK.tree ⟨lookT tis, fun _ => true, []⟩ (by decide +kernel) ?_
          | refine OK.need (by first | assumption | (rw [hA]; first | (show (_ : Int) ≠ _; decide) | (show (0 : Int) ≤ _; decide) | (show (0 : Int) ≤ _ ∧ _ < (256 : Int); decide))) ?_
          | (refine F.hold hA 2000 ?_; cbv))
        exact F.ret0 ⟨_, rfl, hf.cost n2 hn2⟩
      · skip
        repeat (first
          | refine OK.drawn (by decide +kernel) ?_
          | refine OK.tree ⟨lookT tis, fun _ => true, []⟩ (by decide +kernel) ?_
          | refine OK.need (by first | assumption | (rw [hA]; first | (show (_ : Int) ≠ _; decide) | (show (0 : Int) ≤ _; decide) | (show (0 : Int) ≤ _ ∧ _ < (256 : Int); decide))) ?_
          | (refine F.hold hA 2000 ?_; cbv))
        refine F.call [] (least_ok counts limit cs hl4.l (leP hg)) rfl rfl rfl fun rs H' hq => ?_
        obtain ⟨n, rfl, rfl, hn⟩ := hq
        refine ⟨rfl, ?_⟩
        have hn1 := hf.least n hn
        repeat (first
          | refine OK.drawn (by decide +kernel) ?_
          | refine OK.tree ⟨lookT tis, fun _ => true, []⟩ (by decide +kernel) ?_
          | refine OK.need (by first | assumption | (rw [hA]; first | (show (_ : Int) ≠ _; decide) | (show (0 : Int) ≤ _; decide) | (show (0 : Int) ≤ _ ∧ _ < (256 : Int); decide))) ?_
          | (refine F.hold hA 2000 ?_; cbv))
        refine OK.branch (fun _ => ?_) (fun h => (tf hn1 h).elim)
        repeat (first
          | refine OK.drawn (by decide +kernel) ?_
          | refine OK.tree ⟨lookT tis, fun _ => true, []⟩ (by decide +kernel) ?_
          | refine OK.need (by first | assumption | (rw [hA]; first | (show (_ : Int) ≠ _; decide) | (show (0 : Int) ≤ _; decide) | (show (0 : Int) ≤ _ ∧ _ < (256 : Int); decide))) ?_
          | (refine F.hold hA 2000 ?_; cbv))
        refine F.call [] (cost_ok counts l hl4.l hll) rfl rfl rfl fun rs H' hq => ?_
        obtain ⟨n2, rfl, rfl, hn2⟩ := hq
        refine ⟨rfl, ?_⟩
        repeat (first
          | refine OK.drawn (by decide +kernel) ?_
          | refine OK.tree ⟨lookT tis, fun _ => true, []⟩ (by decide +kernel) ?_
          | refine OK.need (by first | assumption | (rw [hA]; first | (show (_ : Int) ≠ _; decide) | (show (0 : Int) ≤ _; decide) | (show (0 : Int) ≤ _ ∧ _ < (256 : Int); decide))) ?_
          | (refine F.hold hA 2000 ?_; cbv))
        exact F.ret0 ⟨_, rfl, hf.cost n2 hn2⟩
end Go.L1
