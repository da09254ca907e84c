/- Own work of the session: part LI of a proof that the program's functions do what the statement says (a symbolic executor, contracts of the functions, plain laws). -/
import Derived.Test.YtljlflcgpbenpaaLD
import Derived.Test.YtljlflcgpbenpaaLE
set_option linter.all false
-- S33
namespace Go.L1
open Go Go.Sx Go.Proofs Go.L5
set_option maxRecDepth 20000
set_option linter.unusedVariables false
set_option linter.unusedSimpArgs false
theorem nil_den2 {C : Cod T1} {M : Mem} {v : Value} (h : DenV C M (.val (.slice none 0 0)) v) : DenV C M (.ro (.recs 2 [])) v := by
  have h : Den C M [.val (.slice none 0 0)] [v] := h
  show Den C M [.ro (.recs 2 [])] [v]
  cases h with
  | val _ _ hm => exact .ro (.recs 2 []) none 0 [] (by simp [Row.length]) (Nat.le_refl _) (fun h => absurd h (by decide)) (fun i e he => by cases he) .nil
/-- All the lengths so far are in bounds. -/
def GdW (l : List Int) (i : Int) : Prop := ∃ k : Nat, i = k ∧ k ≤ l.length ∧ ∀ c ∈ l.take k, badL c = false
structure GdAt (A : Leaf) (l : List Int) (i : Int) : Prop where
  q : A.inb i (A.len l)
  b1 : A.cmp .lss (A.get 0 l i) 0 = true → PackIs l []
  b2 : A.cmp .gtr (A.get 0 l i) 15 = true → PackIs l []
  nx : A.cmp .lss (A.get 0 l i) 0 = false → A.cmp .gtr (A.get 0 l i) 15 = false → GdW l (A.ar .add .i64 i 1)
  mu : (1000 - A.ar .add .i64 i 1).toNat < (1000 - i).toNat
theorem gdAt {A : Leaf} {l : List Int} {i : Int} (hA : A = .std) (hl : l.length ≤ 400) (hI : GdW l i) (b : A.cmp .lss i (A.len l) = true) : GdAt A l i := by
  obtain ⟨k, h1, h2, h3⟩ := hI
  subst hA h1
  have b : (k : Int) < (l.length : Int) := of_decide_eq_true b
  have hk : k < l.length := by omega
  have eg : Leaf.std.get 0 l (k : Int) = l[k] := by show l.getD _ _ = _; rw [Int.toNat_natCast]; simp [hk]
  have e : Leaf.std.ar .add .i64 (k : Int) 1 = ((k + 1 : Nat) : Int) := by rw [add_i64 (by omega) (by omega)]; omega
  have hm := List.getElem_mem hk
  have hbad : badL l[k] = true → PackIs l [] := fun h => ⟨by unfold packL; rw [if_pos ⟨_, hm, h⟩]; rfl⟩
  refine ⟨⟨by omega, by show (k : Int) < (l.length : Int); omega⟩, fun h => ?_, fun h => ?_, fun h4 h5 => ?_, by rw [e]; omega⟩
  · rw [eg] at h
    have h : l[k] < 0 := of_decide_eq_true h
    exact hbad (by unfold badL; rw [decide_eq_true h]; rfl)
  · rw [eg] at h
    have h : 15 < l[k] := of_decide_eq_true h
    exact hbad (by unfold badL; rw [decide_eq_true h, Bool.or_true])
  · rw [eg] at h4 h5
    have h4 : ¬ l[k] < 0 := of_decide_eq_false h4
    have h5 : ¬ 15 < l[k] := of_decide_eq_false h5
    rw [e]
    refine ⟨k + 1, rfl, by omega, fun c hc => ?_⟩
    rw [List.take_succ_eq_append_getElem hk] at hc
    rcases List.mem_append.1 hc with hc | hc
    · exact h3 c hc
    · rw [List.mem_singleton] at hc; subst hc
      unfold badL
      rw [decide_eq_false h4, decide_eq_false h5]; rfl
theorem gdEnd {A : Leaf} {l : List Int} {i : Int} (hA : A = .std) (hI : GdW l i) (b : A.cmp .lss i (A.len l) = false) : AnyIs badL l false := by
  obtain ⟨k, h1, h2, h3⟩ := hI
  subst hA h1
  have b : ¬ (k : Int) < (l.length : Int) := of_decide_eq_false b
  rw [List.take_of_length_le (by omega)] at h3
  exact ⟨⟨fun h => absurd h (by decide), fun ⟨c, hc, h⟩ => by rw [h3 c hc] at h; cases h⟩⟩
/-- How many of the same stand from a place on. -/
structure RfAt (A : Leaf) (l : List Int) (i n : Int) (k : Nat) : Prop where
  q1 : A.inb (A.ar .add .i64 i n) (A.len l)
  yes : A.cmp .eql (A.get 0 l (A.ar .add .i64 i n)) (A.get 0 l i) = true → RuI (l.drop k) (A.ar .add .i64 n 1)
  no : A.cmp .eql (A.get 0 l (A.ar .add .i64 i n)) (A.get 0 l i) = false → RunO (A.sub l i (A.len l)) n
  mu : (1000 - A.ar .add .i64 n 1).toNat < (1000 - n).toNat
theorem rfAt {A : Leaf} {l : List Int} {i n : Int} {k : Nat} (hA : A = .std) (hq : ItQ A l i k) (hI : RuI (l.drop k) n) (b : A.cmp .lss (A.ar .add .i64 i n) (A.len l) = true) : RfAt A l i n k := by
  have hei := hq.ei
  have hlt := hq.lt
  have hhi := hq.hi
  have he := hq.e
  obtain ⟨m, h1, h2, h3, h4⟩ := hI
  rw [List.length_drop] at h3
  subst hA h1 hei
  have e1 : Leaf.std.ar .add .i64 (k : Int) (m : Int) = ((k + m : Nat) : Int) := by rw [add_i64 (by omega) (by omega)]; omega
  have e2 : Leaf.std.ar .add .i64 (m : Int) 1 = ((m + 1 : Nat) : Int) := by rw [add_i64 (by omega) (by omega)]; omega
  rw [e1] at b
  have b : ((k + m : Nat) : Int) < (l.length : Int) := of_decide_eq_true b
  have hkm : k + m < l.length := by omega
  have eg1 : Leaf.std.get 0 l ((k + m : Nat) : Int) = l[k + m] := by show l.getD _ _ = _; rw [Int.toNat_natCast]; simp [hkm]
  have eg2 : Leaf.std.get 0 l (k : Int) = l[k] := by show l.getD _ _ = _; rw [Int.toNat_natCast]; simp [hlt]
  have d1 : (l.drop k)[m]? = some l[k + m] := by rw [List.getElem?_drop, List.getElem?_eq_getElem hkm]
  have d2 : (l.drop k)[0]? = some l[k] := by rw [List.getElem?_drop, Nat.add_zero, List.getElem?_eq_getElem hlt]
  rw [show RfAt Leaf.std l (k : Int) (m : Int) k = RfAt Leaf.std l (k : Int) (m : Int) k from rfl]
  refine ⟨?_, fun h => ?_, fun h => ?_, by rw [e2]; omega⟩
  · rw [e1]; exact ⟨by omega, by show ((k + m : Nat) : Int) < (l.length : Int); omega⟩
  · rw [e1, eg1, eg2] at h
    have h : (l[k + m] == l[k]) = true := h
    rw [beq_iff_eq] at h
    rw [e2]
    refine ⟨m + 1, rfl, by omega, by rw [List.length_drop]; omega, fun j hj => ?_⟩
    rcases Nat.lt_or_ge j m with h5 | h5
    · exact h4 j h5
    · have : j = m := by omega
      subst this
      rw [d1, d2, h]
  · rw [e1, eg1, eg2] at h
    have h : (l[k + m] == l[k]) = false := h
    rw [beq_eq_false_iff_ne] at h
    rw [he]
    have := RunIs.eq (l := l.drop k) (n := m) ⟨h2, by rw [List.length_drop]; omega, h4, fun _ hc => by
      rw [d1, d2] at hc
      exact h (Option.some.inj hc)⟩
    exact ⟨by rw [← this]⟩
theorem rfEnd {A : Leaf} {l : List Int} {i n : Int} {k : Nat} (hA : A = .std) (hq : ItQ A l i k) (hI : RuI (l.drop k) n) (b : A.cmp .lss (A.ar .add .i64 i n) (A.len l) = false) : RunO (A.sub l i (A.len l)) n := by
  have hei := hq.ei
  have hlt := hq.lt
  have hhi := hq.hi
  have he := hq.e
  obtain ⟨m, h1, h2, h3, h4⟩ := hI
  rw [List.length_drop] at h3
  subst hA h1 hei
  have e1 : Leaf.std.ar .add .i64 (k : Int) (m : Int) = ((k + m : Nat) : Int) := by rw [add_i64 (by omega) (by omega)]; omega
  rw [e1] at b
  have b : ¬ ((k + m : Nat) : Int) < (l.length : Int) := of_decide_eq_false b
  rw [he]
  have := RunIs.eq (l := l.drop k) (n := m) ⟨h2, by rw [List.length_drop]; omega, h4, fun hc => by rw [List.length_drop] at hc; omega⟩
  exact ⟨by rw [← this]⟩
theorem rfIni {A : Leaf} {l : List Int} {i : Int} {k : Nat} (hq : ItQ A l i k) : RuI (l.drop k) 1 := by
  have hlt := hq.lt
  exact ⟨1, rfl, Nat.le_refl _, by rw [List.length_drop]; omega, fun j hj => by rw [show j = 0 by omega]⟩
structure PkQ (l : List Int) (items : List Pr) (i : Int) (k : Nat) : Prop where
  t : True
theorem rpack_ok (l : List Int) (hl : l.length ≤ 400) : FOK Try.prog C1 15 (fun _ => false) [.ro (.ints .i64 l)] []
    (fun rs H => ∃ items, rs = [.ro (.recs 2 items)] ∧ H = [] ∧ PackIs l items) := by
  refine fok_of (B := ⟨lookT tis, fun _ => false, []⟩) (tab1 _) (zero1 _) cod1 mix1 Try.func15 (by kernel_rfl) rfl rfl rfl fun X F => ?_
  obtain ⟨A, hA⟩ : ∃ A, A = Leaf.std := ⟨_, rfl⟩
  refine F.hold hA 2000 ?_
  cbv
  repeat (first
    | refine OK.drawn (by decide +kernel) ?_
    | refine OK.tree ⟨lookT tis, fun _ => true, []⟩ (by decide +kernel) ?_
    | refine OK.need (by first | assumption | (rw [hA]; first | (show (_ : Int) ≠ _; decide) | (show (0 : Int) ≤ _; decide) | (show (0 : Int) ≤ _ ∧ _ < (256 : Int); decide))) ?_
    | (refine F.hold hA 2000 ?_; cbv))
  refine F.loop (V := Int) [0, 3] (GdW l) (fun w => (1000 - w).toNat) (fun w => [(4, .int .i64 w)]) (fun w => []) _ (by cbv; repeat (first | exact WkH.nil _ | apply WkH.gone | refine WkH.eq rfl ?_)) (by cbv; repeat (first | apply WkL.any | exact WkL.nil _ | refine WkL.eq rfl ?_ | refine WkL.bool rfl ?_)) (by cbv; exact ⟨rfl⟩) ?_ ?_
  · exact ⟨0, rfl, Nat.zero_le _, fun c hc => by cases hc⟩
  rintro i hI Bk hBk
  repeat (first
    | refine OK.drawn (by decide +kernel) ?_
    | refine OK.tree ⟨lookT tis, fun _ => true, []⟩ (by decide +kernel) ?_
    | refine OK.need (by first | assumption | (rw [hA]; first | (show (_ : Int) ≠ _; decide) | (show (0 : Int) ≤ _; decide) | (show (0 : Int) ≤ _ ∧ _ < (256 : Int); decide))) ?_
    | (refine F.hold hA 2000 ?_; cbv))
  refine OK.branch (fun b1 => ?_) (fun b1 => ?_)
  · have hat := gdAt hA hl hI b1
    have q := hat.q
    repeat (first
      | refine OK.drawn (by decide +kernel) ?_
      | refine OK.tree ⟨lookT tis, fun _ => true, []⟩ (by decide +kernel) ?_
      | refine OK.need (by first | assumption | (rw [hA]; first | (show (_ : Int) ≠ _; decide) | (show (0 : Int) ≤ _; decide) | (show (0 : Int) ≤ _ ∧ _ < (256 : Int); decide))) ?_
      | (refine F.hold hA 2000 ?_; cbv))
    refine OK.branch (fun b2 => ?_) (fun b2 => ?_)
    · have hf := hat.b1 b2
      repeat (first
        | refine OK.drawn (by decide +kernel) ?_
        | refine OK.tree ⟨lookT tis, fun _ => true, []⟩ (by decide +kernel) ?_
        | refine OK.need (by first | assumption | (rw [hA]; first | (show (_ : Int) ≠ _; decide) | (show (0 : Int) ≤ _; decide) | (show (0 : Int) ≤ _ ∧ _ < (256 : Int); decide))) ?_
        | (refine F.hold hA 2000 ?_; cbv))
      exact F.ret (rs' := [.ro (.recs 2 [])]) (H' := []) (Cv.trans (Cv.slot 0 rfl fun M v h => nil_den2 h) (F.cv ⟨rfl⟩ (by cbv; repeat (first | apply WkL.any | exact WkL.nil _ | refine WkL.eq rfl ?_)) (WkH.nil _))) rfl ⟨_, rfl, rfl, hf⟩
    repeat (first
      | refine OK.drawn (by decide +kernel) ?_
      | refine OK.tree ⟨lookT tis, fun _ => true, []⟩ (by decide +kernel) ?_
      | refine OK.need (by first | assumption | (rw [hA]; first | (show (_ : Int) ≠ _; decide) | (show (0 : Int) ≤ _; decide) | (show (0 : Int) ≤ _ ∧ _ < (256 : Int); decide))) ?_
      | (refine F.hold hA 2000 ?_; cbv))
    refine OK.branch (fun b3 => ?_) (fun b3 => ?_)
    · have hf := hat.b2 b3
      repeat (first
        | refine OK.drawn (by decide +kernel) ?_
        | refine OK.tree ⟨lookT tis, fun _ => true, []⟩ (by decide +kernel) ?_
        | refine OK.need (by first | assumption | (rw [hA]; first | (show (_ : Int) ≠ _; decide) | (show (0 : Int) ≤ _; decide) | (show (0 : Int) ≤ _ ∧ _ < (256 : Int); decide))) ?_
        | (refine F.hold hA 2000 ?_; cbv))
      exact F.ret (rs' := [.ro (.recs 2 [])]) (H' := []) (Cv.trans (Cv.slot 0 rfl fun M v h => nil_den2 h) (F.cv ⟨rfl⟩ (by cbv; repeat (first | apply WkL.any | exact WkL.nil _ | refine WkL.eq rfl ?_)) (WkH.nil _))) rfl ⟨_, rfl, rfl, hf⟩
    · have hx := hat.nx b2 b3
      repeat (first
        | refine OK.drawn (by decide +kernel) ?_
        | refine OK.tree ⟨lookT tis, fun _ => true, []⟩ (by decide +kernel) ?_
        | refine OK.need (by first | assumption | (rw [hA]; first | (show (_ : Int) ≠ _; decide) | (show (0 : Int) ≤ _; decide) | (show (0 : Int) ≤ _ ∧ _ < (256 : Int); decide))) ?_
        | (refine F.hold hA 2000 ?_; cbv))
      refine OK.back (hBk _ _ _ (by cbv; repeat (first | exact WkH.nil _ | apply WkH.gone | refine WkH.eq rfl ?_)) (by cbv; repeat (first | apply WkL.any | exact WkL.nil _ | refine WkL.eq rfl ?_ | refine WkL.bool rfl ?_)) (by cbv; exact ⟨rfl⟩) ?_ ?_)
      · exact hx
      · exact hat.mu
  · have hb := gdEnd hA hI b1
    repeat (first
      | refine OK.drawn (by decide +kernel) ?_
      | refine OK.tree ⟨lookT tis, fun _ => true, []⟩ (by decide +kernel) ?_
      | refine OK.need (by first | assumption | (rw [hA]; first | (show (_ : Int) ≠ _; decide) | (show (0 : Int) ≤ _; decide) | (show (0 : Int) ≤ _ ∧ _ < (256 : Int); decide))) ?_
      | (refine F.hold hA 2000 ?_; cbv))
    refine F.loop (V := List Pr × Int) [0, 3] (PkW l) (fun w => (1000 - w.2).toNat) (fun w => [(5, .int .i64 w.2)]) (fun w => [(0, .row 34 (.recs 2 w.1))]) (_, _) (by cbv; repeat (first | exact WkH.nil _ | apply WkH.gone | refine WkH.eq rfl ?_)) (by cbv; repeat (first | apply WkL.any | exact WkL.nil _ | refine WkL.eq rfl ?_ | refine WkL.bool rfl ?_)) (by cbv; exact ⟨rfl⟩) ?_ ?_
    · exact ⟨0, rfl, Nat.zero_le _, Nat.le_refl _, rfl⟩
    rintro ⟨items, i⟩ hI Bk hBkO
    repeat (first
      | refine OK.drawn (by decide +kernel) ?_
      | refine OK.tree ⟨lookT tis, fun _ => true, []⟩ (by decide +kernel) ?_
      | refine OK.need (by first | assumption | (rw [hA]; first | (show (_ : Int) ≠ _; decide) | (show (0 : Int) ≤ _; decide) | (show (0 : Int) ≤ _ ∧ _ < (256 : Int); decide))) ?_
      | (refine F.hold hA 2000 ?_; cbv))
    refine OK.branch (fun b1 => ?_) (fun b1 => ?_)
    · obtain ⟨k, hat⟩ := pkAt hA hl hI b1
      have hq := itQ hA hat.ei hat.lt hl
      have q1 := hq.q1
      repeat (first
        | refine OK.drawn (by decide +kernel) ?_
        | refine OK.tree ⟨lookT tis, fun _ => true, []⟩ (by decide +kernel) ?_
        | refine OK.need (by first | assumption | (rw [hA]; first | (show (_ : Int) ≠ _; decide) | (show (0 : Int) ≤ _; decide) | (show (0 : Int) ≤ _ ∧ _ < (256 : Int); decide))) ?_
        | (refine F.hold hA 2000 ?_; cbv))
      refine F.loop (V := Int) [0, 3, 5] (RuI (l.drop k)) (fun w => (1000 - w).toNat) (fun w => [(6, .int .i64 w)]) (fun w => []) _ (by cbv; repeat (first | exact WkH.nil _ | apply WkH.gone | refine WkH.eq rfl ?_)) (by cbv; repeat (first | apply WkL.any | exact WkL.nil _ | refine WkL.eq rfl ?_ | refine WkL.bool rfl ?_)) (by cbv; exact ⟨rfl⟩) ?_ ?_
      · exact rfIni hq
      rintro n hI2 Bk2 hBk2
      repeat (first
        | refine OK.drawn (by decide +kernel) ?_
        | refine OK.tree ⟨lookT tis, fun _ => true, []⟩ (by decide +kernel) ?_
        | refine OK.need (by first | assumption | (rw [hA]; first | (show (_ : Int) ≠ _; decide) | (show (0 : Int) ≤ _; decide) | (show (0 : Int) ≤ _ ∧ _ < (256 : Int); decide))) ?_
        | (refine F.hold hA 2000 ?_; cbv))
      refine OK.branch (fun d1 => ?_) (fun d1 => ?_)
      · have hr := rfAt hA hq hI2 d1
        have q2 := hr.q1
        repeat (first
          | refine OK.drawn (by decide +kernel) ?_
          | refine OK.tree ⟨lookT tis, fun _ => true, []⟩ (by decide +kernel) ?_
          | refine OK.need (by first | assumption | (rw [hA]; first | (show (_ : Int) ≠ _; decide) | (show (0 : Int) ≤ _; decide) | (show (0 : Int) ≤ _ ∧ _ < (256 : Int); decide))) ?_
          | (refine F.hold hA 2000 ?_; cbv))
        refine OK.branch (fun d2 => ?_) (fun d2 => ?_)
        · have hBk := hBk2
          repeat (first
            | refine OK.drawn (by decide +kernel) ?_
            | refine OK.tree ⟨lookT tis, fun _ => true, []⟩ (by decide +kernel) ?_
            | refine OK.need (by first | assumption | (rw [hA]; first | (show (_ : Int) ≠ _; decide) | (show (0 : Int) ≤ _; decide) | (show (0 : Int) ≤ _ ∧ _ < (256 : Int); decide))) ?_
            | (refine F.hold hA 2000 ?_; cbv))
          refine OK.back (hBk _ _ _ (by cbv; repeat (first | exact WkH.nil _ | apply WkH.gone | refine WkH.eq rfl ?_)) (by cbv; repeat (first | apply WkL.any | exact WkL.nil _ | refine WkL.eq rfl ?_ | refine WkL.bool rfl ?_)) (by cbv; exact ⟨rfl⟩) ?_ ?_)
          · exact hr.yes d2
          · exact hr.mu
        · have hn := hr.no d2
          have hBk := hBkO
          repeat (first
            | refine OK.drawn (by decide +kernel) ?_
            | refine OK.tree ⟨lookT tis, fun _ => true, []⟩ (by decide +kernel) ?_
            | refine OK.need (by first | assumption | (rw [hA]; first | (show (_ : Int) ≠ _; decide) | (show (0 : Int) ≤ _; decide) | (show (0 : Int) ≤ _ ∧ _ < (256 : Int); decide))) ?_
            | (refine F.hold hA 2000 ?_; cbv))
          refine OK.branch (fun c1 => ?_) (fun c1 => ?_)
          · repeat (first
              | refine OK.drawn (by decide +kernel) ?_
              | refine OK.tree ⟨lookT tis, fun _ => true, []⟩ (by decide +kernel) ?_
              | refine OK.need (by first | assumption | (rw [hA]; first | (show (_ : Int) ≠ _; decide) | (show (0 : Int) ≤ _; decide) | (show (0 : Int) ≤ _ ∧ _ < (256 : Int); decide))) ?_
              | (refine F.hold hA 2000 ?_; cbv))
            refine OK.branch (fun c2 => ?_) (fun c2 => ?_)
            · have ho := it18 hA hq hn c1 c2
              obtain ⟨q4, hnx, hmu⟩ := hat.nx _ _ _ ho
              repeat (first
                | refine OK.drawn (by decide +kernel) ?_
                | refine OK.tree ⟨lookT tis, fun _ => true, []⟩ (by decide +kernel) ?_
                | refine OK.need (by first | assumption | (rw [hA]; first | (show (_ : Int) ≠ _; decide) | (show (0 : Int) ≤ _; decide) | (show (0 : Int) ≤ _ ∧ _ < (256 : Int); decide))) ?_
                | (refine F.hold hA 2000 ?_; cbv))
              refine OK.back (hBk _ _ (_, _) (by cbv; repeat (first | exact WkH.nil _ | apply WkH.gone | refine WkH.eq rfl ?_)) (by cbv; repeat (first | apply WkL.any | exact WkL.nil _ | refine WkL.eq rfl ?_ | refine WkL.bool rfl ?_)) (by cbv; exact ⟨rfl⟩) ?_ ?_)
              · exact hnx
              · exact hmu
            · repeat (first
                | refine OK.drawn (by decide +kernel) ?_
                | refine OK.tree ⟨lookT tis, fun _ => true, []⟩ (by decide +kernel) ?_
                | refine OK.need (by first | assumption | (rw [hA]; first | (show (_ : Int) ≠ _; decide) | (show (0 : Int) ≤ _; decide) | (show (0 : Int) ≤ _ ∧ _ < (256 : Int); decide))) ?_
                | (refine F.hold hA 2000 ?_; cbv))
              refine OK.branch (fun d1 => ?_) (fun d1 => absurd (eqT hA c1) (eqF hA d1))
              repeat (first
                | refine OK.drawn (by decide +kernel) ?_
                | refine OK.tree ⟨lookT tis, fun _ => true, []⟩ (by decide +kernel) ?_
                | refine OK.need (by first | assumption | (rw [hA]; first | (show (_ : Int) ≠ _; decide) | (show (0 : Int) ≤ _; decide) | (show (0 : Int) ≤ _ ∧ _ < (256 : Int); decide))) ?_
                | (refine F.hold hA 2000 ?_; cbv))
              refine OK.branch (fun d2 => ?_) (fun d2 => ?_)
              · have ho := it17 hA hq hn c1 c2 d2
                obtain ⟨q4, hnx, hmu⟩ := hat.nx _ _ _ ho
                repeat (first
                  | refine OK.drawn (by decide +kernel) ?_
                  | refine OK.tree ⟨lookT tis, fun _ => true, []⟩ (by decide +kernel) ?_
                  | refine OK.need (by first | assumption | (rw [hA]; first | (show (_ : Int) ≠ _; decide) | (show (0 : Int) ≤ _; decide) | (show (0 : Int) ≤ _ ∧ _ < (256 : Int); decide))) ?_
                  | (refine F.hold hA 2000 ?_; cbv))
                refine OK.back (hBk _ _ (_, _) (by cbv; repeat (first | exact WkH.nil _ | apply WkH.gone | refine WkH.eq rfl ?_)) (by cbv; repeat (first | apply WkL.any | exact WkL.nil _ | refine WkL.eq rfl ?_ | refine WkL.bool rfl ?_)) (by cbv; exact ⟨rfl⟩) ?_ ?_)
                · exact hnx
                · exact hmu
              · repeat (first
                  | refine OK.drawn (by decide +kernel) ?_
                  | refine OK.tree ⟨lookT tis, fun _ => true, []⟩ (by decide +kernel) ?_
                  | refine OK.need (by first | assumption | (rw [hA]; first | (show (_ : Int) ≠ _; decide) | (show (0 : Int) ≤ _; decide) | (show (0 : Int) ≤ _ ∧ _ < (256 : Int); decide))) ?_
                  | (refine F.hold hA 2000 ?_; cbv))
                refine OK.branch (fun e1 => absurd (eqT hA c1) (neqT hA e1)) (fun e1 => ?_)
                have ho := it1 hA hq hn (.inl d2)
                obtain ⟨q4, hnx, hmu⟩ := hat.nx _ _ _ ho
                repeat (first
                  | refine OK.drawn (by decide +kernel) ?_
                  | refine OK.tree ⟨lookT tis, fun _ => true, []⟩ (by decide +kernel) ?_
                  | refine OK.need (by first | assumption | (rw [hA]; first | (show (_ : Int) ≠ _; decide) | (show (0 : Int) ≤ _; decide) | (show (0 : Int) ≤ _ ∧ _ < (256 : Int); decide))) ?_
                  | (refine F.hold hA 2000 ?_; cbv))
                refine OK.back (hBk _ _ (_, _) (by cbv; repeat (first | exact WkH.nil _ | apply WkH.gone | refine WkH.eq rfl ?_)) (by cbv; repeat (first | apply WkL.any | exact WkL.nil _ | refine WkL.eq rfl ?_ | refine WkL.bool rfl ?_)) (by cbv; exact ⟨rfl⟩) ?_ ?_)
                · exact hnx
                · exact hmu
          · repeat (first
              | refine OK.drawn (by decide +kernel) ?_
              | refine OK.tree ⟨lookT tis, fun _ => true, []⟩ (by decide +kernel) ?_
              | refine OK.need (by first | assumption | (rw [hA]; first | (show (_ : Int) ≠ _; decide) | (show (0 : Int) ≤ _; decide) | (show (0 : Int) ≤ _ ∧ _ < (256 : Int); decide))) ?_
              | (refine F.hold hA 2000 ?_; cbv))
            refine OK.branch (fun d1 => absurd (eqT hA d1) (eqF hA c1)) (fun d1 => ?_)
            repeat (first
              | refine OK.drawn (by decide +kernel) ?_
              | refine OK.tree ⟨lookT tis, fun _ => true, []⟩ (by decide +kernel) ?_
              | refine OK.need (by first | assumption | (rw [hA]; first | (show (_ : Int) ≠ _; decide) | (show (0 : Int) ≤ _; decide) | (show (0 : Int) ≤ _ ∧ _ < (256 : Int); decide))) ?_
              | (refine F.hold hA 2000 ?_; cbv))
            refine OK.branch (fun e1 => ?_) (fun e1 => absurd (neqF hA e1) (eqF hA c1))
            repeat (first
              | refine OK.drawn (by decide +kernel) ?_
              | refine OK.tree ⟨lookT tis, fun _ => true, []⟩ (by decide +kernel) ?_
              | refine OK.need (by first | assumption | (rw [hA]; first | (show (_ : Int) ≠ _; decide) | (show (0 : Int) ≤ _; decide) | (show (0 : Int) ≤ _ ∧ _ < (256 : Int); decide))) ?_
              | (refine F.hold hA 2000 ?_; cbv))
            refine OK.branch (fun e2 => ?_) (fun e2 => ?_)
            · repeat (first
                | refine OK.drawn (by decide +kernel) ?_
                | refine OK.tree ⟨lookT tis, fun _ => true, []⟩ (by decide +kernel) ?_
                | refine OK.need (by first | assumption | (rw [hA]; first | (show (_ : Int) ≠ _; decide) | (show (0 : Int) ≤ _; decide) | (show (0 : Int) ≤ _ ∧ _ < (256 : Int); decide))) ?_
                | (refine F.hold hA 2000 ?_; cbv))
              refine OK.branch (fun e3 => ?_) (fun e3 => ?_)
              · have hpv := itPrev hA hq e3
                have q3 := hpv.q
                repeat (first
                  | refine OK.drawn (by decide +kernel) ?_
                  | refine OK.tree ⟨lookT tis, fun _ => true, []⟩ (by decide +kernel) ?_
                  | refine OK.need (by first | assumption | (rw [hA]; first | (show (_ : Int) ≠ _; decide) | (show (0 : Int) ≤ _; decide) | (show (0 : Int) ≤ _ ∧ _ < (256 : Int); decide))) ?_
                  | (refine F.hold hA 2000 ?_; cbv))
                refine OK.branch (fun e4 => ?_) (fun e4 => ?_)
                · have ho := it16 hA hq hn c1 e2 e3 e4
                  obtain ⟨q4, hnx, hmu⟩ := hat.nx _ _ _ ho
                  repeat (first
                    | refine OK.drawn (by decide +kernel) ?_
                    | refine OK.tree ⟨lookT tis, fun _ => true, []⟩ (by decide +kernel) ?_
                    | refine OK.need (by first | assumption | (rw [hA]; first | (show (_ : Int) ≠ _; decide) | (show (0 : Int) ≤ _; decide) | (show (0 : Int) ≤ _ ∧ _ < (256 : Int); decide))) ?_
                    | (refine F.hold hA 2000 ?_; cbv))
                  refine OK.back (hBk _ _ (_, _) (by cbv; repeat (first | exact WkH.nil _ | apply WkH.gone | refine WkH.eq rfl ?_)) (by cbv; repeat (first | apply WkL.any | exact WkL.nil _ | refine WkL.eq rfl ?_ | refine WkL.bool rfl ?_)) (by cbv; exact ⟨rfl⟩) ?_ ?_)
                  · exact hnx
                  · exact hmu
                · have ho := it1 hA hq hn (.inr (.inr ⟨c1, e3, e4⟩))
                  obtain ⟨q4, hnx, hmu⟩ := hat.nx _ _ _ ho
                  repeat (first
                    | refine OK.drawn (by decide +kernel) ?_
                    | refine OK.tree ⟨lookT tis, fun _ => true, []⟩ (by decide +kernel) ?_
                    | refine OK.need (by first | assumption | (rw [hA]; first | (show (_ : Int) ≠ _; decide) | (show (0 : Int) ≤ _; decide) | (show (0 : Int) ≤ _ ∧ _ < (256 : Int); decide))) ?_
                    | (refine F.hold hA 2000 ?_; cbv))
                  refine OK.back (hBk _ _ (_, _) (by cbv; repeat (first | exact WkH.nil _ | apply WkH.gone | refine WkH.eq rfl ?_)) (by cbv; repeat (first | apply WkL.any | exact WkL.nil _ | refine WkL.eq rfl ?_ | refine WkL.bool rfl ?_)) (by cbv; exact ⟨rfl⟩) ?_ ?_)
                  · exact hnx
                  · exact hmu
              · have ho := it1 hA hq hn (.inr (.inl ⟨c1, e3⟩))
                obtain ⟨q4, hnx, hmu⟩ := hat.nx _ _ _ ho
                repeat (first
                  | refine OK.drawn (by decide +kernel) ?_
                  | refine OK.tree ⟨lookT tis, fun _ => true, []⟩ (by decide +kernel) ?_
                  | refine OK.need (by first | assumption | (rw [hA]; first | (show (_ : Int) ≠ _; decide) | (show (0 : Int) ≤ _; decide) | (show (0 : Int) ≤ _ ∧ _ < (256 : Int); decide))) ?_
                  | (refine F.hold hA 2000 ?_; cbv))
                refine OK.back (hBk _ _ (_, _) (by cbv; repeat (first | exact WkH.nil _ | apply WkH.gone | refine WkH.eq rfl ?_)) (by cbv; repeat (first | apply WkL.any | exact WkL.nil _ | refine WkL.eq rfl ?_ | refine WkL.bool rfl ?_)) (by cbv; exact ⟨rfl⟩) ?_ ?_)
                · exact hnx
                · exact hmu
            · have ho := it1 hA hq hn (.inl e2)
              obtain ⟨q4, hnx, hmu⟩ := hat.nx _ _ _ ho
              repeat (first
                | refine OK.drawn (by decide +kernel) ?_
                | refine OK.tree ⟨lookT tis, fun _ => true, []⟩ (by decide +kernel) ?_
                | refine OK.need (by first | assumption | (rw [hA]; first | (show (_ : Int) ≠ _; decide) | (show (0 : Int) ≤ _; decide) | (show (0 : Int) ≤ _ ∧ _ < (256 : Int); decide))) ?_
                | (refine F.hold hA 2000 ?_; cbv))
              refine OK.back (hBk _ _ (_, _) (by cbv; repeat (first | exact WkH.nil _ | apply WkH.gone | refine WkH.eq rfl ?_)) (by cbv; repeat (first | apply WkL.any | exact WkL.nil _ | refine WkL.eq rfl ?_ | refine WkL.bool rfl ?_)) (by cbv; exact ⟨rfl⟩) ?_ ?_)
              · exact hnx
              · exact hmu
      · have hn := rfEnd hA hq hI2 d1
        have hBk := hBkO
        repeat (first
          | refine OK.drawn (by decide +kernel) ?_
          | refine OK.tree ⟨lookT tis, fun _ => true, []⟩ (by decide +kernel) ?_
          | refine OK.need (by first | assumption | (rw [hA]; first | (show (_ : Int) ≠ _; decide) | (show (0 : Int) ≤ _; decide) | (show (0 : Int) ≤ _ ∧ _ < (256 : Int); decide))) ?_
          | (refine F.hold hA 2000 ?_; cbv))
        refine OK.branch (fun c1 => ?_) (fun c1 => ?_)
        · repeat (first
            | refine OK.drawn (by decide +kernel) ?_
            | refine OK.tree ⟨lookT tis, fun _ => true, []⟩ (by decide +kernel) ?_
            | refine OK.need (by first | assumption | (rw [hA]; first | (show (_ : Int) ≠ _; decide) | (show (0 : Int) ≤ _; decide) | (show (0 : Int) ≤ _ ∧ _ < (256 : Int); decide))) ?_
            | (refine F.hold hA 2000 ?_; cbv))
          refine OK.branch (fun c2 => ?_) (fun c2 => ?_)
          · have ho := it18 hA hq hn c1 c2
            obtain ⟨q4, hnx, hmu⟩ := hat.nx _ _ _ ho
            repeat (first
              | refine OK.drawn (by decide +kernel) ?_
              | refine OK.tree ⟨lookT tis, fun _ => true, []⟩ (by decide +kernel) ?_
              | refine OK.need (by first | assumption | (rw [hA]; first | (show (_ : Int) ≠ _; decide) | (show (0 : Int) ≤ _; decide) | (show (0 : Int) ≤ _ ∧ _ < (256 : Int); decide))) ?_
              | (refine F.hold hA 2000 ?_; cbv))
            refine OK.back (hBk _ _ (_, _) (by cbv; repeat (first | exact WkH.nil _ | apply WkH.gone | refine WkH.eq rfl ?_)) (by cbv; repeat (first | apply WkL.any | exact WkL.nil _ | refine WkL.eq rfl ?_ | refine WkL.bool rfl ?_)) (by cbv; exact ⟨rfl⟩) ?_ ?_)
            · exact hnx
            · exact hmu
          · repeat (first
              | refine OK.drawn (by decide +kernel) ?_
              | refine OK.tree ⟨lookT tis, fun _ => true, []⟩ (by decide +kernel) ?_
              | refine OK.need (by first | assumption | (rw [hA]; first | (show (_ : Int) ≠ _; decide) | (show (0 : Int) ≤ _; decide) | (show (0 : Int) ≤ _ ∧ _ < (256 : Int); decide))) ?_
              | (refine F.hold hA 2000 ?_; cbv))
            refine OK.branch (fun d1 => ?_) (fun d1 => absurd (eqT hA c1) (eqF hA d1))
            repeat (first
              | refine OK.drawn (by decide +kernel) ?_
              | refine OK.tree ⟨lookT tis, fun _ => true, []⟩ (by decide +kernel) ?_
              | refine OK.need (by first | assumption | (rw [hA]; first | (show (_ : Int) ≠ _; decide) | (show (0 : Int) ≤ _; decide) | (show (0 : Int) ≤ _ ∧ _ < (256 : Int); decide))) ?_
              | (refine F.hold hA 2000 ?_; cbv))
            refine OK.branch (fun d2 => ?_) (fun d2 => ?_)
            · have ho := it17 hA hq hn c1 c2 d2
              obtain ⟨q4, hnx, hmu⟩ := hat.nx _ _ _ ho
              repeat (first
                | refine OK.drawn (by decide +kernel) ?_
                | refine OK.tree ⟨lookT tis, fun _ => true, []⟩ (by decide +kernel) ?_
                | refine OK.need (by first | assumption | (rw [hA]; first | (show (_ : Int) ≠ _; decide) | (show (0 : Int) ≤ _; decide) | (show (0 : Int) ≤ _ ∧ _ < (256 : Int); decide))) ?_
                | (refine F.hold hA 2000 ?_; cbv))
              refine OK.back (hBk _ _ (_, _) (by cbv; repeat (first | exact WkH.nil _ | apply WkH.gone | refine WkH.eq rfl ?_)) (by cbv; repeat (first | apply WkL.any | exact WkL.nil _ | refine WkL.eq rfl ?_ | refine WkL.bool rfl ?_)) (by cbv; exact ⟨rfl⟩) ?_ ?_)
              · exact hnx
              · exact hmu
            · repeat (first
                | refine OK.drawn (by decide +kernel) ?_
                | refine OK.tree ⟨lookT tis, fun _ => true, []⟩ (by decide +kernel) ?_
                | refine OK.need (by first | assumption | (rw [hA]; first | (show (_ : Int) ≠ _; decide) | (show (0 : Int) ≤ _; decide) | (show (0 : Int) ≤ _ ∧ _ < (256 : Int); decide))) ?_
                | (refine F.hold hA 2000 ?_; cbv))
              refine OK.branch (fun e1 => absurd (eqT hA c1) (neqT hA e1)) (fun e1 => ?_)
              have ho := it1 hA hq hn (.inl d2)
              obtain ⟨q4, hnx, hmu⟩ := hat.nx _ _ _ ho
              repeat (first
                | refine OK.drawn (by decide +kernel) ?_
                | refine OK.tree ⟨lookT tis, fun _ => true, []⟩ (by decide +kernel) ?_
                | refine OK.need (by first | assumption | (rw [hA]; first | (show (_ : Int) ≠ _; decide) | (show (0 : Int) ≤ _; decide) | (show (0 : Int) ≤ _ ∧ _ < (256 : Int); decide))) ?_
                | (refine F.hold hA 2000 ?_; cbv))
              refine OK.back (hBk _ _ (_, _) (by cbv; repeat (first | exact WkH.nil _ | apply WkH.gone | refine WkH.eq rfl ?_)) (by cbv; repeat (first | apply WkL.any | exact WkL.nil _ | refine WkL.eq rfl ?_ | refine WkL.bool rfl ?_)) (by cbv; exact ⟨rfl⟩) ?_ ?_)
              · exact hnx
              · exact hmu
        · repeat (first
            | refine OK.drawn (by decide +kernel) ?_
            | refine OK.tree ⟨lookT tis, fun _ => true, []⟩ (by decide +kernel) ?_
            | refine OK.need (by first | assumption | (rw [hA]; first | (show (_ : Int) ≠ _; decide) | (show (0 : Int) ≤ _; decide) | (show (0 : Int) ≤ _ ∧ _ < (256 : Int); decide))) ?_
            | (refine F.hold hA 2000 ?_; cbv))
          refine OK.branch (fun d1 => absurd (eqT hA d1) (eqF hA c1)) (fun d1 => ?_)
          repeat (first
            | refine OK.drawn (by decide +kernel) ?_
            | refine OK.tree ⟨lookT tis, fun _ => true, []⟩ (by decide +kernel) ?_
            | refine OK.need (by first | assumption | (rw [hA]; first | (show (_ : Int) ≠ _; decide) | (show (0 : Int) ≤ _; decide) | (show (0 : Int) ≤ _ ∧ _ < (256 : Int); decide))) ?_
            | (refine F.hold hA 2000 ?_; cbv))
          refine OK.branch (fun e1 => ?_) (fun e1 => absurd (neqF hA e1) (eqF hA c1))
          repeat (first
            | refine OK.drawn (by decide +kernel) ?_
            | refine OK.tree ⟨lookT tis, fun _ => true, []⟩ (by decide +kernel) ?_
            | refine OK.need (by first | assumption | (rw [hA]; first | (show (_ : Int) ≠ _; decide) | (show (0 : Int) ≤ _; decide) | (show (0 : Int) ≤ _ ∧ _ < (256 : Int); decide))) ?_
            | (refine F.hold hA 2000 ?_; cbv))
          refine OK.branch (fun e2 => ?_) (fun e2 => ?_)
          · repeat (first
              | refine OK.drawn (by decide +kernel) ?_
              | refine OK.tree ⟨lookT tis, fun _ => true, []⟩ (by decide +kernel) ?_
              | refine OK.need (by first | assumption | (rw [hA]; first | (show (_ : Int) ≠ _; decide) | (show (0 : Int) ≤ _; decide) | (show (0 : Int) ≤ _ ∧ _ < (256 : Int); decide))) ?_
              | (refine F.hold hA 2000 ?_; cbv))
            refine OK.branch (fun e3 => ?_) (fun e3 => ?_)
            · have hpv := itPrev hA hq e3
              have q3 := hpv.q
              repeat (first
                | refine OK.drawn (by decide +kernel) ?_
                | refine OK.tree ⟨lookT tis, fun _ => true, []⟩ (by decide +kernel) ?_
                | refine OK.need (by first | assumption | (rw [hA]; first | (show (_ : Int) ≠ _; decide) | (show (0 : Int) ≤ _; decide) | (show (0 : Int) ≤ _ ∧ _ < (256 : Int); decide))) ?_
                | (refine F.hold hA 2000 ?_; cbv))
              refine OK.branch (fun e4 => ?_) (fun e4 => ?_)
              · have ho := it16 hA hq hn c1 e2 e3 e4
                obtain ⟨q4, hnx, hmu⟩ := hat.nx _ _ _ ho
                repeat (first
                  | refine OK.drawn (by decide +kernel) ?_
                  | refine OK.tree ⟨lookT tis, fun _ => true, []⟩ (by decide +kernel) ?_
                  | refine OK.need (by first | assumption | (rw [hA]; first | (show (_ : Int) ≠ _; decide) | (show (0 : Int) ≤ _; decide) | (show (0 : Int) ≤ _ ∧ _ < (256 : Int); decide))) ?_
                  | (refine F.hold hA 2000 ?_; cbv))
                refine OK.back (hBk _ _ (_, _) (by cbv; repeat (first | exact WkH.nil _ | apply WkH.gone | refine WkH.eq rfl ?_)) (by cbv; repeat (first | apply WkL.any | exact WkL.nil _ | refine WkL.eq rfl ?_ | refine WkL.bool rfl ?_)) (by cbv; exact ⟨rfl⟩) ?_ ?_)
                · exact hnx
                · exact hmu
              · have ho := it1 hA hq hn (.inr (.inr ⟨c1, e3, e4⟩))
                obtain ⟨q4, hnx, hmu⟩ := hat.nx _ _ _ ho
                repeat (first
                  | refine OK.drawn (by decide +kernel) ?_
                  | refine OK.tree ⟨lookT tis, fun _ => true, []⟩ (by decide +kernel) ?_
                  | refine OK.need (by first | assumption | (rw [hA]; first | (show (_ : Int) ≠ _; decide) | (show (0 : Int) ≤ _; decide) | (show (0 : Int) ≤ _ ∧ _ < (256 : Int); decide))) ?_
                  | (refine F.hold hA 2000 ?_; cbv))
                refine OK.back (hBk _ _ (_, _) (by cbv; repeat (first | exact WkH.nil _ | apply WkH.gone | refine WkH.eq rfl ?_)) (by cbv; repeat (first | apply WkL.any | exact WkL.nil _ | refine WkL.eq rfl ?_ | refine WkL.bool rfl ?_)) (by cbv; exact ⟨rfl⟩) ?_ ?_)
                · exact hnx
                · exact hmu
            · have ho := it1 hA hq hn (.inr (.inl ⟨c1, e3⟩))
              obtain ⟨q4, hnx, hmu⟩ := hat.nx _ _ _ ho
              repeat (first
                | refine OK.drawn (by decide +kernel) ?_
                | refine OK.tree ⟨lookT tis, fun _ => true, []⟩ (by decide +kernel) ?_
                | refine OK.need (by first | assumption | (rw [hA]; first | (show (_ : Int) ≠ _; decide) | (show (0 : Int) ≤ _; decide) | (show (0 : Int) ≤ _ ∧ _ < (256 : Int); decide))) ?_
                | (refine F.hold hA 2000 ?_; cbv))
              refine OK.back (hBk _ _ (_, _) (by cbv; repeat (first | exact WkH.nil _ | apply WkH.gone | refine WkH.eq rfl ?_)) (by cbv; repeat (first | apply WkL.any | exact WkL.nil _ | refine WkL.eq rfl ?_ | refine WkL.bool rfl ?_)) (by cbv; exact ⟨rfl⟩) ?_ ?_)
              · exact hnx
              · exact hmu
          · have ho := it1 hA hq hn (.inl e2)
            obtain ⟨q4, hnx, hmu⟩ := hat.nx _ _ _ ho
            repeat (first
              | refine OK.drawn (by decide +kernel) ?_
              | refine OK.tree ⟨lookT tis, fun _ => true, []⟩ (by decide +kernel) ?_
              | refine OK.need (by first | assumption | (rw [hA]; first | (show (_ : Int) ≠ _; decide) | (show (0 : Int) ≤ _; decide) | (show (0 : Int) ≤ _ ∧ _ < (256 : Int); decide))) ?_
              | (refine F.hold hA 2000 ?_; cbv))
            refine OK.back (hBk _ _ (_, _) (by cbv; repeat (first | exact WkH.nil _ | apply WkH.gone | refine WkH.eq rfl ?_)) (by cbv; repeat (first | apply WkL.any | exact WkL.nil _ | refine WkL.eq rfl ?_ | refine WkL.bool rfl ?_)) (by cbv; exact ⟨rfl⟩) ?_ ?_)
            · exact hnx
            · exact hmu
    · have hfin := pkFin hA hb rfl hI b1
      repeat (first
        | refine OK.drawn (by decide +kernel) ?_
        | refine OK.tree ⟨lookT tis, fun _ => true, []⟩ (by decide +kernel) ?_
        | refine OK.need (by first | assumption | (rw [hA]; first | (show (_ : Int) ≠ _; decide) | (show (0 : Int) ≤ _; decide) | (show (0 : Int) ≤ _ ∧ _ < (256 : Int); decide))) ?_
        | (refine F.hold hA 2000 ?_; cbv))
      exact F.ret (rs' := [.ro (.recs 2 _)]) (H' := []) (Cv.trans (Cv.freeze F.cod 0 rfl) (F.cv ⟨rfl⟩ (by cbv; repeat (first | apply WkL.any | exact WkL.nil _ | refine WkL.eq rfl ?_)) (WkH.nil _))) rfl ⟨_, rfl, rfl, hfin⟩
end Go.L1

-- S34
namespace Go.L1
open Go Go.Sx Go.Proofs Go.L5
set_option maxRecDepth 20000
set_option linter.unusedVariables false
set_option linter.unusedSimpArgs false
theorem ud_none {s x : Int} {l : List Int} (h1 : ¬ (0 ≤ s ∧ s ≤ 15 ∧ x = 0)) (h2 : ¬ (s = 16 ∧ 0 ≤ x ∧ x ≤ 3 ∧ l ≠ [])) (h3 : ¬ (s = 17 ∧ 0 ≤ x ∧ x ≤ 7)) (h4 : ¬ (s = 18 ∧ 0 ≤ x ∧ x ≤ 127)) : rowR (s, x) l = none := by
  unfold rowR
  by_cases c1 : 0 ≤ s ∧ s ≤ 15
  · rw [if_pos c1, if_neg (fun h => h1 ⟨c1.1, c1.2, h⟩)]
  · rw [if_neg c1]
    by_cases c2 : s = 16
    · rw [if_pos c2]
      by_cases c3 : l = [] ∨ ¬ (0 ≤ x ∧ x ≤ 3)
      · rw [if_pos c3]
      · exact absurd ⟨c2, (Decidable.not_not.1 fun h => c3 (.inr h)).1, (Decidable.not_not.1 fun h => c3 (.inr h)).2, fun h => c3 (.inl h)⟩ h2
    · rw [if_neg c2]
      by_cases c3 : s = 17
      · rw [if_pos c3, if_neg (fun h => h3 ⟨c3, h⟩)]
      · rw [if_neg c3]
        by_cases c4 : s = 18
        · rw [if_pos c4, if_neg (fun h => h4 ⟨c4, h⟩)]
        · rw [if_neg c4]
/-- What both Unpacks answer. -/
structure UnV (items : List Pr) (l : List Int) (ok : Bool) : Prop where
  yes : ok = true → unpackR (itL items) [] = some l
  no : ok = false → unpackR (itL items) [] = none ∧ l = []
  n : l.length ≤ 320
def UnR (items : List Pr) (rs : List (SV T1)) (H : List (Ch T1)) : Prop := ∃ l ok, rs = [.ro (.ints .i64 l), .bool (.e ok)] ∧ H = [] ∧ UnV items l ok
theorem un_no {items : List Pr} (h : unpackR (itL items) [] = none) : UnR items [.ro (.ints .i64 []), .bool (.e false)] [] := ⟨_, _, rfl, rfl, fun h => by (cases h), fun _ => ⟨h, rfl⟩, by decide⟩
theorem un_yes {items : List Pr} {l : List Int} (h : unpackR (itL items) [] = some l) (hl : l.length ≤ 320) : UnR items [.ro (.ints .i64 l), .bool (.e true)] [] := ⟨_, _, rfl, rfl, fun _ => h, fun h => by (cases h), hl⟩
theorem UnV.uniq {items : List Pr} {l l2 : List Int} {ok ok2 : Bool} (h : UnV items l ok) (h2 : UnV items l2 ok2) : l = l2 ∧ ok = ok2 := by
  cases ok with
  | true =>
    have a := h.yes rfl
    cases ok2 with
    | true => have b := h2.yes rfl; rw [a] at b; exact ⟨Option.some.inj b, rfl⟩
    | false => have b := (h2.no rfl).1; rw [a] at b; cases b
  | false =>
    have a := h.no rfl
    cases ok2 with
    | true => have b := h2.yes rfl; rw [a.1] at b; cases b
    | false => have b := h2.no rfl; exact ⟨a.2.trans b.2.symm, rfl⟩
structure UdNo (items : List Pr) : Prop where
  e : unpackR (itL items) [] = none
theorem udNo {A : Leaf} {items : List Pr} {o : List Int} {i : Int} {x : Pr} (h : UnAt A items o i x) (hr : rowR (x.a, x.b) o = none) : UdNo items := by
  have he := h.e
  rw [hr] at he
  exact ⟨he⟩
/-- Lengths are added one by one. -/
def ApW (o : List Int) (v n : Int) (w : List Int × Int) : Prop := ∃ j : Nat, w.2 = j ∧ (j : Int) ≤ n ∧ w.1 = o ++ List.replicate j v
structure UdB (A : Leaf) (items : List Pr) (o : List Int) (i v n : Int) : Prop where
  n0 : 0 ≤ n
  n1 : n ≤ 138
  ol : o.length ≤ 320
  yes : 320 < o.length + n.toNat → UdNo items
  no : o.length + n.toNat ≤ 320 → UnInv items (o ++ List.replicate n.toNat v, A.ar .add .i64 i 1) ∧ (items.length - A.ar .add .i64 i 1).toNat < (items.length - i).toNat
theorem udB {A : Leaf} {items : List Pr} {o : List Int} {i v n : Int} {x : Pr} (hA : A = .std) (h : UnAt A items o i x) (hr : ItRes x.a x.b o v n true) : UdB A items o i v n := by
  have hip := h.ip.le
  have he := h.e
  have i0 := h.i0
  have i1 := h.i1
  have nn := h.nn
  subst hA
  rcases hr with ⟨_, n1, n2, hr⟩ | ⟨hr, _⟩
  · have ei : Leaf.std.ar .add .i64 i 1 = i + 1 := add_i64 (by omega) (by omega)
    rw [hr] at he
    dsimp only at he
    refine ⟨by omega, n2, hip, fun hh => ⟨?_⟩, fun hh => ?_⟩
    · rw [he, if_neg (by rw [List.length_replicate]; omega)]
    · rw [ei]
      refine ⟨⟨i.toNat + 1, by simp only; omega, by omega, ?_, ?_⟩, by omega⟩
      · show (o ++ List.replicate n.toNat v).length ≤ 320
        rw [List.length_append, List.length_replicate]; omega
      · rw [he, if_pos (by rw [List.length_replicate]; omega)]
  · cases hr
def UdB.I {A : Leaf} {items : List Pr} {o : List Int} {i v n : Int} (_ : UdB A items o i v n) : List Int × Int → Prop := ApW o v n
structure ApAt (A : Leaf) (o : List Int) (v n : Int) (row : List Int) (k : Int) : Prop where
  sm : A.small (A.len (A.app row [v])) 8
  nx : ApW o v n (A.app row [v], A.ar .add .i64 k 1)
  mu : (1000 - A.ar .add .i64 k 1).toNat < (1000 - k).toNat
theorem apAt {A : Leaf} {items : List Pr} {o row : List Int} {i v n k : Int} (hA : A = .std) (hB : UdB A items o i v n) (hI : ApW o v n (row, k)) (b : A.cmp .lss k n = true) : ApAt A o v n row k := by
  obtain ⟨j, h1, h2, h3⟩ := hI
  simp only at h1 h3
  obtain ⟨n0, n1, ol, _, _⟩ := hB
  subst hA h1
  have b : (j : Int) < n := of_decide_eq_true b
  have e : Leaf.std.ar .add .i64 (j : Int) 1 = ((j + 1 : Nat) : Int) := by rw [add_i64 (by omega) (by omega)]; omega
  have hl : row.length = o.length + j := by rw [h3, List.length_append, List.length_replicate]
  refine ⟨small_of (l := row ++ [_]) (by rw [List.length_append, List.length_singleton]; omega), ?_, by rw [e]; omega⟩
  rw [e]
  refine ⟨j + 1, rfl, by omega, ?_⟩
  show row ++ [v] = _
  rw [h3, List.append_assoc, List.replicate_succ']
structure ApEnd (A : Leaf) (items : List Pr) (row : List Int) (i : Int) : Prop where
  yes : A.cmp .gtr (A.len row) 320 = true → UdNo items
  no : A.cmp .gtr (A.len row) 320 = false → UnInv items (row, A.ar .add .i64 i 1)
  mu : A.cmp .gtr (A.len row) 320 = false → (items.length - A.ar .add .i64 i 1).toNat < (items.length - i).toNat
theorem apEnd {A : Leaf} {items : List Pr} {o row : List Int} {i v n k : Int} (hA : A = .std) (hB : UdB A items o i v n) (hI : ApW o v n (row, k)) (b : A.cmp .lss k n = false) : ApEnd A items row i := by
  obtain ⟨j, h1, h2, h3⟩ := hI
  simp only at h1 h3
  obtain ⟨n0, n1, ol, yes, no⟩ := hB
  subst hA h1
  have b : ¬ (j : Int) < n := of_decide_eq_false b
  have hj : j = n.toNat := by omega
  subst hj
  have hl : row.length = o.length + n.toNat := by rw [h3, List.length_append, List.length_replicate]
  refine ⟨fun h => ?_, fun h => ?_, fun h => ?_⟩
  · have h : (320 : Int) < (row.length : Int) := of_decide_eq_true h
    exact yes (by omega)
  · have h : ¬ (320 : Int) < (row.length : Int) := of_decide_eq_false h
    rw [h3]
    exact (no (by omega)).1
  · have h : ¬ (320 : Int) < (row.length : Int) := of_decide_eq_false h
    exact (no (by omega)).2
theorem leqT {A : Leaf} {a b : Int} (hA : A = .std) (h : A.cmp .leq a b = true) : a ≤ b := by subst hA; exact of_decide_eq_true h
theorem leqF {A : Leaf} {a b : Int} (hA : A = .std) (h : A.cmp .leq a b = false) : ¬ a ≤ b := by subst hA; exact of_decide_eq_false h
theorem len0T {A : Leaf} {l : List Int} (hA : A = .std) (h : A.cmp .gtr (A.len l) 0 = true) : l ≠ [] := by
  have := gtrT hA h
  subst hA
  have this : (0 : Int) < (l.length : Int) := this
  intro h; subst h; simp at this
theorem len0F {A : Leaf} {l : List Int} (hA : A = .std) (h : A.cmp .gtr (A.len l) 0 = false) : l = [] := by
  have := gtrF hA h
  subst hA
  have this : ¬ (0 : Int) < (l.length : Int) := this
  exact List.eq_nil_of_length_eq_zero (by omega)
theorem len0I {A : Leaf} {l : List Int} (hA : A = .std) (hp : ItP l) (h : A.cmp .gtr (A.len l) 0 = true) : A.inb (A.ar .sub .i64 (A.len l) 1) (A.len l) := by
  have := gtrT hA h
  have hl := hp.le
  subst hA
  have this : (0 : Int) < (l.length : Int) := this
  have e2 : Leaf.std.ar .sub .i64 (Leaf.std.len l) 1 = (l.length : Int) - 1 := sub_i64 (a := (l.length : Int)) (b := 1) (by omega) (by omega)
  rw [e2]
  show (0 : Int) ≤ (l.length : Int) - 1 ∧ (l.length : Int) - 1 < (l.length : Int)
  omega
theorem eq_ne {a k c : Int} (h : a = c) (hk : c ≠ k) : a ≠ k := by omega
theorem ne_le {a k c : Int} (h : a ≤ c) (hk : c < k) : a ≠ k := by omega
theorem ne_neg {a k : Int} (h : ¬ 0 ≤ a) (hk : 0 ≤ k) : a ≠ k := by omega
theorem runpack_ok (items : List Pr) (hp : UnP items) : FOK Try.prog C1 13 (fun _ => false) [.ro (.recs 2 items)] [] (UnR items) := by
  refine fok_of (B := ⟨lookT tis, fun _ => false, []⟩) (tab1 _) (zero1 _) cod1 mix1 Try.func13 (by kernel_rfl) rfl rfl rfl fun X F => ?_
  obtain ⟨A, hA⟩ : ∃ A, A = Leaf.std := ⟨_, rfl⟩
  refine F.hold hA 2000 ?_
  cbv
  repeat (first
    | refine OK.drawn (by decide +kernel) ?_
    | refine OK.tree ⟨lookT tis, fun _ => true, []⟩ (by decide +kernel) ?_
    | refine OK.need (by first | assumption | (rw [hA]; first | (show (_ : Int) ≠ _; decide) | (show (0 : Int) ≤ _; decide) | (show (0 : Int) ≤ _ ∧ _ < (256 : Int); decide))) ?_
    | (refine F.hold hA 2000 ?_; cbv))
  refine F.loop (V := List Int × Int) [0, 4] (UnInv items) (fun w => (items.length - w.2).toNat) (fun w => [(5, .int .i64 w.2)]) (fun w => [(0, .row 3 (.ints .i64 w.1))]) (_, _) (by cbv; repeat (first | exact WkH.nil _ | apply WkH.gone | refine WkH.eq rfl ?_)) (by cbv; repeat (first | apply WkL.any | exact WkL.nil _ | refine WkL.eq rfl ?_ | refine WkL.bool rfl ?_)) (by cbv; exact ⟨rfl⟩) ?_ ?_
  · exact ⟨0, rfl, Nat.zero_le _, Nat.zero_le _, rfl⟩
  rintro ⟨o, i⟩ hI Bk hBkO
  repeat (first
    | refine OK.drawn (by decide +kernel) ?_
    | refine OK.tree ⟨lookT tis, fun _ => true, []⟩ (by decide +kernel) ?_
    | refine OK.need (by first | assumption | (rw [hA]; first | (show (_ : Int) ≠ _; decide) | (show (0 : Int) ≤ _; decide) | (show (0 : Int) ≤ _ ∧ _ < (256 : Int); decide))) ?_
    | (refine F.hold hA 2000 ?_; cbv))
  refine OK.branch (fun b1 => ?_) (fun b1 => ?_)
  · have hat := unAt hA hp hI b1
    have q := hat.q
    have hip := hat.ip
    repeat (first
      | refine OK.drawn (by decide +kernel) ?_
      | refine OK.tree ⟨lookT tis, fun _ => true, []⟩ (by decide +kernel) ?_
      | refine OK.need (by first | assumption | (rw [hA]; first | (show (_ : Int) ≠ _; decide) | (show (0 : Int) ≤ _; decide) | (show (0 : Int) ≤ _ ∧ _ < (256 : Int); decide))) ?_
      | (refine F.hold hA 2000 ?_; cbv))
    refine OK.branch (fun c1 => ?_) (fun c1 => ?_)
    · repeat (first
        | refine OK.drawn (by decide +kernel) ?_
        | refine OK.tree ⟨lookT tis, fun _ => true, []⟩ (by decide +kernel) ?_
        | refine OK.need (by first | assumption | (rw [hA]; first | (show (_ : Int) ≠ _; decide) | (show (0 : Int) ≤ _; decide) | (show (0 : Int) ≤ _ ∧ _ < (256 : Int); decide))) ?_
        | (refine F.hold hA 2000 ?_; cbv))
      refine OK.branch (fun c2 => ?_) (fun c2 => ?_)
      · repeat (first
          | refine OK.drawn (by decide +kernel) ?_
          | refine OK.tree ⟨lookT tis, fun _ => true, []⟩ (by decide +kernel) ?_
          | refine OK.need (by first | assumption | (rw [hA]; first | (show (_ : Int) ≠ _; decide) | (show (0 : Int) ≤ _; decide) | (show (0 : Int) ≤ _ ∧ _ < (256 : Int); decide))) ?_
          | (refine F.hold hA 2000 ?_; cbv))
        refine OK.branch (fun c3 => ?_) (fun c3 => ?_)
        · have hB := udB hA hat (by have := it_one (x := (A.get ⟨0, 0⟩ items i).b) (l := o) hA (geqT hA c1) (leqT hA c2); rw [show A.cmp .eql (A.get ⟨0, 0⟩ items i).b 0 = true from c3] at this; exact this)
          repeat (first
            | refine OK.drawn (by decide +kernel) ?_
            | refine OK.tree ⟨lookT tis, fun _ => true, []⟩ (by decide +kernel) ?_
            | refine OK.need (by first | assumption | (rw [hA]; first | (show (_ : Int) ≠ _; decide) | (show (0 : Int) ≤ _; decide) | (show (0 : Int) ≤ _ ∧ _ < (256 : Int); decide))) ?_
            | (refine F.hold hA 2000 ?_; cbv))
          refine F.loop (V := List Int × Int) [0, 4, 5, 7, 8] (hB.I) (fun w => (1000 - w.2).toNat) (fun w => [(9, .int .i64 w.2)]) (fun w => [(0, .row 3 (.ints .i64 w.1))]) (_, _) (by cbv; repeat (first | exact WkH.nil _ | apply WkH.gone | refine WkH.eq rfl ?_)) (by cbv; repeat (first | apply WkL.any | exact WkL.nil _ | refine WkL.eq rfl ?_ | refine WkL.bool rfl ?_)) (by cbv; exact ⟨rfl⟩) ?_ ?_
          · exact ⟨0, rfl, hB.n0, (List.append_nil _).symm⟩
          rintro ⟨row, k⟩ hI2 Bk2 hBk2
          repeat (first
            | refine OK.drawn (by decide +kernel) ?_
            | refine OK.tree ⟨lookT tis, fun _ => true, []⟩ (by decide +kernel) ?_
            | refine OK.need (by first | assumption | (rw [hA]; first | (show (_ : Int) ≠ _; decide) | (show (0 : Int) ≤ _; decide) | (show (0 : Int) ≤ _ ∧ _ < (256 : Int); decide))) ?_
            | (refine F.hold hA 2000 ?_; cbv))
          refine OK.branch (fun d1 => ?_) (fun d1 => ?_)
          · have ha := apAt hA hB hI2 d1
            have q5 := ha.sm
            have hBk := hBk2
            repeat (first
              | refine OK.drawn (by decide +kernel) ?_
              | refine OK.tree ⟨lookT tis, fun _ => true, []⟩ (by decide +kernel) ?_
              | refine OK.need (by first | assumption | (rw [hA]; first | (show (_ : Int) ≠ _; decide) | (show (0 : Int) ≤ _; decide) | (show (0 : Int) ≤ _ ∧ _ < (256 : Int); decide))) ?_
              | (refine F.hold hA 2000 ?_; cbv))
            refine OK.back (hBk _ _ (_, _) (by cbv; repeat (first | exact WkH.nil _ | apply WkH.gone | refine WkH.eq rfl ?_)) (by cbv; repeat (first | apply WkL.any | exact WkL.nil _ | refine WkL.eq rfl ?_ | refine WkL.bool rfl ?_)) (by cbv; exact ⟨rfl⟩) ?_ ?_)
            · exact ha.nx
            · exact ha.mu
          · have he := apEnd hA hB hI2 d1
            repeat (first
              | refine OK.drawn (by decide +kernel) ?_
              | refine OK.tree ⟨lookT tis, fun _ => true, []⟩ (by decide +kernel) ?_
              | refine OK.need (by first | assumption | (rw [hA]; first | (show (_ : Int) ≠ _; decide) | (show (0 : Int) ≤ _; decide) | (show (0 : Int) ≤ _ ∧ _ < (256 : Int); decide))) ?_
              | (refine F.hold hA 2000 ?_; cbv))
            refine OK.branch (fun d2 => ?_) (fun d2 => ?_)
            · have hno := he.yes d2
              repeat (first
                | refine OK.drawn (by decide +kernel) ?_
                | refine OK.tree ⟨lookT tis, fun _ => true, []⟩ (by decide +kernel) ?_
                | refine OK.need (by first | assumption | (rw [hA]; first | (show (_ : Int) ≠ _; decide) | (show (0 : Int) ≤ _; decide) | (show (0 : Int) ≤ _ ∧ _ < (256 : Int); decide))) ?_
                | (refine F.hold hA 2000 ?_; cbv))
              exact F.ret (rs' := [.ro (.ints .i64 []), .bool (.e false)]) (H' := []) (Cv.trans (Cv.slot 0 rfl fun M v h => nil_den h) (F.cv ⟨rfl⟩ (.eq rfl (.bool rfl (.nil _))) (.nil _))) rfl (un_no hno.e)
            · have hn1 := he.no d2
              have hn2 := he.mu d2
              have hBk := hBkO
              repeat (first
                | refine OK.drawn (by decide +kernel) ?_
                | refine OK.tree ⟨lookT tis, fun _ => true, []⟩ (by decide +kernel) ?_
                | refine OK.need (by first | assumption | (rw [hA]; first | (show (_ : Int) ≠ _; decide) | (show (0 : Int) ≤ _; decide) | (show (0 : Int) ≤ _ ∧ _ < (256 : Int); decide))) ?_
                | (refine F.hold hA 2000 ?_; cbv))
              refine OK.back (hBk _ _ (_, _) (by cbv; repeat (first | exact WkH.nil _ | apply WkH.gone | refine WkH.eq rfl ?_)) (by cbv; repeat (first | apply WkL.any | exact WkL.nil _ | refine WkL.eq rfl ?_ | refine WkL.bool rfl ?_)) (by cbv; exact ⟨rfl⟩) ?_ ?_)
              · exact hn1
              · exact hn2
        · have n15 : ¬ (0 ≤ (A.get ⟨0, 0⟩ items i).a ∧ (A.get ⟨0, 0⟩ items i).a ≤ 15 ∧ (A.get ⟨0, 0⟩ items i).b = 0) := fun h => absurd h.2.2 (eqF hA c3)
          have n16 := ne_le (k := 16) (leqT hA c2) (by decide)
          have n17 := ne_le (k := 17) (leqT hA c2) (by decide)
          have n18 := ne_le (k := 18) (leqT hA c2) (by decide)
          have hno := udNo hat (ud_none n15 (fun h => n16 h.1) (fun h => n17 h.1) (fun h => n18 h.1))
          repeat (first
            | refine OK.drawn (by decide +kernel) ?_
            | refine OK.tree ⟨lookT tis, fun _ => true, []⟩ (by decide +kernel) ?_
            | refine OK.need (by first | assumption | (rw [hA]; first | (show (_ : Int) ≠ _; decide) | (show (0 : Int) ≤ _; decide) | (show (0 : Int) ≤ _ ∧ _ < (256 : Int); decide))) ?_
            | (refine F.hold hA 2000 ?_; cbv))
          refine OK.branch (fun h => absurd (eqT hA h) n16) (fun h => ?_)
          repeat (first
            | refine OK.drawn (by decide +kernel) ?_
            | refine OK.tree ⟨lookT tis, fun _ => true, []⟩ (by decide +kernel) ?_
            | refine OK.need (by first | assumption | (rw [hA]; first | (show (_ : Int) ≠ _; decide) | (show (0 : Int) ≤ _; decide) | (show (0 : Int) ≤ _ ∧ _ < (256 : Int); decide))) ?_
            | (refine F.hold hA 2000 ?_; cbv))
          refine OK.branch (fun h => absurd (eqT hA h) n17) (fun h => ?_)
          repeat (first
            | refine OK.drawn (by decide +kernel) ?_
            | refine OK.tree ⟨lookT tis, fun _ => true, []⟩ (by decide +kernel) ?_
            | refine OK.need (by first | assumption | (rw [hA]; first | (show (_ : Int) ≠ _; decide) | (show (0 : Int) ≤ _; decide) | (show (0 : Int) ≤ _ ∧ _ < (256 : Int); decide))) ?_
            | (refine F.hold hA 2000 ?_; cbv))
          refine OK.branch (fun h => absurd (eqT hA h) n18) (fun h => ?_)
          repeat (first
            | refine OK.drawn (by decide +kernel) ?_
            | refine OK.tree ⟨lookT tis, fun _ => true, []⟩ (by decide +kernel) ?_
            | refine OK.need (by first | assumption | (rw [hA]; first | (show (_ : Int) ≠ _; decide) | (show (0 : Int) ≤ _; decide) | (show (0 : Int) ≤ _ ∧ _ < (256 : Int); decide))) ?_
            | (refine F.hold hA 2000 ?_; cbv))
          exact F.ret (rs' := [.ro (.ints .i64 []), .bool (.e false)]) (H' := []) (Cv.trans (Cv.slot 0 rfl fun M v h => nil_den h) (F.cv ⟨rfl⟩ (.eq rfl (.bool rfl (.nil _))) (.nil _))) rfl (un_no hno.e)
      · have n15 : ¬ (0 ≤ (A.get ⟨0, 0⟩ items i).a ∧ (A.get ⟨0, 0⟩ items i).a ≤ 15 ∧ (A.get ⟨0, 0⟩ items i).b = 0) := fun h => absurd h.2.1 (leqF hA c2)
        repeat (first
          | refine OK.drawn (by decide +kernel) ?_
          | refine OK.tree ⟨lookT tis, fun _ => true, []⟩ (by decide +kernel) ?_
          | refine OK.need (by first | assumption | (rw [hA]; first | (show (_ : Int) ≠ _; decide) | (show (0 : Int) ≤ _; decide) | (show (0 : Int) ≤ _ ∧ _ < (256 : Int); decide))) ?_
          | (refine F.hold hA 2000 ?_; cbv))
        refine OK.branch (fun c => ?_) (fun c => ?_)
        · have hs := eqT hA c
          have n17 := eq_ne hs (by decide : (16 : Int) ≠ 17)
          have n18 := eq_ne hs (by decide : (16 : Int) ≠ 18)
          repeat (first
            | refine OK.drawn (by decide +kernel) ?_
            | refine OK.tree ⟨lookT tis, fun _ => true, []⟩ (by decide +kernel) ?_
            | refine OK.need (by first | assumption | (rw [hA]; first | (show (_ : Int) ≠ _; decide) | (show (0 : Int) ≤ _; decide) | (show (0 : Int) ≤ _ ∧ _ < (256 : Int); decide))) ?_
            | (refine F.hold hA 2000 ?_; cbv))
          refine OK.branch (fun d => ?_) (fun d => ?_)
          · repeat (first
              | refine OK.drawn (by decide +kernel) ?_
              | refine OK.tree ⟨lookT tis, fun _ => true, []⟩ (by decide +kernel) ?_
              | refine OK.need (by first | assumption | (rw [hA]; first | (show (_ : Int) ≠ _; decide) | (show (0 : Int) ≤ _; decide) | (show (0 : Int) ≤ _ ∧ _ < (256 : Int); decide))) ?_
              | (refine F.hold hA 2000 ?_; cbv))
            refine OK.branch (fun e => ?_) (fun e => ?_)
            · repeat (first
                | refine OK.drawn (by decide +kernel) ?_
                | refine OK.tree ⟨lookT tis, fun _ => true, []⟩ (by decide +kernel) ?_
                | refine OK.need (by first | assumption | (rw [hA]; first | (show (_ : Int) ≠ _; decide) | (show (0 : Int) ≤ _; decide) | (show (0 : Int) ≤ _ ∧ _ < (256 : Int); decide))) ?_
                | (refine F.hold hA 2000 ?_; cbv))
              refine OK.branch (fun f => ?_) (fun f => ?_)
              · have q3 := len0I hA hip f
                have hB := udB hA hat (it_16 hA hip hs (len0T hA f) ⟨geqT hA d, leqT hA e⟩)
                repeat (first
                  | refine OK.drawn (by decide +kernel) ?_
                  | refine OK.tree ⟨lookT tis, fun _ => true, []⟩ (by decide +kernel) ?_
                  | refine OK.need (by first | assumption | (rw [hA]; first | (show (_ : Int) ≠ _; decide) | (show (0 : Int) ≤ _; decide) | (show (0 : Int) ≤ _ ∧ _ < (256 : Int); decide))) ?_
                  | (refine F.hold hA 2000 ?_; cbv))
                refine F.loop (V := List Int × Int) [0, 4, 5, 7, 8] (hB.I) (fun w => (1000 - w.2).toNat) (fun w => [(9, .int .i64 w.2)]) (fun w => [(0, .row 3 (.ints .i64 w.1))]) (_, _) (by cbv; repeat (first | exact WkH.nil _ | apply WkH.gone | refine WkH.eq rfl ?_)) (by cbv; repeat (first | apply WkL.any | exact WkL.nil _ | refine WkL.eq rfl ?_ | refine WkL.bool rfl ?_)) (by cbv; exact ⟨rfl⟩) ?_ ?_
                · exact ⟨0, rfl, hB.n0, (List.append_nil _).symm⟩
                rintro ⟨row, k⟩ hI2 Bk2 hBk2
                repeat (first
                  | refine OK.drawn (by decide +kernel) ?_
                  | refine OK.tree ⟨lookT tis, fun _ => true, []⟩ (by decide +kernel) ?_
                  | refine OK.need (by first | assumption | (rw [hA]; first | (show (_ : Int) ≠ _; decide) | (show (0 : Int) ≤ _; decide) | (show (0 : Int) ≤ _ ∧ _ < (256 : Int); decide))) ?_
                  | (refine F.hold hA 2000 ?_; cbv))
                refine OK.branch (fun d1 => ?_) (fun d1 => ?_)
                · have ha := apAt hA hB hI2 d1
                  have q5 := ha.sm
                  have hBk := hBk2
                  repeat (first
                    | refine OK.drawn (by decide +kernel) ?_
                    | refine OK.tree ⟨lookT tis, fun _ => true, []⟩ (by decide +kernel) ?_
                    | refine OK.need (by first | assumption | (rw [hA]; first | (show (_ : Int) ≠ _; decide) | (show (0 : Int) ≤ _; decide) | (show (0 : Int) ≤ _ ∧ _ < (256 : Int); decide))) ?_
                    | (refine F.hold hA 2000 ?_; cbv))
                  refine OK.back (hBk _ _ (_, _) (by cbv; repeat (first | exact WkH.nil _ | apply WkH.gone | refine WkH.eq rfl ?_)) (by cbv; repeat (first | apply WkL.any | exact WkL.nil _ | refine WkL.eq rfl ?_ | refine WkL.bool rfl ?_)) (by cbv; exact ⟨rfl⟩) ?_ ?_)
                  · exact ha.nx
                  · exact ha.mu
                · have he := apEnd hA hB hI2 d1
                  repeat (first
                    | refine OK.drawn (by decide +kernel) ?_
                    | refine OK.tree ⟨lookT tis, fun _ => true, []⟩ (by decide +kernel) ?_
                    | refine OK.need (by first | assumption | (rw [hA]; first | (show (_ : Int) ≠ _; decide) | (show (0 : Int) ≤ _; decide) | (show (0 : Int) ≤ _ ∧ _ < (256 : Int); decide))) ?_
                    | (refine F.hold hA 2000 ?_; cbv))
                  refine OK.branch (fun d2 => ?_) (fun d2 => ?_)
                  · have hno := he.yes d2
                    repeat (first
                      | refine OK.drawn (by decide +kernel) ?_
                      | refine OK.tree ⟨lookT tis, fun _ => true, []⟩ (by decide +kernel) ?_
                      | refine OK.need (by first | assumption | (rw [hA]; first | (show (_ : Int) ≠ _; decide) | (show (0 : Int) ≤ _; decide) | (show (0 : Int) ≤ _ ∧ _ < (256 : Int); decide))) ?_
                      | (refine F.hold hA 2000 ?_; cbv))
                    exact F.ret (rs' := [.ro (.ints .i64 []), .bool (.e false)]) (H' := []) (Cv.trans (Cv.slot 0 rfl fun M v h => nil_den h) (F.cv ⟨rfl⟩ (.eq rfl (.bool rfl (.nil _))) (.nil _))) rfl (un_no hno.e)
                  · have hn1 := he.no d2
                    have hn2 := he.mu d2
                    have hBk := hBkO
                    repeat (first
                      | refine OK.drawn (by decide +kernel) ?_
                      | refine OK.tree ⟨lookT tis, fun _ => true, []⟩ (by decide +kernel) ?_
                      | refine OK.need (by first | assumption | (rw [hA]; first | (show (_ : Int) ≠ _; decide) | (show (0 : Int) ≤ _; decide) | (show (0 : Int) ≤ _ ∧ _ < (256 : Int); decide))) ?_
                      | (refine F.hold hA 2000 ?_; cbv))
                    refine OK.back (hBk _ _ (_, _) (by cbv; repeat (first | exact WkH.nil _ | apply WkH.gone | refine WkH.eq rfl ?_)) (by cbv; repeat (first | apply WkL.any | exact WkL.nil _ | refine WkL.eq rfl ?_ | refine WkL.bool rfl ?_)) (by cbv; exact ⟨rfl⟩) ?_ ?_)
                    · exact hn1
                    · exact hn2
              · have hno := udNo hat (ud_none n15 (fun h => h.2.2.2 (len0F hA f)) (fun h => n17 h.1) (fun h => n18 h.1))
                repeat (first
                  | refine OK.drawn (by decide +kernel) ?_
                  | refine OK.tree ⟨lookT tis, fun _ => true, []⟩ (by decide +kernel) ?_
                  | refine OK.need (by first | assumption | (rw [hA]; first | (show (_ : Int) ≠ _; decide) | (show (0 : Int) ≤ _; decide) | (show (0 : Int) ≤ _ ∧ _ < (256 : Int); decide))) ?_
                  | (refine F.hold hA 2000 ?_; cbv))
                refine OK.branch (fun h => absurd (eqT hA h) n17) (fun h => ?_)
                repeat (first
                  | refine OK.drawn (by decide +kernel) ?_
                  | refine OK.tree ⟨lookT tis, fun _ => true, []⟩ (by decide +kernel) ?_
                  | refine OK.need (by first | assumption | (rw [hA]; first | (show (_ : Int) ≠ _; decide) | (show (0 : Int) ≤ _; decide) | (show (0 : Int) ≤ _ ∧ _ < (256 : Int); decide))) ?_
                  | (refine F.hold hA 2000 ?_; cbv))
                refine OK.branch (fun h => absurd (eqT hA h) n18) (fun h => ?_)
                repeat (first
                  | refine OK.drawn (by decide +kernel) ?_
                  | refine OK.tree ⟨lookT tis, fun _ => true, []⟩ (by decide +kernel) ?_
                  | refine OK.need (by first | assumption | (rw [hA]; first | (show (_ : Int) ≠ _; decide) | (show (0 : Int) ≤ _; decide) | (show (0 : Int) ≤ _ ∧ _ < (256 : Int); decide))) ?_
                  | (refine F.hold hA 2000 ?_; cbv))
                exact F.ret (rs' := [.ro (.ints .i64 []), .bool (.e false)]) (H' := []) (Cv.trans (Cv.slot 0 rfl fun M v h => nil_den h) (F.cv ⟨rfl⟩ (.eq rfl (.bool rfl (.nil _))) (.nil _))) rfl (un_no hno.e)
            · have hno := udNo hat (ud_none n15 (fun h => leqF hA e h.2.2.1) (fun h => n17 h.1) (fun h => n18 h.1))
              repeat (first
                | refine OK.drawn (by decide +kernel) ?_
                | refine OK.tree ⟨lookT tis, fun _ => true, []⟩ (by decide +kernel) ?_
                | refine OK.need (by first | assumption | (rw [hA]; first | (show (_ : Int) ≠ _; decide) | (show (0 : Int) ≤ _; decide) | (show (0 : Int) ≤ _ ∧ _ < (256 : Int); decide))) ?_
                | (refine F.hold hA 2000 ?_; cbv))
              refine OK.branch (fun h => absurd (eqT hA h) n17) (fun h => ?_)
              repeat (first
                | refine OK.drawn (by decide +kernel) ?_
                | refine OK.tree ⟨lookT tis, fun _ => true, []⟩ (by decide +kernel) ?_
                | refine OK.need (by first | assumption | (rw [hA]; first | (show (_ : Int) ≠ _; decide) | (show (0 : Int) ≤ _; decide) | (show (0 : Int) ≤ _ ∧ _ < (256 : Int); decide))) ?_
                | (refine F.hold hA 2000 ?_; cbv))
              refine OK.branch (fun h => absurd (eqT hA h) n18) (fun h => ?_)
              repeat (first
                | refine OK.drawn (by decide +kernel) ?_
                | refine OK.tree ⟨lookT tis, fun _ => true, []⟩ (by decide +kernel) ?_
                | refine OK.need (by first | assumption | (rw [hA]; first | (show (_ : Int) ≠ _; decide) | (show (0 : Int) ≤ _; decide) | (show (0 : Int) ≤ _ ∧ _ < (256 : Int); decide))) ?_
                | (refine F.hold hA 2000 ?_; cbv))
              exact F.ret (rs' := [.ro (.ints .i64 []), .bool (.e false)]) (H' := []) (Cv.trans (Cv.slot 0 rfl fun M v h => nil_den h) (F.cv ⟨rfl⟩ (.eq rfl (.bool rfl (.nil _))) (.nil _))) rfl (un_no hno.e)
          · have hno := udNo hat (ud_none n15 (fun h => geqF hA d h.2.1) (fun h => n17 h.1) (fun h => n18 h.1))
            repeat (first
              | refine OK.drawn (by decide +kernel) ?_
              | refine OK.tree ⟨lookT tis, fun _ => true, []⟩ (by decide +kernel) ?_
              | refine OK.need (by first | assumption | (rw [hA]; first | (show (_ : Int) ≠ _; decide) | (show (0 : Int) ≤ _; decide) | (show (0 : Int) ≤ _ ∧ _ < (256 : Int); decide))) ?_
              | (refine F.hold hA 2000 ?_; cbv))
            refine OK.branch (fun h => absurd (eqT hA h) n17) (fun h => ?_)
            repeat (first
              | refine OK.drawn (by decide +kernel) ?_
              | refine OK.tree ⟨lookT tis, fun _ => true, []⟩ (by decide +kernel) ?_
              | refine OK.need (by first | assumption | (rw [hA]; first | (show (_ : Int) ≠ _; decide) | (show (0 : Int) ≤ _; decide) | (show (0 : Int) ≤ _ ∧ _ < (256 : Int); decide))) ?_
              | (refine F.hold hA 2000 ?_; cbv))
            refine OK.branch (fun h => absurd (eqT hA h) n18) (fun h => ?_)
            repeat (first
              | refine OK.drawn (by decide +kernel) ?_
              | refine OK.tree ⟨lookT tis, fun _ => true, []⟩ (by decide +kernel) ?_
              | refine OK.need (by first | assumption | (rw [hA]; first | (show (_ : Int) ≠ _; decide) | (show (0 : Int) ≤ _; decide) | (show (0 : Int) ≤ _ ∧ _ < (256 : Int); decide))) ?_
              | (refine F.hold hA 2000 ?_; cbv))
            exact F.ret (rs' := [.ro (.ints .i64 []), .bool (.e false)]) (H' := []) (Cv.trans (Cv.slot 0 rfl fun M v h => nil_den h) (F.cv ⟨rfl⟩ (.eq rfl (.bool rfl (.nil _))) (.nil _))) rfl (un_no hno.e)
        · have n16 := eqF hA c
          repeat (first
            | refine OK.drawn (by decide +kernel) ?_
            | refine OK.tree ⟨lookT tis, fun _ => true, []⟩ (by decide +kernel) ?_
            | refine OK.need (by first | assumption | (rw [hA]; first | (show (_ : Int) ≠ _; decide) | (show (0 : Int) ≤ _; decide) | (show (0 : Int) ≤ _ ∧ _ < (256 : Int); decide))) ?_
            | (refine F.hold hA 2000 ?_; cbv))
          refine OK.branch (fun c => ?_) (fun c => ?_)
          · have hs := eqT hA c
            have n18 := eq_ne hs (by decide : (17 : Int) ≠ 18)
            repeat (first
              | refine OK.drawn (by decide +kernel) ?_
              | refine OK.tree ⟨lookT tis, fun _ => true, []⟩ (by decide +kernel) ?_
              | refine OK.need (by first | assumption | (rw [hA]; first | (show (_ : Int) ≠ _; decide) | (show (0 : Int) ≤ _; decide) | (show (0 : Int) ≤ _ ∧ _ < (256 : Int); decide))) ?_
              | (refine F.hold hA 2000 ?_; cbv))
            refine OK.branch (fun d => ?_) (fun d => ?_)
            · repeat (first
                | refine OK.drawn (by decide +kernel) ?_
                | refine OK.tree ⟨lookT tis, fun _ => true, []⟩ (by decide +kernel) ?_
                | refine OK.need (by first | assumption | (rw [hA]; first | (show (_ : Int) ≠ _; decide) | (show (0 : Int) ≤ _; decide) | (show (0 : Int) ≤ _ ∧ _ < (256 : Int); decide))) ?_
                | (refine F.hold hA 2000 ?_; cbv))
              refine OK.branch (fun e => ?_) (fun e => ?_)
              · have hB := udB hA hat (it_17 (b := true) hA hs ⟨fun _ => ⟨geqT hA d, leqT hA e⟩, fun _ => rfl⟩)
                repeat (first
                  | refine OK.drawn (by decide +kernel) ?_
                  | refine OK.tree ⟨lookT tis, fun _ => true, []⟩ (by decide +kernel) ?_
                  | refine OK.need (by first | assumption | (rw [hA]; first | (show (_ : Int) ≠ _; decide) | (show (0 : Int) ≤ _; decide) | (show (0 : Int) ≤ _ ∧ _ < (256 : Int); decide))) ?_
                  | (refine F.hold hA 2000 ?_; cbv))
                refine F.loop (V := List Int × Int) [0, 4, 5, 7, 8] (hB.I) (fun w => (1000 - w.2).toNat) (fun w => [(9, .int .i64 w.2)]) (fun w => [(0, .row 3 (.ints .i64 w.1))]) (_, _) (by cbv; repeat (first | exact WkH.nil _ | apply WkH.gone | refine WkH.eq rfl ?_)) (by cbv; repeat (first | apply WkL.any | exact WkL.nil _ | refine WkL.eq rfl ?_ | refine WkL.bool rfl ?_)) (by cbv; exact ⟨rfl⟩) ?_ ?_
                · exact ⟨0, rfl, hB.n0, (List.append_nil _).symm⟩
                rintro ⟨row, k⟩ hI2 Bk2 hBk2
                repeat (first
                  | refine OK.drawn (by decide +kernel) ?_
                  | refine OK.tree ⟨lookT tis, fun _ => true, []⟩ (by decide +kernel) ?_
                  | refine OK.need (by first | assumption | (rw [hA]; first | (show (_ : Int) ≠ _; decide) | (show (0 : Int) ≤ _; decide) | (show (0 : Int) ≤ _ ∧ _ < (256 : Int); decide))) ?_
                  | (refine F.hold hA 2000 ?_; cbv))
                refine OK.branch (fun d1 => ?_) (fun d1 => ?_)
                · have ha := apAt hA hB hI2 d1
                  have q5 := ha.sm
                  have hBk := hBk2
                  repeat (first
                    | refine OK.drawn (by decide +kernel) ?_
                    | refine OK.tree ⟨lookT tis, fun _ => true, []⟩ (by decide +kernel) ?_
                    | refine OK.need (by first | assumption | (rw [hA]; first | (show (_ : Int) ≠ _; decide) | (show (0 : Int) ≤ _; decide) | (show (0 : Int) ≤ _ ∧ _ < (256 : Int); decide))) ?_
                    | (refine F.hold hA 2000 ?_; cbv))
                  refine OK.back (hBk _ _ (_, _) (by cbv; repeat (first | exact WkH.nil _ | apply WkH.gone | refine WkH.eq rfl ?_)) (by cbv; repeat (first | apply WkL.any | exact WkL.nil _ | refine WkL.eq rfl ?_ | refine WkL.bool rfl ?_)) (by cbv; exact ⟨rfl⟩) ?_ ?_)
                  · exact ha.nx
                  · exact ha.mu
                · have he := apEnd hA hB hI2 d1
                  repeat (first
                    | refine OK.drawn (by decide +kernel) ?_
                    | refine OK.tree ⟨lookT tis, fun _ => true, []⟩ (by decide +kernel) ?_
                    | refine OK.need (by first | assumption | (rw [hA]; first | (show (_ : Int) ≠ _; decide) | (show (0 : Int) ≤ _; decide) | (show (0 : Int) ≤ _ ∧ _ < (256 : Int); decide))) ?_
                    | (refine F.hold hA 2000 ?_; cbv))
                  refine OK.branch (fun d2 => ?_) (fun d2 => ?_)
                  · have hno := he.yes d2
                    repeat (first
                      | refine OK.drawn (by decide +kernel) ?_
                      | refine OK.tree ⟨lookT tis, fun _ => true, []⟩ (by decide +kernel) ?_
                      | refine OK.need (by first | assumption | (rw [hA]; first | (show (_ : Int) ≠ _; decide) | (show (0 : Int) ≤ _; decide) | (show (0 : Int) ≤ _ ∧ _ < (256 : Int); decide))) ?_
                      | (refine F.hold hA 2000 ?_; cbv))
                    exact F.ret (rs' := [.ro (.ints .i64 []), .bool (.e false)]) (H' := []) (Cv.trans (Cv.slot 0 rfl fun M v h => nil_den h) (F.cv ⟨rfl⟩ (.eq rfl (.bool rfl (.nil _))) (.nil _))) rfl (un_no hno.e)
                  · have hn1 := he.no d2
                    have hn2 := he.mu d2
                    have hBk := hBkO
                    repeat (first
                      | refine OK.drawn (by decide +kernel) ?_
                      | refine OK.tree ⟨lookT tis, fun _ => true, []⟩ (by decide +kernel) ?_
                      | refine OK.need (by first | assumption | (rw [hA]; first | (show (_ : Int) ≠ _; decide) | (show (0 : Int) ≤ _; decide) | (show (0 : Int) ≤ _ ∧ _ < (256 : Int); decide))) ?_
                      | (refine F.hold hA 2000 ?_; cbv))
                    refine OK.back (hBk _ _ (_, _) (by cbv; repeat (first | exact WkH.nil _ | apply WkH.gone | refine WkH.eq rfl ?_)) (by cbv; repeat (first | apply WkL.any | exact WkL.nil _ | refine WkL.eq rfl ?_ | refine WkL.bool rfl ?_)) (by cbv; exact ⟨rfl⟩) ?_ ?_)
                    · exact hn1
                    · exact hn2
              · have hno := udNo hat (ud_none n15 (fun h => n16 h.1) (fun h => leqF hA e h.2.2) (fun h => n18 h.1))
                repeat (first
                  | refine OK.drawn (by decide +kernel) ?_
                  | refine OK.tree ⟨lookT tis, fun _ => true, []⟩ (by decide +kernel) ?_
                  | refine OK.need (by first | assumption | (rw [hA]; first | (show (_ : Int) ≠ _; decide) | (show (0 : Int) ≤ _; decide) | (show (0 : Int) ≤ _ ∧ _ < (256 : Int); decide))) ?_
                  | (refine F.hold hA 2000 ?_; cbv))
                refine OK.branch (fun h => absurd (eqT hA h) n18) (fun h => ?_)
                repeat (first
                  | refine OK.drawn (by decide +kernel) ?_
                  | refine OK.tree ⟨lookT tis, fun _ => true, []⟩ (by decide +kernel) ?_
                  | refine OK.need (by first | assumption | (rw [hA]; first | (show (_ : Int) ≠ _; decide) | (show (0 : Int) ≤ _; decide) | (show (0 : Int) ≤ _ ∧ _ < (256 : Int); decide))) ?_
                  | (refine F.hold hA 2000 ?_; cbv))
                exact F.ret (rs' := [.ro (.ints .i64 []), .bool (.e false)]) (H' := []) (Cv.trans (Cv.slot 0 rfl fun M v h => nil_den h) (F.cv ⟨rfl⟩ (.eq rfl (.bool rfl (.nil _))) (.nil _))) rfl (un_no hno.e)
            · have hno := udNo hat (ud_none n15 (fun h => n16 h.1) (fun h => geqF hA d h.2.1) (fun h => n18 h.1))
              repeat (first
                | refine OK.drawn (by decide +kernel) ?_
                | refine OK.tree ⟨lookT tis, fun _ => true, []⟩ (by decide +kernel) ?_
                | refine OK.need (by first | assumption | (rw [hA]; first | (show (_ : Int) ≠ _; decide) | (show (0 : Int) ≤ _; decide) | (show (0 : Int) ≤ _ ∧ _ < (256 : Int); decide))) ?_
                | (refine F.hold hA 2000 ?_; cbv))
              refine OK.branch (fun h => absurd (eqT hA h) n18) (fun h => ?_)
              repeat (first
                | refine OK.drawn (by decide +kernel) ?_
                | refine OK.tree ⟨lookT tis, fun _ => true, []⟩ (by decide +kernel) ?_
                | refine OK.need (by first | assumption | (rw [hA]; first | (show (_ : Int) ≠ _; decide) | (show (0 : Int) ≤ _; decide) | (show (0 : Int) ≤ _ ∧ _ < (256 : Int); decide))) ?_
                | (refine F.hold hA 2000 ?_; cbv))
              exact F.ret (rs' := [.ro (.ints .i64 []), .bool (.e false)]) (H' := []) (Cv.trans (Cv.slot 0 rfl fun M v h => nil_den h) (F.cv ⟨rfl⟩ (.eq rfl (.bool rfl (.nil _))) (.nil _))) rfl (un_no hno.e)
          · have n17 := eqF hA c
            repeat (first
              | refine OK.drawn (by decide +kernel) ?_
              | refine OK.tree ⟨lookT tis, fun _ => true, []⟩ (by decide +kernel) ?_
              | refine OK.need (by first | assumption | (rw [hA]; first | (show (_ : Int) ≠ _; decide) | (show (0 : Int) ≤ _; decide) | (show (0 : Int) ≤ _ ∧ _ < (256 : Int); decide))) ?_
              | (refine F.hold hA 2000 ?_; cbv))
            refine OK.branch (fun c => ?_) (fun c => ?_)
            · have hs := eqT hA c
              repeat (first
                | refine OK.drawn (by decide +kernel) ?_
                | refine OK.tree ⟨lookT tis, fun _ => true, []⟩ (by decide +kernel) ?_
                | refine OK.need (by first | assumption | (rw [hA]; first | (show (_ : Int) ≠ _; decide) | (show (0 : Int) ≤ _; decide) | (show (0 : Int) ≤ _ ∧ _ < (256 : Int); decide))) ?_
                | (refine F.hold hA 2000 ?_; cbv))
              refine OK.branch (fun d => ?_) (fun d => ?_)
              · repeat (first
                  | refine OK.drawn (by decide +kernel) ?_
                  | refine OK.tree ⟨lookT tis, fun _ => true, []⟩ (by decide +kernel) ?_
                  | refine OK.need (by first | assumption | (rw [hA]; first | (show (_ : Int) ≠ _; decide) | (show (0 : Int) ≤ _; decide) | (show (0 : Int) ≤ _ ∧ _ < (256 : Int); decide))) ?_
                  | (refine F.hold hA 2000 ?_; cbv))
                refine OK.branch (fun e => ?_) (fun e => ?_)
                · have hB := udB hA hat (it_18 (b := true) hA hs ⟨fun _ => ⟨geqT hA d, leqT hA e⟩, fun _ => rfl⟩)
                  repeat (first
                    | refine OK.drawn (by decide +kernel) ?_
                    | refine OK.tree ⟨lookT tis, fun _ => true, []⟩ (by decide +kernel) ?_
                    | refine OK.need (by first | assumption | (rw [hA]; first | (show (_ : Int) ≠ _; decide) | (show (0 : Int) ≤ _; decide) | (show (0 : Int) ≤ _ ∧ _ < (256 : Int); decide))) ?_
                    | (refine F.hold hA 2000 ?_; cbv))
                  refine F.loop (V := List Int × Int) [0, 4, 5, 7, 8] (hB.I) (fun w => (1000 - w.2).toNat) (fun w => [(9, .int .i64 w.2)]) (fun w => [(0, .row 3 (.ints .i64 w.1))]) (_, _) (by cbv; repeat (first | exact WkH.nil _ | apply WkH.gone | refine WkH.eq rfl ?_)) (by cbv; repeat (first | apply WkL.any | exact WkL.nil _ | refine WkL.eq rfl ?_ | refine WkL.bool rfl ?_)) (by cbv; exact ⟨rfl⟩) ?_ ?_
                  · exact ⟨0, rfl, hB.n0, (List.append_nil _).symm⟩
                  rintro ⟨row, k⟩ hI2 Bk2 hBk2
                  repeat (first
                    | refine OK.drawn (by decide +kernel) ?_
                    | refine OK.tree ⟨lookT tis, fun _ => true, []⟩ (by decide +kernel) ?_
                    | refine OK.need (by first | assumption | (rw [hA]; first | (show (_ : Int) ≠ _; decide) | (show (0 : Int) ≤ _; decide) | (show (0 : Int) ≤ _ ∧ _ < (256 : Int); decide))) ?_
                    | (refine F.hold hA 2000 ?_; cbv))
                  refine OK.branch (fun d1 => ?_) (fun d1 => ?_)
                  · have ha := apAt hA hB hI2 d1
                    have q5 := ha.sm
                    have hBk := hBk2
                    repeat (first
                      | refine OK.drawn (by decide +kernel) ?_
                      | refine OK.tree ⟨lookT tis, fun _ => true, []⟩ (by decide +kernel) ?_
                      | refine OK.need (by first | assumption | (rw [hA]; first | (show (_ : Int) ≠ _; decide) | (show (0 : Int) ≤ _; decide) | (show (0 : Int) ≤ _ ∧ _ < (256 : Int); decide))) ?_
                      | (refine F.hold hA 2000 ?_; cbv))
                    refine OK.back (hBk _ _ (_, _) (by cbv; repeat (first | exact WkH.nil _ | apply WkH.gone | refine WkH.eq rfl ?_)) (by cbv; repeat (first | apply WkL.any | exact WkL.nil _ | refine WkL.eq rfl ?_ | refine WkL.bool rfl ?_)) (by cbv; exact ⟨rfl⟩) ?_ ?_)
                    · exact ha.nx
                    · exact ha.mu
                  · have he := apEnd hA hB hI2 d1
                    repeat (first
                      | refine OK.drawn (by decide +kernel) ?_
                      | refine OK.tree ⟨lookT tis, fun _ => true, []⟩ (by decide +kernel) ?_
                      | refine OK.need (by first | assumption | (rw [hA]; first | (show (_ : Int) ≠ _; decide) | (show (0 : Int) ≤ _; decide) | (show (0 : Int) ≤ _ ∧ _ < (256 : Int); decide))) ?_
                      | (refine F.hold hA 2000 ?_; cbv))
                    refine OK.branch (fun d2 => ?_) (fun d2 => ?_)
                    · have hno := he.yes d2
                      repeat (first
                        | refine OK.drawn (by decide +kernel) ?_
                        | refine OK.tree ⟨lookT tis, fun _ => true, []⟩ (by decide +kernel) ?_
                        | refine OK.need (by first | assumption | (rw [hA]; first | (show (_ : Int) ≠ _; decide) | (show (0 : Int) ≤ _; decide) | (show (0 : Int) ≤ _ ∧ _ < (256 : Int); decide))) ?_
                        | (refine F.hold hA 2000 ?_; cbv))
                      exact F.ret (rs' := [.ro (.ints .i64 []), .bool (.e false)]) (H' := []) (Cv.trans (Cv.slot 0 rfl fun M v h => nil_den h) (F.cv ⟨rfl⟩ (.eq rfl (.bool rfl (.nil _))) (.nil _))) rfl (un_no hno.e)
                    · have hn1 := he.no d2
                      have hn2 := he.mu d2
                      have hBk := hBkO
                      repeat (first
                        | refine OK.drawn (by decide +kernel) ?_
                        | refine OK.tree ⟨lookT tis, fun _ => true, []⟩ (by decide +kernel) ?_
                        | refine OK.need (by first | assumption | (rw [hA]; first | (show (_ : Int) ≠ _; decide) | (show (0 : Int) ≤ _; decide) | (show (0 : Int) ≤ _ ∧ _ < (256 : Int); decide))) ?_
                        | (refine F.hold hA 2000 ?_; cbv))
                      refine OK.back (hBk _ _ (_, _) (by cbv; repeat (first | exact WkH.nil _ | apply WkH.gone | refine WkH.eq rfl ?_)) (by cbv; repeat (first | apply WkL.any | exact WkL.nil _ | refine WkL.eq rfl ?_ | refine WkL.bool rfl ?_)) (by cbv; exact ⟨rfl⟩) ?_ ?_)
                      · exact hn1
                      · exact hn2
                · have hno := udNo hat (ud_none n15 (fun h => n16 h.1) (fun h => n17 h.1) (fun h => leqF hA e h.2.2))
                  repeat (first
                    | refine OK.drawn (by decide +kernel) ?_
                    | refine OK.tree ⟨lookT tis, fun _ => true, []⟩ (by decide +kernel) ?_
                    | refine OK.need (by first | assumption | (rw [hA]; first | (show (_ : Int) ≠ _; decide) | (show (0 : Int) ≤ _; decide) | (show (0 : Int) ≤ _ ∧ _ < (256 : Int); decide))) ?_
                    | (refine F.hold hA 2000 ?_; cbv))
                  exact F.ret (rs' := [.ro (.ints .i64 []), .bool (.e false)]) (H' := []) (Cv.trans (Cv.slot 0 rfl fun M v h => nil_den h) (F.cv ⟨rfl⟩ (.eq rfl (.bool rfl (.nil _))) (.nil _))) rfl (un_no hno.e)
              · have hno := udNo hat (ud_none n15 (fun h => n16 h.1) (fun h => n17 h.1) (fun h => geqF hA d h.2.1))
                repeat (first
                  | refine OK.drawn (by decide +kernel) ?_
                  | refine OK.tree ⟨lookT tis, fun _ => true, []⟩ (by decide +kernel) ?_
                  | refine OK.need (by first | assumption | (rw [hA]; first | (show (_ : Int) ≠ _; decide) | (show (0 : Int) ≤ _; decide) | (show (0 : Int) ≤ _ ∧ _ < (256 : Int); decide))) ?_
                  | (refine F.hold hA 2000 ?_; cbv))
                exact F.ret (rs' := [.ro (.ints .i64 []), .bool (.e false)]) (H' := []) (Cv.trans (Cv.slot 0 rfl fun M v h => nil_den h) (F.cv ⟨rfl⟩ (.eq rfl (.bool rfl (.nil _))) (.nil _))) rfl (un_no hno.e)
            · have hs := eqF hA c
              have hno := udNo hat (ud_none n15 (fun h => n16 h.1) (fun h => n17 h.1) (fun h => hs h.1))
              repeat (first
                | refine OK.drawn (by decide +kernel) ?_
                | refine OK.tree ⟨lookT tis, fun _ => true, []⟩ (by decide +kernel) ?_
                | refine OK.need (by first | assumption | (rw [hA]; first | (show (_ : Int) ≠ _; decide) | (show (0 : Int) ≤ _; decide) | (show (0 : Int) ≤ _ ∧ _ < (256 : Int); decide))) ?_
                | (refine F.hold hA 2000 ?_; cbv))
              exact F.ret (rs' := [.ro (.ints .i64 []), .bool (.e false)]) (H' := []) (Cv.trans (Cv.slot 0 rfl fun M v h => nil_den h) (F.cv ⟨rfl⟩ (.eq rfl (.bool rfl (.nil _))) (.nil _))) rfl (un_no hno.e)
    · have n15 : ¬ (0 ≤ (A.get ⟨0, 0⟩ items i).a ∧ (A.get ⟨0, 0⟩ items i).a ≤ 15 ∧ (A.get ⟨0, 0⟩ items i).b = 0) := fun h => absurd h.1 (geqF hA c1)
      have n16 := ne_neg (k := 16) (geqF hA c1) (by decide)
      have n17 := ne_neg (k := 17) (geqF hA c1) (by decide)
      have n18 := ne_neg (k := 18) (geqF hA c1) (by decide)
      have hno := udNo hat (ud_none n15 (fun h => n16 h.1) (fun h => n17 h.1) (fun h => n18 h.1))
      repeat (first
        | refine OK.drawn (by decide +kernel) ?_
        | refine OK.tree ⟨lookT tis, fun _ => true, []⟩ (by decide +kernel) ?_
        | refine OK.need (by first | assumption | (rw [hA]; first | (show (_ : Int) ≠ _; decide) | (show (0 : Int) ≤ _; decide) | (show (0 : Int) ≤ _ ∧ _ < (256 : Int); decide))) ?_
        | (refine F.hold hA 2000 ?_; cbv))
      refine OK.branch (fun h => absurd (eqT hA h) n16) (fun h => ?_)
      repeat (first
        | refine OK.drawn (by decide +kernel) ?_
        | refine OK.tree ⟨lookT tis, fun _ => true, []⟩ (by decide +kernel) ?_
        | refine OK.need (by first | assumption | (rw [hA]; first | (show (_ : Int) ≠ _; decide) | (show (0 : Int) ≤ _; decide) | (show (0 : Int) ≤ _ ∧ _ < (256 : Int); decide))) ?_
        | (refine F.hold hA 2000 ?_; cbv))
      refine OK.branch (fun h => absurd (eqT hA h) n17) (fun h => ?_)
      repeat (first
        | refine OK.drawn (by decide +kernel) ?_
        | refine OK.tree ⟨lookT tis, fun _ => true, []⟩ (by decide +kernel) ?_
        | refine OK.need (by first | assumption | (rw [hA]; first | (show (_ : Int) ≠ _; decide) | (show (0 : Int) ≤ _; decide) | (show (0 : Int) ≤ _ ∧ _ < (256 : Int); decide))) ?_
        | (refine F.hold hA 2000 ?_; cbv))
      refine OK.branch (fun h => absurd (eqT hA h) n18) (fun h => ?_)
      repeat (first
        | refine OK.drawn (by decide +kernel) ?_
        | refine OK.tree ⟨lookT tis, fun _ => true, []⟩ (by decide +kernel) ?_
        | refine OK.need (by first | assumption | (rw [hA]; first | (show (_ : Int) ≠ _; decide) | (show (0 : Int) ≤ _; decide) | (show (0 : Int) ≤ _ ∧ _ < (256 : Int); decide))) ?_
        | (refine F.hold hA 2000 ?_; cbv))
      exact F.ret (rs' := [.ro (.ints .i64 []), .bool (.e false)]) (H' := []) (Cv.trans (Cv.slot 0 rfl fun M v h => nil_den h) (F.cv ⟨rfl⟩ (.eq rfl (.bool rfl (.nil _))) (.nil _))) rfl (un_no hno.e)
  · have hf := hI.fin hA b1
    repeat (first
      | refine OK.drawn (by decide +kernel) ?_
      | refine OK.tree ⟨lookT tis, fun _ => true, []⟩ (by decide +kernel) ?_
      | refine OK.need (by first | assumption | (rw [hA]; first | (show (_ : Int) ≠ _; decide) | (show (0 : Int) ≤ _; decide) | (show (0 : Int) ≤ _ ∧ _ < (256 : Int); decide))) ?_
      | (refine F.hold hA 2000 ?_; cbv))
    exact F.ret (rs' := [.ro (.ints .i64 o), .bool (.e true)]) (H' := []) ((Cv.freeze F.cod 0 rfl).trans (F.cv ⟨rfl⟩ (.eq rfl (.bool rfl (.nil _))) (.nil _))) rfl (un_yes hf.1 hf.2)
end Go.L1

-- S35
namespace Go.L1
open Go Go.Sx Go.Proofs Go.L5 Go.Huff
set_option maxRecDepth 20000
set_option linter.unusedVariables false
set_option linter.unusedSimpArgs false
theorem unpack_ok7 (items : List Pr) (hp : UnP items) : FOK Try.prog C1 12 (fun _ => false) [.ro (.recs 1 items)] [] (UnR items) := by
  refine fok_of (B := ⟨lookT tis, fun _ => false, []⟩) (tab1 _) (zero1 _) cod1 mix1 Try.func12 (by kernel_rfl) rfl rfl rfl fun X F => ?_
  obtain ⟨A, hA⟩ : ∃ A, A = Leaf.std := ⟨_, rfl⟩
  refine F.hold hA 2000 ?_
  cbv
  repeat (first
    | refine OK.drawn (by decide +kernel) ?_
    | refine OK.tree ⟨lookT tis, fun _ => true, []⟩ (by decide +kernel) ?_
    | refine OK.need (by first | assumption | (rw [hA]; first | (show (_ : Int) ≠ _; decide) | (show (0 : Int) ≤ _; decide) | (show (0 : Int) ≤ _ ∧ _ < (256 : Int); decide))) ?_
    | (refine F.hold hA 2000 ?_; cbv))
  refine OK.loopCv (Cv.adopt F.cod 4 3 (ek := .int .i64) rfl rfl) ?_
  refine F.loop (V := List Int × Int) [0, 2, 4, 10, 11] (UnInv items) (fun w => (items.length - w.2).toNat) (fun w => [(12, .int .i64 w.2)]) (fun w => [(0, .row 3 (.ints .i64 w.1))]) (_, _) (by cbv; repeat (first | exact WkH.nil _ | apply WkH.gone | refine WkH.eq rfl ?_)) (by cbv; repeat (first | apply WkL.any | exact WkL.nil _ | refine WkL.eq rfl ?_ | refine WkL.bool rfl ?_)) (by cbv; exact ⟨rfl⟩) ?_ ?_
  · exact ⟨0, rfl, Nat.zero_le _, Nat.zero_le _, rfl⟩
  rintro ⟨o, i⟩ hI Bk hBk
  repeat (first
    | refine OK.drawn (by decide +kernel) ?_
    | refine OK.tree ⟨lookT tis, fun _ => true, []⟩ (by decide +kernel) ?_
    | refine OK.need (by first | assumption | (rw [hA]; first | (show (_ : Int) ≠ _; decide) | (show (0 : Int) ≤ _; decide) | (show (0 : Int) ≤ _ ∧ _ < (256 : Int); decide))) ?_
    | (refine F.hold hA 2000 ?_; cbv))
  refine OK.branch (fun b1 => ?_) (fun b1 => ?_)
  · have hat := unAt hA hp hI b1
    have q := hat.q
    have hip := hat.ip
    repeat (first
      | refine OK.drawn (by decide +kernel) ?_
      | refine OK.tree ⟨lookT tis, fun _ => true, []⟩ (by decide +kernel) ?_
      | refine OK.need (by first | assumption | (rw [hA]; first | (show (_ : Int) ≠ _; decide) | (show (0 : Int) ≤ _; decide) | (show (0 : Int) ≤ _ ∧ _ < (256 : Int); decide))) ?_
      | (refine F.hold hA 2000 ?_; cbv))
    refine F.call [0] (row_ok6 _ _ o hip) rfl rfl rfl fun rs H' hq => ?_
    obtain ⟨v, n, ok, rfl, rfl, hr⟩ := hq
    refine ⟨rfl, ?_⟩
    have hB := unB hA hat hr
    clear hr
    repeat (first
      | refine OK.drawn (by decide +kernel) ?_
      | refine OK.tree ⟨lookT tis, fun _ => true, []⟩ (by decide +kernel) ?_
      | refine OK.need (by first | assumption | (rw [hA]; first | (show (_ : Int) ≠ _; decide) | (show (0 : Int) ≤ _; decide) | (show (0 : Int) ≤ _ ∧ _ < (256 : Int); decide))) ?_
      | (refine F.hold hA 2000 ?_; cbv))
    refine OK.branch (fun b2 => ?_) (fun b2 => ?_)
    · repeat (first
        | refine OK.drawn (by decide +kernel) ?_
        | refine OK.tree ⟨lookT tis, fun _ => true, []⟩ (by decide +kernel) ?_
        | refine OK.need (by first | assumption | (rw [hA]; first | (show (_ : Int) ≠ _; decide) | (show (0 : Int) ≤ _; decide) | (show (0 : Int) ≤ _ ∧ _ < (256 : Int); decide))) ?_
        | (refine F.hold hA 2000 ?_; cbv))
      exact F.ret (rs' := [.ro (.ints .i64 []), .bool (.e false)]) (H' := []) (Cv.trans (Cv.slot 0 rfl fun M v h => nil_den h) (F.cv ⟨rfl⟩ (.eq rfl (.bool rfl (.nil _))) (.nil _))) rfl (un_no (hB.e1 b2))
    repeat (first
      | refine OK.drawn (by decide +kernel) ?_
      | refine OK.tree ⟨lookT tis, fun _ => true, []⟩ (by decide +kernel) ?_
      | refine OK.need (by first | assumption | (rw [hA]; first | (show (_ : Int) ≠ _; decide) | (show (0 : Int) ≤ _; decide) | (show (0 : Int) ≤ _ ∧ _ < (256 : Int); decide))) ?_
      | (refine F.hold hA 2000 ?_; cbv))
    refine OK.branch (fun b3 => ?_) (fun b3 => ?_)
    · repeat (first
        | refine OK.drawn (by decide +kernel) ?_
        | refine OK.tree ⟨lookT tis, fun _ => true, []⟩ (by decide +kernel) ?_
        | refine OK.need (by first | assumption | (rw [hA]; first | (show (_ : Int) ≠ _; decide) | (show (0 : Int) ≤ _; decide) | (show (0 : Int) ≤ _ ∧ _ < (256 : Int); decide))) ?_
        | (refine F.hold hA 2000 ?_; cbv))
      exact F.ret (rs' := [.ro (.ints .i64 []), .bool (.e false)]) (H' := []) (Cv.trans (Cv.slot 0 rfl fun M v h => nil_den h) (F.cv ⟨rfl⟩ (.eq rfl (.bool rfl (.nil _))) (.nil _))) rfl (un_no (hB.e2 b2 b3))
    have hrp := hB.p b2
    repeat (first
      | refine OK.drawn (by decide +kernel) ?_
      | refine OK.tree ⟨lookT tis, fun _ => true, []⟩ (by decide +kernel) ?_
      | refine OK.need (by first | assumption | (rw [hA]; first | (show (_ : Int) ≠ _; decide) | (show (0 : Int) ≤ _; decide) | (show (0 : Int) ≤ _ ∧ _ < (256 : Int); decide))) ?_
      | (refine F.hold hA 2000 ?_; cbv))
    refine F.callFrz 2 rfl rfl rfl rfl ?_
    refine F.call [] (repeat_ok1 v n n.toNat rfl hrp) rfl rfl rfl fun rs H' hq => ?_
    obtain ⟨l, rfl, rfl, hl⟩ := hq
    refine ⟨rfl, ?_⟩
    have hC := hB.q b2 b3 l hl
    have q2 := hC.1
    repeat (first
      | refine OK.drawn (by decide +kernel) ?_
      | refine OK.tree ⟨lookT tis, fun _ => true, []⟩ (by decide +kernel) ?_
      | refine OK.need (by first | assumption | (rw [hA]; first | (show (_ : Int) ≠ _; decide) | (show (0 : Int) ≤ _; decide) | (show (0 : Int) ≤ _ ∧ _ < (256 : Int); decide))) ?_
      | (refine F.hold hA 2000 ?_; cbv))
    refine OK.back (hBk _ _ (_, _) (by cbv; repeat (first | exact WkH.nil _ | apply WkH.gone | refine WkH.eq rfl ?_)) (by cbv; repeat (first | apply WkL.any | exact WkL.nil _ | refine WkL.eq rfl ?_ | refine WkL.bool rfl ?_)) (by cbv; exact ⟨rfl⟩) ?_ ?_)
    · exact hC.2.1
    · exact hC.2.2
  · have hf := hI.fin hA b1
    repeat (first
      | refine OK.drawn (by decide +kernel) ?_
      | refine OK.tree ⟨lookT tis, fun _ => true, []⟩ (by decide +kernel) ?_
      | refine OK.need (by first | assumption | (rw [hA]; first | (show (_ : Int) ≠ _; decide) | (show (0 : Int) ≤ _; decide) | (show (0 : Int) ≤ _ ∧ _ < (256 : Int); decide))) ?_
      | (refine F.hold hA 2000 ?_; cbv))
    exact F.ret (rs' := [.ro (.ints .i64 o), .bool (.e true)]) (H' := []) ((Cv.freeze F.cod 0 rfl).trans (F.cv ⟨rfl⟩ (.eq rfl (.bool rfl (.nil _))) (.nil _))) rfl (un_yes hf.1 hf.2)
/-- Two like rows of items, of two types. -/
structure SiP (l : List Pr) : Prop where
  n : l.length ≤ 400
def UpP (l : List Pr) (i : Int) : Prop := ∃ j : Nat, i = j ∧ j ≤ l.length
structure SiAt (A : Leaf) (l : List Pr) (i : Int) : Prop where
  q : A.inb i (A.len l)
  nx : UpP l (A.ar .add .i64 i 1)
  mu : (1000 - A.ar .add .i64 i 1).toNat < (1000 - i).toNat
theorem siAt {A : Leaf} {l : List Pr} {i : Int} (hA : A = .std) (hp : SiP l) (hI : UpP l i) (b : A.cmp .lss i (A.len l) = true) : SiAt A l i := by
  obtain ⟨k, h1, h2⟩ := hI
  have hn := hp.n
  subst hA h1
  have b : (k : Int) < (l.length : Int) := of_decide_eq_true b
  have e : Leaf.std.ar .add .i64 (k : Int) 1 = ((k + 1 : Nat) : Int) := by rw [add_i64 (by omega) (by omega)]; omega
  exact ⟨⟨by omega, by show (k : Int) < (l.length : Int); omega⟩, ⟨k + 1, e, by omega⟩, by rw [e]; omega⟩
theorem same_ok5 (l : List Pr) (hp : SiP l) : FOK Try.prog C1 14 (fun _ => true) [.ro (.recs 1 l), .ro (.recs 2 l)] [] (fun rs H => rs = [.bool (.lit true)] ∧ H = []) := by
  refine fok_of (B := ⟨lookT tis, fun _ => true, []⟩) (tab1 _) (zero1 _) cod1 mix1 Try.func14 (by kernel_rfl) rfl rfl rfl fun X F => ?_
  obtain ⟨A, hA⟩ : ∃ A, A = Leaf.std := ⟨_, rfl⟩
  refine F.hold hA 2000 ?_
  cbv
  repeat (first
    | refine OK.drawn (by decide +kernel) ?_
    | refine OK.tree ⟨lookT tis, fun _ => true, []⟩ (by decide +kernel) ?_
    | refine OK.need (by first | assumption | (rw [hA]; first | (show (_ : Int) ≠ _; decide) | (show (0 : Int) ≤ _; decide) | (show (0 : Int) ≤ _ ∧ _ < (256 : Int); decide))) ?_
    | (refine F.hold hA 2000 ?_; cbv))
  refine OK.branch (fun b1 => (cmp_self hA b1).elim) (fun b1 => ?_)
  repeat (first
    | refine OK.drawn (by decide +kernel) ?_
    | refine OK.tree ⟨lookT tis, fun _ => true, []⟩ (by decide +kernel) ?_
    | refine OK.need (by first | assumption | (rw [hA]; first | (show (_ : Int) ≠ _; decide) | (show (0 : Int) ≤ _; decide) | (show (0 : Int) ≤ _ ∧ _ < (256 : Int); decide))) ?_
    | (refine F.hold hA 2000 ?_; cbv))
  refine F.loop (V := Int) [0, 1] (UpP l) (fun w => (1000 - w).toNat) (fun w => [(5, .int .i64 w)]) (fun w => []) _ (by cbv; repeat (first | exact WkH.nil _ | apply WkH.gone | refine WkH.eq rfl ?_)) (by cbv; repeat (first | apply WkL.any | exact WkL.nil _ | refine WkL.eq rfl ?_ | refine WkL.bool rfl ?_)) (by cbv; exact ⟨rfl⟩) ?_ ?_
  · exact ⟨0, rfl, Nat.zero_le _⟩
  rintro i hI Bk hBk
  repeat (first
    | refine OK.drawn (by decide +kernel) ?_
    | refine OK.tree ⟨lookT tis, fun _ => true, []⟩ (by decide +kernel) ?_
    | refine OK.need (by first | assumption | (rw [hA]; first | (show (_ : Int) ≠ _; decide) | (show (0 : Int) ≤ _; decide) | (show (0 : Int) ≤ _ ∧ _ < (256 : Int); decide))) ?_
    | (refine F.hold hA 2000 ?_; cbv))
  refine OK.branch (fun b2 => ?_) (fun b2 => ?_)
  · have hat := siAt hA hp hI b2
    have q := hat.q
    repeat (first
      | refine OK.drawn (by decide +kernel) ?_
      | refine OK.tree ⟨lookT tis, fun _ => true, []⟩ (by decide +kernel) ?_
      | refine OK.need (by first | assumption | (rw [hA]; first | (show (_ : Int) ≠ _; decide) | (show (0 : Int) ≤ _; decide) | (show (0 : Int) ≤ _ ∧ _ < (256 : Int); decide))) ?_
      | (refine F.hold hA 2000 ?_; cbv))
    refine OK.branch (fun b3 => (cmp_self hA b3).elim) (fun b3 => ?_)
    repeat (first
      | refine OK.drawn (by decide +kernel) ?_
      | refine OK.tree ⟨lookT tis, fun _ => true, []⟩ (by decide +kernel) ?_
      | refine OK.need (by first | assumption | (rw [hA]; first | (show (_ : Int) ≠ _; decide) | (show (0 : Int) ≤ _; decide) | (show (0 : Int) ≤ _ ∧ _ < (256 : Int); decide))) ?_
      | (refine F.hold hA 2000 ?_; cbv))
    refine OK.branch (fun b3 => (cmp_self hA b3).elim) (fun b3 => ?_)
    repeat (first
      | refine OK.drawn (by decide +kernel) ?_
      | refine OK.tree ⟨lookT tis, fun _ => true, []⟩ (by decide +kernel) ?_
      | refine OK.need (by first | assumption | (rw [hA]; first | (show (_ : Int) ≠ _; decide) | (show (0 : Int) ≤ _; decide) | (show (0 : Int) ≤ _ ∧ _ < (256 : Int); decide))) ?_
      | (refine F.hold hA 2000 ?_; cbv))
    refine OK.back (hBk _ _ _ (by cbv; repeat (first | exact WkH.nil _ | apply WkH.gone | refine WkH.eq rfl ?_)) (by cbv; repeat (first | apply WkL.any | exact WkL.nil _ | refine WkL.eq rfl ?_ | refine WkL.bool rfl ?_)) (by cbv; exact ⟨rfl⟩) ?_ ?_)
    · exact hat.nx
    · exact hat.mu
  · repeat (first
      | refine OK.drawn (by decide +kernel) ?_
      | refine OK.tree ⟨lookT tis, fun _ => true, []⟩ (by decide +kernel) ?_
      | refine OK.need (by first | assumption | (rw [hA]; first | (show (_ : Int) ≠ _; decide) | (show (0 : Int) ≤ _; decide) | (show (0 : Int) ≤ _ ∧ _ < (256 : Int); decide))) ?_
      | (refine F.hold hA 2000 ?_; cbv))
    exact F.ret0 ⟨rfl, rfl⟩
end Go.L1

-- S36
namespace Go.L1
open Go Go.Sx Go.Proofs Go.L5 Go.Huff
set_option maxRecDepth 20000
set_option linter.unusedVariables false
set_option linter.unusedSimpArgs false
theorem itL_inj : ∀ {a b : List Pr}, itL a = itL b → a = b
  | [], [], _ => rfl
  | [], _ :: _, h => by cases h
  | _ :: _, [], h => by cases h
  | x :: a, y :: b, h => by
    have h : (x.a, x.b) :: itL a = (y.a, y.b) :: itL b := h
    have h1 := (List.cons.inj h).1
    have h2 : x = y := by
      cases x; cases y
      cases h1; rfl
    rw [h2, itL_inj (List.cons.inj h).2]
structure LpP (lengths : List Int) (list : List Pr) : Prop where
  n : lengths.length ≤ 320
  m : list.length ≤ 100
  nn : lengths.length ≤ 400
  un : UnP list
theorem lpP {A : Leaf} {lengths : List Int} {list : List Pr} (hA : A = .std) (c1 : A.cmp .gtr (A.len lengths) 320 = false) (c2 : A.cmp .gtr (A.len list) 100 = false) : LpP lengths list := by
  have c1 := gtrF hA c1
  have c2 := gtrF hA c2
  subst hA
  have c1 : ¬ (320 : Int) < (lengths.length : Int) := c1
  have c2 : ¬ (100 : Int) < (list.length : Int) := c2
  exact ⟨by omega, by omega, by omega, ⟨by omega⟩⟩
/-- The items, copied. -/
def CyW (list : List Pr) (w : List Pr × Int) : Prop := ∃ k : Nat, w.2 = k ∧ k ≤ list.length ∧ w.1 = list.take k
structure CyAt (A : Leaf) (list row : List Pr) (i : Int) : Prop where
  q : A.inb i (A.len list)
  sm : A.small (A.len (A.app row [(⟨(A.get ⟨0, 0⟩ list i).a, (A.get ⟨0, 0⟩ list i).b⟩ : Pr)])) 16
  nx : CyW list (A.app row [(⟨(A.get ⟨0, 0⟩ list i).a, (A.get ⟨0, 0⟩ list i).b⟩ : Pr)], A.ar .add .i64 i 1)
  mu : (1000 - A.ar .add .i64 i 1).toNat < (1000 - i).toNat
theorem cyAt {A : Leaf} {lengths : List Int} {list row : List Pr} {i : Int} (hA : A = .std) (hp : LpP lengths list) (hI : CyW list (row, i)) (b : A.cmp .lss i (A.len list) = true) : CyAt A list row i := by
  have hm := hp.m
  obtain ⟨k, h1, h2, h3⟩ := hI
  simp only at h1 h3
  subst hA h1
  have b : (k : Int) < (list.length : Int) := of_decide_eq_true b
  have hk : k < list.length := by omega
  have eg : Leaf.std.get ⟨0, 0⟩ list (k : Int) = list[k] := by show list.getD _ _ = _; rw [Int.toNat_natCast]; simp [hk]
  have e : Leaf.std.ar .add .i64 (k : Int) 1 = ((k + 1 : Nat) : Int) := by rw [add_i64 (by omega) (by omega)]; omega
  have hl : row.length = k := by rw [h3, List.length_take]; omega
  refine ⟨⟨by omega, by show (k : Int) < (list.length : Int); omega⟩, ?_, ?_, by rw [e]; omega⟩
  · show (0 : Int) ≤ (((row ++ [_]).length : Nat) : Int) ∧ (((row ++ [_]).length : Nat) : Int) ≤ 140737488355328 ∧ (((row ++ [_]).length : Nat) : Int) * ((16 : Nat) : Int) ≤ 140737488355328
    rw [List.length_append, List.length_singleton]; omega
  · rw [e, eg]
    refine ⟨k + 1, rfl, by omega, ?_⟩
    show row ++ [list[k]] = _
    rw [h3, List.take_succ_eq_append_getElem hk]
theorem cyEnd {A : Leaf} {list row : List Pr} {i : Int} (hA : A = .std) (hI : CyW list (row, i)) (b : A.cmp .lss i (A.len list) = false) : row = list := by
  obtain ⟨k, h1, h2, h3⟩ := hI
  simp only at h1 h3
  subst hA h1
  have b : ¬ (k : Int) < (list.length : Int) := of_decide_eq_false b
  rw [h3, List.take_of_length_le (by omega)]
structure LpQ (lengths : List Int) (p : List Pr) : Prop where
  e : PackIs lengths p
  n : p.length ≤ 400
  si : SiP p
  un : UnP p
theorem lpQ {lengths : List Int} {list p : List Pr} (hp : LpP lengths list) (h : PackIs lengths p) : LpQ lengths p := by
  have hl : (itL p).length ≤ 320 := by
    rw [h.e]
    unfold packL
    split
    · exact Nat.zero_le _
    · have := packF_len lengths (lengths.length - 0) 0
      unfold packG
      have := hp.n
      omega
  have hl2 : p.length ≤ 320 := by unfold itL at hl; rwa [List.length_map] at hl
  exact ⟨h, by omega, ⟨by omega⟩, ⟨by omega⟩⟩
theorem pack_uniq {lengths : List Int} {p p2 : List Pr} (h : PackIs lengths p) (h2 : PackIs lengths p2) : p2 = p := itL_inj (h2.e.trans h.e.symm)
theorem bneq {A : Leaf} (hA : A = .std) {b : Bool} (h : A.bnot (A.beq b b) = true) : False := by
  subst hA
  have h : (!(b == b)) = true := h
  rw [beq_self_eq_true] at h
  cases h
theorem lpBad {A : Leaf} {lengths : List Int} {p : List Pr} (hA : A = .std) (h : PackIs lengths p) (h2 : PackIs lengths []) : A.cmp .eql (A.len p) 0 = true := by
  have := pack_uniq h2 h
  subst this hA
  rfl
theorem lpGood {lengths w : List Int} {list p : List Pr} {has : Bool} (hp : LpP lengths list) (h : PackIs lengths p) (hw : UnV p w has) (hb : AnyIs badL lengths false) : has = true ∧ w = lengths := by
  have hno : ¬ ∃ c ∈ lengths, badL c = true := fun hh => by have := hb.yes.2 hh; cases this
  have hu : unpackR (itL p) [] = some lengths := by
    rw [h.e]
    unfold packL
    rw [if_neg hno]
    have := unpack_pack (badL_no hno) hp.n lengths.length 0 (by omega) (Nat.zero_le _)
    rwa [List.take_zero] at this
  cases has with
  | true =>
    have := hw.yes rfl
    rw [hu] at this
    exact ⟨rfl, (Option.some.inj this).symm⟩
  | false =>
    have := (hw.no rfl).1
    rw [hu] at this
    cases this
theorem packs_ok (lengths : List Int) (list : List Pr) : FOK Try.prog C1 4 (fun _ => false) [.ro (.ints .i64 lengths), .ro (.recs 1 list)] [] Yes := by
  refine fok_of (B := ⟨lookT tis, fun _ => false, []⟩) (tab1 _) (zero1 _) cod1 mix1 Try.func4 (by kernel_rfl) rfl rfl rfl fun X F => ?_
  obtain ⟨A, hA⟩ : ∃ A, A = Leaf.std := ⟨_, rfl⟩
  refine F.hold hA 2000 ?_
  cbv
  repeat (first
    | refine OK.drawn (by decide +kernel) ?_
    | refine OK.tree ⟨lookT tis, fun _ => true, []⟩ (by decide +kernel) ?_
    | refine OK.need (by first | assumption | (rw [hA]; first | (show (_ : Int) ≠ _; decide) | (show (0 : Int) ≤ _; decide) | (show (0 : Int) ≤ _ ∧ _ < (256 : Int); decide))) ?_
    | (refine F.hold hA 2000 ?_; cbv))
  refine F.call [] (alive_ok) rfl rfl rfl fun rs H' hq => ?_
  obtain ⟨b, rfl, rfl, hb⟩ := hq
  refine ⟨rfl, ?_⟩
  repeat (first
    | refine OK.drawn (by decide +kernel) ?_
    | refine OK.tree ⟨lookT tis, fun _ => true, []⟩ (by decide +kernel) ?_
    | refine OK.need (by first | assumption | (rw [hA]; first | (show (_ : Int) ≠ _; decide) | (show (0 : Int) ≤ _; decide) | (show (0 : Int) ≤ _ ∧ _ < (256 : Int); decide))) ?_
    | (refine F.hold hA 2000 ?_; cbv))
  refine OK.branch (fun h => (notB hA hb h).elim) (fun _ => ?_)
  repeat (first
    | refine OK.drawn (by decide +kernel) ?_
    | refine OK.tree ⟨lookT tis, fun _ => true, []⟩ (by decide +kernel) ?_
    | refine OK.need (by first | assumption | (rw [hA]; first | (show (_ : Int) ≠ _; decide) | (show (0 : Int) ≤ _; decide) | (show (0 : Int) ≤ _ ∧ _ < (256 : Int); decide))) ?_
    | (refine F.hold hA 2000 ?_; cbv))
  refine OK.branch (fun c1 => ?_) (fun c1 => ?_)
  · repeat (first
      | refine OK.drawn (by decide +kernel) ?_
      | refine OK.tree ⟨lookT tis, fun _ => true, []⟩ (by decide +kernel) ?_
      | refine OK.need (by first | assumption | (rw [hA]; first | (show (_ : Int) ≠ _; decide) | (show (0 : Int) ≤ _; decide) | (show (0 : Int) ≤ _ ∧ _ < (256 : Int); decide))) ?_
      | (refine F.hold hA 2000 ?_; cbv))
    exact F.ret0 ⟨_, rfl, rfl⟩
  repeat (first
    | refine OK.drawn (by decide +kernel) ?_
    | refine OK.tree ⟨lookT tis, fun _ => true, []⟩ (by decide +kernel) ?_
    | refine OK.need (by first | assumption | (rw [hA]; first | (show (_ : Int) ≠ _; decide) | (show (0 : Int) ≤ _; decide) | (show (0 : Int) ≤ _ ∧ _ < (256 : Int); decide))) ?_
    | (refine F.hold hA 2000 ?_; cbv))
  refine OK.branch (fun c2 => ?_) (fun c2 => ?_)
  · repeat (first
      | refine OK.drawn (by decide +kernel) ?_
      | refine OK.tree ⟨lookT tis, fun _ => true, []⟩ (by decide +kernel) ?_
      | refine OK.need (by first | assumption | (rw [hA]; first | (show (_ : Int) ≠ _; decide) | (show (0 : Int) ≤ _; decide) | (show (0 : Int) ≤ _ ∧ _ < (256 : Int); decide))) ?_
      | (refine F.hold hA 2000 ?_; cbv))
    exact F.ret0 ⟨_, rfl, rfl⟩
  have hp := lpP hA c1 c2
  repeat (first
    | refine OK.drawn (by decide +kernel) ?_
    | refine OK.tree ⟨lookT tis, fun _ => true, []⟩ (by decide +kernel) ?_
    | refine OK.need (by first | assumption | (rw [hA]; first | (show (_ : Int) ≠ _; decide) | (show (0 : Int) ≤ _; decide) | (show (0 : Int) ≤ _ ∧ _ < (256 : Int); decide))) ?_
    | (refine F.hold hA 2000 ?_; cbv))
  refine F.call [] (pack_ok lengths hp.nn) rfl rfl rfl fun rs H' hq => ?_
  obtain ⟨p, rfl, rfl, hpk⟩ := hq
  refine ⟨rfl, ?_⟩
  have hq := lpQ hp hpk
  repeat (first
    | refine OK.drawn (by decide +kernel) ?_
    | refine OK.tree ⟨lookT tis, fun _ => true, []⟩ (by decide +kernel) ?_
    | refine OK.need (by first | assumption | (rw [hA]; first | (show (_ : Int) ≠ _; decide) | (show (0 : Int) ≤ _; decide) | (show (0 : Int) ≤ _ ∧ _ < (256 : Int); decide))) ?_
    | (refine F.hold hA 2000 ?_; cbv))
  refine F.loop (V := List Pr × Int) [0, 1, 5, 6] (CyW list) (fun w => (1000 - w.2).toNat) (fun w => [(7, .int .i64 w.2)]) (fun w => [(0, .row 34 (.recs 2 w.1))]) (_, _) (by cbv; repeat (first | exact WkH.nil _ | apply WkH.gone | refine WkH.eq rfl ?_)) (by cbv; repeat (first | apply WkL.any | exact WkL.nil _ | refine WkL.eq rfl ?_ | refine WkL.bool rfl ?_)) (by cbv; exact ⟨rfl⟩) ?_ ?_
  · exact ⟨0, rfl, Nat.zero_le _, rfl⟩
  rintro ⟨row, i⟩ hI Bk hBk
  repeat (first
    | refine OK.drawn (by decide +kernel) ?_
    | refine OK.tree ⟨lookT tis, fun _ => true, []⟩ (by decide +kernel) ?_
    | refine OK.need (by first | assumption | (rw [hA]; first | (show (_ : Int) ≠ _; decide) | (show (0 : Int) ≤ _; decide) | (show (0 : Int) ≤ _ ∧ _ < (256 : Int); decide))) ?_
    | (refine F.hold hA 2000 ?_; cbv))
  refine OK.branch (fun d0 => ?_) (fun d0 => ?_)
  · have hat := cyAt hA hp hI d0
    have q1 := hat.q
    have q2 := hat.sm
    repeat (first
      | refine OK.drawn (by decide +kernel) ?_
      | refine OK.tree ⟨lookT tis, fun _ => true, []⟩ (by decide +kernel) ?_
      | refine OK.need (by first | assumption | (rw [hA]; first | (show (_ : Int) ≠ _; decide) | (show (0 : Int) ≤ _; decide) | (show (0 : Int) ≤ _ ∧ _ < (256 : Int); decide))) ?_
      | (refine F.hold hA 2000 ?_; cbv))
    refine OK.back (hBk _ _ (_, _) (by cbv; repeat (first | exact WkH.nil _ | apply WkH.gone | refine WkH.eq rfl ?_)) (by cbv; repeat (first | apply WkL.any | exact WkL.nil _ | refine WkL.eq rfl ?_ | refine WkL.bool rfl ?_)) (by cbv; exact ⟨rfl⟩) ?_ ?_)
    · exact hat.nx
    · exact hat.mu
  · have hrow := cyEnd hA hI d0
    subst hrow
    repeat (first
      | refine OK.drawn (by decide +kernel) ?_
      | refine OK.tree ⟨lookT tis, fun _ => true, []⟩ (by decide +kernel) ?_
      | refine OK.need (by first | assumption | (rw [hA]; first | (show (_ : Int) ≠ _; decide) | (show (0 : Int) ≤ _; decide) | (show (0 : Int) ≤ _ ∧ _ < (256 : Int); decide))) ?_
      | (refine F.hold hA 2000 ?_; cbv))
    refine F.call [] (unpack_ok7 row hp.un) rfl rfl rfl fun rs H' hq => ?_
    obtain ⟨u, ok, rfl, rfl, hu⟩ := hq
    refine ⟨rfl, ?_⟩
    repeat (first
      | refine OK.drawn (by decide +kernel) ?_
      | refine OK.tree ⟨lookT tis, fun _ => true, []⟩ (by decide +kernel) ?_
      | refine OK.need (by first | assumption | (rw [hA]; first | (show (_ : Int) ≠ _; decide) | (show (0 : Int) ≤ _; decide) | (show (0 : Int) ≤ _ ∧ _ < (256 : Int); decide))) ?_
      | (refine F.hold hA 2000 ?_; cbv))
    refine F.callFrz 0 rfl rfl rfl rfl ?_
    refine F.call [] (runpack_ok row hp.un) rfl rfl rfl fun rs H' hq => ?_
    obtain ⟨v, ok2, rfl, rfl, hv⟩ := hq
    refine ⟨rfl, ?_⟩
    obtain ⟨rfl, rfl⟩ := hu.uniq hv
    have hu4 : Le400 u := ⟨Nat.le_trans hu.n (by decide)⟩
    repeat (first
      | refine OK.drawn (by decide +kernel) ?_
      | refine OK.tree ⟨lookT tis, fun _ => true, []⟩ (by decide +kernel) ?_
      | refine OK.need (by first | assumption | (rw [hA]; first | (show (_ : Int) ≠ _; decide) | (show (0 : Int) ≤ _; decide) | (show (0 : Int) ≤ _ ∧ _ < (256 : Int); decide))) ?_
      | (refine F.hold hA 2000 ?_; cbv))
    refine F.call [] (rpack_ok lengths hp.nn) rfl rfl rfl fun rs H' hq => ?_
    obtain ⟨p2, rfl, rfl, hpk2⟩ := hq
    refine ⟨rfl, ?_⟩
    obtain rfl := pack_uniq hpk hpk2
    repeat (first
      | refine OK.drawn (by decide +kernel) ?_
      | refine OK.tree ⟨lookT tis, fun _ => true, []⟩ (by decide +kernel) ?_
      | refine OK.need (by first | assumption | (rw [hA]; first | (show (_ : Int) ≠ _; decide) | (show (0 : Int) ≤ _; decide) | (show (0 : Int) ≤ _ ∧ _ < (256 : Int); decide))) ?_
      | (refine F.hold hA 2000 ?_; cbv))
    refine F.call [] (same_ok5 _ hq.si) rfl rfl rfl fun rs H' hq => ?_
    obtain ⟨rfl, rfl⟩ := hq
    refine ⟨rfl, ?_⟩
    repeat (first
      | refine OK.drawn (by decide +kernel) ?_
      | refine OK.tree ⟨lookT tis, fun _ => true, []⟩ (by decide +kernel) ?_
      | refine OK.need (by first | assumption | (rw [hA]; first | (show (_ : Int) ≠ _; decide) | (show (0 : Int) ≤ _; decide) | (show (0 : Int) ≤ _ ∧ _ < (256 : Int); decide))) ?_
      | (refine F.hold hA 2000 ?_; cbv))
    refine OK.branch (fun h => (bneq hA h).elim) (fun _ => ?_)
    repeat (first
      | refine OK.drawn (by decide +kernel) ?_
      | refine OK.tree ⟨lookT tis, fun _ => true, []⟩ (by decide +kernel) ?_
      | refine OK.need (by first | assumption | (rw [hA]; first | (show (_ : Int) ≠ _; decide) | (show (0 : Int) ≤ _; decide) | (show (0 : Int) ≤ _ ∧ _ < (256 : Int); decide))) ?_
      | (refine F.hold hA 2000 ?_; cbv))
    refine F.call [] (sameInts_ok u hu4) rfl rfl rfl fun rs H' hq => ?_
    obtain ⟨rfl, rfl⟩ := hq
    refine ⟨rfl, ?_⟩
    repeat (first
      | refine OK.drawn (by decide +kernel) ?_
      | refine OK.tree ⟨lookT tis, fun _ => true, []⟩ (by decide +kernel) ?_
      | refine OK.need (by first | assumption | (rw [hA]; first | (show (_ : Int) ≠ _; decide) | (show (0 : Int) ≤ _; decide) | (show (0 : Int) ≤ _ ∧ _ < (256 : Int); decide))) ?_
      | (refine F.hold hA 2000 ?_; cbv))
    refine F.call [] (unpack_ok7 _ hq.un) rfl rfl rfl fun rs H' hq => ?_
    obtain ⟨w, has, rfl, rfl, hw⟩ := hq
    refine ⟨rfl, ?_⟩
    repeat (first
      | refine OK.drawn (by decide +kernel) ?_
      | refine OK.tree ⟨lookT tis, fun _ => true, []⟩ (by decide +kernel) ?_
      | refine OK.need (by first | assumption | (rw [hA]; first | (show (_ : Int) ≠ _; decide) | (show (0 : Int) ≤ _; decide) | (show (0 : Int) ≤ _ ∧ _ < (256 : Int); decide))) ?_
      | (refine F.hold hA 2000 ?_; cbv))
    refine F.loop (V := Int) [0, 5, 12, 13] (GdW lengths) (fun w => (1000 - w).toNat) (fun w => [(14, .int .i64 w)]) (fun w => []) _ (by cbv; repeat (first | exact WkH.nil _ | apply WkH.gone | refine WkH.eq rfl ?_)) (by cbv; repeat (first | apply WkL.any | exact WkL.nil _ | refine WkL.eq rfl ?_ | refine WkL.bool rfl ?_)) (by cbv; exact ⟨rfl⟩) ?_ ?_
    · exact ⟨0, rfl, Nat.zero_le _, fun c hc => by cases hc⟩
    rintro j hI2 Bk2 hBk2
    repeat (first
      | refine OK.drawn (by decide +kernel) ?_
      | refine OK.tree ⟨lookT tis, fun _ => true, []⟩ (by decide +kernel) ?_
      | refine OK.need (by first | assumption | (rw [hA]; first | (show (_ : Int) ≠ _; decide) | (show (0 : Int) ≤ _; decide) | (show (0 : Int) ≤ _ ∧ _ < (256 : Int); decide))) ?_
      | (refine F.hold hA 2000 ?_; cbv))
    refine OK.branch (fun d1 => ?_) (fun d1 => ?_)
    · have hat := gdAt hA hp.nn hI2 d1
      have q := hat.q
      repeat (first
        | refine OK.drawn (by decide +kernel) ?_
        | refine OK.tree ⟨lookT tis, fun _ => true, []⟩ (by decide +kernel) ?_
        | refine OK.need (by first | assumption | (rw [hA]; first | (show (_ : Int) ≠ _; decide) | (show (0 : Int) ≤ _; decide) | (show (0 : Int) ≤ _ ∧ _ < (256 : Int); decide))) ?_
        | (refine F.hold hA 2000 ?_; cbv))
      refine OK.branch (fun b2 => ?_) (fun b2 => ?_)
      · have hf := lpBad hA hpk (hat.b1 b2)
        repeat (first
          | refine OK.drawn (by decide +kernel) ?_
          | refine OK.tree ⟨lookT tis, fun _ => true, []⟩ (by decide +kernel) ?_
          | refine OK.need (by first | assumption | (rw [hA]; first | (show (_ : Int) ≠ _; decide) | (show (0 : Int) ≤ _; decide) | (show (0 : Int) ≤ _ ∧ _ < (256 : Int); decide))) ?_
          | (refine F.hold hA 2000 ?_; cbv))
        exact F.ret0 ⟨_, rfl, hf⟩
      repeat (first
        | refine OK.drawn (by decide +kernel) ?_
        | refine OK.tree ⟨lookT tis, fun _ => true, []⟩ (by decide +kernel) ?_
        | refine OK.need (by first | assumption | (rw [hA]; first | (show (_ : Int) ≠ _; decide) | (show (0 : Int) ≤ _; decide) | (show (0 : Int) ≤ _ ∧ _ < (256 : Int); decide))) ?_
        | (refine F.hold hA 2000 ?_; cbv))
      refine OK.branch (fun b3 => ?_) (fun b3 => ?_)
      · have hf := lpBad hA hpk (hat.b2 b3)
        repeat (first
          | refine OK.drawn (by decide +kernel) ?_
          | refine OK.tree ⟨lookT tis, fun _ => true, []⟩ (by decide +kernel) ?_
          | refine OK.need (by first | assumption | (rw [hA]; first | (show (_ : Int) ≠ _; decide) | (show (0 : Int) ≤ _; decide) | (show (0 : Int) ≤ _ ∧ _ < (256 : Int); decide))) ?_
          | (refine F.hold hA 2000 ?_; cbv))
        exact F.ret0 ⟨_, rfl, hf⟩
      · have hx := hat.nx b2 b3
        have hBk := hBk2
        repeat (first
          | refine OK.drawn (by decide +kernel) ?_
          | refine OK.tree ⟨lookT tis, fun _ => true, []⟩ (by decide +kernel) ?_
          | refine OK.need (by first | assumption | (rw [hA]; first | (show (_ : Int) ≠ _; decide) | (show (0 : Int) ≤ _; decide) | (show (0 : Int) ≤ _ ∧ _ < (256 : Int); decide))) ?_
          | (refine F.hold hA 2000 ?_; cbv))
        refine OK.back (hBk _ _ _ (by cbv; repeat (first | exact WkH.nil _ | apply WkH.gone | refine WkH.eq rfl ?_)) (by cbv; repeat (first | apply WkL.any | exact WkL.nil _ | refine WkL.eq rfl ?_ | refine WkL.bool rfl ?_)) (by cbv; exact ⟨rfl⟩) ?_ ?_)
        · exact hx
        · exact hat.mu
    · have hgb := gdEnd hA hI2 d1
      obtain ⟨rfl, rfl⟩ := lpGood hp hpk hw hgb
      repeat (first
        | refine OK.drawn (by decide +kernel) ?_
        | refine OK.tree ⟨lookT tis, fun _ => true, []⟩ (by decide +kernel) ?_
        | refine OK.need (by first | assumption | (rw [hA]; first | (show (_ : Int) ≠ _; decide) | (show (0 : Int) ≤ _; decide) | (show (0 : Int) ≤ _ ∧ _ < (256 : Int); decide))) ?_
        | (refine F.hold hA 2000 ?_; cbv))
      refine OK.branch (fun _ => ?_) (fun h => by cases h)
      repeat (first
        | refine OK.drawn (by decide +kernel) ?_
        | refine OK.tree ⟨lookT tis, fun _ => true, []⟩ (by decide +kernel) ?_
        | refine OK.need (by first | assumption | (rw [hA]; first | (show (_ : Int) ≠ _; decide) | (show (0 : Int) ≤ _; decide) | (show (0 : Int) ≤ _ ∧ _ < (256 : Int); decide))) ?_
        | (refine F.hold hA 2000 ?_; cbv))
      refine F.call [] (sameInts_ok _ ⟨hp.nn⟩) rfl rfl rfl fun rs H' hq => ?_
      obtain ⟨rfl, rfl⟩ := hq
      refine ⟨rfl, ?_⟩
      repeat (first
        | refine OK.drawn (by decide +kernel) ?_
        | refine OK.tree ⟨lookT tis, fun _ => true, []⟩ (by decide +kernel) ?_
        | refine OK.need (by first | assumption | (rw [hA]; first | (show (_ : Int) ≠ _; decide) | (show (0 : Int) ≤ _; decide) | (show (0 : Int) ≤ _ ∧ _ < (256 : Int); decide))) ?_
        | (refine F.hold hA 2000 ?_; cbv))
      exact F.ret0 ⟨_, rfl, rfl⟩
end Go.L1
