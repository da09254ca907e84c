/- Own work of the session: part PK of a proof that the program's functions do what the statement says (a symbolic executor, contracts of the functions, plain laws). -/
import Derived.Test.YtmgmbcniamkfeaaPJ
import Derived.Test.YtmgmbcniamkfeaaPI
set_option linter.all false
-- D30
namespace Go.L1
open Go Go.Sx Go.Proofs Go.Huff
set_option maxRecDepth 20000
set_option linter.unusedVariables false
set_option linter.unusedSimpArgs false
/-- What an item adds. -/
structure UpG (x : Pr) (o : List Int) (n v : Int) : Prop where
  n0 : 0 ≤ n
  n1 : n ≤ 150
  r : rowR (x.a, x.b) o = some (List.replicate n.toNat v)
  o : o.length ≤ 320
def InInv (o : List Int) (n v : Int) (w : Int × List Int) : Prop := ∃ j : Nat, w.1 = j ∧ (j : Int) ≤ n ∧ w.2 = o ++ List.replicate j v
structure InA (A : Leaf) (o : List Int) (n v k : Int) (o2 : List Int) : Prop where
  q : A.small (A.len (A.app o2 [v])) 8
  nx : InInv o n v (A.ar .add .i64 k 1, A.app o2 [v])
  mu : (n - A.ar .add .i64 k 1).toNat < (n - k).toNat
theorem inA {A : Leaf} {x : Pr} {o o2 : List Int} {n v k : Int} (hA : A = .std) (hG : UpG x o n v) (hI : InInv o n v (k, o2)) (b1 : A.cmp .lss k n = true) : InA A o n v k o2 := by
  obtain ⟨n0, n1, _, ho⟩ := hG
  obtain ⟨j, h1, h2, h3⟩ := hI
  simp only at h1 h3
  subst hA h1
  have b1 : (j : Int) < n := of_decide_eq_true b1
  have e1 : Leaf.std.ar .add .i64 (j : Int) 1 = ((j + 1 : Nat) : Int) := by rw [add_i64 (by omega) (by omega)]; omega
  have hl : o2.length = o.length + j := by rw [h3, List.length_append, List.length_replicate]
  refine ⟨?_, ⟨j + 1, e1, by omega, ?_⟩, by rw [e1]; omega⟩
  · have e : Leaf.std.len (Leaf.std.app o2 [v]) = ((o2.length + 1 : Nat) : Int) := by
      show (((o2 ++ [_]).length : Nat) : Int) = _
      rw [List.length_append]; rfl
    rw [e]
    show (0 : Int) ≤ _ ∧ _ ≤ (140737488355328 : Int) ∧ _ * ((8 : Nat) : Int) ≤ (140737488355328 : Int)
    omega
  · show o2 ++ [v] = _
    rw [h3, List.append_assoc, ← List.replicate_succ']
structure InF (A : Leaf) (items : List Pr) (i : Int) (o2 : List Int) : Prop where
  bad : A.cmp .gtr (A.len o2) 320 = true → unpackR (prs items) [] = none
  nx : A.cmp .gtr (A.len o2) 320 = false → UnInv items (o2, A.ar .add .i64 i 1) ∧ (items.length - A.ar .add .i64 i 1).toNat < (items.length - i).toNat
theorem upE {A : Leaf} {items : List Pr} {o : List Int} {i : Int} (hA : A = .std) (hp : UnP items) (hI : UnInv items (o, i)) (b1 : A.cmp .lss i (A.len items) = true) : UnAt A items o i (A.get ⟨0, 0⟩ items i) := unAt hA hp hI b1
theorem inF {A : Leaf} {items : List Pr} {o o2 : List Int} {i n v k : Int} (hA : A = .std) (hat : UnAt A items o i (A.get ⟨0, 0⟩ items i)) (hG : UpG (A.get ⟨0, 0⟩ items i) o n v) (hI : InInv o n v (k, o2)) (b1 : A.cmp .lss k n = false) : InF A items i o2 := by
  obtain ⟨n0, n1, hr, ho⟩ := hG
  obtain ⟨j, h1, h2, h3⟩ := hI
  have he := hat.e
  have i0 := hat.i0
  have i1 := hat.i1
  have nn := hat.nn
  simp only at h1 h3
  rw [hr] at he
  dsimp only at he
  subst hA h1
  have b1 : ¬ (j : Int) < n := of_decide_eq_false b1
  have hj : n.toNat = j := by omega
  rw [hj] at he
  have hl : o2.length = o.length + j := by rw [h3, List.length_append, List.length_replicate]
  have ei : Leaf.std.ar .add .i64 i 1 = i + 1 := add_i64 (by omega) (by omega)
  refine ⟨fun b => ?_, fun b => ?_⟩
  · have b : (320 : Int) < o2.length := of_decide_eq_true b
    rw [he, if_neg (by rw [List.length_replicate]; omega)]
  · have b : ¬ (320 : Int) < o2.length := of_decide_eq_false b
    rw [ei]
    refine ⟨⟨i.toNat + 1, by simp only; omega, by omega, by simp only; omega, ?_⟩, by omega⟩
    rw [he, if_pos (by rw [List.length_replicate]; omega), h3]
theorem cGeT {A : Leaf} {a c : Int} (hA : A = .std) (h : A.cmp .geq a c = true) : c ≤ a := by subst hA; exact of_decide_eq_true h
theorem cGeF {A : Leaf} {a c : Int} (hA : A = .std) (h : A.cmp .geq a c = false) : ¬ c ≤ a := by subst hA; exact of_decide_eq_false h
theorem cLeT {A : Leaf} {a c : Int} (hA : A = .std) (h : A.cmp .leq a c = true) : a ≤ c := by subst hA; exact of_decide_eq_true h
theorem cLeF {A : Leaf} {a c : Int} (hA : A = .std) (h : A.cmp .leq a c = false) : ¬ a ≤ c := by subst hA; exact of_decide_eq_false h
theorem cEqT {A : Leaf} {a c : Int} (hA : A = .std) (h : A.cmp .eql a c = true) : a = c := (cmpE hA h).1 rfl
theorem cEqF {A : Leaf} {a c : Int} (hA : A = .std) (h : A.cmp .eql a c = false) : a ≠ c := fun e => by have := (cmpE hA h).2 e; cases this
theorem upBad {A : Leaf} {items : List Pr} {o : List Int} {i : Int} (hat : UnAt A items o i (A.get ⟨0, 0⟩ items i)) (h : rowR ((A.get ⟨0, 0⟩ items i).a, (A.get ⟨0, 0⟩ items i).b) o = none) : unpackR (prs items) [] = none := by
  have he := hat.e
  rw [h] at he
  exact he
theorem row_none {a b : Int} {o : List Int} (h1 : ¬ (0 ≤ a ∧ a ≤ 15 ∧ b = 0)) (h2 : ¬ (a = 16 ∧ o ≠ [] ∧ 0 ≤ b ∧ b ≤ 3)) (h3 : ¬ (a = 17 ∧ 0 ≤ b ∧ b ≤ 7)) (h4 : ¬ (a = 18 ∧ 0 ≤ b ∧ b ≤ 127)) : rowR (a, b) o = none := by
  unfold rowR
  by_cases c1 : 0 ≤ a ∧ a ≤ 15
  · rw [if_pos c1, if_neg fun h => h1 ⟨c1.1, c1.2, h⟩]
  · rw [if_neg c1]
    by_cases c2 : a = 16
    · rw [if_pos c2, if_pos]
      by_cases c3 : o = []
      · exact .inl c3
      · exact .inr fun h => h2 ⟨c2, c3, h⟩
    · rw [if_neg c2]
      by_cases c3 : a = 17
      · rw [if_pos c3, if_neg fun h => h3 ⟨c3, h⟩]
      · rw [if_neg c3]
        by_cases c4 : a = 18
        · rw [if_pos c4, if_neg fun h => h4 ⟨c4, h⟩]
        · rw [if_neg c4]
theorem up15 {x : Pr} {o : List Int} (ho : o.length ≤ 320) (h1 : 0 ≤ x.a) (h2 : x.a ≤ 15) (h3 : x.b = 0) : UpG x o 1 x.a := by
  refine ⟨by decide, by decide, ?_, ho⟩
  unfold rowR
  rw [if_pos ⟨h1, h2⟩, if_pos h3]
  rfl
theorem up16 {A : Leaf} {x : Pr} {o : List Int} (hA : A = .std) (ho : o.length ≤ 320) (h1 : x.a = 16) (h2 : 0 ≤ x.b) (h3 : x.b ≤ 3) (h4 : A.cmp .gtr (A.len o) 0 = true) : A.inb (A.ar .sub .i64 (A.len o) 1) (A.len o) ∧ UpG x o (A.ar .add .i64 3 x.b) (A.get 0 o (A.ar .sub .i64 (A.len o) 1)) := by
  subst hA
  have h4 : (0 : Int) < o.length := of_decide_eq_true h4
  have e1 : Leaf.std.ar .sub .i64 (Leaf.std.len o) 1 = ((o.length - 1 : Nat) : Int) := by
    have := sub_i64 (a := (o.length : Int)) (b := 1) (by omega) (by omega)
    show Leaf.std.ar .sub .i64 (o.length : Int) 1 = _
    rw [this]; omega
  have e2 : Leaf.std.ar .add .i64 3 x.b = 3 + x.b := add_i64 (by omega) (by omega)
  have eg : Leaf.std.get 0 o ((o.length - 1 : Nat) : Int) = o.getD (o.length - 1) 0 := by show o.getD _ 0 = _; rw [Int.toNat_natCast]
  rw [e1, e2, eg]
  refine ⟨?_, by omega, by omega, ?_, ho⟩
  · show (0 : Int) ≤ _ ∧ _ < (o.length : Int); omega
  · unfold rowR
    rw [if_neg (by omega), if_pos h1, if_neg]
    rintro (h | h)
    · subst h; simp at h4
    · exact h ⟨h2, h3⟩
theorem up17 {A : Leaf} {x : Pr} {o : List Int} (hA : A = .std) (ho : o.length ≤ 320) (h1 : x.a = 17) (h2 : 0 ≤ x.b) (h3 : x.b ≤ 7) : UpG x o (A.ar .add .i64 3 x.b) 0 := by
  subst hA
  have e2 : Leaf.std.ar .add .i64 3 x.b = 3 + x.b := add_i64 (by omega) (by omega)
  rw [e2]
  refine ⟨by omega, by omega, ?_, ho⟩
  unfold rowR
  rw [if_neg (by omega), if_neg (by omega), if_pos h1, if_pos ⟨h2, h3⟩]
theorem up18 {A : Leaf} {x : Pr} {o : List Int} (hA : A = .std) (ho : o.length ≤ 320) (h1 : x.a = 18) (h2 : 0 ≤ x.b) (h3 : x.b ≤ 127) : UpG x o (A.ar .add .i64 11 x.b) 0 := by
  subst hA
  have e2 : Leaf.std.ar .add .i64 11 x.b = 11 + x.b := add_i64 (by omega) (by omega)
  rw [e2]
  refine ⟨by omega, by omega, ?_, ho⟩
  unfold rowR
  rw [if_neg (by omega), if_neg (by omega), if_neg (by omega), if_pos h1, if_pos ⟨h2, h3⟩]
theorem bad16a {A : Leaf} {a b : Int} {o : List Int} (hA : A = .std) (h : a = 16) (hb : A.cmp .geq b 0 = false) : rowR (a, b) o = none := by
  have := cGeF hA hb
  exact row_none (by omega) (by omega) (by omega) (by omega)
theorem bad16b {A : Leaf} {a b : Int} {o : List Int} (hA : A = .std) (h : a = 16) (hb : A.cmp .leq b 3 = false) : rowR (a, b) o = none := by
  have := cLeF hA hb
  exact row_none (by omega) (by omega) (by omega) (by omega)
theorem bad16c {A : Leaf} {a b : Int} {o : List Int} (hA : A = .std) (h : a = 16) (hb : A.cmp .gtr (A.len o) 0 = false) : rowR (a, b) o = none := by
  have ho : o = [] := by
    subst hA
    have hb : ¬ (0 : Int) < o.length := of_decide_eq_false hb
    exact List.eq_nil_of_length_eq_zero (by omega)
  exact row_none (by omega) (fun h => h.2.1 ho) (by omega) (by omega)
theorem bad17a {A : Leaf} {a b : Int} {o : List Int} (hA : A = .std) (h : a = 17) (hb : A.cmp .geq b 0 = false) : rowR (a, b) o = none := by
  have := cGeF hA hb
  exact row_none (by omega) (by omega) (by omega) (by omega)
theorem bad17b {A : Leaf} {a b : Int} {o : List Int} (hA : A = .std) (h : a = 17) (hb : A.cmp .leq b 7 = false) : rowR (a, b) o = none := by
  have := cLeF hA hb
  exact row_none (by omega) (by omega) (by omega) (by omega)
theorem bad18a {A : Leaf} {a b : Int} {o : List Int} (hA : A = .std) (h : a = 18) (hb : A.cmp .geq b 0 = false) : rowR (a, b) o = none := by
  have := cGeF hA hb
  exact row_none (by omega) (by omega) (by omega) (by omega)
theorem bad18b {A : Leaf} {a b : Int} {o : List Int} (hA : A = .std) (h : a = 18) (hb : A.cmp .leq b 127 = false) : rowR (a, b) o = none := by
  have := cLeF hA hb
  exact row_none (by omega) (by omega) (by omega) (by omega)
theorem bad0a {A : Leaf} {a b : Int} {o : List Int} (hA : A = .std) (h : a ≠ 16) (h1 : a ≠ 17) (h2 : a ≠ 18) (hb : A.cmp .geq a 0 = false) : rowR (a, b) o = none := by
  have := cGeF hA hb
  exact row_none (by omega) (by omega) (by omega) (by omega)
theorem bad0b {A : Leaf} {a b : Int} {o : List Int} (hA : A = .std) (h : a ≠ 16) (h1 : a ≠ 17) (h2 : a ≠ 18) (hb : A.cmp .leq a 15 = false) : rowR (a, b) o = none := by
  have := cLeF hA hb
  exact row_none (by omega) (by omega) (by omega) (by omega)
theorem bad0c {A : Leaf} {a b : Int} {o : List Int} (hA : A = .std) (h : a ≠ 16) (h1 : a ≠ 17) (h2 : a ≠ 18) (hb : A.cmp .eql b 0 = false) : rowR (a, b) o = none := by
  have := cEqF hA hb
  exact row_none (by omega) (by omega) (by omega) (by omega)
structure K16 (A : Leaf) (a : Int) : Prop where
  k1 : A.cmp .geq a 0 = false → False
  k2 : A.cmp .leq a 15 = true → False
  k3 : A.cmp .eql a 16 = false → False
  k4 : A.cmp .eql a 17 = true → False
  k5 : A.cmp .eql a 18 = true → False
theorem k16 {A : Leaf} {a : Int} (hA : A = .std) (h : a = 16) : K16 A a := ⟨fun b => by have := cGeF hA b; omega, fun b => by have := cLeT hA b; omega, fun b => by have := cEqF hA b; omega, fun b => by have := cEqT hA b; omega, fun b => by have := cEqT hA b; omega⟩
structure K17 (A : Leaf) (a : Int) : Prop where
  k1 : A.cmp .geq a 0 = false → False
  k2 : A.cmp .leq a 15 = true → False
  k3 : A.cmp .eql a 16 = true → False
  k4 : A.cmp .eql a 17 = false → False
  k5 : A.cmp .eql a 18 = true → False
theorem k17 {A : Leaf} {a : Int} (hA : A = .std) (h : a = 17) : K17 A a := ⟨fun b => by have := cGeF hA b; omega, fun b => by have := cLeT hA b; omega, fun b => by have := cEqT hA b; omega, fun b => by have := cEqF hA b; omega, fun b => by have := cEqT hA b; omega⟩
structure K18 (A : Leaf) (a : Int) : Prop where
  k1 : A.cmp .geq a 0 = false → False
  k2 : A.cmp .leq a 15 = true → False
  k3 : A.cmp .eql a 16 = true → False
  k4 : A.cmp .eql a 17 = true → False
  k5 : A.cmp .eql a 18 = false → False
theorem k18 {A : Leaf} {a : Int} (hA : A = .std) (h : a = 18) : K18 A a := ⟨fun b => by have := cGeF hA b; omega, fun b => by have := cLeT hA b; omega, fun b => by have := cEqT hA b; omega, fun b => by have := cEqT hA b; omega, fun b => by have := cEqF hA b; omega⟩
structure K0 (A : Leaf) (a : Int) : Prop where
  k3 : A.cmp .eql a 16 = true → False
  k4 : A.cmp .eql a 17 = true → False
  k5 : A.cmp .eql a 18 = true → False
theorem k0 {A : Leaf} {a : Int} (hA : A = .std) (h : a ≠ 16) (h2 : a ≠ 17) (h3 : a ≠ 18) : K0 A a := ⟨fun b => by have := cEqT hA b; omega, fun b => by have := cEqT hA b; omega, fun b => by have := cEqT hA b; omega⟩
end Go.L1

-- D32
namespace Go.L1
open Go Go.Sx Go.Proofs Go.Huff
set_option maxRecDepth 20000
set_option linter.unusedVariables false
set_option linter.unusedSimpArgs false
def RunIs2 (items : List Pr) (rs : List (SV T1)) (H : List (Ch T1)) : Prop :=
  (∃ l, rs = [.own 1, .bool (.lit true)] ∧ H = [.row 118 (.recs 2 items), .row 3 (.ints .i64 l)] ∧ unpackR (prs items) [] = some l ∧ l.length ≤ 320) ∨ (rs = [.val (.slice none 0 0), .bool (.lit false)] ∧ H = [.row 118 (.recs 2 items)] ∧ unpackR (prs items) [] = none)
set_option maxHeartbeats 4000000 in
theorem runpack_own (items : List Pr) (hp : UnP items) : FOK Try.prog C1 75 (fun c => Nat.beq c 0) [.own 0] [.row 118 (.recs 2 items)] (RunIs2 items) := by
  refine fok_of (B := ⟨lookT tis, fun c => Nat.beq c 0, []⟩) (tab1 _) (zero1 _) cod1 mix1 Try.func75 (by kernel_rfl) rfl rfl rfl fun X F => ?_
  obtain ⟨A, hA⟩ : ∃ A, A = Leaf.std := ⟨_, rfl⟩
  refine F.hold hA 2000 ?_
  cbv
  repeat (first
    | refine OK.drawn (by decide +kernel) ?_
    | refine OK.tree ⟨lookT tis, fun _ => true, []⟩ (by decide +kernel) ?_
    | refine OK.need (by first | assumption | (rw [hA]; first | (show (_ : Int) ≠ _; decide) | (show (0 : Int) ≤ _; decide) | (show (0 : Int) ≤ _ ∧ _ < (256 : Int); decide))) ?_
    | (refine F.hold hA 2000 ?_; cbv))
  refine F.loop (V := List Int × Int) [0] (UnInv items) (fun w => (items.length - w.2).toNat) (fun w => [(4, .own 1), (5, .int .i64 w.2)]) (fun w => [(1, .row 3 (.ints .i64 w.1))]) (_, _) (by cbv; repeat (first | exact WkH.nil _ | apply WkH.gone | refine WkH.eq rfl ?_)) (by cbv; repeat (first | apply WkL.any | exact WkL.nil _ | refine WkL.eq rfl ?_ | refine WkL.bool rfl ?_)) (by cbv; exact ⟨rfl⟩) ?_ ?_
  · exact ⟨0, rfl, Nat.zero_le _, Nat.zero_le _, rfl⟩
  rintro ⟨o, i⟩ hI Bk hBkO
  repeat (first
    | refine OK.drawn (by decide +kernel) ?_
    | refine OK.tree ⟨lookT tis, fun _ => true, []⟩ (by decide +kernel) ?_
    | refine OK.need (by first | assumption | (rw [hA]; first | (show (_ : Int) ≠ _; decide) | (show (0 : Int) ≤ _; decide) | (show (0 : Int) ≤ _ ∧ _ < (256 : Int); decide))) ?_
    | (refine F.hold hA 2000 ?_; cbv))
  refine OK.branch (fun b1 => ?_) (fun b1 => ?_)
  · have hat := upE hA hp hI b1
    have hoo := hat.ip.le
    have q := hat.q
    by_cases c16 : (A.get (⟨0, 0⟩ : Pr) items i).a = 16
    · obtain ⟨k1, k2, k3, k4, k5⟩ := k16 hA c16
      repeat' (first
        | contradiction
        | exact (k1 (by assumption)).elim
        | exact (k2 (by assumption)).elim
        | exact (k3 (by assumption)).elim
        | exact (k4 (by assumption)).elim
        | exact (k5 (by assumption)).elim
        | refine OK.drawn (by decide +kernel) ?_
        | refine OK.tree ⟨lookT tis, fun _ => true, []⟩ (by decide +kernel) ?_
        | refine OK.both ?_ ?_
        | refine OK.need (by first | assumption | (rw [hA]; first | (show (_ : Int) ≠ _; decide) | (show (0 : Int) ≤ _; decide) | (show (0 : Int) ≤ _ ∧ _ < (256 : Int); decide))) ?_
        | refine OK.need ?_ ?_
        | (refine OK.branch ?_ ?_ <;> intro h)
        | (refine F.hold hA 2000 ?_; cbv))
      · exact (up16 hA hoo c16 (cGeT hA (by assumption)) (cLeT hA (by assumption)) (by assumption)).1
      · exact (up16 hA hoo c16 (cGeT hA (by assumption)) (cLeT hA (by assumption)) (by assumption)).1
      · have hG := (up16 hA hoo c16 (cGeT hA (by assumption)) (cLeT hA (by assumption)) (by assumption)).2
        refine F.loop (V := Int × List Int) [0, 4, 5, 7, 8] (InInv o (A.ar .add .i64 3 (A.get (⟨0, 0⟩ : Pr) items i).b) (A.get 0 o (A.ar .sub .i64 (A.len o) 1))) (fun w => ((A.ar .add .i64 3 (A.get (⟨0, 0⟩ : Pr) items i).b) - w.1).toNat) (fun w => [(9, .int .i64 w.1)]) (fun w => [(1, .row 3 (.ints .i64 w.2))]) (_, _) (by cbv; repeat (first | exact WkH.nil _ | apply WkH.gone | refine WkH.eq rfl ?_)) (by cbv; repeat (first | apply WkL.any | exact WkL.nil _ | refine WkL.eq rfl ?_ | refine WkL.bool rfl ?_)) (by cbv; exact ⟨rfl⟩) ?_ ?_
        · exact ⟨0, rfl, hG.n0, by simp⟩
        rintro ⟨kk, o2⟩ hJ Bk hBk
        repeat (first
          | refine OK.drawn (by decide +kernel) ?_
          | refine OK.tree ⟨lookT tis, fun _ => true, []⟩ (by decide +kernel) ?_
          | refine OK.need (by first | assumption | (rw [hA]; first | (show (_ : Int) ≠ _; decide) | (show (0 : Int) ≤ _; decide) | (show (0 : Int) ≤ _ ∧ _ < (256 : Int); decide))) ?_
          | (refine F.hold hA 2000 ?_; cbv))
        refine OK.branch (fun d1 => ?_) (fun d1 => ?_)
        · have hin := inA hA hG hJ d1
          have q2 := hin.q
          repeat (first
            | refine OK.drawn (by decide +kernel) ?_
            | refine OK.tree ⟨lookT tis, fun _ => true, []⟩ (by decide +kernel) ?_
            | refine OK.need (by first | assumption | (rw [hA]; first | (show (_ : Int) ≠ _; decide) | (show (0 : Int) ≤ _; decide) | (show (0 : Int) ≤ _ ∧ _ < (256 : Int); decide))) ?_
            | (refine F.hold hA 2000 ?_; cbv))
          refine OK.back (hBk _ _ (_, _) (by cbv; repeat (first | exact WkH.nil _ | apply WkH.gone | refine WkH.eq rfl ?_)) (by cbv; repeat (first | apply WkL.any | exact WkL.nil _ | refine WkL.eq rfl ?_ | refine WkL.bool rfl ?_)) (by cbv; exact ⟨rfl⟩) ?_ ?_)
          · exact hin.nx
          · exact hin.mu
        have hfi := inF hA hat hG hJ d1
        clear hBk
        have hBk := hBkO
        repeat (first
          | refine OK.drawn (by decide +kernel) ?_
          | refine OK.tree ⟨lookT tis, fun _ => true, []⟩ (by decide +kernel) ?_
          | refine OK.need (by first | assumption | (rw [hA]; first | (show (_ : Int) ≠ _; decide) | (show (0 : Int) ≤ _; decide) | (show (0 : Int) ≤ _ ∧ _ < (256 : Int); decide))) ?_
          | (refine F.hold hA 2000 ?_; cbv))
        refine OK.branch (fun d2 => ?_) (fun d2 => ?_)
        · repeat (first
            | refine OK.drawn (by decide +kernel) ?_
            | refine OK.tree ⟨lookT tis, fun _ => true, []⟩ (by decide +kernel) ?_
            | refine OK.need (by first | assumption | (rw [hA]; first | (show (_ : Int) ≠ _; decide) | (show (0 : Int) ≤ _; decide) | (show (0 : Int) ≤ _ ∧ _ < (256 : Int); decide))) ?_
            | (refine F.hold hA 2000 ?_; cbv))
          exact F.ret (H' := [_]) (F.cv ⟨rfl⟩ (.eq rfl (.eq rfl (.nil _))) (.eq rfl (.nil _))) rfl (.inr ⟨rfl, rfl, hfi.bad d2⟩)
        repeat (first
          | refine OK.drawn (by decide +kernel) ?_
          | refine OK.tree ⟨lookT tis, fun _ => true, []⟩ (by decide +kernel) ?_
          | refine OK.need (by first | assumption | (rw [hA]; first | (show (_ : Int) ≠ _; decide) | (show (0 : Int) ≤ _; decide) | (show (0 : Int) ≤ _ ∧ _ < (256 : Int); decide))) ?_
          | (refine F.hold hA 2000 ?_; cbv))
        refine OK.back (hBk _ _ (_, _) (by cbv; repeat (first | exact WkH.nil _ | apply WkH.gone | refine WkH.eq rfl ?_)) (by cbv; repeat (first | apply WkL.any | exact WkL.nil _ | refine WkL.eq rfl ?_ | refine WkL.bool rfl ?_)) (by cbv; exact ⟨rfl⟩) ?_ ?_)
        · exact (hfi.nx d2).1
        · exact (hfi.nx d2).2
      all_goals exact F.ret (H' := [_]) (F.cv ⟨rfl⟩ (.eq rfl (.eq rfl (.nil _))) (.eq rfl (.nil _))) rfl (.inr ⟨rfl, rfl, upBad hat (by first | exact bad16a hA c16 (by assumption) | exact bad16b hA c16 (by assumption) | exact bad16c hA c16 (by assumption))⟩)
    by_cases c17 : (A.get (⟨0, 0⟩ : Pr) items i).a = 17
    · obtain ⟨k1, k2, k3, k4, k5⟩ := k17 hA c17
      repeat' (first
        | contradiction
        | exact (k1 (by assumption)).elim
        | exact (k2 (by assumption)).elim
        | exact (k3 (by assumption)).elim
        | exact (k4 (by assumption)).elim
        | exact (k5 (by assumption)).elim
        | refine OK.drawn (by decide +kernel) ?_
        | refine OK.tree ⟨lookT tis, fun _ => true, []⟩ (by decide +kernel) ?_
        | refine OK.both ?_ ?_
        | refine OK.need (by first | assumption | (rw [hA]; first | (show (_ : Int) ≠ _; decide) | (show (0 : Int) ≤ _; decide) | (show (0 : Int) ≤ _ ∧ _ < (256 : Int); decide))) ?_
        | refine OK.need ?_ ?_
        | (refine OK.branch ?_ ?_ <;> intro h)
        | (refine F.hold hA 2000 ?_; cbv))
      · have hG := up17 hA hoo c17 (cGeT hA (by assumption)) (cLeT hA (by assumption))
        refine F.loop (V := Int × List Int) [0, 4, 5, 7, 8] (InInv o (A.ar .add .i64 3 (A.get (⟨0, 0⟩ : Pr) items i).b) (0)) (fun w => ((A.ar .add .i64 3 (A.get (⟨0, 0⟩ : Pr) items i).b) - w.1).toNat) (fun w => [(9, .int .i64 w.1)]) (fun w => [(1, .row 3 (.ints .i64 w.2))]) (_, _) (by cbv; repeat (first | exact WkH.nil _ | apply WkH.gone | refine WkH.eq rfl ?_)) (by cbv; repeat (first | apply WkL.any | exact WkL.nil _ | refine WkL.eq rfl ?_ | refine WkL.bool rfl ?_)) (by cbv; exact ⟨rfl⟩) ?_ ?_
        · exact ⟨0, rfl, hG.n0, by simp⟩
        rintro ⟨kk, o2⟩ hJ Bk hBk
        repeat (first
          | refine OK.drawn (by decide +kernel) ?_
          | refine OK.tree ⟨lookT tis, fun _ => true, []⟩ (by decide +kernel) ?_
          | refine OK.need (by first | assumption | (rw [hA]; first | (show (_ : Int) ≠ _; decide) | (show (0 : Int) ≤ _; decide) | (show (0 : Int) ≤ _ ∧ _ < (256 : Int); decide))) ?_
          | (refine F.hold hA 2000 ?_; cbv))
        refine OK.branch (fun d1 => ?_) (fun d1 => ?_)
        · have hin := inA hA hG hJ d1
          have q2 := hin.q
          repeat (first
            | refine OK.drawn (by decide +kernel) ?_
            | refine OK.tree ⟨lookT tis, fun _ => true, []⟩ (by decide +kernel) ?_
            | refine OK.need (by first | assumption | (rw [hA]; first | (show (_ : Int) ≠ _; decide) | (show (0 : Int) ≤ _; decide) | (show (0 : Int) ≤ _ ∧ _ < (256 : Int); decide))) ?_
            | (refine F.hold hA 2000 ?_; cbv))
          refine OK.back (hBk _ _ (_, _) (by cbv; repeat (first | exact WkH.nil _ | apply WkH.gone | refine WkH.eq rfl ?_)) (by cbv; repeat (first | apply WkL.any | exact WkL.nil _ | refine WkL.eq rfl ?_ | refine WkL.bool rfl ?_)) (by cbv; exact ⟨rfl⟩) ?_ ?_)
          · exact hin.nx
          · exact hin.mu
        have hfi := inF hA hat hG hJ d1
        clear hBk
        have hBk := hBkO
        repeat (first
          | refine OK.drawn (by decide +kernel) ?_
          | refine OK.tree ⟨lookT tis, fun _ => true, []⟩ (by decide +kernel) ?_
          | refine OK.need (by first | assumption | (rw [hA]; first | (show (_ : Int) ≠ _; decide) | (show (0 : Int) ≤ _; decide) | (show (0 : Int) ≤ _ ∧ _ < (256 : Int); decide))) ?_
          | (refine F.hold hA 2000 ?_; cbv))
        refine OK.branch (fun d2 => ?_) (fun d2 => ?_)
        · repeat (first
            | refine OK.drawn (by decide +kernel) ?_
            | refine OK.tree ⟨lookT tis, fun _ => true, []⟩ (by decide +kernel) ?_
            | refine OK.need (by first | assumption | (rw [hA]; first | (show (_ : Int) ≠ _; decide) | (show (0 : Int) ≤ _; decide) | (show (0 : Int) ≤ _ ∧ _ < (256 : Int); decide))) ?_
            | (refine F.hold hA 2000 ?_; cbv))
          exact F.ret (H' := [_]) (F.cv ⟨rfl⟩ (.eq rfl (.eq rfl (.nil _))) (.eq rfl (.nil _))) rfl (.inr ⟨rfl, rfl, hfi.bad d2⟩)
        repeat (first
          | refine OK.drawn (by decide +kernel) ?_
          | refine OK.tree ⟨lookT tis, fun _ => true, []⟩ (by decide +kernel) ?_
          | refine OK.need (by first | assumption | (rw [hA]; first | (show (_ : Int) ≠ _; decide) | (show (0 : Int) ≤ _; decide) | (show (0 : Int) ≤ _ ∧ _ < (256 : Int); decide))) ?_
          | (refine F.hold hA 2000 ?_; cbv))
        refine OK.back (hBk _ _ (_, _) (by cbv; repeat (first | exact WkH.nil _ | apply WkH.gone | refine WkH.eq rfl ?_)) (by cbv; repeat (first | apply WkL.any | exact WkL.nil _ | refine WkL.eq rfl ?_ | refine WkL.bool rfl ?_)) (by cbv; exact ⟨rfl⟩) ?_ ?_)
        · exact (hfi.nx d2).1
        · exact (hfi.nx d2).2
      all_goals exact F.ret (H' := [_]) (F.cv ⟨rfl⟩ (.eq rfl (.eq rfl (.nil _))) (.eq rfl (.nil _))) rfl (.inr ⟨rfl, rfl, upBad hat (by first | exact bad17a hA c17 (by assumption) | exact bad17b hA c17 (by assumption))⟩)
    by_cases c18 : (A.get (⟨0, 0⟩ : Pr) items i).a = 18
    · obtain ⟨k1, k2, k3, k4, k5⟩ := k18 hA c18
      repeat' (first
        | contradiction
        | exact (k1 (by assumption)).elim
        | exact (k2 (by assumption)).elim
        | exact (k3 (by assumption)).elim
        | exact (k4 (by assumption)).elim
        | exact (k5 (by assumption)).elim
        | refine OK.drawn (by decide +kernel) ?_
        | refine OK.tree ⟨lookT tis, fun _ => true, []⟩ (by decide +kernel) ?_
        | refine OK.both ?_ ?_
        | refine OK.need (by first | assumption | (rw [hA]; first | (show (_ : Int) ≠ _; decide) | (show (0 : Int) ≤ _; decide) | (show (0 : Int) ≤ _ ∧ _ < (256 : Int); decide))) ?_
        | refine OK.need ?_ ?_
        | (refine OK.branch ?_ ?_ <;> intro h)
        | (refine F.hold hA 2000 ?_; cbv))
      · have hG := up18 hA hoo c18 (cGeT hA (by assumption)) (cLeT hA (by assumption))
        refine F.loop (V := Int × List Int) [0, 4, 5, 7, 8] (InInv o (A.ar .add .i64 11 (A.get (⟨0, 0⟩ : Pr) items i).b) (0)) (fun w => ((A.ar .add .i64 11 (A.get (⟨0, 0⟩ : Pr) items i).b) - w.1).toNat) (fun w => [(9, .int .i64 w.1)]) (fun w => [(1, .row 3 (.ints .i64 w.2))]) (_, _) (by cbv; repeat (first | exact WkH.nil _ | apply WkH.gone | refine WkH.eq rfl ?_)) (by cbv; repeat (first | apply WkL.any | exact WkL.nil _ | refine WkL.eq rfl ?_ | refine WkL.bool rfl ?_)) (by cbv; exact ⟨rfl⟩) ?_ ?_
        · exact ⟨0, rfl, hG.n0, by simp⟩
        rintro ⟨kk, o2⟩ hJ Bk hBk
        repeat (first
          | refine OK.drawn (by decide +kernel) ?_
          | refine OK.tree ⟨lookT tis, fun _ => true, []⟩ (by decide +kernel) ?_
          | refine OK.need (by first | assumption | (rw [hA]; first | (show (_ : Int) ≠ _; decide) | (show (0 : Int) ≤ _; decide) | (show (0 : Int) ≤ _ ∧ _ < (256 : Int); decide))) ?_
          | (refine F.hold hA 2000 ?_; cbv))
        refine OK.branch (fun d1 => ?_) (fun d1 => ?_)
        · have hin := inA hA hG hJ d1
          have q2 := hin.q
          repeat (first
            | refine OK.drawn (by decide +kernel) ?_
            | refine OK.tree ⟨lookT tis, fun _ => true, []⟩ (by decide +kernel) ?_
            | refine OK.need (by first | assumption | (rw [hA]; first | (show (_ : Int) ≠ _; decide) | (show (0 : Int) ≤ _; decide) | (show (0 : Int) ≤ _ ∧ _ < (256 : Int); decide))) ?_
            | (refine F.hold hA 2000 ?_; cbv))
          refine OK.back (hBk _ _ (_, _) (by cbv; repeat (first | exact WkH.nil _ | apply WkH.gone | refine WkH.eq rfl ?_)) (by cbv; repeat (first | apply WkL.any | exact WkL.nil _ | refine WkL.eq rfl ?_ | refine WkL.bool rfl ?_)) (by cbv; exact ⟨rfl⟩) ?_ ?_)
          · exact hin.nx
          · exact hin.mu
        have hfi := inF hA hat hG hJ d1
        clear hBk
        have hBk := hBkO
        repeat (first
          | refine OK.drawn (by decide +kernel) ?_
          | refine OK.tree ⟨lookT tis, fun _ => true, []⟩ (by decide +kernel) ?_
          | refine OK.need (by first | assumption | (rw [hA]; first | (show (_ : Int) ≠ _; decide) | (show (0 : Int) ≤ _; decide) | (show (0 : Int) ≤ _ ∧ _ < (256 : Int); decide))) ?_
          | (refine F.hold hA 2000 ?_; cbv))
        refine OK.branch (fun d2 => ?_) (fun d2 => ?_)
        · repeat (first
            | refine OK.drawn (by decide +kernel) ?_
            | refine OK.tree ⟨lookT tis, fun _ => true, []⟩ (by decide +kernel) ?_
            | refine OK.need (by first | assumption | (rw [hA]; first | (show (_ : Int) ≠ _; decide) | (show (0 : Int) ≤ _; decide) | (show (0 : Int) ≤ _ ∧ _ < (256 : Int); decide))) ?_
            | (refine F.hold hA 2000 ?_; cbv))
          exact F.ret (H' := [_]) (F.cv ⟨rfl⟩ (.eq rfl (.eq rfl (.nil _))) (.eq rfl (.nil _))) rfl (.inr ⟨rfl, rfl, hfi.bad d2⟩)
        repeat (first
          | refine OK.drawn (by decide +kernel) ?_
          | refine OK.tree ⟨lookT tis, fun _ => true, []⟩ (by decide +kernel) ?_
          | refine OK.need (by first | assumption | (rw [hA]; first | (show (_ : Int) ≠ _; decide) | (show (0 : Int) ≤ _; decide) | (show (0 : Int) ≤ _ ∧ _ < (256 : Int); decide))) ?_
          | (refine F.hold hA 2000 ?_; cbv))
        refine OK.back (hBk _ _ (_, _) (by cbv; repeat (first | exact WkH.nil _ | apply WkH.gone | refine WkH.eq rfl ?_)) (by cbv; repeat (first | apply WkL.any | exact WkL.nil _ | refine WkL.eq rfl ?_ | refine WkL.bool rfl ?_)) (by cbv; exact ⟨rfl⟩) ?_ ?_)
        · exact (hfi.nx d2).1
        · exact (hfi.nx d2).2
      all_goals exact F.ret (H' := [_]) (F.cv ⟨rfl⟩ (.eq rfl (.eq rfl (.nil _))) (.eq rfl (.nil _))) rfl (.inr ⟨rfl, rfl, upBad hat (by first | exact bad18a hA c18 (by assumption) | exact bad18b hA c18 (by assumption))⟩)
    obtain ⟨k3, k4, k5⟩ := k0 hA c16 c17 c18
    repeat' (first
      | contradiction
      | exact (k3 (by assumption)).elim
      | exact (k4 (by assumption)).elim
      | exact (k5 (by assumption)).elim
      | refine OK.drawn (by decide +kernel) ?_
      | refine OK.tree ⟨lookT tis, fun _ => true, []⟩ (by decide +kernel) ?_
      | refine OK.both ?_ ?_
      | refine OK.need (by first | assumption | (rw [hA]; first | (show (_ : Int) ≠ _; decide) | (show (0 : Int) ≤ _; decide) | (show (0 : Int) ≤ _ ∧ _ < (256 : Int); decide))) ?_
      | refine OK.need ?_ ?_
      | (refine OK.branch ?_ ?_ <;> intro h)
      | (refine F.hold hA 2000 ?_; cbv))
    · have hG := up15 hoo (cGeT hA (by assumption)) (cLeT hA (by assumption)) (cEqT hA (by assumption))
      refine F.loop (V := Int × List Int) [0, 4, 5, 7, 8] (InInv o (1) ((A.get (⟨0, 0⟩ : Pr) items i).a)) (fun w => ((1) - w.1).toNat) (fun w => [(9, .int .i64 w.1)]) (fun w => [(1, .row 3 (.ints .i64 w.2))]) (_, _) (by cbv; repeat (first | exact WkH.nil _ | apply WkH.gone | refine WkH.eq rfl ?_)) (by cbv; repeat (first | apply WkL.any | exact WkL.nil _ | refine WkL.eq rfl ?_ | refine WkL.bool rfl ?_)) (by cbv; exact ⟨rfl⟩) ?_ ?_
      · exact ⟨0, rfl, hG.n0, by simp⟩
      rintro ⟨kk, o2⟩ hJ Bk hBk
      repeat (first
        | refine OK.drawn (by decide +kernel) ?_
        | refine OK.tree ⟨lookT tis, fun _ => true, []⟩ (by decide +kernel) ?_
        | refine OK.need (by first | assumption | (rw [hA]; first | (show (_ : Int) ≠ _; decide) | (show (0 : Int) ≤ _; decide) | (show (0 : Int) ≤ _ ∧ _ < (256 : Int); decide))) ?_
        | (refine F.hold hA 2000 ?_; cbv))
      refine OK.branch (fun d1 => ?_) (fun d1 => ?_)
      · have hin := inA hA hG hJ d1
        have q2 := hin.q
        repeat (first
          | refine OK.drawn (by decide +kernel) ?_
          | refine OK.tree ⟨lookT tis, fun _ => true, []⟩ (by decide +kernel) ?_
          | refine OK.need (by first | assumption | (rw [hA]; first | (show (_ : Int) ≠ _; decide) | (show (0 : Int) ≤ _; decide) | (show (0 : Int) ≤ _ ∧ _ < (256 : Int); decide))) ?_
          | (refine F.hold hA 2000 ?_; cbv))
        refine OK.back (hBk _ _ (_, _) (by cbv; repeat (first | exact WkH.nil _ | apply WkH.gone | refine WkH.eq rfl ?_)) (by cbv; repeat (first | apply WkL.any | exact WkL.nil _ | refine WkL.eq rfl ?_ | refine WkL.bool rfl ?_)) (by cbv; exact ⟨rfl⟩) ?_ ?_)
        · exact hin.nx
        · exact hin.mu
      have hfi := inF hA hat hG hJ d1
      clear hBk
      have hBk := hBkO
      repeat (first
        | refine OK.drawn (by decide +kernel) ?_
        | refine OK.tree ⟨lookT tis, fun _ => true, []⟩ (by decide +kernel) ?_
        | refine OK.need (by first | assumption | (rw [hA]; first | (show (_ : Int) ≠ _; decide) | (show (0 : Int) ≤ _; decide) | (show (0 : Int) ≤ _ ∧ _ < (256 : Int); decide))) ?_
        | (refine F.hold hA 2000 ?_; cbv))
      refine OK.branch (fun d2 => ?_) (fun d2 => ?_)
      · repeat (first
          | refine OK.drawn (by decide +kernel) ?_
          | refine OK.tree ⟨lookT tis, fun _ => true, []⟩ (by decide +kernel) ?_
          | refine OK.need (by first | assumption | (rw [hA]; first | (show (_ : Int) ≠ _; decide) | (show (0 : Int) ≤ _; decide) | (show (0 : Int) ≤ _ ∧ _ < (256 : Int); decide))) ?_
          | (refine F.hold hA 2000 ?_; cbv))
        exact F.ret (H' := [_]) (F.cv ⟨rfl⟩ (.eq rfl (.eq rfl (.nil _))) (.eq rfl (.nil _))) rfl (.inr ⟨rfl, rfl, hfi.bad d2⟩)
      repeat (first
        | refine OK.drawn (by decide +kernel) ?_
        | refine OK.tree ⟨lookT tis, fun _ => true, []⟩ (by decide +kernel) ?_
        | refine OK.need (by first | assumption | (rw [hA]; first | (show (_ : Int) ≠ _; decide) | (show (0 : Int) ≤ _; decide) | (show (0 : Int) ≤ _ ∧ _ < (256 : Int); decide))) ?_
        | (refine F.hold hA 2000 ?_; cbv))
      refine OK.back (hBk _ _ (_, _) (by cbv; repeat (first | exact WkH.nil _ | apply WkH.gone | refine WkH.eq rfl ?_)) (by cbv; repeat (first | apply WkL.any | exact WkL.nil _ | refine WkL.eq rfl ?_ | refine WkL.bool rfl ?_)) (by cbv; exact ⟨rfl⟩) ?_ ?_)
      · exact (hfi.nx d2).1
      · exact (hfi.nx d2).2
    all_goals exact F.ret (H' := [_]) (F.cv ⟨rfl⟩ (.eq rfl (.eq rfl (.nil _))) (.eq rfl (.nil _))) rfl (.inr ⟨rfl, rfl, upBad hat (by first | exact bad0a hA c16 c17 c18 (by assumption) | exact bad0b hA c16 c17 c18 (by assumption) | exact bad0c hA c16 c17 c18 (by assumption))⟩)
    done
  have hf := hI.fin hA b1
  clear hBkO
  repeat (first
    | refine OK.drawn (by decide +kernel) ?_
    | refine OK.tree ⟨lookT tis, fun _ => true, []⟩ (by decide +kernel) ?_
    | refine OK.need (by first | assumption | (rw [hA]; first | (show (_ : Int) ≠ _; decide) | (show (0 : Int) ≤ _; decide) | (show (0 : Int) ≤ _ ∧ _ < (256 : Int); decide))) ?_
    | (refine F.hold hA 2000 ?_; cbv))
  exact F.ret0 (.inl ⟨_, rfl, rfl, hf.1, hf.2⟩)
end Go.L1

-- D31
namespace Go.L1
open Go Go.Sx Go.Proofs Go.Huff
set_option maxRecDepth 20000
set_option linter.unusedVariables false
set_option linter.unusedSimpArgs false
/-- What a block whose codes are told is shown to do. -/
def RtoIs (xs : List UInt8) (lim p : Int) (out : List UInt8) (k p' : Int) (out' : List UInt8) (e1 k' : Int) : Prop :=
  (e1 = 0 ∧ toldR xs lim p out k = .ok (p', out', k') ∧ SySt xs lim p' out' k') ∨ (e1 ≠ 0 ∧ toldR xs lim p out k = .error e1)
def RtN (xs : List UInt8) (p : Int) (R : Er (Int × List UInt8 × Int)) (v1 v2 v3 p3 e3 : Int) : Prop :=
  (e3 = 0 ∧ ∃ p1 p2, numR xs p 5 = .ok (v1, p1) ∧ numR xs p1 5 = .ok (v2, p2) ∧ numR xs p2 4 = .ok (v3, p3)) ∨ (e3 ≠ 0 ∧ v3 = 0 ∧ R = .error e3)
theorem rtN {xs out : List UInt8} {lim p k v1 p1 e1 v2 p2 e2 v3 p3 e3 : Int} (h1 : NumRes xs p 5 0 v1 p1 e1) (h2 : NumRes xs p1 5 e1 v2 p2 e2) (h3 : NumRes xs p2 4 e2 v3 p3 e3) : RtN xs p (toldR xs lim p out k) v1 v2 v3 p3 e3 := by
  rcases h1 with ⟨_, rfl, h1⟩ | ⟨_, rfl, h1, _, _⟩ | ⟨h, _⟩
  case inr.inr => exact absurd rfl h
  · rcases h2 with ⟨_, rfl, h2⟩ | ⟨_, rfl, h2, _, _⟩ | ⟨h, _⟩
    case inr.inr => exact absurd rfl h
    · rcases h3 with ⟨_, rfl, h3⟩ | ⟨_, rfl, h3, rfl, _⟩ | ⟨h, _⟩
      case inr.inr => exact absurd rfl h
      · exact .inl ⟨rfl, _, _, h1, h2, h3⟩
      · exact .inr ⟨by decide, rfl, told_e3 h1 h2 h3⟩
    · rcases h3 with ⟨h, _⟩ | ⟨h, _⟩ | ⟨_, rfl, rfl, _⟩
      · exact absurd h (by decide)
      · exact absurd h (by decide)
      · exact .inr ⟨by decide, rfl, told_e2 h1 h2⟩
  · rcases h2 with ⟨h, _⟩ | ⟨h, _⟩ | ⟨_, rfl, _, _⟩
    · exact absurd h (by decide)
    · exact absurd h (by decide)
    · rcases h3 with ⟨h, _⟩ | ⟨h, _⟩ | ⟨_, rfl, rfl, _⟩
      · exact absurd h (by decide)
      · exact absurd h (by decide)
      · exact .inr ⟨by decide, rfl, told_e1 h1⟩
def ordL : List Int := [16, 17, 18, 0, 8, 7, 9, 6, 10, 5, 11, 4, 12, 3, 13, 2, 14, 1, 15]
theorem ordL_get : ∀ j : Nat, j < 19 → ordL.getD j 0 = (orderN.getD j 0 : Nat) ∧ orderN.getD j 0 < 19 := by
  have : ∀ j : Fin 19, ordL.getD j.1 0 = (orderN.getD j.1 0 : Nat) ∧ orderN.getD j.1 0 < 19 := by decide
  exact fun j hj => this ⟨j, hj⟩
def OwI (xs : List UInt8) (R : Er (Int × List UInt8 × Int)) (G : Prop) (nn : Nat) (p3 : Int) (w : Int × List Int × Int × Int) : Prop :=
  ∃ j : Nat, w.1 = j ∧ j ≤ 19 ∧ w.2.1.length = 19 ∧ 0 ≤ w.2.2.1 ∧ w.2.2.1 ≤ 8 * (xs.length : Int) ∧
    ((w.2.2.2 = 0 ∧ G ∧ p3 ≤ w.2.2.1 ∧ ownR xs (orderN.take (nn + 4)) p3 (List.replicate 19 0) = ownR xs ((orderN.take (nn + 4)).drop j) w.2.2.1 w.2.1) ∨ (w.2.2.2 ≠ 0 ∧ R = .error w.2.2.2))
structure OwA (A : Leaf) (xs row : List UInt8) (R : Er (Int × List UInt8 × Int)) (G : Prop) (nn : Nat) (p3 i : Int) (own : List Int) (p e : Int) : Prop where
  q1 : A.inb i (A.len ordL)
  q2 : A.inb (A.get 0 ordL i) (A.len own)
  pr : RPre row (valBytes xs) (8 * xs.length) p
  nx : ∀ v p' e', NumRes xs p 3 e v p' e' → OwI xs R G nn p3 (A.ar .add .i64 i 1, A.set own (A.get 0 ordL i) v, p', e')
  mu : (19 - A.ar .add .i64 i 1).toNat < (19 - i).toNat
theorem owA {A : Leaf} {xs row own : List _} {R : Er (Int × List UInt8 × Int)} {G : Prop} {nn : Nat} {p3 i p e v3 : Int} (hA : A = .std) (hrow : RowOf xs row) (hxl : xs.length ≤ 400) (hv : v3 = nn) (hnn : nn ≤ 15)
    (hG : G → ∀ e, ownR xs (orderN.take (nn + 4)) p3 (List.replicate 19 0) = .error e → R = .error e) (hI : OwI xs R G nn p3 (i, own, p, e)) (b1 : A.cmp .lss i (A.ar .add .i64 v3 4) = true) (b2 : A.cmp .lss i 19 = true) : OwA A xs row R G nn p3 i own p e := by
  obtain ⟨j, h1, h2, h3, h4, h5, h6⟩ := hI
  simp only at h1 h3 h4 h5 h6
  subst hA h1 hv
  have b2 : (j : Int) < 19 := of_decide_eq_true b2
  have e4 : Leaf.std.ar .add .i64 (nn : Int) 4 = nn + 4 := add_i64 (by omega) (by omega)
  rw [e4] at b1
  have b1 : (j : Int) < nn + 4 := of_decide_eq_true b1
  have hj : j < 19 := by omega
  obtain ⟨g1, g2⟩ := ordL_get j hj
  have eg : Leaf.std.get 0 ordL (j : Int) = (orderN.getD j 0 : Nat) := by
    show ordL.getD (j : Int).toNat 0 = _
    rw [Int.toNat_natCast, g1]
  have e1 : Leaf.std.ar .add .i64 (j : Int) 1 = ((j + 1 : Nat) : Int) := by rw [add_i64 (by omega) (by omega)]; omega
  have hol : orderN.length = 19 := rfl
  have htl : (orderN.take (nn + 4)).length = min (nn + 4) 19 := by rw [List.length_take, hol]
  have hdr : (orderN.take (nn + 4)).drop j = orderN.getD j 0 :: (orderN.take (nn + 4)).drop (j + 1) := by
    have hjt : j < (orderN.take (nn + 4)).length := by rw [htl]; omega
    rw [List.drop_eq_getElem_cons hjt, List.getElem_take]
    congr 1
    simp [List.getD_eq_getElem?_getD, show j < orderN.length from by rw [hol]; exact hj]
  refine ⟨?_, ?_, ⟨hrow, by omega, h4, by omega⟩, fun v p' e' hn => ?_, by rw [e1]; omega⟩
  · show (0 : Int) ≤ (j : Int) ∧ (j : Int) < (19 : Int); omega
  · rw [eg]; show (0 : Int) ≤ _ ∧ _ < ((own.length : Nat) : Int); rw [h3]; omega
  · rw [e1, eg]
    have es : Leaf.std.set own ((orderN.getD j 0 : Nat) : Int) v = own.set (orderN.getD j 0) v := by show own.set _ v = _; rw [Int.toNat_natCast]
    rw [es]
    have hl : (own.set (orderN.getD j 0) v).length = 19 := by rw [List.length_set]; exact h3
    rcases hn with ⟨rfl, rfl, hn⟩ | ⟨rfl, rfl, hn, _, rfl⟩ | ⟨he, rfl, _, rfl⟩
    · rcases h6 with ⟨_, hg, h7, h8⟩ | ⟨h, _⟩
      case inr => exact absurd rfl h
      have k := num_nn hn
      refine ⟨j + 1, rfl, by omega, hl, by simp only; omega, by simp only; omega, .inl ⟨rfl, hg, by simp only; omega, ?_⟩⟩
      rw [h8, hdr]
      simp only [ownR, bind, Except.bind, hn]
    · rcases h6 with ⟨_, hg, h7, h8⟩ | ⟨h, _⟩
      case inr => exact absurd rfl h
      refine ⟨j + 1, rfl, by omega, hl, h4, h5, .inr ⟨show (15 : Int) ≠ 0 by decide, hG hg 15 ?_⟩⟩
      rw [h8, hdr]
      simp only [ownR, bind, Except.bind, hn]
    · rcases h6 with ⟨h, _⟩ | ⟨h, h7⟩
      · exact absurd h he
      · exact ⟨j + 1, rfl, by omega, hl, h4, h5, .inr ⟨h, h7⟩⟩
theorem owEnd {A : Leaf} {xs own : List _} {R : Er (Int × List UInt8 × Int)} {G : Prop} {nn : Nat} {p3 i p v3 : Int} (hA : A = .std) (hv : v3 = nn) (hnn : nn ≤ 15) (hI : OwI xs R G nn p3 (i, own, p, 0))
    (b : A.cmp .lss i (A.ar .add .i64 v3 4) = false ∨ A.cmp .lss i 19 = false) : G ∧ ownR xs (orderN.take (nn + 4)) p3 (List.replicate 19 0) = .ok (p, own) ∧ own.length = 19 ∧ p3 ≤ p ∧ p ≤ 8 * (xs.length : Int) := by
  obtain ⟨j, h1, h2, h3, h4, h5, h6⟩ := hI
  simp only at h1 h3 h4 h5 h6
  subst hA h1 hv
  rcases h6 with ⟨_, hg, h7, h8⟩ | ⟨h, _⟩
  case inr => exact absurd rfl h
  have hol : orderN.length = 19 := rfl
  have htl : (orderN.take (nn + 4)).length = min (nn + 4) 19 := by rw [List.length_take, hol]
  have e4 : Leaf.std.ar .add .i64 (nn : Int) 4 = nn + 4 := add_i64 (by omega) (by omega)
  have hj : (orderN.take (nn + 4)).drop j = [] := by
    refine List.drop_of_length_le ?_
    rw [htl]
    rcases b with b | b
    · rw [e4] at b
      have b : ¬ (j : Int) < nn + 4 := of_decide_eq_false b
      omega
    · have b : ¬ (j : Int) < 19 := of_decide_eq_false b
      omega
  rw [hj] at h8
  exact ⟨hg, by rw [h8]; rfl, h3, h7, h5⟩
theorem owErr {xs own : List _} {R : Er (Int × List UInt8 × Int)} {G : Prop} {nn : Nat} {p3 i p e : Int} (hI : OwI xs R G nn p3 (i, own, p, e)) (he : e ≠ 0) : R = .error e := by
  obtain ⟨j, h1, h2, h3, h4, h5, h6⟩ := hI
  rcases h6 with ⟨h, _⟩ | ⟨_, h⟩
  · exact absurd h he
  · exact h
theorem neq_true {A : Leaf} {e : Int} (hA : A = .std) (h : A.cmp .neq e 0 = true) : e ≠ 0 := by
  subst hA
  have h : (!(e == 0)) = true := h
  simpa using h
theorem mk19 {A : Leaf} (hA : A = .std) : A.small 19 8 ∧ A.slb 0 19 19 ∧ A.rep 19 (0 : Int) = List.replicate 19 0 := by
  subst hA
  exact ⟨⟨by decide, by decide, by decide⟩, ⟨by decide, by decide, by decide⟩, rfl⟩
theorem ow19 {A : Leaf} {i v3 : Int} {nn : Nat} (hA : A = .std) (hv : v3 = nn) (hnn : nn ≤ 15) (b1 : A.cmp .lss i (A.ar .add .i64 v3 4) = true) (b2 : A.cmp .lss i 19 = false) : False := by
  subst hA hv
  have e4 : Leaf.std.ar .add .i64 (nn : Int) 4 = nn + 4 := add_i64 (by omega) (by omega)
  rw [e4] at b1
  have b1 : i < nn + 4 := of_decide_eq_true b1
  have b2 : ¬ i < 19 := of_decide_eq_false b2
  omega
theorem owSt {A : Leaf} {xs row : List UInt8} {R : Er (Int × List UInt8 × Int)} {G : Prop} {nn : Nat} {p3 e : Int} (hA : A = .std) (hp : RPre row (valBytes xs) (8 * xs.length) p3) (h : (e = 0 ∧ G) ∨ (e ≠ 0 ∧ R = .error e)) : OwI xs R G nn p3 (0, A.rep 19 0, p3, e) := by
  rw [(mk19 hA).2.2]
  have h1 := hp.lo
  have h2 := hp.hi
  refine ⟨0, rfl, by decide, rfl, h1, by simp only; omega, ?_⟩
  rcases h with ⟨h, g⟩ | h
  · exact .inl ⟨h, g, Int.le_refl _, rfl⟩
  · exact .inr h
structure TdN (xs : List UInt8) (lim p : Int) (out : List UInt8) (k v1 v2 p3 : Int) (nn : Nat) : Prop where
  le : p ≤ p3
  a0 : 0 ≤ v1
  a1 : v1 < 32
  b0 : 0 ≤ v2
  b1 : v2 < 32
  ld : ¬ (v1 ≤ 29 ∧ v2 ≤ 29) → toldR xs lim p out k = .error 10
  go : v1 ≤ 29 ∧ v2 ≤ 29 → TdA xs lim out k (toldR xs lim p out k) v1 v2 p3 nn
theorem tdN {xs out : List UInt8} {lim p k v1 v2 v3 p3 : Int} (h : ∃ p1 p2, numR xs p 5 = .ok (v1, p1) ∧ numR xs p1 5 = .ok (v2, p2) ∧ numR xs p2 4 = .ok (v3, p3)) : ∃ nn : Nat, v3 = nn ∧ nn ≤ 15 ∧ TdN xs lim p out k v1 v2 p3 nn := by
  obtain ⟨p1, p2, h1, h2, h3⟩ := h
  have hlt : ∀ {q : Int} {n : Nat} {v q' : Int}, numR xs q n = .ok (v, q') → 0 ≤ v ∧ v < 2 ^ n := by
    intro q n v q' hh
    unfold numR at hh
    split at hh
    · simp only [Except.ok.injEq, Prod.mk.injEq] at hh
      have h5 : bitsV xs q % 2 ^ n < 2 ^ n := Nat.mod_lt _ (Nat.two_pow_pos _)
      have e : (2 : Int) ^ n = ((2 ^ n : Nat) : Int) := by simp
      omega
    · cases hh
  obtain ⟨a0, a1⟩ := hlt h1
  obtain ⟨b0, b1⟩ := hlt h2
  obtain ⟨c0, c1⟩ := hlt h3
  obtain ⟨nn, rfl⟩ : ∃ nn : Nat, v3 = nn := ⟨v3.toNat, by omega⟩
  exact ⟨nn, rfl, by omega, ⟨by have := num_nn h1; have := num_nn h2; have := num_nn h3; omega, a0, by omega, b0, by omega, fun h => told_ld h1 h2 h3 h, fun h => tdA h1 h2 h3 h⟩⟩
theorem cGtT {A : Leaf} {a c : Int} (hA : A = .std) (h : A.cmp .gtr a c = true) : c < a := by subst hA; exact of_decide_eq_true h
theorem cGtF {A : Leaf} {a c : Int} (hA : A = .std) (h : A.cmp .gtr a c = false) : ¬ c < a := by subst hA; exact of_decide_eq_false h
theorem rnumI (xs row out : List UInt8) (p lim e0 k b : Int) (n : Nat) (nn : Int) (hN : nn = (n : Int)) (hn : n ≤ 16) (hp : RPre row (valBytes xs) (8 * xs.length) p) : FOK Try.prog C1 59 (fun _ => true) [.ptr 0 0, .int .i64 nn]
    [.cells 93 [.ro (.bytes row), .int .i64 p, .own 1, .int .i64 lim, .int .i64 e0, .int .i64 k, .int .i64 b], .row 5 (.bytes out)]
    (fun rs H => ∃ v p' e1, rs = [.int .i64 v] ∧ H = [.cells 93 [.ro (.bytes row), .int .i64 p', .own 1, .int .i64 lim, .int .i64 e1, .int .i64 k, .int .i64 b], .row 5 (.bytes out)] ∧ NumRes xs p n e0 v p' e1) := by
  subst hN
  exact rnumber_ok xs row out p lim e0 k b n hn hp
def TI (own : List Int) (xs : List UInt8) (N q : Int) (w : Int × List Pr × List Int) : Prop := RwI own xs N q (w.1, w.2.1, (w.2.2.length : Int)) ∧ unpackR (prs w.2.1) [] = some w.2.2 ∧ (w.2.2.length : Int) ≤ N
theorem TI.start {own : List Int} {xs : List UInt8} {N q : Int} (h : RwP xs q N) : TI own xs N q (q, [], []) :=
  ⟨⟨h.s, Int.le_refl _, Int.le_refl 0, Int.le_refl 0, by have := h.n0; simp only [List.length_nil]; omega, rfl, fuel, by have := h.s.rd.rd.lo; simp only; omega, rfl⟩, rfl, h.n0⟩
structure TiH (A : Leaf) (own : List Int) (xs row : List UInt8) (N q p1 : Int) (items : List Pr) (all : List Int) (h : Int) : Prop where
  hh : h = (all.length : Int)
  it : ItmAt A own xs N q p1 items h
  pr : RPre row (valBytes xs) (8 * xs.length) p1
  sm : ∀ y : Pr, A.small (A.len (A.app items [y])) 16
  un : ∀ y : Pr, UnP (A.app items [y])
theorem tiH {A : Leaf} {own all : List Int} {xs row : List UInt8} {N q p1 NE : Int} {items : List Pr} (hA : A = .std) (hr : RowOf xs row) (hp : RwP xs q N) (hI : TI own xs N q (p1, items, all)) (hE : NE = N) (b : A.cmp .lss (A.len all) NE = true) : ∃ h, TiH A own xs row N q p1 items all h := by
  have hi := hI.1.1
  have hil : (items.length : Int) ≤ all.length := hI.1.2.2.1
  have h3 := hI.2.2
  have hn := hp.n1
  have hl := hi.l
  simp only at hil h3
  subst hE
  have hb : A.cmp .lss (all.length : Int) NE = true := by subst hA; exact b
  refine ⟨_, rfl, itmAt hA hp hI.1 hb, ⟨hr, by omega, hi.rd.rd.lo, by have := hi.rd.hi; omega⟩, fun y => ?_, fun y => ?_⟩
  · subst hA
    have e : Leaf.std.len (Leaf.std.app items [y]) = ((items.length + 1 : Nat) : Int) := by
      show (((items ++ [_]).length : Nat) : Int) = _
      rw [List.length_append]; rfl
    rw [e]
    show (0 : Int) ≤ _ ∧ _ ≤ (140737488355328 : Int) ∧ _ * ((16 : Nat) : Int) ≤ (140737488355328 : Int)
    omega
  · subst hA
    refine ⟨?_⟩
    show (items ++ [y]).length ≤ _
    rw [List.length_append]
    simp only [List.length_cons, List.length_nil]
    omega
structure TiU (A : Leaf) (own : List Int) (xs : List UInt8) (N q p' NE : Int) (its : List Pr) : Prop where
  no : unpackR (prs its) [] = none → rowsR own xs N q = .error 10
  big : ∀ u, unpackR (prs its) [] = some u → A.cmp .gtr (A.len u) NE = true → rowsR own xs N q = .error 10
  nx : ∀ u, unpackR (prs its) [] = some u → A.cmp .gtr (A.len u) NE = false → TI own xs N q (p', its, u)
theorem tiU {A : Leaf} {own all : List Int} {xs : List UInt8} {N q p1 p' NE s x h' h0 : Int} {items : List Pr} (hA : A = .std) (hp : RwP xs q N) (hN : N ≤ 316) (hI : TI own xs N q (p1, items, all)) (hE : NE = N) (hrow : ∃ m, rowR (s, x) all = some m) (hh : h0 = (all.length : Int)) (hc : h' = h0 + cnt1 (s, x))
    (hr : RwI own xs N q (p', A.app items [(⟨s, x⟩ : Pr)], h')) : TiU A own xs N q p' NE (A.app items [(⟨s, x⟩ : Pr)]) := by
  obtain ⟨m, hm⟩ := hrow
  have hml := rowR_len hm
  subst hh
  have hu0 := hI.2.1
  simp only at hu0
  have hic : h' = cntS (prs (A.app items [(⟨s, x⟩ : Pr)])) := hr.2.2.2.2.2.1
  have hne : N < h' → rowsR own xs N q = .error 10 := fun hlt => (itmFin hA hp hr (by subst hA; show decide (h' < N) = false; exact decide_eq_false (by omega))).ne (by omega)
  subst hE
  refine ⟨fun h => ?_, fun u hu b => ?_, fun u hu b => ?_⟩
  · subst hA
    have h : unpackR (prs (items ++ [(⟨s, x⟩ : Pr)])) [] = none := h
    rw [prs_app, unpack_app, hu0] at h
    simp only [hm] at h
    split at h
    · cases h
    · exact hne (by omega)
  · have hl := unpack_len hu
    rw [← hic] at hl
    simp only [List.length_nil] at hl
    refine hne ?_
    subst hA
    have b : NE < (u.length : Int) := of_decide_eq_true b
    omega
  · have hl := unpack_len hu
    rw [← hic] at hl
    simp only [List.length_nil] at hl
    have e : h' = (u.length : Int) := by omega
    rw [e] at hr
    refine ⟨hr, hu, ?_⟩
    subst hA
    have b : ¬ NE < (u.length : Int) := of_decide_eq_false b
    simp only; omega
theorem ti16 {A : Leaf} {own all : List Int} {xs : List UInt8} {N q p1 x h : Int} {items : List Pr} (hA : A = .std) (hI : TI own xs N q (p1, items, all)) (hh : h = (all.length : Int)) (h0 : ¬ 0 < h) : unpackR (prs (A.app items [(⟨16, x⟩ : Pr)])) [] = none := by
  have hu0 := hI.2.1
  simp only at hu0
  have : all = [] := List.eq_nil_of_length_eq_zero (by omega)
  subst this
  subst hA
  show unpackR (prs (items ++ [(⟨16, x⟩ : Pr)])) [] = none
  rw [prs_app, unpack_app, hu0]
  rfl
structure TiE (own : List Int) (xs : List UInt8) (N q p1 : Int) (all : List Int) : Prop where
  e : rowsR own xs N q = .ok (p1, all)
  n : (all.length : Int) = N
  s : InS xs p1
  le : q ≤ p1
  nn : ∀ y ∈ all, 0 ≤ y
theorem tiE {A : Leaf} {own all : List Int} {xs : List UInt8} {N q p1 NE : Int} {items : List Pr} (hA : A = .std) (hp : RwP xs q N) (hI : TI own xs N q (p1, items, all)) (hE : NE = N) (b : A.cmp .lss (A.len all) NE = false) : TiE own xs N q p1 all := by
  have h3 := hI.2.2
  simp only at h3
  subst hE
  have hb : A.cmp .lss (all.length : Int) NE = false := by subst hA; exact b
  have hlt : ¬ (all.length : Int) < NE := by subst hA; exact of_decide_eq_false b
  have hf := itmFin hA hp hI.1 hb
  have hn : (all.length : Int) = NE := by omega
  exact ⟨hf.ok hn all hI.2.1, hn, hf.s, hf.pp, unpack_nn (fun y h => by cases h) hI.2.1⟩
structure SxG (A : Leaf) (s : Int) (b : Nat) : Prop where
  g : A.get 0 [2, 3, 7] (A.ar .sub .i64 s 16) = (b : Int)
  q : A.inb (A.ar .sub .i64 s 16) (A.len ([2, 3, 7] : List Int))
  k : A.cmp .geq s 16 = false → False
theorem sx16 {A : Leaf} {s : Int} (hA : A = .std) (h : s = 16) : SxG A s 2 := by subst hA h; exact ⟨by decide, by show (0 : Int) ≤ _ ∧ _ < (3 : Int); decide, fun b => absurd b (by decide)⟩
theorem sx17 {A : Leaf} {s : Int} (hA : A = .std) (h : s = 17) : SxG A s 3 := by subst hA h; exact ⟨by decide, by show (0 : Int) ≤ _ ∧ _ < (3 : Int); decide, fun b => absurd b (by decide)⟩
theorem sx18 {A : Leaf} {s : Int} (hA : A = .std) (h : s = 18) : SxG A s 7 := by subst hA h; exact ⟨by decide, by show (0 : Int) ≤ _ ∧ _ < (3 : Int); decide, fun b => absurd b (by decide)⟩
theorem insQ {xs row out : List UInt8} {lim p k q : Int} (hp : RsP xs row lim p out k) (h0 : 0 ≤ q) (h1 : q ≤ 8 * (xs.length : Int)) : InS xs q := ⟨⟨⟨by have := hp.l; omega, h0, by have := hp.l; omega⟩, h1⟩, by have := hp.l; omega⟩
structure TiZ (A : Leaf) (all : List Int) (v1 : Int) : Prop where
  q : A.inb 256 (A.len all)
  z : A.cmp .eql (A.get 0 all 256) 0 = true → ¬ 0 < all.getD 256 0
  y : A.cmp .eql (A.get 0 all 256) 0 = false → 0 < all.getD 256 0
  s1 : A.slb 0 (A.ar .add .i64 v1 257) (A.len all)
  s2 : A.slb (A.ar .add .i64 v1 257) (A.len all) (A.len all)
  e1 : A.sub all 0 (A.ar .add .i64 v1 257) = all.take (v1 + 257).toNat
  e2 : A.sub all (A.ar .add .i64 v1 257) (A.len all) = all.drop (v1 + 257).toNat
theorem tiZ {A : Leaf} {own all : List Int} {xs : List UInt8} {v1 v2 q p1 : Int} (hA : A = .std) (h1 : 0 ≤ v1 ∧ v1 ≤ 29) (h2 : 0 ≤ v2 ∧ v2 ≤ 29) (hE : TiE own xs (v1 + 257 + v2 + 1) q p1 all) : TiZ A all v1 := by
  have hn := hE.n
  have hnn := hE.nn
  subst hA
  have e : Leaf.std.ar .add .i64 v1 257 = v1 + 257 := add_i64 (by omega) (by omega)
  have hlt : 256 < all.length := by omega
  have eg : Leaf.std.get 0 all 256 = all.getD 256 0 := rfl
  have hg : 0 ≤ all.getD 256 0 := by
    rw [List.getD_eq_getElem?_getD, List.getElem?_eq_getElem hlt]
    exact hnn _ (List.getElem_mem hlt)
  refine ⟨?_, fun b => ?_, fun b => ?_, ?_, ?_, ?_, ?_⟩
  · show (0 : Int) ≤ 256 ∧ (256 : Int) < (all.length : Int); omega
  · rw [eg] at b
    have b : (all.getD 256 0 == 0) = true := b
    have b : all.getD 256 0 = 0 := by simpa using b
    omega
  · rw [eg] at b
    have b : (all.getD 256 0 == 0) = false := b
    have b : ¬ all.getD 256 0 = 0 := by simpa using b
    omega
  · rw [e]; show (0 : Int) ≤ 0 ∧ (0 : Int) ≤ v1 + 257 ∧ v1 + 257 ≤ (all.length : Int); omega
  · rw [e]; show (0 : Int) ≤ v1 + 257 ∧ v1 + 257 ≤ (all.length : Int) ∧ (all.length : Int) ≤ (all.length : Int); omega
  · rw [e]; show (all.drop (0 : Int).toNat).take (v1 + 257 - 0).toNat = _
    simp
  · rw [e]; show (all.drop (v1 + 257).toNat).take ((all.length : Int) - (v1 + 257)).toNat = _
    exact List.take_of_length_le (by rw [List.length_drop]; omega)
theorem neE {A : Leaf} {a b : Int} (hA : A = .std) (h1 : 0 ≤ a ∧ a ≤ 29) (h2 : 0 ≤ b ∧ b ≤ 29) : A.ar .add .i64 (A.ar .add .i64 a b) 258 = a + 257 + b + 1 := by
  subst hA
  have e1 : Leaf.std.ar .add .i64 a b = a + b := add_i64 (by omega) (by omega)
  rw [e1, add_i64 (by omega) (by omega)]; omega
set_option maxHeartbeats 4000000 in
theorem rtold_ok (xs row out : List UInt8) (p lim k b : Int) (hp : RsP xs row lim p out k) : FOK Try.prog C1 62 (fun c => Nat.beq c 0) [.ptr 0 0]
    [.cells 93 [.ro (.bytes row), .int .i64 p, .own 1, .int .i64 lim, .int .i64 0, .int .i64 k, .int .i64 b], .row 5 (.bytes out)]
    (fun rs H => ∃ p' out' e1 k', rs = [] ∧ H = [.cells 93 [.ro (.bytes row), .int .i64 p', .own 1, .int .i64 lim, .int .i64 e1, .int .i64 k', .int .i64 b], .row 5 (.bytes out')] ∧ RtoIs xs lim p out k p' out' e1 k') := by
  refine fok_of (B := ⟨lookT tis, fun c => Nat.beq c 0, []⟩) (tab1 _) (zero1 _) cod1 mix1 Try.func62 (by kernel_rfl) rfl rfl rfl fun X F => ?_
  obtain ⟨A, hA⟩ : ∃ A, A = Leaf.std := ⟨_, rfl⟩
  refine F.hold hA 2000 ?_
  cbv
  have hR : ∃ R, R = toldR xs lim p out k := ⟨_, rfl⟩
  repeat (first
    | refine OK.drawn (by decide +kernel) ?_
    | refine OK.tree ⟨lookT tis, fun _ => true, []⟩ (by decide +kernel) ?_
    | refine OK.need (by first | assumption | (rw [hA]; first | (show (_ : Int) ≠ _; decide) | (show (0 : Int) ≤ _; decide) | (show (0 : Int) ≤ _ ∧ _ < (256 : Int); decide))) ?_
    | (refine F.hold hA 2000 ?_; cbv))
  refine F.call [0, 1] (rnumber_ok xs row out p lim 0 k b 5 (by decide) hp.pre) rfl rfl rfl fun rs H' hq => ?_
  obtain ⟨v1, p1, e1, rfl, rfl, hn1⟩ := hq
  refine ⟨rfl, ?_⟩
  have hp1 := numRes_pre hp.pre hn1
  repeat (first
    | refine OK.drawn (by decide +kernel) ?_
    | refine OK.tree ⟨lookT tis, fun _ => true, []⟩ (by decide +kernel) ?_
    | refine OK.need (by first | assumption | (rw [hA]; first | (show (_ : Int) ≠ _; decide) | (show (0 : Int) ≤ _; decide) | (show (0 : Int) ≤ _ ∧ _ < (256 : Int); decide))) ?_
    | (refine F.hold hA 2000 ?_; cbv))
  refine F.call [0, 1] (rnumber_ok xs row out p1 lim e1 k b 5 (by decide) hp1) rfl rfl rfl fun rs H' hq => ?_
  obtain ⟨v2, p2, e2, rfl, rfl, hn2⟩ := hq
  refine ⟨rfl, ?_⟩
  have hp2 := numRes_pre hp1 hn2
  repeat (first
    | refine OK.drawn (by decide +kernel) ?_
    | refine OK.tree ⟨lookT tis, fun _ => true, []⟩ (by decide +kernel) ?_
    | refine OK.need (by first | assumption | (rw [hA]; first | (show (_ : Int) ≠ _; decide) | (show (0 : Int) ≤ _; decide) | (show (0 : Int) ≤ _ ∧ _ < (256 : Int); decide))) ?_
    | (refine F.hold hA 2000 ?_; cbv))
  refine F.call [0, 1] (rnumber_ok xs row out p2 lim e2 k b 4 (by decide) hp2) rfl rfl rfl fun rs H' hq => ?_
  obtain ⟨v3, p3, e3, rfl, rfl, hn3⟩ := hq
  refine ⟨rfl, ?_⟩
  have hp3 := numRes_pre hp2 hn3
  have hN := rtN (out := out) (lim := lim) (k := k) hn1 hn2 hn3
  clear hn1 hn2 hn3 hp1 hp2
  rcases hN with ⟨rfl, q1, q2, hN⟩ | ⟨he, rfl, hst⟩
  case inr =>
    repeat' (first
      | contradiction
      | exact (eqz hA he (by assumption)).elim
      | refine OK.drawn (by decide +kernel) ?_
      | refine OK.tree ⟨lookT tis, fun _ => true, []⟩ (by decide +kernel) ?_
      | refine OK.both ?_ ?_
      | refine OK.need (by first | assumption | (rw [hA]; first | (show (_ : Int) ≠ _; decide) | (show (0 : Int) ≤ _; decide) | (show (0 : Int) ≤ _ ∧ _ < (256 : Int); decide))) ?_
      | refine OK.need ?_ ?_
      | (refine OK.branch ?_ ?_ <;> intro h)
      | (refine F.hold hA 2000 ?_; cbv))
    · exact (mk19 hA).1
    · exact (mk19 hA).2.1
    · exact (mk19 hA).2.1
    have hv : (0 : Int) = (0 : Nat) := rfl
    have hnn : 0 ≤ 15 := by decide
    have hG : False → ∀ e, ownR xs (orderN.take (0 + 4)) p3 (List.replicate 19 0) = .error e → toldR xs lim p out k = .error e := fun h => h.elim
    have hst0 : (e3 = 0 ∧ False) ∨ (e3 ≠ 0 ∧ toldR xs lim p out k = .error e3) := .inr ⟨he, hst⟩
    refine F.loop (V := Int × List Int × Int × Int) [0, 2, 3, 4, 5, 6] (OwI xs (toldR xs lim p out k) False 0 p3) (fun w => (19 - w.1).toNat) (fun w => [(7, .int .i64 w.1)]) (fun w => [(0, .cells 93 [.ro (.bytes row), .int .i64 w.2.2.1, .own 1, .int .i64 lim, .int .i64 w.2.2.2, .int .i64 k, .int .i64 b]), (3, .row 3 (.ints .i64 w.2.1))]) (_, _, _, _) (by cbv; repeat (first | exact WkH.nil _ | apply WkH.gone | refine WkH.eq rfl ?_)) (by cbv; repeat (first | apply WkL.any | exact WkL.nil _ | refine WkL.eq rfl ?_ | refine WkL.bool rfl ?_)) (by cbv; exact ⟨rfl⟩) ?_ ?_
    · exact owSt hA hp3 hst0
    rintro ⟨i, own, q, e⟩ hI Bk hBk
    repeat (first
      | refine OK.drawn (by decide +kernel) ?_
      | refine OK.tree ⟨lookT tis, fun _ => true, []⟩ (by decide +kernel) ?_
      | refine OK.need (by first | assumption | (rw [hA]; first | (show (_ : Int) ≠ _; decide) | (show (0 : Int) ≤ _; decide) | (show (0 : Int) ≤ _ ∧ _ < (256 : Int); decide))) ?_
      | (refine F.hold hA 2000 ?_; cbv))
    refine OK.branch (fun b1 => ?_) (fun b1 => ?_)
    · repeat (first
        | refine OK.drawn (by decide +kernel) ?_
        | refine OK.tree ⟨lookT tis, fun _ => true, []⟩ (by decide +kernel) ?_
        | refine OK.need (by first | assumption | (rw [hA]; first | (show (_ : Int) ≠ _; decide) | (show (0 : Int) ≤ _; decide) | (show (0 : Int) ≤ _ ∧ _ < (256 : Int); decide))) ?_
        | (refine F.hold hA 2000 ?_; cbv))
      refine OK.branch (fun b2 => ?_) (fun b2 => (ow19 hA hv hnn b1 b2).elim)
      have hat := owA (row := row) hA hp.r hp.l hv hnn hG hI b1 b2
      have q1 := hat.q1
      have q2 := hat.q2
      repeat' (first
        | refine OK.drawn (by decide +kernel) ?_
        | refine OK.tree ⟨lookT tis, fun _ => true, []⟩ (by decide +kernel) ?_
        | refine OK.both ?_ ?_
        | refine OK.need (by first | assumption | (rw [hA]; first | (show (_ : Int) ≠ _; decide) | (show (0 : Int) ≤ _; decide) | (show (0 : Int) ≤ _ ∧ _ < (256 : Int); decide))) ?_
        | refine OK.need ?_ ?_
        | (refine OK.branch ?_ ?_ <;> intro h)
        | (refine F.hold hA 2000 ?_; cbv))
      all_goals
        refine F.call [0, 1] (rnumber_ok xs row out q lim e k b 3 (by decide) hat.pr) rfl rfl rfl fun rs H' hq => ?_
        obtain ⟨v, p', e', rfl, rfl, hn⟩ := hq
        refine ⟨rfl, ?_⟩
        have hnx := hat.nx _ _ _ hn
        repeat' (first
          | refine OK.drawn (by decide +kernel) ?_
          | refine OK.tree ⟨lookT tis, fun _ => true, []⟩ (by decide +kernel) ?_
          | refine OK.both ?_ ?_
          | refine OK.need (by first | assumption | (rw [hA]; first | (show (_ : Int) ≠ _; decide) | (show (0 : Int) ≤ _; decide) | (show (0 : Int) ≤ _ ∧ _ < (256 : Int); decide))) ?_
          | refine OK.need ?_ ?_
          | (refine OK.branch ?_ ?_ <;> intro h)
          | (refine F.hold hA 2000 ?_; cbv))
        all_goals
          refine OK.back (hBk _ _ (_, _, _, _) (by cbv; repeat (first | exact WkH.nil _ | apply WkH.gone | refine WkH.eq rfl ?_)) (by cbv; repeat (first | apply WkL.any | exact WkL.nil _ | refine WkL.eq rfl ?_ | refine WkL.bool rfl ?_)) (by cbv; exact ⟨rfl⟩) ?_ ?_)
          · exact hnx
          · exact hat.mu
    clear hBk
    repeat (first
      | refine OK.drawn (by decide +kernel) ?_
      | refine OK.tree ⟨lookT tis, fun _ => true, []⟩ (by decide +kernel) ?_
      | refine OK.need (by first | assumption | (rw [hA]; first | (show (_ : Int) ≠ _; decide) | (show (0 : Int) ≤ _; decide) | (show (0 : Int) ≤ _ ∧ _ < (256 : Int); decide))) ?_
      | (refine F.hold hA 2000 ?_; cbv))
    refine OK.branch (fun c1 => ?_) (fun c1 => ?_)
    · repeat (first
        | refine OK.drawn (by decide +kernel) ?_
        | refine OK.tree ⟨lookT tis, fun _ => true, []⟩ (by decide +kernel) ?_
        | refine OK.need (by first | assumption | (rw [hA]; first | (show (_ : Int) ≠ _; decide) | (show (0 : Int) ≤ _; decide) | (show (0 : Int) ≤ _ ∧ _ < (256 : Int); decide))) ?_
        | (refine F.hold hA 2000 ?_; cbv))
      exact F.ret (H' := [_, _]) (F.cv ⟨rfl⟩ (.nil _) (.eq rfl (.eq rfl (.nil _)))) rfl ⟨_, _, _, _, rfl, rfl, .inr ⟨neq_true hA c1, owErr hI (neq_true hA c1)⟩⟩
    · obtain rfl := neq_zero hA c1
      exact (owEnd hA hv hnn hI (.inl b1)).1.elim
  obtain ⟨nn, hv, hnn, hT⟩ := tdN (lim := lim) (out := out) (k := k) (p := p) ⟨_, _, hN⟩
  clear hN
  repeat (first
    | refine OK.drawn (by decide +kernel) ?_
    | refine OK.tree ⟨lookT tis, fun _ => true, []⟩ (by decide +kernel) ?_
    | refine OK.need (by first | assumption | (rw [hA]; first | (show (_ : Int) ≠ _; decide) | (show (0 : Int) ≤ _; decide) | (show (0 : Int) ≤ _ ∧ _ < (256 : Int); decide))) ?_
    | (refine F.hold hA 2000 ?_; cbv))
  refine OK.branch (fun c1 => ?_) (fun c1 => (eql_self hA c1).elim)
  repeat (first
    | refine OK.drawn (by decide +kernel) ?_
    | refine OK.tree ⟨lookT tis, fun _ => true, []⟩ (by decide +kernel) ?_
    | refine OK.need (by first | assumption | (rw [hA]; first | (show (_ : Int) ≠ _; decide) | (show (0 : Int) ≤ _; decide) | (show (0 : Int) ≤ _ ∧ _ < (256 : Int); decide))) ?_
    | (refine F.hold hA 2000 ?_; cbv))
  refine OK.branch (fun c2 => ?_) (fun c2 => ?_)
  · have hst := hT.ld (fun h => absurd h.1 (by have := cGtT hA c2; omega))
    repeat (first
      | refine OK.drawn (by decide +kernel) ?_
      | refine OK.tree ⟨lookT tis, fun _ => true, []⟩ (by decide +kernel) ?_
      | refine OK.need (by first | assumption | (rw [hA]; first | (show (_ : Int) ≠ _; decide) | (show (0 : Int) ≤ _; decide) | (show (0 : Int) ≤ _ ∧ _ < (256 : Int); decide))) ?_
      | (refine F.hold hA 2000 ?_; cbv))
    refine F.call [0, 1] (fail_ok row out p3 lim 0 k b 10) rfl rfl rfl fun rs H' hq => ?_
    obtain ⟨e1, rfl, rfl, hf⟩ := hq
    refine ⟨rfl, ?_⟩
    obtain rfl : e1 = 10 := hf
    repeat' (first
      | refine OK.drawn (by decide +kernel) ?_
      | refine OK.tree ⟨lookT tis, fun _ => true, []⟩ (by decide +kernel) ?_
      | refine OK.both ?_ ?_
      | refine OK.need (by first | assumption | (rw [hA]; first | (show (_ : Int) ≠ _; decide) | (show (0 : Int) ≤ _; decide) | (show (0 : Int) ≤ _ ∧ _ < (256 : Int); decide))) ?_
      | refine OK.need ?_ ?_
      | (refine OK.branch ?_ ?_ <;> intro h)
      | (refine F.hold hA 2000 ?_; cbv))
    · exact (mk19 hA).1
    · exact (mk19 hA).2.1
    · exact (mk19 hA).2.1
    have hG : False → ∀ e, ownR xs (orderN.take (nn + 4)) p3 (List.replicate 19 0) = .error e → toldR xs lim p out k = .error e := fun h => h.elim
    have hst0 : ((10 : Int) = 0 ∧ False) ∨ ((10 : Int) ≠ 0 ∧ toldR xs lim p out k = .error 10) := .inr ⟨by decide, hst⟩
    refine F.loop (V := Int × List Int × Int × Int) [0, 2, 3, 4, 5, 6] (OwI xs (toldR xs lim p out k) False nn p3) (fun w => (19 - w.1).toNat) (fun w => [(7, .int .i64 w.1)]) (fun w => [(0, .cells 93 [.ro (.bytes row), .int .i64 w.2.2.1, .own 1, .int .i64 lim, .int .i64 w.2.2.2, .int .i64 k, .int .i64 b]), (3, .row 3 (.ints .i64 w.2.1))]) (_, _, _, _) (by cbv; repeat (first | exact WkH.nil _ | apply WkH.gone | refine WkH.eq rfl ?_)) (by cbv; repeat (first | apply WkL.any | exact WkL.nil _ | refine WkL.eq rfl ?_ | refine WkL.bool rfl ?_)) (by cbv; exact ⟨rfl⟩) ?_ ?_
    · exact owSt hA hp3 hst0
    rintro ⟨i, own, q, e⟩ hI Bk hBk
    repeat (first
      | refine OK.drawn (by decide +kernel) ?_
      | refine OK.tree ⟨lookT tis, fun _ => true, []⟩ (by decide +kernel) ?_
      | refine OK.need (by first | assumption | (rw [hA]; first | (show (_ : Int) ≠ _; decide) | (show (0 : Int) ≤ _; decide) | (show (0 : Int) ≤ _ ∧ _ < (256 : Int); decide))) ?_
      | (refine F.hold hA 2000 ?_; cbv))
    refine OK.branch (fun b1 => ?_) (fun b1 => ?_)
    · repeat (first
        | refine OK.drawn (by decide +kernel) ?_
        | refine OK.tree ⟨lookT tis, fun _ => true, []⟩ (by decide +kernel) ?_
        | refine OK.need (by first | assumption | (rw [hA]; first | (show (_ : Int) ≠ _; decide) | (show (0 : Int) ≤ _; decide) | (show (0 : Int) ≤ _ ∧ _ < (256 : Int); decide))) ?_
        | (refine F.hold hA 2000 ?_; cbv))
      refine OK.branch (fun b2 => ?_) (fun b2 => (ow19 hA hv hnn b1 b2).elim)
      have hat := owA (row := row) hA hp.r hp.l hv hnn hG hI b1 b2
      have q1 := hat.q1
      have q2 := hat.q2
      repeat' (first
        | refine OK.drawn (by decide +kernel) ?_
        | refine OK.tree ⟨lookT tis, fun _ => true, []⟩ (by decide +kernel) ?_
        | refine OK.both ?_ ?_
        | refine OK.need (by first | assumption | (rw [hA]; first | (show (_ : Int) ≠ _; decide) | (show (0 : Int) ≤ _; decide) | (show (0 : Int) ≤ _ ∧ _ < (256 : Int); decide))) ?_
        | refine OK.need ?_ ?_
        | (refine OK.branch ?_ ?_ <;> intro h)
        | (refine F.hold hA 2000 ?_; cbv))
      all_goals
        refine F.call [0, 1] (rnumber_ok xs row out q lim e k b 3 (by decide) hat.pr) rfl rfl rfl fun rs H' hq => ?_
        obtain ⟨v, p', e', rfl, rfl, hn⟩ := hq
        refine ⟨rfl, ?_⟩
        have hnx := hat.nx _ _ _ hn
        repeat' (first
          | refine OK.drawn (by decide +kernel) ?_
          | refine OK.tree ⟨lookT tis, fun _ => true, []⟩ (by decide +kernel) ?_
          | refine OK.both ?_ ?_
          | refine OK.need (by first | assumption | (rw [hA]; first | (show (_ : Int) ≠ _; decide) | (show (0 : Int) ≤ _; decide) | (show (0 : Int) ≤ _ ∧ _ < (256 : Int); decide))) ?_
          | refine OK.need ?_ ?_
          | (refine OK.branch ?_ ?_ <;> intro h)
          | (refine F.hold hA 2000 ?_; cbv))
        all_goals
          refine OK.back (hBk _ _ (_, _, _, _) (by cbv; repeat (first | exact WkH.nil _ | apply WkH.gone | refine WkH.eq rfl ?_)) (by cbv; repeat (first | apply WkL.any | exact WkL.nil _ | refine WkL.eq rfl ?_ | refine WkL.bool rfl ?_)) (by cbv; exact ⟨rfl⟩) ?_ ?_)
          · exact hnx
          · exact hat.mu
    clear hBk
    repeat (first
      | refine OK.drawn (by decide +kernel) ?_
      | refine OK.tree ⟨lookT tis, fun _ => true, []⟩ (by decide +kernel) ?_
      | refine OK.need (by first | assumption | (rw [hA]; first | (show (_ : Int) ≠ _; decide) | (show (0 : Int) ≤ _; decide) | (show (0 : Int) ≤ _ ∧ _ < (256 : Int); decide))) ?_
      | (refine F.hold hA 2000 ?_; cbv))
    refine OK.branch (fun c1 => ?_) (fun c1 => ?_)
    · repeat (first
        | refine OK.drawn (by decide +kernel) ?_
        | refine OK.tree ⟨lookT tis, fun _ => true, []⟩ (by decide +kernel) ?_
        | refine OK.need (by first | assumption | (rw [hA]; first | (show (_ : Int) ≠ _; decide) | (show (0 : Int) ≤ _; decide) | (show (0 : Int) ≤ _ ∧ _ < (256 : Int); decide))) ?_
        | (refine F.hold hA 2000 ?_; cbv))
      exact F.ret (H' := [_, _]) (F.cv ⟨rfl⟩ (.nil _) (.eq rfl (.eq rfl (.nil _)))) rfl ⟨_, _, _, _, rfl, rfl, .inr ⟨neq_true hA c1, owErr hI (neq_true hA c1)⟩⟩
    · obtain rfl := neq_zero hA c1
      exact (owEnd hA hv hnn hI (.inl b1)).1.elim
  repeat (first
    | refine OK.drawn (by decide +kernel) ?_
    | refine OK.tree ⟨lookT tis, fun _ => true, []⟩ (by decide +kernel) ?_
    | refine OK.need (by first | assumption | (rw [hA]; first | (show (_ : Int) ≠ _; decide) | (show (0 : Int) ≤ _; decide) | (show (0 : Int) ≤ _ ∧ _ < (256 : Int); decide))) ?_
    | (refine F.hold hA 2000 ?_; cbv))
  refine OK.branch (fun c3 => ?_) (fun c3 => ?_)
  · have hst := hT.ld (fun h => absurd h.2 (by have := cGtT hA c3; omega))
    repeat (first
      | refine OK.drawn (by decide +kernel) ?_
      | refine OK.tree ⟨lookT tis, fun _ => true, []⟩ (by decide +kernel) ?_
      | refine OK.need (by first | assumption | (rw [hA]; first | (show (_ : Int) ≠ _; decide) | (show (0 : Int) ≤ _; decide) | (show (0 : Int) ≤ _ ∧ _ < (256 : Int); decide))) ?_
      | (refine F.hold hA 2000 ?_; cbv))
    refine F.call [0, 1] (fail_ok row out p3 lim 0 k b 10) rfl rfl rfl fun rs H' hq => ?_
    obtain ⟨e1, rfl, rfl, hf⟩ := hq
    refine ⟨rfl, ?_⟩
    obtain rfl : e1 = 10 := hf
    repeat' (first
      | refine OK.drawn (by decide +kernel) ?_
      | refine OK.tree ⟨lookT tis, fun _ => true, []⟩ (by decide +kernel) ?_
      | refine OK.both ?_ ?_
      | refine OK.need (by first | assumption | (rw [hA]; first | (show (_ : Int) ≠ _; decide) | (show (0 : Int) ≤ _; decide) | (show (0 : Int) ≤ _ ∧ _ < (256 : Int); decide))) ?_
      | refine OK.need ?_ ?_
      | (refine OK.branch ?_ ?_ <;> intro h)
      | (refine F.hold hA 2000 ?_; cbv))
    · exact (mk19 hA).1
    · exact (mk19 hA).2.1
    · exact (mk19 hA).2.1
    have hG : False → ∀ e, ownR xs (orderN.take (nn + 4)) p3 (List.replicate 19 0) = .error e → toldR xs lim p out k = .error e := fun h => h.elim
    have hst0 : ((10 : Int) = 0 ∧ False) ∨ ((10 : Int) ≠ 0 ∧ toldR xs lim p out k = .error 10) := .inr ⟨by decide, hst⟩
    refine F.loop (V := Int × List Int × Int × Int) [0, 2, 3, 4, 5, 6] (OwI xs (toldR xs lim p out k) False nn p3) (fun w => (19 - w.1).toNat) (fun w => [(7, .int .i64 w.1)]) (fun w => [(0, .cells 93 [.ro (.bytes row), .int .i64 w.2.2.1, .own 1, .int .i64 lim, .int .i64 w.2.2.2, .int .i64 k, .int .i64 b]), (3, .row 3 (.ints .i64 w.2.1))]) (_, _, _, _) (by cbv; repeat (first | exact WkH.nil _ | apply WkH.gone | refine WkH.eq rfl ?_)) (by cbv; repeat (first | apply WkL.any | exact WkL.nil _ | refine WkL.eq rfl ?_ | refine WkL.bool rfl ?_)) (by cbv; exact ⟨rfl⟩) ?_ ?_
    · exact owSt hA hp3 hst0
    rintro ⟨i, own, q, e⟩ hI Bk hBk
    repeat (first
      | refine OK.drawn (by decide +kernel) ?_
      | refine OK.tree ⟨lookT tis, fun _ => true, []⟩ (by decide +kernel) ?_
      | refine OK.need (by first | assumption | (rw [hA]; first | (show (_ : Int) ≠ _; decide) | (show (0 : Int) ≤ _; decide) | (show (0 : Int) ≤ _ ∧ _ < (256 : Int); decide))) ?_
      | (refine F.hold hA 2000 ?_; cbv))
    refine OK.branch (fun b1 => ?_) (fun b1 => ?_)
    · repeat (first
        | refine OK.drawn (by decide +kernel) ?_
        | refine OK.tree ⟨lookT tis, fun _ => true, []⟩ (by decide +kernel) ?_
        | refine OK.need (by first | assumption | (rw [hA]; first | (show (_ : Int) ≠ _; decide) | (show (0 : Int) ≤ _; decide) | (show (0 : Int) ≤ _ ∧ _ < (256 : Int); decide))) ?_
        | (refine F.hold hA 2000 ?_; cbv))
      refine OK.branch (fun b2 => ?_) (fun b2 => (ow19 hA hv hnn b1 b2).elim)
      have hat := owA (row := row) hA hp.r hp.l hv hnn hG hI b1 b2
      have q1 := hat.q1
      have q2 := hat.q2
      repeat' (first
        | refine OK.drawn (by decide +kernel) ?_
        | refine OK.tree ⟨lookT tis, fun _ => true, []⟩ (by decide +kernel) ?_
        | refine OK.both ?_ ?_
        | refine OK.need (by first | assumption | (rw [hA]; first | (show (_ : Int) ≠ _; decide) | (show (0 : Int) ≤ _; decide) | (show (0 : Int) ≤ _ ∧ _ < (256 : Int); decide))) ?_
        | refine OK.need ?_ ?_
        | (refine OK.branch ?_ ?_ <;> intro h)
        | (refine F.hold hA 2000 ?_; cbv))
      all_goals
        refine F.call [0, 1] (rnumber_ok xs row out q lim e k b 3 (by decide) hat.pr) rfl rfl rfl fun rs H' hq => ?_
        obtain ⟨v, p', e', rfl, rfl, hn⟩ := hq
        refine ⟨rfl, ?_⟩
        have hnx := hat.nx _ _ _ hn
        repeat' (first
          | refine OK.drawn (by decide +kernel) ?_
          | refine OK.tree ⟨lookT tis, fun _ => true, []⟩ (by decide +kernel) ?_
          | refine OK.both ?_ ?_
          | refine OK.need (by first | assumption | (rw [hA]; first | (show (_ : Int) ≠ _; decide) | (show (0 : Int) ≤ _; decide) | (show (0 : Int) ≤ _ ∧ _ < (256 : Int); decide))) ?_
          | refine OK.need ?_ ?_
          | (refine OK.branch ?_ ?_ <;> intro h)
          | (refine F.hold hA 2000 ?_; cbv))
        all_goals
          refine OK.back (hBk _ _ (_, _, _, _) (by cbv; repeat (first | exact WkH.nil _ | apply WkH.gone | refine WkH.eq rfl ?_)) (by cbv; repeat (first | apply WkL.any | exact WkL.nil _ | refine WkL.eq rfl ?_ | refine WkL.bool rfl ?_)) (by cbv; exact ⟨rfl⟩) ?_ ?_)
          · exact hnx
          · exact hat.mu
    clear hBk
    repeat (first
      | refine OK.drawn (by decide +kernel) ?_
      | refine OK.tree ⟨lookT tis, fun _ => true, []⟩ (by decide +kernel) ?_
      | refine OK.need (by first | assumption | (rw [hA]; first | (show (_ : Int) ≠ _; decide) | (show (0 : Int) ≤ _; decide) | (show (0 : Int) ≤ _ ∧ _ < (256 : Int); decide))) ?_
      | (refine F.hold hA 2000 ?_; cbv))
    refine OK.branch (fun c1 => ?_) (fun c1 => ?_)
    · repeat (first
        | refine OK.drawn (by decide +kernel) ?_
        | refine OK.tree ⟨lookT tis, fun _ => true, []⟩ (by decide +kernel) ?_
        | refine OK.need (by first | assumption | (rw [hA]; first | (show (_ : Int) ≠ _; decide) | (show (0 : Int) ≤ _; decide) | (show (0 : Int) ≤ _ ∧ _ < (256 : Int); decide))) ?_
        | (refine F.hold hA 2000 ?_; cbv))
      exact F.ret (H' := [_, _]) (F.cv ⟨rfl⟩ (.nil _) (.eq rfl (.eq rfl (.nil _)))) rfl ⟨_, _, _, _, rfl, rfl, .inr ⟨neq_true hA c1, owErr hI (neq_true hA c1)⟩⟩
    · obtain rfl := neq_zero hA c1
      exact (owEnd hA hv hnn hI (.inl b1)).1.elim
  have hTd := hT.go ⟨by have := cGtF hA c2; omega, by have := cGtF hA c3; omega⟩
  have hv1 : 0 ≤ v1 ∧ v1 ≤ 29 := ⟨hT.a0, by have := cGtF hA c2; omega⟩
  have hv2 : 0 ≤ v2 ∧ v2 ≤ 29 := ⟨hT.b0, by have := cGtF hA c3; omega⟩
  have hG : TdA xs lim out k (toldR xs lim p out k) v1 v2 p3 nn → ∀ e, ownR xs (orderN.take (nn + 4)) p3 (List.replicate 19 0) = .error e → toldR xs lim p out k = .error e := fun h => h.e
  have hst0 : ((0 : Int) = 0 ∧ TdA xs lim out k (toldR xs lim p out k) v1 v2 p3 nn) ∨ ((0 : Int) ≠ 0 ∧ toldR xs lim p out k = .error 0) := .inl ⟨rfl, hTd⟩
  have hle := hT.le
  clear hT
  repeat' (first
    | refine OK.drawn (by decide +kernel) ?_
    | refine OK.tree ⟨lookT tis, fun _ => true, []⟩ (by decide +kernel) ?_
    | refine OK.both ?_ ?_
    | refine OK.need (by first | assumption | (rw [hA]; first | (show (_ : Int) ≠ _; decide) | (show (0 : Int) ≤ _; decide) | (show (0 : Int) ≤ _ ∧ _ < (256 : Int); decide))) ?_
    | refine OK.need ?_ ?_
    | (refine OK.branch ?_ ?_ <;> intro h)
    | (refine F.hold hA 2000 ?_; cbv))
  · exact (mk19 hA).1
  · exact (mk19 hA).2.1
  · exact (mk19 hA).2.1
  refine F.loop (V := Int × List Int × Int × Int) [0, 2, 3, 4, 5, 6] (OwI xs (toldR xs lim p out k) (TdA xs lim out k (toldR xs lim p out k) v1 v2 p3 nn) nn p3) (fun w => (19 - w.1).toNat) (fun w => [(7, .int .i64 w.1)]) (fun w => [(0, .cells 93 [.ro (.bytes row), .int .i64 w.2.2.1, .own 1, .int .i64 lim, .int .i64 w.2.2.2, .int .i64 k, .int .i64 b]), (3, .row 3 (.ints .i64 w.2.1))]) (_, _, _, _) (by cbv; repeat (first | exact WkH.nil _ | apply WkH.gone | refine WkH.eq rfl ?_)) (by cbv; repeat (first | apply WkL.any | exact WkL.nil _ | refine WkL.eq rfl ?_ | refine WkL.bool rfl ?_)) (by cbv; exact ⟨rfl⟩) ?_ ?_
  · exact owSt hA hp3 hst0
  rintro ⟨i, own, q, e⟩ hI Bk hBk
  repeat (first
    | refine OK.drawn (by decide +kernel) ?_
    | refine OK.tree ⟨lookT tis, fun _ => true, []⟩ (by decide +kernel) ?_
    | refine OK.need (by first | assumption | (rw [hA]; first | (show (_ : Int) ≠ _; decide) | (show (0 : Int) ≤ _; decide) | (show (0 : Int) ≤ _ ∧ _ < (256 : Int); decide))) ?_
    | (refine F.hold hA 2000 ?_; cbv))
  refine OK.branch (fun b1 => ?_) (fun b1 => ?_)
  · repeat (first
      | refine OK.drawn (by decide +kernel) ?_
      | refine OK.tree ⟨lookT tis, fun _ => true, []⟩ (by decide +kernel) ?_
      | refine OK.need (by first | assumption | (rw [hA]; first | (show (_ : Int) ≠ _; decide) | (show (0 : Int) ≤ _; decide) | (show (0 : Int) ≤ _ ∧ _ < (256 : Int); decide))) ?_
      | (refine F.hold hA 2000 ?_; cbv))
    refine OK.branch (fun b2 => ?_) (fun b2 => (ow19 hA hv hnn b1 b2).elim)
    have hat := owA (row := row) hA hp.r hp.l hv hnn hG hI b1 b2
    have q1 := hat.q1
    have q2 := hat.q2
    repeat' (first
      | refine OK.drawn (by decide +kernel) ?_
      | refine OK.tree ⟨lookT tis, fun _ => true, []⟩ (by decide +kernel) ?_
      | refine OK.both ?_ ?_
      | refine OK.need (by first | assumption | (rw [hA]; first | (show (_ : Int) ≠ _; decide) | (show (0 : Int) ≤ _; decide) | (show (0 : Int) ≤ _ ∧ _ < (256 : Int); decide))) ?_
      | refine OK.need ?_ ?_
      | (refine OK.branch ?_ ?_ <;> intro h)
      | (refine F.hold hA 2000 ?_; cbv))
    all_goals
      refine F.call [0, 1] (rnumber_ok xs row out q lim e k b 3 (by decide) hat.pr) rfl rfl rfl fun rs H' hq => ?_
      obtain ⟨v, p', e', rfl, rfl, hn⟩ := hq
      refine ⟨rfl, ?_⟩
      have hnx := hat.nx _ _ _ hn
      repeat' (first
        | refine OK.drawn (by decide +kernel) ?_
        | refine OK.tree ⟨lookT tis, fun _ => true, []⟩ (by decide +kernel) ?_
        | refine OK.both ?_ ?_
        | refine OK.need (by first | assumption | (rw [hA]; first | (show (_ : Int) ≠ _; decide) | (show (0 : Int) ≤ _; decide) | (show (0 : Int) ≤ _ ∧ _ < (256 : Int); decide))) ?_
        | refine OK.need ?_ ?_
        | (refine OK.branch ?_ ?_ <;> intro h)
        | (refine F.hold hA 2000 ?_; cbv))
      all_goals
        refine OK.back (hBk _ _ (_, _, _, _) (by cbv; repeat (first | exact WkH.nil _ | apply WkH.gone | refine WkH.eq rfl ?_)) (by cbv; repeat (first | apply WkL.any | exact WkL.nil _ | refine WkL.eq rfl ?_ | refine WkL.bool rfl ?_)) (by cbv; exact ⟨rfl⟩) ?_ ?_)
        · exact hnx
        · exact hat.mu
  clear hBk
  repeat (first
    | refine OK.drawn (by decide +kernel) ?_
    | refine OK.tree ⟨lookT tis, fun _ => true, []⟩ (by decide +kernel) ?_
    | refine OK.need (by first | assumption | (rw [hA]; first | (show (_ : Int) ≠ _; decide) | (show (0 : Int) ≤ _; decide) | (show (0 : Int) ≤ _ ∧ _ < (256 : Int); decide))) ?_
    | (refine F.hold hA 2000 ?_; cbv))
  refine OK.branch (fun d1 => ?_) (fun d1 => ?_)
  · repeat (first
      | refine OK.drawn (by decide +kernel) ?_
      | refine OK.tree ⟨lookT tis, fun _ => true, []⟩ (by decide +kernel) ?_
      | refine OK.need (by first | assumption | (rw [hA]; first | (show (_ : Int) ≠ _; decide) | (show (0 : Int) ≤ _; decide) | (show (0 : Int) ≤ _ ∧ _ < (256 : Int); decide))) ?_
      | (refine F.hold hA 2000 ?_; cbv))
    exact F.ret (H' := [_, _]) (F.cv ⟨rfl⟩ (.nil _) (.eq rfl (.eq rfl (.nil _)))) rfl ⟨_, _, _, _, rfl, rfl, .inr ⟨neq_true hA d1, owErr hI (neq_true hA d1)⟩⟩
  obtain rfl := neq_zero hA d1
  obtain ⟨_, how, hl19, hq0, hq1⟩ := owEnd hA hv hnn hI (.inl b1)
  have hB := hTd.y _ _ how
  clear hI how hst0 hG
  repeat (first
    | refine OK.drawn (by decide +kernel) ?_
    | refine OK.tree ⟨lookT tis, fun _ => true, []⟩ (by decide +kernel) ?_
    | refine OK.need (by first | assumption | (rw [hA]; first | (show (_ : Int) ≠ _; decide) | (show (0 : Int) ≤ _; decide) | (show (0 : Int) ≤ _ ∧ _ < (256 : Int); decide))) ?_
    | (refine F.hold hA 2000 ?_; cbv))
  refine F.callFrz 3 rfl rfl rfl rfl ?_
  refine F.call [0, 1] (rcode_ok own row out q lim 0 k b true false) rfl rfl rfl fun rs H' hq => ?_
  rcases hq with ⟨e1, rfl, rfl, hf, hcr⟩ | ⟨rows, n, rfl, rfl, hRd, hOr, hcr⟩
  · refine ⟨rfl, ?_⟩
    obtain rfl : e1 = 10 := hf
    have hst := hB.c hcr
    repeat (first
      | refine OK.drawn (by decide +kernel) ?_
      | refine OK.tree ⟨lookT tis, fun _ => true, []⟩ (by decide +kernel) ?_
      | refine OK.need (by first | assumption | (rw [hA]; first | (show (_ : Int) ≠ _; decide) | (show (0 : Int) ≤ _; decide) | (show (0 : Int) ≤ _ ∧ _ < (256 : Int); decide))) ?_
      | (refine F.hold hA 2000 ?_; cbv))
    refine F.loop (V := Int) [0] (fun w => True) (fun w => 0) (fun w => []) (fun w => []) 0 (by cbv; repeat (first | exact WkH.nil _ | apply WkH.gone | refine WkH.eq rfl ?_)) (by cbv; repeat (first | apply WkL.any | exact WkL.nil _ | refine WkL.eq rfl ?_ | refine WkL.bool rfl ?_)) (by cbv; exact ⟨rfl⟩) ?_ ?_
    · trivial
    intro w _ Bk hBk
    have he : (10 : Int) ≠ 0 := by decide
    repeat' (first
      | contradiction
      | exact (eqz hA he (by assumption)).elim
      | exact (he (neq_zero hA (by assumption))).elim
      | refine OK.drawn (by decide +kernel) ?_
      | refine OK.tree ⟨lookT tis, fun _ => true, []⟩ (by decide +kernel) ?_
      | refine OK.both ?_ ?_
      | refine OK.need (by first | assumption | (rw [hA]; first | (show (_ : Int) ≠ _; decide) | (show (0 : Int) ≤ _; decide) | (show (0 : Int) ≤ _ ∧ _ < (256 : Int); decide))) ?_
      | refine OK.need ?_ ?_
      | (refine OK.branch ?_ ?_ <;> intro h)
      | (refine F.hold hA 2000 ?_; cbv))
    exact F.ret (H' := [_, _]) (F.cv ⟨rfl⟩ (.nil _) (.eq rfl (.eq rfl (.nil _)))) rfl ⟨_, _, _, _, rfl, rfl, .inr ⟨he, hst⟩⟩
  refine ⟨rfl, ?_⟩
  repeat (first
    | refine OK.drawn (by decide +kernel) ?_
    | refine OK.tree ⟨lookT tis, fun _ => true, []⟩ (by decide +kernel) ?_
    | refine OK.need (by first | assumption | (rw [hA]; first | (show (_ : Int) ≠ _; decide) | (show (0 : Int) ≤ _; decide) | (show (0 : Int) ≤ _ ∧ _ < (256 : Int); decide))) ?_
    | (refine F.hold hA 2000 ?_; cbv))
  have hNE := neE hA hv1 hv2
  have hNl : v1 + 257 + v2 + 1 ≤ 316 := by omega
  have hiq : InS xs q := insQ hp (Int.le_trans hp3.lo hq0) hq1
  have hRp : RwP xs q (v1 + 257 + v2 + 1) := ⟨hiq, by omega, by omega⟩
  have hRow : ∀ e, rowsR own xs (v1 + 257 + v2 + 1) q = .error e → toldR xs lim p out k = .error e := fun e h => hB.r hcr e h
  refine OK.loopCv (Cv.freeze F.cod 7 rfl) ?_
  refine F.loop (V := Int × List Pr × List Int) [0, 2, 3, 8] (TI own xs (v1 + 257 + v2 + 1) q) (fun w => (8 * xs.length - w.1).toNat) (fun w => [(9, .own 6), (10, .ro (.ints .i64 w.2.2))]) (fun w => [(0, .cells 93 [.ro (.bytes row), .int .i64 w.1, .own 1, .int .i64 lim, .int .i64 0, .int .i64 k, .int .i64 b]), (6, .row 118 (.recs 2 w.2.1))]) (_, _, _) (by cbv; repeat (first | exact WkH.nil _ | apply WkH.gone | refine WkH.eq rfl ?_)) (by cbv; repeat (first | apply WkL.any | exact WkL.nil _ | refine WkL.eq rfl ?_ | refine WkL.bool rfl ?_)) (by cbv; exact ⟨rfl⟩) ?_ ?_
  · exact TI.start hRp
  rintro ⟨p1, items, all⟩ hI Bk hBk
  repeat (first
    | refine OK.drawn (by decide +kernel) ?_
    | refine OK.tree ⟨lookT tis, fun _ => true, []⟩ (by decide +kernel) ?_
    | refine OK.need (by first | assumption | (rw [hA]; first | (show (_ : Int) ≠ _; decide) | (show (0 : Int) ≤ _; decide) | (show (0 : Int) ≤ _ ∧ _ < (256 : Int); decide))) ?_
    | (refine F.hold hA 2000 ?_; cbv))
  refine OK.branch (fun f1 => ?_) (fun f1 => (eql_self hA f1).elim)
  repeat (first
    | refine OK.drawn (by decide +kernel) ?_
    | refine OK.tree ⟨lookT tis, fun _ => true, []⟩ (by decide +kernel) ?_
    | refine OK.need (by first | assumption | (rw [hA]; first | (show (_ : Int) ≠ _; decide) | (show (0 : Int) ≤ _; decide) | (show (0 : Int) ≤ _ ∧ _ < (256 : Int); decide))) ?_
    | (refine F.hold hA 2000 ?_; cbv))
  refine OK.branch (fun f2 => ?_) (fun f2 => ?_)
  · obtain ⟨hl0, hH⟩ := tiH (row := row) hA hp.r hRp hI hNE f2
    have hat := hH.it
    repeat (first
      | refine OK.drawn (by decide +kernel) ?_
      | refine OK.tree ⟨lookT tis, fun _ => true, []⟩ (by decide +kernel) ?_
      | refine OK.need (by first | assumption | (rw [hA]; first | (show (_ : Int) ≠ _; decide) | (show (0 : Int) ≤ _; decide) | (show (0 : Int) ≤ _ ∧ _ < (256 : Int); decide))) ?_
      | (refine F.hold hA 2000 ?_; cbv))
    refine F.call [0, 1, 5] (rsymbol_ok own rows xs row out n p1 lim 0 k b hRd hOr hH.pr) rfl rfl rfl fun rs H' hq => ?_
    obtain ⟨s, p2, e1, rfl, rfl, hs⟩ := hq
    refine ⟨rfl, ?_⟩
    have hp2 := symRes_pre hH.pr hs
    rcases hs with ⟨_, rfl, hs⟩ | ⟨_, he, hs, rfl, rfl⟩ | ⟨h, _⟩
    case inr.inr => exact absurd rfl h
    case inr.inl =>
      have hst := hRow _ (hat.er _ (itemE hs))
      have hsm := hH.sm ⟨0, 0⟩
      repeat (first
        | refine OK.drawn (by decide +kernel) ?_
        | refine OK.tree ⟨lookT tis, fun _ => true, []⟩ (by decide +kernel) ?_
        | refine OK.need (by first | assumption | (rw [hA]; first | (show (_ : Int) ≠ _; decide) | (show (0 : Int) ≤ _; decide) | (show (0 : Int) ≤ _ ∧ _ < (256 : Int); decide))) ?_
        | (refine F.hold hA 2000 ?_; cbv))
      refine OK.branch (fun f3 => absurd (cGeT hA f3) (by decide)) (fun f3 => ?_)
      repeat (first
        | refine OK.drawn (by decide +kernel) ?_
        | refine OK.tree ⟨lookT tis, fun _ => true, []⟩ (by decide +kernel) ?_
        | refine OK.need (by first | assumption | (rw [hA]; first | (show (_ : Int) ≠ _; decide) | (show (0 : Int) ≤ _; decide) | (show (0 : Int) ≤ _ ∧ _ < (256 : Int); decide))) ?_
        | (refine F.hold hA 2000 ?_; cbv))
      refine OK.branch (fun g1 => ?_) (fun g1 => absurd (neq_zero hA g1) he)
      repeat (first
        | refine OK.drawn (by decide +kernel) ?_
        | refine OK.tree ⟨lookT tis, fun _ => true, []⟩ (by decide +kernel) ?_
        | refine OK.need (by first | assumption | (rw [hA]; first | (show (_ : Int) ≠ _; decide) | (show (0 : Int) ≤ _; decide) | (show (0 : Int) ≤ _ ∧ _ < (256 : Int); decide))) ?_
        | (refine F.hold hA 2000 ?_; cbv))
      exact F.ret (H' := [_, _]) (F.cv ⟨rfl⟩ (.nil _) (.eq rfl (.eq rfl (.nil _)))) rfl ⟨_, _, _, _, rfl, rfl, .inr ⟨he, hst⟩⟩
    have h1 : SymIs own xs p1 s p2 := hs
    have hvs := h1.val hat.s1
    have hi2 := h1.ins hat.s1
    have hs19 : s < 19 := by have := hvs.2.1; omega
    clear hs
    by_cases hs16 : s = 16
    · have hG := sx16 hA hs16
      have kk := hG.k
      have qq := hG.q
      have hit := item16 (h := hl0) h1 hs16
      repeat (first
        | refine OK.drawn (by decide +kernel) ?_
        | refine OK.tree ⟨lookT tis, fun _ => true, []⟩ (by decide +kernel) ?_
        | refine OK.need (by first | assumption | (rw [hA]; first | (show (_ : Int) ≠ _; decide) | (show (0 : Int) ≤ _; decide) | (show (0 : Int) ≤ _ ∧ _ < (256 : Int); decide))) ?_
        | (refine F.hold hA 2000 ?_; cbv))
      refine OK.branch (fun f1 => ?_) (fun f1 => (kk f1).elim)
      repeat (first
        | refine OK.drawn (by decide +kernel) ?_
        | refine OK.tree ⟨lookT tis, fun _ => true, []⟩ (by decide +kernel) ?_
        | refine OK.need (by first | assumption | (rw [hA]; first | (show (_ : Int) ≠ _; decide) | (show (0 : Int) ≤ _; decide) | (show (0 : Int) ≤ _ ∧ _ < (256 : Int); decide))) ?_
        | (refine F.hold hA 2000 ?_; cbv))
      refine F.call [0, 1] (rnumI xs row out p2 lim 0 k b 2 _ hG.g (by decide) hp2) rfl rfl rfl fun rs H' hq => ?_
      obtain ⟨x, p9, e9, rfl, rfl, hn9⟩ := hq
      refine ⟨rfl, ?_⟩
      rcases hn9 with ⟨_, rfl, hn9⟩ | ⟨_, rfl, hn9, rfl, rfl⟩ | ⟨h, _⟩
      case inr.inr => exact absurd rfl h
      case inr.inl =>
        have hst := hRow _ (hat.er _ (hit.1 _ hn9))
        have hsm := hH.sm ⟨s, 0⟩
        repeat (first
          | refine OK.drawn (by decide +kernel) ?_
          | refine OK.tree ⟨lookT tis, fun _ => true, []⟩ (by decide +kernel) ?_
          | refine OK.need (by first | assumption | (rw [hA]; first | (show (_ : Int) ≠ _; decide) | (show (0 : Int) ≤ _; decide) | (show (0 : Int) ≤ _ ∧ _ < (256 : Int); decide))) ?_
          | (refine F.hold hA 2000 ?_; cbv))
        refine OK.branch (fun g1 => ?_) (fun g1 => absurd (neq_zero hA g1) (show (15 : Int) ≠ 0 by decide))
        repeat (first
          | refine OK.drawn (by decide +kernel) ?_
          | refine OK.tree ⟨lookT tis, fun _ => true, []⟩ (by decide +kernel) ?_
          | refine OK.need (by first | assumption | (rw [hA]; first | (show (_ : Int) ≠ _; decide) | (show (0 : Int) ≤ _; decide) | (show (0 : Int) ≤ _ ∧ _ < (256 : Int); decide))) ?_
          | (refine F.hold hA 2000 ?_; cbv))
        exact F.ret (H' := [_, _]) (F.cv ⟨rfl⟩ (.nil _) (.eq rfl (.eq rfl (.nil _)))) rfl ⟨_, _, _, _, rfl, rfl, .inr ⟨show (15 : Int) ≠ 0 by decide, hst⟩⟩
      have h9 : NumIs xs p2 2 x p9 := hn9
      have hi9 := h9.ins hi2
      have hv9 := h9.val
      have hx9 : x < 4 := hv9.2.1
      have hsm := hH.sm ⟨s, x⟩
      by_cases hpos : 0 < hl0
      case neg =>
        have hno := ti16 (x := x) hA hI hH.hh hpos
        rw [← hs16] at hno
        have hU : TiU A own xs (v1 + 257 + v2 + 1) q p9 (A.ar .add .i64 (A.ar .add .i64 v1 v2) 258) (A.app items [(⟨s, x⟩ : Pr)]) := ⟨fun _ => hat.er _ ((hit.2 x p9 h9).trans (if_neg hpos)), fun u hu => by rw [hno] at hu; (cases hu), fun u hu => by rw [hno] at hu; (cases hu)⟩
        have hmu : (8 * xs.length - p9).toNat < (8 * xs.length - p1).toNat := by omega
        repeat (first
          | refine OK.drawn (by decide +kernel) ?_
          | refine OK.tree ⟨lookT tis, fun _ => true, []⟩ (by decide +kernel) ?_
          | refine OK.need (by first | assumption | (rw [hA]; first | (show (_ : Int) ≠ _; decide) | (show (0 : Int) ≤ _; decide) | (show (0 : Int) ≤ _ ∧ _ < (256 : Int); decide))) ?_
          | (refine F.hold hA 2000 ?_; cbv))
        refine OK.branch (fun g1 => (neq_self hA g1).elim) (fun g1 => ?_)
        repeat (first
          | refine OK.drawn (by decide +kernel) ?_
          | refine OK.tree ⟨lookT tis, fun _ => true, []⟩ (by decide +kernel) ?_
          | refine OK.need (by first | assumption | (rw [hA]; first | (show (_ : Int) ≠ _; decide) | (show (0 : Int) ≤ _; decide) | (show (0 : Int) ≤ _ ∧ _ < (256 : Int); decide))) ?_
          | (refine F.hold hA 2000 ?_; cbv))
        refine F.call [6] (runpack_own _ (hH.un _)) rfl rfl rfl fun rs H' hq => ?_
        rcases hq with ⟨u, rfl, rfl, hu, hul⟩ | ⟨rfl, rfl, hu⟩
        · refine ⟨rfl, ?_⟩
          refine F.frz 11 rfl ?_
          repeat (first
            | refine OK.drawn (by decide +kernel) ?_
            | refine OK.tree ⟨lookT tis, fun _ => true, []⟩ (by decide +kernel) ?_
            | refine OK.need (by first | assumption | (rw [hA]; first | (show (_ : Int) ≠ _; decide) | (show (0 : Int) ≤ _; decide) | (show (0 : Int) ≤ _ ∧ _ < (256 : Int); decide))) ?_
            | (refine F.hold hA 2000 ?_; cbv))
          refine OK.branch (fun g2 => ?_) (fun g2 => ?_)
          · repeat (first
              | refine OK.drawn (by decide +kernel) ?_
              | refine OK.tree ⟨lookT tis, fun _ => true, []⟩ (by decide +kernel) ?_
              | refine OK.need (by first | assumption | (rw [hA]; first | (show (_ : Int) ≠ _; decide) | (show (0 : Int) ≤ _; decide) | (show (0 : Int) ≤ _ ∧ _ < (256 : Int); decide))) ?_
              | (refine F.hold hA 2000 ?_; cbv))
            refine F.call [0, 1] (fail_ok row out _ lim 0 k b 10) rfl rfl rfl fun rs H' hq => ?_
            obtain ⟨e9, rfl, rfl, hf⟩ := hq
            refine ⟨rfl, ?_⟩
            obtain rfl : e9 = 10 := hf
            repeat (first
              | refine OK.drawn (by decide +kernel) ?_
              | refine OK.tree ⟨lookT tis, fun _ => true, []⟩ (by decide +kernel) ?_
              | refine OK.need (by first | assumption | (rw [hA]; first | (show (_ : Int) ≠ _; decide) | (show (0 : Int) ≤ _; decide) | (show (0 : Int) ≤ _ ∧ _ < (256 : Int); decide))) ?_
              | (refine F.hold hA 2000 ?_; cbv))
            exact F.ret (H' := [_, _]) (F.cv ⟨rfl⟩ (.nil _) (.eq rfl (.eq rfl (.nil _)))) rfl ⟨_, _, _, _, rfl, rfl, .inr ⟨show (10 : Int) ≠ 0 by decide, hRow _ (hU.big u hu g2)⟩⟩
          repeat (first
            | refine OK.drawn (by decide +kernel) ?_
            | refine OK.tree ⟨lookT tis, fun _ => true, []⟩ (by decide +kernel) ?_
            | refine OK.need (by first | assumption | (rw [hA]; first | (show (_ : Int) ≠ _; decide) | (show (0 : Int) ≤ _; decide) | (show (0 : Int) ≤ _ ∧ _ < (256 : Int); decide))) ?_
            | (refine F.hold hA 2000 ?_; cbv))
          refine OK.back (hBk _ _ (_, _, _) (by cbv; repeat (first | exact WkH.nil _ | apply WkH.gone | refine WkH.eq rfl ?_)) (by cbv; repeat (first | apply WkL.any | exact WkL.nil _ | refine WkL.eq rfl ?_ | refine WkL.bool rfl ?_)) (by cbv; exact ⟨rfl⟩) ?_ ?_)
          · exact hU.nx u hu g2
          · exact hmu
        · refine ⟨rfl, ?_⟩
          repeat (first
            | refine OK.drawn (by decide +kernel) ?_
            | refine OK.tree ⟨lookT tis, fun _ => true, []⟩ (by decide +kernel) ?_
            | refine OK.need (by first | assumption | (rw [hA]; first | (show (_ : Int) ≠ _; decide) | (show (0 : Int) ≤ _; decide) | (show (0 : Int) ≤ _ ∧ _ < (256 : Int); decide))) ?_
            | (refine F.hold hA 2000 ?_; cbv))
          refine F.call [0, 1] (fail_ok row out _ lim 0 k b 10) rfl rfl rfl fun rs H' hq => ?_
          obtain ⟨e9, rfl, rfl, hf⟩ := hq
          refine ⟨rfl, ?_⟩
          obtain rfl : e9 = 10 := hf
          repeat (first
            | refine OK.drawn (by decide +kernel) ?_
            | refine OK.tree ⟨lookT tis, fun _ => true, []⟩ (by decide +kernel) ?_
            | refine OK.need (by first | assumption | (rw [hA]; first | (show (_ : Int) ≠ _; decide) | (show (0 : Int) ≤ _; decide) | (show (0 : Int) ≤ _ ∧ _ < (256 : Int); decide))) ?_
            | (refine F.hold hA 2000 ?_; cbv))
          exact F.ret (H' := [_, _]) (F.cv ⟨rfl⟩ (.nil _) (.eq rfl (.eq rfl (.nil _)))) rfl ⟨_, _, _, _, rfl, rfl, .inr ⟨show (10 : Int) ≠ 0 by decide, hRow _ (hU.no hu)⟩⟩
      have hir := (hit.2 x p9 h9).trans (if_pos hpos)
      have hrow := item_row (by omega) hir (all := all) hH.hh.symm
      have hnx := hat.nx p9 s x _ hir hi9 (by omega) (by omega) (by omega) (by unfold cnt1; rw [if_pos (.inl hs16)]; simp only; omega)
      have hU := tiU (NE := A.ar .add .i64 (A.ar .add .i64 v1 v2) 258) hA hRp hNl hI hNE hrow hH.hh (by unfold cnt1; rw [if_pos (.inl hs16)]; simp only; omega) hnx.2.1
      have hmu := hnx.2.2
      clear hnx hrow hir hit
      repeat (first
        | refine OK.drawn (by decide +kernel) ?_
        | refine OK.tree ⟨lookT tis, fun _ => true, []⟩ (by decide +kernel) ?_
        | refine OK.need (by first | assumption | (rw [hA]; first | (show (_ : Int) ≠ _; decide) | (show (0 : Int) ≤ _; decide) | (show (0 : Int) ≤ _ ∧ _ < (256 : Int); decide))) ?_
        | (refine F.hold hA 2000 ?_; cbv))
      refine OK.branch (fun g1 => (neq_self hA g1).elim) (fun g1 => ?_)
      repeat (first
        | refine OK.drawn (by decide +kernel) ?_
        | refine OK.tree ⟨lookT tis, fun _ => true, []⟩ (by decide +kernel) ?_
        | refine OK.need (by first | assumption | (rw [hA]; first | (show (_ : Int) ≠ _; decide) | (show (0 : Int) ≤ _; decide) | (show (0 : Int) ≤ _ ∧ _ < (256 : Int); decide))) ?_
        | (refine F.hold hA 2000 ?_; cbv))
      refine F.call [6] (runpack_own _ (hH.un _)) rfl rfl rfl fun rs H' hq => ?_
      rcases hq with ⟨u, rfl, rfl, hu, hul⟩ | ⟨rfl, rfl, hu⟩
      · refine ⟨rfl, ?_⟩
        refine F.frz 11 rfl ?_
        repeat (first
          | refine OK.drawn (by decide +kernel) ?_
          | refine OK.tree ⟨lookT tis, fun _ => true, []⟩ (by decide +kernel) ?_
          | refine OK.need (by first | assumption | (rw [hA]; first | (show (_ : Int) ≠ _; decide) | (show (0 : Int) ≤ _; decide) | (show (0 : Int) ≤ _ ∧ _ < (256 : Int); decide))) ?_
          | (refine F.hold hA 2000 ?_; cbv))
        refine OK.branch (fun g2 => ?_) (fun g2 => ?_)
        · repeat (first
            | refine OK.drawn (by decide +kernel) ?_
            | refine OK.tree ⟨lookT tis, fun _ => true, []⟩ (by decide +kernel) ?_
            | refine OK.need (by first | assumption | (rw [hA]; first | (show (_ : Int) ≠ _; decide) | (show (0 : Int) ≤ _; decide) | (show (0 : Int) ≤ _ ∧ _ < (256 : Int); decide))) ?_
            | (refine F.hold hA 2000 ?_; cbv))
          refine F.call [0, 1] (fail_ok row out _ lim 0 k b 10) rfl rfl rfl fun rs H' hq => ?_
          obtain ⟨e9, rfl, rfl, hf⟩ := hq
          refine ⟨rfl, ?_⟩
          obtain rfl : e9 = 10 := hf
          repeat (first
            | refine OK.drawn (by decide +kernel) ?_
            | refine OK.tree ⟨lookT tis, fun _ => true, []⟩ (by decide +kernel) ?_
            | refine OK.need (by first | assumption | (rw [hA]; first | (show (_ : Int) ≠ _; decide) | (show (0 : Int) ≤ _; decide) | (show (0 : Int) ≤ _ ∧ _ < (256 : Int); decide))) ?_
            | (refine F.hold hA 2000 ?_; cbv))
          exact F.ret (H' := [_, _]) (F.cv ⟨rfl⟩ (.nil _) (.eq rfl (.eq rfl (.nil _)))) rfl ⟨_, _, _, _, rfl, rfl, .inr ⟨show (10 : Int) ≠ 0 by decide, hRow _ (hU.big u hu g2)⟩⟩
        repeat (first
          | refine OK.drawn (by decide +kernel) ?_
          | refine OK.tree ⟨lookT tis, fun _ => true, []⟩ (by decide +kernel) ?_
          | refine OK.need (by first | assumption | (rw [hA]; first | (show (_ : Int) ≠ _; decide) | (show (0 : Int) ≤ _; decide) | (show (0 : Int) ≤ _ ∧ _ < (256 : Int); decide))) ?_
          | (refine F.hold hA 2000 ?_; cbv))
        refine OK.back (hBk _ _ (_, _, _) (by cbv; repeat (first | exact WkH.nil _ | apply WkH.gone | refine WkH.eq rfl ?_)) (by cbv; repeat (first | apply WkL.any | exact WkL.nil _ | refine WkL.eq rfl ?_ | refine WkL.bool rfl ?_)) (by cbv; exact ⟨rfl⟩) ?_ ?_)
        · exact hU.nx u hu g2
        · exact hmu
      · refine ⟨rfl, ?_⟩
        repeat (first
          | refine OK.drawn (by decide +kernel) ?_
          | refine OK.tree ⟨lookT tis, fun _ => true, []⟩ (by decide +kernel) ?_
          | refine OK.need (by first | assumption | (rw [hA]; first | (show (_ : Int) ≠ _; decide) | (show (0 : Int) ≤ _; decide) | (show (0 : Int) ≤ _ ∧ _ < (256 : Int); decide))) ?_
          | (refine F.hold hA 2000 ?_; cbv))
        refine F.call [0, 1] (fail_ok row out _ lim 0 k b 10) rfl rfl rfl fun rs H' hq => ?_
        obtain ⟨e9, rfl, rfl, hf⟩ := hq
        refine ⟨rfl, ?_⟩
        obtain rfl : e9 = 10 := hf
        repeat (first
          | refine OK.drawn (by decide +kernel) ?_
          | refine OK.tree ⟨lookT tis, fun _ => true, []⟩ (by decide +kernel) ?_
          | refine OK.need (by first | assumption | (rw [hA]; first | (show (_ : Int) ≠ _; decide) | (show (0 : Int) ≤ _; decide) | (show (0 : Int) ≤ _ ∧ _ < (256 : Int); decide))) ?_
          | (refine F.hold hA 2000 ?_; cbv))
        exact F.ret (H' := [_, _]) (F.cv ⟨rfl⟩ (.nil _) (.eq rfl (.eq rfl (.nil _)))) rfl ⟨_, _, _, _, rfl, rfl, .inr ⟨show (10 : Int) ≠ 0 by decide, hRow _ (hU.no hu)⟩⟩
    by_cases hs17 : s = 17
    · have hG := sx17 hA hs17
      have kk := hG.k
      have qq := hG.q
      have hit := item17 (h := hl0) h1 hs17
      repeat (first
        | refine OK.drawn (by decide +kernel) ?_
        | refine OK.tree ⟨lookT tis, fun _ => true, []⟩ (by decide +kernel) ?_
        | refine OK.need (by first | assumption | (rw [hA]; first | (show (_ : Int) ≠ _; decide) | (show (0 : Int) ≤ _; decide) | (show (0 : Int) ≤ _ ∧ _ < (256 : Int); decide))) ?_
        | (refine F.hold hA 2000 ?_; cbv))
      refine OK.branch (fun f1 => ?_) (fun f1 => (kk f1).elim)
      repeat (first
        | refine OK.drawn (by decide +kernel) ?_
        | refine OK.tree ⟨lookT tis, fun _ => true, []⟩ (by decide +kernel) ?_
        | refine OK.need (by first | assumption | (rw [hA]; first | (show (_ : Int) ≠ _; decide) | (show (0 : Int) ≤ _; decide) | (show (0 : Int) ≤ _ ∧ _ < (256 : Int); decide))) ?_
        | (refine F.hold hA 2000 ?_; cbv))
      refine F.call [0, 1] (rnumI xs row out p2 lim 0 k b 3 _ hG.g (by decide) hp2) rfl rfl rfl fun rs H' hq => ?_
      obtain ⟨x, p9, e9, rfl, rfl, hn9⟩ := hq
      refine ⟨rfl, ?_⟩
      rcases hn9 with ⟨_, rfl, hn9⟩ | ⟨_, rfl, hn9, rfl, rfl⟩ | ⟨h, _⟩
      case inr.inr => exact absurd rfl h
      case inr.inl =>
        have hst := hRow _ (hat.er _ (hit.1 _ hn9))
        have hsm := hH.sm ⟨s, 0⟩
        repeat (first
          | refine OK.drawn (by decide +kernel) ?_
          | refine OK.tree ⟨lookT tis, fun _ => true, []⟩ (by decide +kernel) ?_
          | refine OK.need (by first | assumption | (rw [hA]; first | (show (_ : Int) ≠ _; decide) | (show (0 : Int) ≤ _; decide) | (show (0 : Int) ≤ _ ∧ _ < (256 : Int); decide))) ?_
          | (refine F.hold hA 2000 ?_; cbv))
        refine OK.branch (fun g1 => ?_) (fun g1 => absurd (neq_zero hA g1) (show (15 : Int) ≠ 0 by decide))
        repeat (first
          | refine OK.drawn (by decide +kernel) ?_
          | refine OK.tree ⟨lookT tis, fun _ => true, []⟩ (by decide +kernel) ?_
          | refine OK.need (by first | assumption | (rw [hA]; first | (show (_ : Int) ≠ _; decide) | (show (0 : Int) ≤ _; decide) | (show (0 : Int) ≤ _ ∧ _ < (256 : Int); decide))) ?_
          | (refine F.hold hA 2000 ?_; cbv))
        exact F.ret (H' := [_, _]) (F.cv ⟨rfl⟩ (.nil _) (.eq rfl (.eq rfl (.nil _)))) rfl ⟨_, _, _, _, rfl, rfl, .inr ⟨show (15 : Int) ≠ 0 by decide, hst⟩⟩
      have h9 : NumIs xs p2 3 x p9 := hn9
      have hi9 := h9.ins hi2
      have hv9 := h9.val
      have hx9 : x < 8 := hv9.2.1
      have hsm := hH.sm ⟨s, x⟩
      have hir := hit.2 x p9 h9
      have hrow := item_row (by omega) hir (all := all) hH.hh.symm
      have hnx := hat.nx p9 s x _ hir hi9 (by omega) (by omega) (by omega) (by unfold cnt1; rw [if_pos (.inr hs17)]; simp only; omega)
      have hU := tiU (NE := A.ar .add .i64 (A.ar .add .i64 v1 v2) 258) hA hRp hNl hI hNE hrow hH.hh (by unfold cnt1; rw [if_pos (.inr hs17)]; simp only; omega) hnx.2.1
      have hmu := hnx.2.2
      clear hnx hrow hir hit
      repeat (first
        | refine OK.drawn (by decide +kernel) ?_
        | refine OK.tree ⟨lookT tis, fun _ => true, []⟩ (by decide +kernel) ?_
        | refine OK.need (by first | assumption | (rw [hA]; first | (show (_ : Int) ≠ _; decide) | (show (0 : Int) ≤ _; decide) | (show (0 : Int) ≤ _ ∧ _ < (256 : Int); decide))) ?_
        | (refine F.hold hA 2000 ?_; cbv))
      refine OK.branch (fun g1 => (neq_self hA g1).elim) (fun g1 => ?_)
      repeat (first
        | refine OK.drawn (by decide +kernel) ?_
        | refine OK.tree ⟨lookT tis, fun _ => true, []⟩ (by decide +kernel) ?_
        | refine OK.need (by first | assumption | (rw [hA]; first | (show (_ : Int) ≠ _; decide) | (show (0 : Int) ≤ _; decide) | (show (0 : Int) ≤ _ ∧ _ < (256 : Int); decide))) ?_
        | (refine F.hold hA 2000 ?_; cbv))
      refine F.call [6] (runpack_own _ (hH.un _)) rfl rfl rfl fun rs H' hq => ?_
      rcases hq with ⟨u, rfl, rfl, hu, hul⟩ | ⟨rfl, rfl, hu⟩
      · refine ⟨rfl, ?_⟩
        refine F.frz 11 rfl ?_
        repeat (first
          | refine OK.drawn (by decide +kernel) ?_
          | refine OK.tree ⟨lookT tis, fun _ => true, []⟩ (by decide +kernel) ?_
          | refine OK.need (by first | assumption | (rw [hA]; first | (show (_ : Int) ≠ _; decide) | (show (0 : Int) ≤ _; decide) | (show (0 : Int) ≤ _ ∧ _ < (256 : Int); decide))) ?_
          | (refine F.hold hA 2000 ?_; cbv))
        refine OK.branch (fun g2 => ?_) (fun g2 => ?_)
        · repeat (first
            | refine OK.drawn (by decide +kernel) ?_
            | refine OK.tree ⟨lookT tis, fun _ => true, []⟩ (by decide +kernel) ?_
            | refine OK.need (by first | assumption | (rw [hA]; first | (show (_ : Int) ≠ _; decide) | (show (0 : Int) ≤ _; decide) | (show (0 : Int) ≤ _ ∧ _ < (256 : Int); decide))) ?_
            | (refine F.hold hA 2000 ?_; cbv))
          refine F.call [0, 1] (fail_ok row out _ lim 0 k b 10) rfl rfl rfl fun rs H' hq => ?_
          obtain ⟨e9, rfl, rfl, hf⟩ := hq
          refine ⟨rfl, ?_⟩
          obtain rfl : e9 = 10 := hf
          repeat (first
            | refine OK.drawn (by decide +kernel) ?_
            | refine OK.tree ⟨lookT tis, fun _ => true, []⟩ (by decide +kernel) ?_
            | refine OK.need (by first | assumption | (rw [hA]; first | (show (_ : Int) ≠ _; decide) | (show (0 : Int) ≤ _; decide) | (show (0 : Int) ≤ _ ∧ _ < (256 : Int); decide))) ?_
            | (refine F.hold hA 2000 ?_; cbv))
          exact F.ret (H' := [_, _]) (F.cv ⟨rfl⟩ (.nil _) (.eq rfl (.eq rfl (.nil _)))) rfl ⟨_, _, _, _, rfl, rfl, .inr ⟨show (10 : Int) ≠ 0 by decide, hRow _ (hU.big u hu g2)⟩⟩
        repeat (first
          | refine OK.drawn (by decide +kernel) ?_
          | refine OK.tree ⟨lookT tis, fun _ => true, []⟩ (by decide +kernel) ?_
          | refine OK.need (by first | assumption | (rw [hA]; first | (show (_ : Int) ≠ _; decide) | (show (0 : Int) ≤ _; decide) | (show (0 : Int) ≤ _ ∧ _ < (256 : Int); decide))) ?_
          | (refine F.hold hA 2000 ?_; cbv))
        refine OK.back (hBk _ _ (_, _, _) (by cbv; repeat (first | exact WkH.nil _ | apply WkH.gone | refine WkH.eq rfl ?_)) (by cbv; repeat (first | apply WkL.any | exact WkL.nil _ | refine WkL.eq rfl ?_ | refine WkL.bool rfl ?_)) (by cbv; exact ⟨rfl⟩) ?_ ?_)
        · exact hU.nx u hu g2
        · exact hmu
      · refine ⟨rfl, ?_⟩
        repeat (first
          | refine OK.drawn (by decide +kernel) ?_
          | refine OK.tree ⟨lookT tis, fun _ => true, []⟩ (by decide +kernel) ?_
          | refine OK.need (by first | assumption | (rw [hA]; first | (show (_ : Int) ≠ _; decide) | (show (0 : Int) ≤ _; decide) | (show (0 : Int) ≤ _ ∧ _ < (256 : Int); decide))) ?_
          | (refine F.hold hA 2000 ?_; cbv))
        refine F.call [0, 1] (fail_ok row out _ lim 0 k b 10) rfl rfl rfl fun rs H' hq => ?_
        obtain ⟨e9, rfl, rfl, hf⟩ := hq
        refine ⟨rfl, ?_⟩
        obtain rfl : e9 = 10 := hf
        repeat (first
          | refine OK.drawn (by decide +kernel) ?_
          | refine OK.tree ⟨lookT tis, fun _ => true, []⟩ (by decide +kernel) ?_
          | refine OK.need (by first | assumption | (rw [hA]; first | (show (_ : Int) ≠ _; decide) | (show (0 : Int) ≤ _; decide) | (show (0 : Int) ≤ _ ∧ _ < (256 : Int); decide))) ?_
          | (refine F.hold hA 2000 ?_; cbv))
        exact F.ret (H' := [_, _]) (F.cv ⟨rfl⟩ (.nil _) (.eq rfl (.eq rfl (.nil _)))) rfl ⟨_, _, _, _, rfl, rfl, .inr ⟨show (10 : Int) ≠ 0 by decide, hRow _ (hU.no hu)⟩⟩
    by_cases hs18 : s = 18
    · have hG := sx18 hA hs18
      have kk := hG.k
      have qq := hG.q
      have hit := item18 (h := hl0) h1 hs18
      repeat (first
        | refine OK.drawn (by decide +kernel) ?_
        | refine OK.tree ⟨lookT tis, fun _ => true, []⟩ (by decide +kernel) ?_
        | refine OK.need (by first | assumption | (rw [hA]; first | (show (_ : Int) ≠ _; decide) | (show (0 : Int) ≤ _; decide) | (show (0 : Int) ≤ _ ∧ _ < (256 : Int); decide))) ?_
        | (refine F.hold hA 2000 ?_; cbv))
      refine OK.branch (fun f1 => ?_) (fun f1 => (kk f1).elim)
      repeat (first
        | refine OK.drawn (by decide +kernel) ?_
        | refine OK.tree ⟨lookT tis, fun _ => true, []⟩ (by decide +kernel) ?_
        | refine OK.need (by first | assumption | (rw [hA]; first | (show (_ : Int) ≠ _; decide) | (show (0 : Int) ≤ _; decide) | (show (0 : Int) ≤ _ ∧ _ < (256 : Int); decide))) ?_
        | (refine F.hold hA 2000 ?_; cbv))
      refine F.call [0, 1] (rnumI xs row out p2 lim 0 k b 7 _ hG.g (by decide) hp2) rfl rfl rfl fun rs H' hq => ?_
      obtain ⟨x, p9, e9, rfl, rfl, hn9⟩ := hq
      refine ⟨rfl, ?_⟩
      rcases hn9 with ⟨_, rfl, hn9⟩ | ⟨_, rfl, hn9, rfl, rfl⟩ | ⟨h, _⟩
      case inr.inr => exact absurd rfl h
      case inr.inl =>
        have hst := hRow _ (hat.er _ (hit.1 _ hn9))
        have hsm := hH.sm ⟨s, 0⟩
        repeat (first
          | refine OK.drawn (by decide +kernel) ?_
          | refine OK.tree ⟨lookT tis, fun _ => true, []⟩ (by decide +kernel) ?_
          | refine OK.need (by first | assumption | (rw [hA]; first | (show (_ : Int) ≠ _; decide) | (show (0 : Int) ≤ _; decide) | (show (0 : Int) ≤ _ ∧ _ < (256 : Int); decide))) ?_
          | (refine F.hold hA 2000 ?_; cbv))
        refine OK.branch (fun g1 => ?_) (fun g1 => absurd (neq_zero hA g1) (show (15 : Int) ≠ 0 by decide))
        repeat (first
          | refine OK.drawn (by decide +kernel) ?_
          | refine OK.tree ⟨lookT tis, fun _ => true, []⟩ (by decide +kernel) ?_
          | refine OK.need (by first | assumption | (rw [hA]; first | (show (_ : Int) ≠ _; decide) | (show (0 : Int) ≤ _; decide) | (show (0 : Int) ≤ _ ∧ _ < (256 : Int); decide))) ?_
          | (refine F.hold hA 2000 ?_; cbv))
        exact F.ret (H' := [_, _]) (F.cv ⟨rfl⟩ (.nil _) (.eq rfl (.eq rfl (.nil _)))) rfl ⟨_, _, _, _, rfl, rfl, .inr ⟨show (15 : Int) ≠ 0 by decide, hst⟩⟩
      have h9 : NumIs xs p2 7 x p9 := hn9
      have hi9 := h9.ins hi2
      have hv9 := h9.val
      have hx9 : x < 128 := hv9.2.1
      have hsm := hH.sm ⟨s, x⟩
      have hir := hit.2 x p9 h9
      have hrow := item_row (by omega) hir (all := all) hH.hh.symm
      have hnx := hat.nx p9 s x _ hir hi9 (by omega) (by omega) (by omega) (by unfold cnt1; rw [if_neg (by omega), if_pos hs18]; simp only; omega)
      have hU := tiU (NE := A.ar .add .i64 (A.ar .add .i64 v1 v2) 258) hA hRp hNl hI hNE hrow hH.hh (by unfold cnt1; rw [if_neg (by omega), if_pos hs18]; simp only; omega) hnx.2.1
      have hmu := hnx.2.2
      clear hnx hrow hir hit
      repeat (first
        | refine OK.drawn (by decide +kernel) ?_
        | refine OK.tree ⟨lookT tis, fun _ => true, []⟩ (by decide +kernel) ?_
        | refine OK.need (by first | assumption | (rw [hA]; first | (show (_ : Int) ≠ _; decide) | (show (0 : Int) ≤ _; decide) | (show (0 : Int) ≤ _ ∧ _ < (256 : Int); decide))) ?_
        | (refine F.hold hA 2000 ?_; cbv))
      refine OK.branch (fun g1 => (neq_self hA g1).elim) (fun g1 => ?_)
      repeat (first
        | refine OK.drawn (by decide +kernel) ?_
        | refine OK.tree ⟨lookT tis, fun _ => true, []⟩ (by decide +kernel) ?_
        | refine OK.need (by first | assumption | (rw [hA]; first | (show (_ : Int) ≠ _; decide) | (show (0 : Int) ≤ _; decide) | (show (0 : Int) ≤ _ ∧ _ < (256 : Int); decide))) ?_
        | (refine F.hold hA 2000 ?_; cbv))
      refine F.call [6] (runpack_own _ (hH.un _)) rfl rfl rfl fun rs H' hq => ?_
      rcases hq with ⟨u, rfl, rfl, hu, hul⟩ | ⟨rfl, rfl, hu⟩
      · refine ⟨rfl, ?_⟩
        refine F.frz 11 rfl ?_
        repeat (first
          | refine OK.drawn (by decide +kernel) ?_
          | refine OK.tree ⟨lookT tis, fun _ => true, []⟩ (by decide +kernel) ?_
          | refine OK.need (by first | assumption | (rw [hA]; first | (show (_ : Int) ≠ _; decide) | (show (0 : Int) ≤ _; decide) | (show (0 : Int) ≤ _ ∧ _ < (256 : Int); decide))) ?_
          | (refine F.hold hA 2000 ?_; cbv))
        refine OK.branch (fun g2 => ?_) (fun g2 => ?_)
        · repeat (first
            | refine OK.drawn (by decide +kernel) ?_
            | refine OK.tree ⟨lookT tis, fun _ => true, []⟩ (by decide +kernel) ?_
            | refine OK.need (by first | assumption | (rw [hA]; first | (show (_ : Int) ≠ _; decide) | (show (0 : Int) ≤ _; decide) | (show (0 : Int) ≤ _ ∧ _ < (256 : Int); decide))) ?_
            | (refine F.hold hA 2000 ?_; cbv))
          refine F.call [0, 1] (fail_ok row out _ lim 0 k b 10) rfl rfl rfl fun rs H' hq => ?_
          obtain ⟨e9, rfl, rfl, hf⟩ := hq
          refine ⟨rfl, ?_⟩
          obtain rfl : e9 = 10 := hf
          repeat (first
            | refine OK.drawn (by decide +kernel) ?_
            | refine OK.tree ⟨lookT tis, fun _ => true, []⟩ (by decide +kernel) ?_
            | refine OK.need (by first | assumption | (rw [hA]; first | (show (_ : Int) ≠ _; decide) | (show (0 : Int) ≤ _; decide) | (show (0 : Int) ≤ _ ∧ _ < (256 : Int); decide))) ?_
            | (refine F.hold hA 2000 ?_; cbv))
          exact F.ret (H' := [_, _]) (F.cv ⟨rfl⟩ (.nil _) (.eq rfl (.eq rfl (.nil _)))) rfl ⟨_, _, _, _, rfl, rfl, .inr ⟨show (10 : Int) ≠ 0 by decide, hRow _ (hU.big u hu g2)⟩⟩
        repeat (first
          | refine OK.drawn (by decide +kernel) ?_
          | refine OK.tree ⟨lookT tis, fun _ => true, []⟩ (by decide +kernel) ?_
          | refine OK.need (by first | assumption | (rw [hA]; first | (show (_ : Int) ≠ _; decide) | (show (0 : Int) ≤ _; decide) | (show (0 : Int) ≤ _ ∧ _ < (256 : Int); decide))) ?_
          | (refine F.hold hA 2000 ?_; cbv))
        refine OK.back (hBk _ _ (_, _, _) (by cbv; repeat (first | exact WkH.nil _ | apply WkH.gone | refine WkH.eq rfl ?_)) (by cbv; repeat (first | apply WkL.any | exact WkL.nil _ | refine WkL.eq rfl ?_ | refine WkL.bool rfl ?_)) (by cbv; exact ⟨rfl⟩) ?_ ?_)
        · exact hU.nx u hu g2
        · exact hmu
      · refine ⟨rfl, ?_⟩
        repeat (first
          | refine OK.drawn (by decide +kernel) ?_
          | refine OK.tree ⟨lookT tis, fun _ => true, []⟩ (by decide +kernel) ?_
          | refine OK.need (by first | assumption | (rw [hA]; first | (show (_ : Int) ≠ _; decide) | (show (0 : Int) ≤ _; decide) | (show (0 : Int) ≤ _ ∧ _ < (256 : Int); decide))) ?_
          | (refine F.hold hA 2000 ?_; cbv))
        refine F.call [0, 1] (fail_ok row out _ lim 0 k b 10) rfl rfl rfl fun rs H' hq => ?_
        obtain ⟨e9, rfl, rfl, hf⟩ := hq
        refine ⟨rfl, ?_⟩
        obtain rfl : e9 = 10 := hf
        repeat (first
          | refine OK.drawn (by decide +kernel) ?_
          | refine OK.tree ⟨lookT tis, fun _ => true, []⟩ (by decide +kernel) ?_
          | refine OK.need (by first | assumption | (rw [hA]; first | (show (_ : Int) ≠ _; decide) | (show (0 : Int) ≤ _; decide) | (show (0 : Int) ≤ _ ∧ _ < (256 : Int); decide))) ?_
          | (refine F.hold hA 2000 ?_; cbv))
        exact F.ret (H' := [_, _]) (F.cv ⟨rfl⟩ (.nil _) (.eq rfl (.eq rfl (.nil _)))) rfl ⟨_, _, _, _, rfl, rfl, .inr ⟨show (10 : Int) ≠ 0 by decide, hRow _ (hU.no hu)⟩⟩
    have hir := itemO (h := hl0) h1 ⟨hs16, hs17, hs18⟩
    have hsm := hH.sm ⟨s, 0⟩
    have hrow := item_row (by omega) hir (all := all) hH.hh.symm
    have hnx := hat.nx p2 s 0 _ hir hi2 (by omega) (by omega) (by omega) (by unfold cnt1; rw [if_neg (by simp only; omega), if_neg hs18])
    have hU := tiU (NE := A.ar .add .i64 (A.ar .add .i64 v1 v2) 258) hA hRp hNl hI hNE hrow hH.hh (by unfold cnt1; rw [if_neg (by simp only; omega), if_neg hs18]) hnx.2.1
    have hmu := hnx.2.2
    clear hnx hrow hir
    repeat (first
      | refine OK.drawn (by decide +kernel) ?_
      | refine OK.tree ⟨lookT tis, fun _ => true, []⟩ (by decide +kernel) ?_
      | refine OK.need (by first | assumption | (rw [hA]; first | (show (_ : Int) ≠ _; decide) | (show (0 : Int) ≤ _; decide) | (show (0 : Int) ≤ _ ∧ _ < (256 : Int); decide))) ?_
      | (refine F.hold hA 2000 ?_; cbv))
    refine OK.branch (fun f3 => absurd (cGeT hA f3) (by omega)) (fun f3 => ?_)
    repeat (first
      | refine OK.drawn (by decide +kernel) ?_
      | refine OK.tree ⟨lookT tis, fun _ => true, []⟩ (by decide +kernel) ?_
      | refine OK.need (by first | assumption | (rw [hA]; first | (show (_ : Int) ≠ _; decide) | (show (0 : Int) ≤ _; decide) | (show (0 : Int) ≤ _ ∧ _ < (256 : Int); decide))) ?_
      | (refine F.hold hA 2000 ?_; cbv))
    refine OK.branch (fun g1 => (neq_self hA g1).elim) (fun g1 => ?_)
    repeat (first
      | refine OK.drawn (by decide +kernel) ?_
      | refine OK.tree ⟨lookT tis, fun _ => true, []⟩ (by decide +kernel) ?_
      | refine OK.need (by first | assumption | (rw [hA]; first | (show (_ : Int) ≠ _; decide) | (show (0 : Int) ≤ _; decide) | (show (0 : Int) ≤ _ ∧ _ < (256 : Int); decide))) ?_
      | (refine F.hold hA 2000 ?_; cbv))
    refine F.call [6] (runpack_own _ (hH.un _)) rfl rfl rfl fun rs H' hq => ?_
    rcases hq with ⟨u, rfl, rfl, hu, hul⟩ | ⟨rfl, rfl, hu⟩
    · refine ⟨rfl, ?_⟩
      refine F.frz 10 rfl ?_
      repeat (first
        | refine OK.drawn (by decide +kernel) ?_
        | refine OK.tree ⟨lookT tis, fun _ => true, []⟩ (by decide +kernel) ?_
        | refine OK.need (by first | assumption | (rw [hA]; first | (show (_ : Int) ≠ _; decide) | (show (0 : Int) ≤ _; decide) | (show (0 : Int) ≤ _ ∧ _ < (256 : Int); decide))) ?_
        | (refine F.hold hA 2000 ?_; cbv))
      refine OK.branch (fun g2 => ?_) (fun g2 => ?_)
      · repeat (first
          | refine OK.drawn (by decide +kernel) ?_
          | refine OK.tree ⟨lookT tis, fun _ => true, []⟩ (by decide +kernel) ?_
          | refine OK.need (by first | assumption | (rw [hA]; first | (show (_ : Int) ≠ _; decide) | (show (0 : Int) ≤ _; decide) | (show (0 : Int) ≤ _ ∧ _ < (256 : Int); decide))) ?_
          | (refine F.hold hA 2000 ?_; cbv))
        refine F.call [0, 1] (fail_ok row out _ lim 0 k b 10) rfl rfl rfl fun rs H' hq => ?_
        obtain ⟨e9, rfl, rfl, hf⟩ := hq
        refine ⟨rfl, ?_⟩
        obtain rfl : e9 = 10 := hf
        repeat (first
          | refine OK.drawn (by decide +kernel) ?_
          | refine OK.tree ⟨lookT tis, fun _ => true, []⟩ (by decide +kernel) ?_
          | refine OK.need (by first | assumption | (rw [hA]; first | (show (_ : Int) ≠ _; decide) | (show (0 : Int) ≤ _; decide) | (show (0 : Int) ≤ _ ∧ _ < (256 : Int); decide))) ?_
          | (refine F.hold hA 2000 ?_; cbv))
        exact F.ret (H' := [_, _]) (F.cv ⟨rfl⟩ (.nil _) (.eq rfl (.eq rfl (.nil _)))) rfl ⟨_, _, _, _, rfl, rfl, .inr ⟨show (10 : Int) ≠ 0 by decide, hRow _ (hU.big u hu g2)⟩⟩
      repeat (first
        | refine OK.drawn (by decide +kernel) ?_
        | refine OK.tree ⟨lookT tis, fun _ => true, []⟩ (by decide +kernel) ?_
        | refine OK.need (by first | assumption | (rw [hA]; first | (show (_ : Int) ≠ _; decide) | (show (0 : Int) ≤ _; decide) | (show (0 : Int) ≤ _ ∧ _ < (256 : Int); decide))) ?_
        | (refine F.hold hA 2000 ?_; cbv))
      refine OK.back (hBk _ _ (_, _, _) (by cbv; repeat (first | exact WkH.nil _ | apply WkH.gone | refine WkH.eq rfl ?_)) (by cbv; repeat (first | apply WkL.any | exact WkL.nil _ | refine WkL.eq rfl ?_ | refine WkL.bool rfl ?_)) (by cbv; exact ⟨rfl⟩) ?_ ?_)
      · exact hU.nx u hu g2
      · exact hmu
    · refine ⟨rfl, ?_⟩
      repeat (first
        | refine OK.drawn (by decide +kernel) ?_
        | refine OK.tree ⟨lookT tis, fun _ => true, []⟩ (by decide +kernel) ?_
        | refine OK.need (by first | assumption | (rw [hA]; first | (show (_ : Int) ≠ _; decide) | (show (0 : Int) ≤ _; decide) | (show (0 : Int) ≤ _ ∧ _ < (256 : Int); decide))) ?_
        | (refine F.hold hA 2000 ?_; cbv))
      refine F.call [0, 1] (fail_ok row out _ lim 0 k b 10) rfl rfl rfl fun rs H' hq => ?_
      obtain ⟨e9, rfl, rfl, hf⟩ := hq
      refine ⟨rfl, ?_⟩
      obtain rfl : e9 = 10 := hf
      repeat (first
        | refine OK.drawn (by decide +kernel) ?_
        | refine OK.tree ⟨lookT tis, fun _ => true, []⟩ (by decide +kernel) ?_
        | refine OK.need (by first | assumption | (rw [hA]; first | (show (_ : Int) ≠ _; decide) | (show (0 : Int) ≤ _; decide) | (show (0 : Int) ≤ _ ∧ _ < (256 : Int); decide))) ?_
        | (refine F.hold hA 2000 ?_; cbv))
      exact F.ret (H' := [_, _]) (F.cv ⟨rfl⟩ (.nil _) (.eq rfl (.eq rfl (.nil _)))) rfl ⟨_, _, _, _, rfl, rfl, .inr ⟨show (10 : Int) ≠ 0 by decide, hRow _ (hU.no hu)⟩⟩
  have hE := tiE hA hRp hI hNE f2
  have hC := hB.y hcr _ _ hE.e
  clear hBk hI
  repeat (first
    | refine OK.drawn (by decide +kernel) ?_
    | refine OK.tree ⟨lookT tis, fun _ => true, []⟩ (by decide +kernel) ?_
    | refine OK.need (by first | assumption | (rw [hA]; first | (show (_ : Int) ≠ _; decide) | (show (0 : Int) ≤ _; decide) | (show (0 : Int) ≤ _ ∧ _ < (256 : Int); decide))) ?_
    | (refine F.hold hA 2000 ?_; cbv))
  refine OK.branch (fun g1 => (neq_self hA g1).elim) (fun g1 => ?_)
  have hZ := tiZ (A := A) hA hv1 hv2 hE
  have z1 := hZ.q
  have z2 := hZ.s1
  have z3 := hZ.s2
  repeat (first
    | refine OK.drawn (by decide +kernel) ?_
    | refine OK.tree ⟨lookT tis, fun _ => true, []⟩ (by decide +kernel) ?_
    | refine OK.need (by first | assumption | (rw [hA]; first | (show (_ : Int) ≠ _; decide) | (show (0 : Int) ≤ _; decide) | (show (0 : Int) ≤ _ ∧ _ < (256 : Int); decide))) ?_
    | (refine F.hold hA 2000 ?_; cbv))
  refine OK.branch (fun g2 => ?_) (fun g2 => ?_)
  · have hst := hC.z (hZ.z g2)
    repeat (first
      | refine OK.drawn (by decide +kernel) ?_
      | refine OK.tree ⟨lookT tis, fun _ => true, []⟩ (by decide +kernel) ?_
      | refine OK.need (by first | assumption | (rw [hA]; first | (show (_ : Int) ≠ _; decide) | (show (0 : Int) ≤ _; decide) | (show (0 : Int) ≤ _ ∧ _ < (256 : Int); decide))) ?_
      | (refine F.hold hA 2000 ?_; cbv))
    refine F.call [0, 1] (fail_ok row out p1 lim 0 k b 10) rfl rfl rfl fun rs H' hq => ?_
    obtain ⟨e9, rfl, rfl, hf⟩ := hq
    refine ⟨rfl, ?_⟩
    obtain rfl : e9 = 10 := hf
    repeat (first
      | refine OK.drawn (by decide +kernel) ?_
      | refine OK.tree ⟨lookT tis, fun _ => true, []⟩ (by decide +kernel) ?_
      | refine OK.need (by first | assumption | (rw [hA]; first | (show (_ : Int) ≠ _; decide) | (show (0 : Int) ≤ _; decide) | (show (0 : Int) ≤ _ ∧ _ < (256 : Int); decide))) ?_
      | (refine F.hold hA 2000 ?_; cbv))
    exact F.ret (H' := [_, _]) (F.cv ⟨rfl⟩ (.nil _) (.eq rfl (.eq rfl (.nil _)))) rfl ⟨_, _, _, _, rfl, rfl, .inr ⟨show (10 : Int) ≠ 0 by decide, hst⟩⟩
  have hz := hZ.y g2
  have hRs : RsP xs row lim p1 out k := ⟨⟨hE.s, hp.s.l, ⟨hp.s.k.lo, by have := hp.s.k.hi; have := hE.le; omega⟩⟩, hp.r, hp.l⟩
  repeat (first
    | refine OK.drawn (by decide +kernel) ?_
    | refine OK.tree ⟨lookT tis, fun _ => true, []⟩ (by decide +kernel) ?_
    | refine OK.need (by first | assumption | (rw [hA]; first | (show (_ : Int) ≠ _; decide) | (show (0 : Int) ≤ _; decide) | (show (0 : Int) ≤ _ ∧ _ < (256 : Int); decide))) ?_
    | (refine F.hold hA 2000 ?_; cbv))
  refine F.call [0, 1] (rcode_ok _ row out p1 lim 0 k b false false) rfl rfl rfl fun rs H' hq => ?_
  rcases hq with ⟨e8, rfl, rfl, hf, hcr1⟩ | ⟨rows1, n1, rfl, rfl, hR1, ho1, hcr1⟩
  · obtain rfl : e8 = 10 := hf
    have hst := hC.f hz (by rw [← hZ.e1]; exact hcr1)
    refine ⟨rfl, ?_⟩
    repeat (first
      | refine OK.drawn (by decide +kernel) ?_
      | refine OK.tree ⟨lookT tis, fun _ => true, []⟩ (by decide +kernel) ?_
      | refine OK.need (by first | assumption | (rw [hA]; first | (show (_ : Int) ≠ _; decide) | (show (0 : Int) ≤ _; decide) | (show (0 : Int) ≤ _ ∧ _ < (256 : Int); decide))) ?_
      | (refine F.hold hA 2000 ?_; cbv))
    refine F.call [0, 1] (rcode_ok _ row out p1 lim 10 k b false true) rfl rfl rfl fun rs H' hq => ?_
    rcases hq with ⟨e8, rfl, rfl, hf, hcr2⟩ | ⟨rows2, n2, rfl, rfl, hR2, ho2, hcr2⟩
    · obtain rfl : e8 = 10 := hf
      refine ⟨rfl, ?_⟩
      repeat (first
        | refine OK.drawn (by decide +kernel) ?_
        | refine OK.tree ⟨lookT tis, fun _ => true, []⟩ (by decide +kernel) ?_
        | refine OK.need (by first | assumption | (rw [hA]; first | (show (_ : Int) ≠ _; decide) | (show (0 : Int) ≤ _; decide) | (show (0 : Int) ≤ _ ∧ _ < (256 : Int); decide))) ?_
        | (refine F.hold hA 2000 ?_; cbv))
      exact F.ret (H' := [_, _]) (F.cv ⟨rfl⟩ (.nil _) (.eq rfl (.eq rfl (.nil _)))) rfl ⟨_, _, _, _, rfl, rfl, .inr ⟨show (10 : Int) ≠ 0 by decide, hst⟩⟩
    · refine ⟨rfl, ?_⟩
      repeat (first
        | refine OK.drawn (by decide +kernel) ?_
        | refine OK.tree ⟨lookT tis, fun _ => true, []⟩ (by decide +kernel) ?_
        | refine OK.need (by first | assumption | (rw [hA]; first | (show (_ : Int) ≠ _; decide) | (show (0 : Int) ≤ _; decide) | (show (0 : Int) ≤ _ ∧ _ < (256 : Int); decide))) ?_
        | (refine F.hold hA 2000 ?_; cbv))
      exact F.ret (H' := [_, _]) (F.cv ⟨rfl⟩ (.nil _) (.eq rfl (.eq rfl (.nil _)))) rfl ⟨_, _, _, _, rfl, rfl, .inr ⟨show (10 : Int) ≠ 0 by decide, hst⟩⟩
  have hok1 : codeR (all.take (v1 + 257).toNat) true false = .ok () := by rw [← hZ.e1]; exact hcr1
  refine ⟨rfl, ?_⟩
  repeat (first
    | refine OK.drawn (by decide +kernel) ?_
    | refine OK.tree ⟨lookT tis, fun _ => true, []⟩ (by decide +kernel) ?_
    | refine OK.need (by first | assumption | (rw [hA]; first | (show (_ : Int) ≠ _; decide) | (show (0 : Int) ≤ _; decide) | (show (0 : Int) ≤ _ ∧ _ < (256 : Int); decide))) ?_
    | (refine F.hold hA 2000 ?_; cbv))
  refine F.call [0, 1] (rcode_ok _ row out p1 lim 0 k b false true) rfl rfl rfl fun rs H' hq => ?_
  rcases hq with ⟨e8, rfl, rfl, hf, hcr2⟩ | ⟨rows2, n2, rfl, rfl, hR2, ho2, hcr2⟩
  · obtain rfl : e8 = 10 := hf
    have hst := hC.o hz hok1 (by rw [← hZ.e2]; exact hcr2)
    refine ⟨rfl, ?_⟩
    repeat (first
      | refine OK.drawn (by decide +kernel) ?_
      | refine OK.tree ⟨lookT tis, fun _ => true, []⟩ (by decide +kernel) ?_
      | refine OK.need (by first | assumption | (rw [hA]; first | (show (_ : Int) ≠ _; decide) | (show (0 : Int) ≤ _; decide) | (show (0 : Int) ≤ _ ∧ _ < (256 : Int); decide))) ?_
      | (refine F.hold hA 2000 ?_; cbv))
    exact F.ret (H' := [_, _]) (F.cv ⟨rfl⟩ (.nil _) (.eq rfl (.eq rfl (.nil _)))) rfl ⟨_, _, _, _, rfl, rfl, .inr ⟨show (10 : Int) ≠ 0 by decide, hst⟩⟩
  have hok2 : codeR (all.drop (v1 + 257).toNat) true true = .ok () := by rw [← hZ.e2]; exact hcr2
  have hy := hC.y hz hok1 hok2
  refine ⟨rfl, ?_⟩
  repeat (first
    | refine OK.drawn (by decide +kernel) ?_
    | refine OK.tree ⟨lookT tis, fun _ => true, []⟩ (by decide +kernel) ?_
    | refine OK.need (by first | assumption | (rw [hA]; first | (show (_ : Int) ≠ _; decide) | (show (0 : Int) ≤ _; decide) | (show (0 : Int) ≤ _ ∧ _ < (256 : Int); decide))) ?_
    | (refine F.hold hA 2000 ?_; cbv))
  refine F.call [0, 1, 9, 11] (rsymbols_ok _ rows1 _ rows2 xs row out n1 n2 p1 lim k b hR1 ho1 hR2 ho2 hRs) rfl rfl rfl fun rs H' hq => ?_
  obtain ⟨p9, o9, e9, k9, rfl, rfl, hs9⟩ := hq
  refine ⟨rfl, ?_⟩
  have hfin : RtoIs xs lim p out k p9 o9 e9 k9 := by
    unfold RtoIs
    rw [hy, ← hZ.e1, ← hZ.e2]
    exact hs9
  repeat (first
    | refine OK.drawn (by decide +kernel) ?_
    | refine OK.tree ⟨lookT tis, fun _ => true, []⟩ (by decide +kernel) ?_
    | refine OK.need (by first | assumption | (rw [hA]; first | (show (_ : Int) ≠ _; decide) | (show (0 : Int) ≤ _; decide) | (show (0 : Int) ≤ _ ∧ _ < (256 : Int); decide))) ?_
    | (refine F.hold hA 2000 ?_; cbv))
  exact F.ret (H' := [_, _]) (F.cv ⟨rfl⟩ (.nil _) (.eq rfl (.eq rfl (.nil _)))) rfl ⟨_, _, _, _, rfl, rfl, hfin⟩
end Go.L1

-- D33
namespace Go.L1
open Go Go.Sx Go.Proofs Go.Huff
set_option maxRecDepth 20000
set_option linter.unusedVariables false
set_option linter.unusedSimpArgs false
/-- The row of bits is made. -/
def RoI (xs : List UInt8) (w : Int × List UInt8) : Prop := ∃ i : Nat, w.1 = i ∧ i ≤ xs.length ∧ w.2 = brow (valBytes xs) (8 * i)
def RiI (xs : List UInt8) (i : Int) (w : Int × List UInt8) : Prop := ∃ j : Nat, w.1 = j ∧ j ≤ 8 ∧ 0 ≤ i ∧ i < xs.length ∧ w.2 = brow (valBytes xs) (8 * i.toNat + j)
structure RiA (A : Leaf) (xs : List UInt8) (i k : Int) (row : List UInt8) : Prop where
  q1 : A.inb i (A.len xs)
  q2 : A.nn (A.conv .u64 k)
  q3 : A.isB (A.ar .and .u8 (A.ar .shr .u8 (A.b2i (A.get 0 xs i)) (A.conv .u64 k)) 1)
  q4 : A.small (A.len (A.app row [A.i2b (A.ar .and .u8 (A.ar .shr .u8 (A.b2i (A.get 0 xs i)) (A.conv .u64 k)) 1)])) 1
  nx : RiI xs i (A.ar .add .i64 k 1, A.app row [A.i2b (A.ar .and .u8 (A.ar .shr .u8 (A.b2i (A.get 0 xs i)) (A.conv .u64 k)) 1)])
  mu : (8 - A.ar .add .i64 k 1).toNat < (8 - k).toNat
theorem riA {A : Leaf} {xs : List UInt8} {i k : Int} {row : List UInt8} (hA : A = .std) (hl : xs.length ≤ 400) (hI : RiI xs i (k, row)) (b : A.cmp .lss k 8 = true) : RiA A xs i k row := by
  obtain ⟨j, h1, h2, h3, h4, h5⟩ := hI
  simp only at h1 h5
  obtain ⟨n, rfl⟩ : ∃ n : Nat, i = n := ⟨i.toNat, by omega⟩
  rw [Int.toNat_natCast] at h5
  subst hA h1
  have b : (j : Int) < 8 := of_decide_eq_true b
  have e2 : Leaf.std.conv .u64 (j : Int) = (j : Int) := conv_u64 (by omega) (by omega)
  have e4 : Leaf.std.get 0 xs (n : Int) = xs.getD n 0 := by show xs.getD (n : Int).toNat 0 = _; rw [Int.toNat_natCast]
  have e5 : Leaf.std.ar .and .u8 (Leaf.std.ar .shr .u8 (Leaf.std.b2i (xs.getD n 0)) (j : Int)) 1 = ((valBytes xs / 2 ^ (8 * n + j) % 2 : Nat) : Int) := by
    show LAr .and .u8 (LAr .shr .u8 (((xs.getD n 0).toNat : Nat) : Int) (j : Int)) 1 = _
    rw [l_shr_u8 (by omega) (by omega), l_and1_u8, Int.toNat_natCast, bit_at, show (8 * n + j) / 8 = n from by omega, show (8 * n + j) % 8 = j from by omega]
    simp
  have hm : valBytes xs / 2 ^ (8 * n + j) % 2 < 2 := Nat.mod_lt _ (by decide)
  have eb : Leaf.std.i2b ((valBytes xs / 2 ^ (8 * n + j) % 2 : Nat) : Int) = UInt8.ofNat (valBytes xs / 2 ^ (8 * n + j) % 2) := by
    show UInt8.ofNat ((valBytes xs / 2 ^ (8 * n + j) % 2 : Nat) : Int).toNat = _; rw [Int.toNat_natCast]
  have ea : Leaf.std.ar .add .i64 (j : Int) 1 = ((j + 1 : Nat) : Int) := by rw [add_i64 (by omega) (by omega)]; omega
  have er : row ++ [UInt8.ofNat (valBytes xs / 2 ^ (8 * n + j) % 2)] = brow (valBytes xs) (8 * n + (j + 1)) := by
    rw [h5, ← Nat.add_assoc]; unfold brow; rw [List.range_succ, List.map_append, List.map_cons, List.map_nil]
  constructor
  · show (0 : Int) ≤ _ ∧ _ < (xs.length : Int); omega
  · rw [e2]; show (0 : Int) ≤ _; omega
  · rw [e2, e4, e5]; show (0 : Int) ≤ _ ∧ _ < (256 : Int); omega
  · rw [e2, e4, e5, eb]
    have e : Leaf.std.len (Leaf.std.app row [UInt8.ofNat (valBytes xs / 2 ^ (8 * n + j) % 2)]) = ((8 * n + (j + 1) : Nat) : Int) := by
      show (((row ++ [_]).length : Nat) : Int) = _
      rw [er, brow_len]
    rw [e]
    show (0 : Int) ≤ _ ∧ _ ≤ (140737488355328 : Int) ∧ _ * ((1 : Nat) : Int) ≤ (140737488355328 : Int)
    omega
  · rw [e2, e4, e5, eb, ea]
    exact ⟨j + 1, rfl, by omega, by omega, by omega, er⟩
  · rw [ea]; omega
theorem riEnd {A : Leaf} {xs : List UInt8} {i k : Int} {row : List UInt8} (hA : A = .std) (hl : xs.length ≤ 400) (hI : RiI xs i (k, row)) (b : A.cmp .lss k 8 = false) : RoI xs (A.ar .add .i64 i 1, row) ∧ (xs.length - A.ar .add .i64 i 1).toNat < (xs.length - i).toNat := by
  obtain ⟨j, h1, h2, h3, h4, h5⟩ := hI
  simp only at h1 h5
  subst hA h1
  have b : ¬ (j : Int) < 8 := of_decide_eq_false b
  have ea : Leaf.std.ar .add .i64 i 1 = i + 1 := add_i64 (by omega) (by omega)
  rw [ea]
  refine ⟨⟨i.toNat + 1, by simp only; omega, by omega, ?_⟩, by omega⟩
  rw [h5, show 8 * i.toNat + j = 8 * (i.toNat + 1) from by omega]
theorem roIn {A : Leaf} {xs : List UInt8} {i : Int} {row : List UInt8} (hA : A = .std) (hI : RoI xs (i, row)) (b : A.cmp .lss i (A.len xs) = true) : RiI xs i (0, row) := by
  obtain ⟨j, h1, h2, h3⟩ := hI
  simp only at h1 h3
  subst hA h1
  have b : (j : Int) < xs.length := of_decide_eq_true b
  exact ⟨0, rfl, by decide, by omega, by omega, by rw [h3, Int.toNat_natCast]; rfl⟩
theorem roEnd {A : Leaf} {xs : List UInt8} {i : Int} {row : List UInt8} (hA : A = .std) (hI : RoI xs (i, row)) (b : A.cmp .lss i (A.len xs) = false) : RowOf xs row := by
  obtain ⟨j, h1, h2, h3⟩ := hI
  simp only at h1 h3
  subst hA h1
  have b : ¬ (j : Int) < xs.length := of_decide_eq_false b
  obtain rfl : j = xs.length := by omega
  exact h3
structure RiP (xs : List UInt8) (lim : Int) : Prop where
  l : xs.length ≤ 400
  hi : lim ≤ 20000
theorem RiP.inf {xs : List UInt8} {lim : Int} (h : RiP xs lim) : InfP xs lim := ⟨by have := h.l; omega, by have := h.hi; omega⟩
def RinIs (xs : List UInt8) (lim : Int) (row : List UInt8) (p : Int) (out : List UInt8) (e k b : Int) : Prop :=
  (e = 0 ∧ inflR xs lim = .ok (out, (p + 7) / 8, k, b) ∧ SySt xs (max lim 0) p out k) ∨ (e ≠ 0 ∧ inflR xs lim = .error e)
/-- Where the document's loop over blocks stands. -/
def BI (xs : List UInt8) (lim : Int) (w : Int × Int × List UInt8 × Int × Int × Int) : Prop :=
  (w.2.2.2.2.2 = 0 ∧ w.1 = 0 ∧ InfI xs lim (w.2.1, w.2.2.1, w.2.2.2.1, w.2.2.2.2.1)) ∨
  (w.2.2.2.2.2 = 0 ∧ w.1 ≠ 0 ∧ inflR xs lim = .ok (w.2.2.1, (w.2.1 + 7) / 8, w.2.2.2.1, w.2.2.2.2.1) ∧ SySt xs (max lim 0) w.2.1 w.2.2.1 w.2.2.2.1) ∨
  (w.2.2.2.2.2 ≠ 0 ∧ inflR xs lim = .error w.2.2.2.2.2)
def muB (n : Int) (w : Int × Int × List UInt8 × Int × Int × Int) : Nat := if w.2.2.2.2.2 = 0 ∧ w.1 = 0 then (n - w.2.1).toNat + 1 else 0
theorem BI.start {xs : List UInt8} {lim : Int} (hp : RiP xs lim) : BI xs lim (0, 0, [], 0, 0, 0) := .inl ⟨rfl, rfl, infSt hp.inf⟩
theorem BI.go {A : Leaf} {xs : List UInt8} {lim last p k b e : Int} {out : List UInt8} (hA : A = .std) (h : BI xs lim (last, p, out, k, b, e)) (h1 : A.cmp .eql last 0 = true) (h2 : A.cmp .eql e 0 = true) : last = 0 ∧ e = 0 ∧ InfI xs lim (p, out, k, b) := by
  have e1 := cEqT hA h1
  have e2 := cEqT hA h2
  rcases h with ⟨_, _, h⟩ | ⟨_, h, _⟩ | ⟨h, _⟩
  · exact ⟨e1, e2, h⟩
  · exact absurd e1 h
  · exact absurd e2 h
theorem BI.end1 {A : Leaf} {xs row : List UInt8} {lim last p k b e : Int} {out : List UInt8} (hA : A = .std) (h : BI xs lim (last, p, out, k, b, e)) (h1 : A.cmp .eql last 0 = false) : RinIs xs lim row p out e k b := by
  have e1 := cEqF hA h1
  rcases h with ⟨_, h, _⟩ | ⟨h2, _, h3⟩ | ⟨h2, h3⟩
  · exact absurd h e1
  · exact .inl ⟨h2, h3⟩
  · exact .inr ⟨h2, h3⟩
theorem BI.end2 {A : Leaf} {xs row : List UInt8} {lim last p k b e : Int} {out : List UInt8} (hA : A = .std) (h : BI xs lim (last, p, out, k, b, e)) (h1 : A.cmp .eql e 0 = false) : RinIs xs lim row p out e k b := by
  have e1 := cEqF hA h1
  rcases h with ⟨h, _⟩ | ⟨h, _⟩ | ⟨h2, h3⟩
  · exact absurd h e1
  · exact absurd h e1
  · exact .inr ⟨h2, h3⟩
theorem rbN {xs out : List UInt8} {L p k v1 p1 e1 v2 p2 e2 : Int} (h1 : NumRes xs p 1 0 v1 p1 e1) (h2 : NumRes xs p1 2 e1 v2 p2 e2) : (e2 = 0 ∧ numR xs p 1 = .ok (v1, p1) ∧ numR xs p1 2 = .ok (v2, p2)) ∨ (e2 ≠ 0 ∧ blockR xs L p out k = .error e2) := by
  rcases h1 with ⟨_, rfl, h1⟩ | ⟨_, rfl, h1, _, _⟩ | ⟨h, _⟩
  case inr.inr => exact absurd rfl h
  · rcases h2 with ⟨_, rfl, h2⟩ | ⟨_, rfl, h2, _, _⟩ | ⟨h, _⟩
    case inr.inr => exact absurd rfl h
    · exact .inl ⟨rfl, h1, h2⟩
    · refine .inr ⟨by decide, ?_⟩
      unfold blockR
      simp only [bind, Except.bind, h1, h2]
  · rcases h2 with ⟨h, _⟩ | ⟨h, _⟩ | ⟨_, rfl, _, _⟩
    · exact absurd h (by decide)
    · exact absurd h (by decide)
    · refine .inr ⟨by decide, ?_⟩
      unfold blockR
      simp only [bind, Except.bind, h1]
def BN (A : Leaf) (xs : List UInt8) (lim p : Int) (out : List UInt8) (k b v1 p' : Int) (o' : List UInt8) (e' k' : Int) : Prop :=
  BI xs lim (v1, p', o', k', A.ar .add .i64 b 1, e') ∧ muB (8 * xs.length) (v1, p', o', k', A.ar .add .i64 b 1, e') < muB (8 * xs.length) (0, p, out, k, b, 0)
theorem bnx {A : Leaf} {xs out o' : List UInt8} {lim p k b v1 p' e' k' : Int} (hA : A = .std) (hl : xs.length ≤ 400) (hat : InfAt xs lim (max lim 0) p out k b) (hv : v1 = 0 ∨ v1 = 1)
    (h : (e' = 0 ∧ blockR xs (max lim 0) p out k = .ok (v1 == 1, p', o', k') ∧ SySt xs (max lim 0) p' o' k') ∨ (e' ≠ 0 ∧ blockR xs (max lim 0) p out k = .error e')) : BN A xs lim p out k b v1 p' o' e' k' := by
  have hb0 := hat.bp.lo
  have hb1 := hat.bp.hi
  have hh := hat.st.s.rd.hi
  have h0 := hat.st.s.rd.rd.lo
  have eb : A.ar .add .i64 b 1 = b + 1 := by subst hA; exact add_i64 (by omega) (by omega)
  unfold BN
  rw [eb]
  have hm0 : muB (8 * xs.length) (0, p, out, k, b, 0) = (8 * (xs.length : Int) - p).toNat + 1 := by unfold muB; simp
  rcases h with ⟨rfl, h1, h2⟩ | ⟨he, h1⟩
  · have hf := block_fwd h1 h0
    rcases hv with rfl | rfl
    · have hB : BlkIs xs (max lim 0) p out k false p' o' k' := ⟨h1, h2, by omega⟩
      obtain ⟨h3, h4⟩ := hat.nx p' o' k' hB
      refine ⟨.inl ⟨rfl, rfl, h3⟩, ?_⟩
      rw [hm0]
      unfold muB
      rw [if_pos ⟨rfl, rfl⟩]
      simp only
      omega
    · have hB : BlkIs xs (max lim 0) p out k true p' o' k' := ⟨h1, h2, by omega⟩
      have h3 := hat.fin p' o' k' hB
      refine ⟨.inr (.inl ⟨rfl, show (1 : Int) ≠ 0 by decide, h3.e, h2⟩), ?_⟩
      rw [hm0]
      unfold muB
      rw [if_neg (by simp)]
      omega
  · refine ⟨.inr (.inr ⟨he, hat.er e' h1⟩), ?_⟩
    rw [hm0]
    unfold muB
    rw [if_neg (fun hh => he hh.1)]
    omega
structure BSt (A : Leaf) (xs row : List UInt8) (lim p : Int) (out : List UInt8) (k b v1 v2 p2 : Int) : Prop where
  hs : RsP xs row (A.imax lim 0) p2 out k
  s0 : A.cmp .eql v2 0 = true → ∀ p' o' e' k', RstIs xs (A.imax lim 0) p2 out k p' o' e' k' → BN A xs lim p out k b v1 p' o' e' k'
  s1 : A.cmp .eql v2 1 = true → ∀ p' o' e' k', RsyIs fixA fixB xs (A.imax lim 0) p2 out k p' o' e' k' → BN A xs lim p out k b v1 p' o' e' k'
  s2 : A.cmp .eql v2 2 = true → ∀ p' o' e' k', RtoIs xs (A.imax lim 0) p2 out k p' o' e' k' → BN A xs lim p out k b v1 p' o' e' k'
  s3 : A.cmp .eql v2 0 = false → A.cmp .eql v2 1 = false → A.cmp .eql v2 2 = false → BN A xs lim p out k b v1 p2 out 10 k
theorem imaxL {A : Leaf} {lim : Int} (hA : A = .std) : A.imax lim 0 = max lim 0 := by
  subst hA
  show (if lim < 0 then 0 else lim) = max lim 0
  split <;> omega
theorem bSt {A : Leaf} {xs row out : List UInt8} {lim p k b v1 p1 v2 p2 : Int} (hA : A = .std) (hl : xs.length ≤ 400) (hr : RowOf xs row) (hat : InfAt xs lim (max lim 0) p out k b) (n1 : numR xs p 1 = .ok (v1, p1)) (n2 : numR xs p1 2 = .ok (v2, p2)) : BSt A xs row lim p out k b v1 v2 p2 := by
  have k1 := num_nn n1
  have k2 := num_nn n2
  have h0 := hat.st.s.rd.rd.lo
  have hv : v1 = 0 ∨ v1 = 1 := by
    have n1' := n1
    unfold numR at n1'
    split at n1'
    · simp only [Except.ok.injEq, Prod.mk.injEq] at n1'
      have : bitsV xs p % 2 ^ 1 < 2 ^ 1 := Nat.mod_lt _ (by decide)
      omega
    · cases n1'
  have hk := hat.st.k
  have hkl := hk.lo
  have hkh := hk.hi
  have hs2 : SySt xs (max lim 0) p2 out k := ⟨⟨⟨⟨by omega, by omega, by omega⟩, k2.2.2⟩, by omega⟩, hat.st.l, ⟨hkl, by omega⟩⟩
  have eB : blockR xs (max lim 0) p out k = if v2 = 0 then (storedR xs (max lim 0) p2 out >>= fun x => .ok (v1 == 1, x.1, x.2.1, k + x.2.2))
      else if v2 = 1 then (symsR fixA fixB xs (max lim 0) fuel p2 out k >>= fun x => .ok (v1 == 1, x.1, x.2.1, x.2.2))
      else if v2 = 2 then (toldR xs (max lim 0) p2 out k >>= fun x => .ok (v1 == 1, x.1, x.2.1, x.2.2)) else .error 10 := by
    unfold blockR toldR
    simp only [bind, Except.bind, n1, n2]
    by_cases c0 : v2 = 0
    · rw [if_pos c0, if_pos c0]
    · rw [if_neg c0, if_neg c0]
      by_cases c1 : v2 = 1
      · rw [if_pos c1, if_pos c1]
      · rw [if_neg c1, if_neg c1]
        by_cases c2 : v2 = 2
        · rw [if_pos c2, if_pos c2]
          cases codesR xs p2 <;> rfl
        · rw [if_neg c2, if_neg c2]
  rw [← imaxL (lim := lim) hA] at hs2
  refine ⟨⟨hs2, hr, hl⟩, fun c p' o' e' k' h => ?_, fun c p' o' e' k' h => ?_, fun c p' o' e' k' h => ?_, fun c0 c1 c2 => ?_⟩
  · have c := cEqT hA c
    rw [imaxL hA] at h
    refine bnx hA hl hat hv ?_
    rw [eB, if_pos c]
    rcases h with ⟨rfl, n, h1, rfl, h2⟩ | ⟨he, h1⟩
    · exact .inl ⟨rfl, by rw [h1]; rfl, h2⟩
    · exact .inr ⟨he, by rw [h1]; rfl⟩
  · have c := cEqT hA c
    rw [imaxL hA] at h
    refine bnx hA hl hat hv ?_
    rw [eB, if_neg (by omega), if_pos c]
    rcases h with ⟨rfl, h1, h2⟩ | ⟨he, h1⟩
    · exact .inl ⟨rfl, by rw [h1]; rfl, h2⟩
    · exact .inr ⟨he, by rw [h1]; rfl⟩
  · have c := cEqT hA c
    rw [imaxL hA] at h
    refine bnx hA hl hat hv ?_
    rw [eB, if_neg (by omega), if_neg (by omega), if_pos c]
    rcases h with ⟨rfl, h1, h2⟩ | ⟨he, h1⟩
    · exact .inl ⟨rfl, by rw [h1]; rfl, h2⟩
    · exact .inr ⟨he, by rw [h1]; rfl⟩
  · have c0 := cEqF hA c0
    have c1 := cEqF hA c1
    have c2 := cEqF hA c2
    refine bnx hA hl hat hv (.inr ⟨by decide, ?_⟩)
    rw [eB, if_neg c0, if_neg c1, if_neg c2]
theorem rdyA : RdyR fixA := by
  have h := fixA_fine
  exact ⟨h.1.1, h.1.2, h.2⟩
theorem rdyB : RdyR fixB := by
  have h := fixB_fine
  exact ⟨h.1.1, h.1.2, h.2⟩
theorem newBad {l : List Int} {e : Int} (h : RdyR l) (hb : (e = 11 ∧ ¬ (l.length ≤ 320 ∧ InB l)) ∨ (e = 10 ∧ (l.length ≤ 320 ∧ InB l) ∧ 32768 < roomN l)) : False := by
  rcases hb with ⟨_, hb⟩ | ⟨_, _, hb⟩
  · exact hb ⟨h.le, h.b⟩
  · have := h.r; omega
theorem rinflate_ok (xs : List UInt8) (lim : Int) (hp : RiP xs lim) : FOK Try.prog C1 53 (fun _ => false) [.ro (.bytes xs), .int .i64 lim] []
    (fun rs H => ∃ row p out e k b L, rs = [.ptr 0 0, .int .i64 e] ∧ H = [.cells 93 [.ro (.bytes row), .int .i64 p, .own 2, .int .i64 L, .int .i64 e, .int .i64 k, .int .i64 b], .gone, .row 5 (.bytes out)] ∧ RinIs xs lim row p out e k b) := by
  refine fok_of (B := ⟨lookT tis, fun _ => false, []⟩) (tab1 _) (zero1 _) cod1 mix1 Try.func53 (by kernel_rfl) rfl rfl rfl fun X F => ?_
  obtain ⟨A, hA⟩ : ∃ A, A = Leaf.std := ⟨_, rfl⟩
  refine F.hold hA 2000 ?_
  cbv
  repeat (first
    | refine OK.drawn (by decide +kernel) ?_
    | refine OK.tree ⟨lookT tis, fun _ => true, []⟩ (by decide +kernel) ?_
    | refine OK.need (by first | assumption | (rw [hA]; first | (show (_ : Int) ≠ _; decide) | (show (0 : Int) ≤ _; decide) | (show (0 : Int) ≤ _ ∧ _ < (256 : Int); decide))) ?_
    | (refine F.hold hA 2000 ?_; cbv))
  refine OK.loopCv (Cv.adoptIn F.cod 0 0 5 (ek := .byte) rfl rfl rfl) ?_
  have hl := hp.l
  refine F.loop (V := Int × List UInt8) [0, 6] (RoI xs) (fun w => (xs.length - w.1).toNat) (fun w => [(7, .int .i64 w.1)]) (fun w => [(1, .row 5 (.bytes w.2))]) (_, _) (by cbv; repeat (first | exact WkH.nil _ | apply WkH.gone | refine WkH.eq rfl ?_)) (by cbv; repeat (first | apply WkL.any | exact WkL.nil _ | refine WkL.eq rfl ?_ | refine WkL.bool rfl ?_)) (by cbv; exact ⟨rfl⟩) ?_ ?_
  · exact ⟨0, rfl, Nat.zero_le _, rfl⟩
  rintro ⟨i, row⟩ hI Bk hBkO
  repeat (first
    | refine OK.drawn (by decide +kernel) ?_
    | refine OK.tree ⟨lookT tis, fun _ => true, []⟩ (by decide +kernel) ?_
    | refine OK.need (by first | assumption | (rw [hA]; first | (show (_ : Int) ≠ _; decide) | (show (0 : Int) ≤ _; decide) | (show (0 : Int) ≤ _ ∧ _ < (256 : Int); decide))) ?_
    | (refine F.hold hA 2000 ?_; cbv))
  refine OK.branch (fun b1 => ?_) (fun b1 => ?_)
  · have hin := roIn hA hI b1
    repeat (first
      | refine OK.drawn (by decide +kernel) ?_
      | refine OK.tree ⟨lookT tis, fun _ => true, []⟩ (by decide +kernel) ?_
      | refine OK.need (by first | assumption | (rw [hA]; first | (show (_ : Int) ≠ _; decide) | (show (0 : Int) ≤ _; decide) | (show (0 : Int) ≤ _ ∧ _ < (256 : Int); decide))) ?_
      | (refine F.hold hA 2000 ?_; cbv))
    refine F.loop (V := Int × List UInt8) [0, 6, 7] (RiI xs i) (fun w => (8 - w.1).toNat) (fun w => [(8, .int .i64 w.1)]) (fun w => [(1, .row 5 (.bytes w.2))]) (_, _) (by cbv; repeat (first | exact WkH.nil _ | apply WkH.gone | refine WkH.eq rfl ?_)) (by cbv; repeat (first | apply WkL.any | exact WkL.nil _ | refine WkL.eq rfl ?_ | refine WkL.bool rfl ?_)) (by cbv; exact ⟨rfl⟩) ?_ ?_
    · exact hin
    rintro ⟨k, row2⟩ hJ Bk2 hBk
    repeat (first
      | refine OK.drawn (by decide +kernel) ?_
      | refine OK.tree ⟨lookT tis, fun _ => true, []⟩ (by decide +kernel) ?_
      | refine OK.need (by first | assumption | (rw [hA]; first | (show (_ : Int) ≠ _; decide) | (show (0 : Int) ≤ _; decide) | (show (0 : Int) ≤ _ ∧ _ < (256 : Int); decide))) ?_
      | (refine F.hold hA 2000 ?_; cbv))
    refine OK.branch (fun b2 => ?_) (fun b2 => ?_)
    · have hat := riA hA hl hJ b2
      have q1 := hat.q1
      have q2 := hat.q2
      have q3 := hat.q3
      have q4 := hat.q4
      repeat' (first
        | refine OK.drawn (by decide +kernel) ?_
        | refine OK.tree ⟨lookT tis, fun _ => true, []⟩ (by decide +kernel) ?_
        | refine OK.both ?_ ?_
        | refine OK.need (by first | assumption | (rw [hA]; first | (show (_ : Int) ≠ _; decide) | (show (0 : Int) ≤ _; decide) | (show (0 : Int) ≤ _ ∧ _ < (256 : Int); decide))) ?_
        | refine OK.need ?_ ?_
        | (refine OK.branch ?_ ?_ <;> intro h)
        | (refine F.hold hA 2000 ?_; cbv))
      all_goals
        refine OK.back (hBk _ _ (_, _) (by cbv; repeat (first | exact WkH.nil _ | apply WkH.gone | refine WkH.eq rfl ?_)) (by cbv; repeat (first | apply WkL.any | exact WkL.nil _ | refine WkL.eq rfl ?_ | refine WkL.bool rfl ?_)) (by cbv; exact ⟨rfl⟩) ?_ ?_)
        · exact hat.nx
        · exact hat.mu
    have hend := riEnd hA hl hJ b2
    clear hBk
    have hBk := hBkO
    repeat (first
      | refine OK.drawn (by decide +kernel) ?_
      | refine OK.tree ⟨lookT tis, fun _ => true, []⟩ (by decide +kernel) ?_
      | refine OK.need (by first | assumption | (rw [hA]; first | (show (_ : Int) ≠ _; decide) | (show (0 : Int) ≤ _; decide) | (show (0 : Int) ≤ _ ∧ _ < (256 : Int); decide))) ?_
      | (refine F.hold hA 2000 ?_; cbv))
    refine OK.back (hBk _ _ (_, _) (by cbv; repeat (first | exact WkH.nil _ | apply WkH.gone | refine WkH.eq rfl ?_)) (by cbv; repeat (first | apply WkL.any | exact WkL.nil _ | refine WkL.eq rfl ?_ | refine WkL.bool rfl ?_)) (by cbv; exact ⟨rfl⟩) ?_ ?_)
    · exact hend.1
    · exact hend.2
  have hrow := roEnd hA hI b1
  clear hBkO hI
  repeat (first
    | refine OK.drawn (by decide +kernel) ?_
    | refine OK.tree ⟨lookT tis, fun _ => true, []⟩ (by decide +kernel) ?_
    | refine OK.need (by first | assumption | (rw [hA]; first | (show (_ : Int) ≠ _; decide) | (show (0 : Int) ≤ _; decide) | (show (0 : Int) ≤ _ ∧ _ < (256 : Int); decide))) ?_
    | (refine F.hold hA 2000 ?_; cbv))
  refine OK.loopCv (Cv.freeze F.cod 1 rfl) ?_
  refine OK.loopCv (Cv.adoptIn F.cod 0 2 5 (ek := .byte) rfl rfl rfl) ?_
  refine F.loop (V := Int × Int × List UInt8 × Int × Int × Int) [6] (BI xs lim) (muB (8 * xs.length)) (fun w => [(9, .int .i64 w.1)]) (fun w => [(0, .cells 93 [.ro (.bytes row), .int .i64 w.2.1, .own 2, .int .i64 (A.imax lim 0), .int .i64 w.2.2.2.2.2, .int .i64 w.2.2.2.1, .int .i64 w.2.2.2.2.1]), (2, .row 5 (.bytes w.2.2.1))]) (_, _, _, _, _, _) (by cbv; repeat (first | exact WkH.nil _ | apply WkH.gone | refine WkH.eq rfl ?_)) (by cbv; repeat (first | apply WkL.any | exact WkL.nil _ | refine WkL.eq rfl ?_ | refine WkL.bool rfl ?_)) (by cbv; exact ⟨rfl⟩) ?_ ?_
  · exact BI.start hp
  rintro ⟨last, p, out, k, b, e⟩ hI Bk hBk
  repeat (first
    | refine OK.drawn (by decide +kernel) ?_
    | refine OK.tree ⟨lookT tis, fun _ => true, []⟩ (by decide +kernel) ?_
    | refine OK.need (by first | assumption | (rw [hA]; first | (show (_ : Int) ≠ _; decide) | (show (0 : Int) ≤ _; decide) | (show (0 : Int) ≤ _ ∧ _ < (256 : Int); decide))) ?_
    | (refine F.hold hA 2000 ?_; cbv))
  refine OK.branch (fun b2 => ?_) (fun b2 => ?_)
  case refine_2 =>
    have hfin := BI.end1 (row := row) hA hI b2
    clear hBk
    repeat (first
      | refine OK.drawn (by decide +kernel) ?_
      | refine OK.tree ⟨lookT tis, fun _ => true, []⟩ (by decide +kernel) ?_
      | refine OK.need (by first | assumption | (rw [hA]; first | (show (_ : Int) ≠ _; decide) | (show (0 : Int) ≤ _; decide) | (show (0 : Int) ≤ _ ∧ _ < (256 : Int); decide))) ?_
      | (refine F.hold hA 2000 ?_; cbv))
    exact F.ret (H' := [_, .gone, _]) (F.cv ⟨rfl⟩ (.eq rfl (.eq rfl (.nil _))) (.eq rfl (.gone (.eq rfl (.nil _))))) rfl ⟨_, _, _, _, _, _, _, rfl, rfl, hfin⟩
  repeat (first
    | refine OK.drawn (by decide +kernel) ?_
    | refine OK.tree ⟨lookT tis, fun _ => true, []⟩ (by decide +kernel) ?_
    | refine OK.need (by first | assumption | (rw [hA]; first | (show (_ : Int) ≠ _; decide) | (show (0 : Int) ≤ _; decide) | (show (0 : Int) ≤ _ ∧ _ < (256 : Int); decide))) ?_
    | (refine F.hold hA 2000 ?_; cbv))
  refine OK.branch (fun b3 => ?_) (fun b3 => ?_)
  case refine_2 =>
    have hfin := BI.end2 (row := row) hA hI b3
    clear hBk
    repeat (first
      | refine OK.drawn (by decide +kernel) ?_
      | refine OK.tree ⟨lookT tis, fun _ => true, []⟩ (by decide +kernel) ?_
      | refine OK.need (by first | assumption | (rw [hA]; first | (show (_ : Int) ≠ _; decide) | (show (0 : Int) ≤ _; decide) | (show (0 : Int) ≤ _ ∧ _ < (256 : Int); decide))) ?_
      | (refine F.hold hA 2000 ?_; cbv))
    exact F.ret (H' := [_, .gone, _]) (F.cv ⟨rfl⟩ (.eq rfl (.eq rfl (.nil _))) (.eq rfl (.gone (.eq rfl (.nil _))))) rfl ⟨_, _, _, _, _, _, _, rfl, rfl, hfin⟩
  obtain ⟨rfl, rfl, hJ⟩ := BI.go hA hI b2 b3
  have hat := infAt hp.inf hJ
  clear hI hJ
  have hpre : RPre row (valBytes xs) (8 * xs.length) p := (RsP.mk hat.st hrow hl).pre
  repeat (first
    | refine OK.drawn (by decide +kernel) ?_
    | refine OK.tree ⟨lookT tis, fun _ => true, []⟩ (by decide +kernel) ?_
    | refine OK.need (by first | assumption | (rw [hA]; first | (show (_ : Int) ≠ _; decide) | (show (0 : Int) ≤ _; decide) | (show (0 : Int) ≤ _ ∧ _ < (256 : Int); decide))) ?_
    | (refine F.hold hA 2000 ?_; cbv))
  refine F.call [0, 2] (rnumber_ok xs row out p (A.imax lim 0) 0 k b 1 (by decide) hpre) rfl rfl rfl fun rs H' hq => ?_
  obtain ⟨v1, p1, e1, rfl, rfl, hn1⟩ := hq
  refine ⟨rfl, ?_⟩
  have hp1 := numRes_pre hpre hn1
  repeat (first
    | refine OK.drawn (by decide +kernel) ?_
    | refine OK.tree ⟨lookT tis, fun _ => true, []⟩ (by decide +kernel) ?_
    | refine OK.need (by first | assumption | (rw [hA]; first | (show (_ : Int) ≠ _; decide) | (show (0 : Int) ≤ _; decide) | (show (0 : Int) ≤ _ ∧ _ < (256 : Int); decide))) ?_
    | (refine F.hold hA 2000 ?_; cbv))
  refine F.call [0, 2] (rnumber_ok xs row out p1 (A.imax lim 0) e1 k b 2 (by decide) hp1) rfl rfl rfl fun rs H' hq => ?_
  obtain ⟨v2, p2, e2, rfl, rfl, hn2⟩ := hq
  refine ⟨rfl, ?_⟩
  rcases rbN (L := max lim 0) (out := out) (k := k) hn1 hn2 with ⟨rfl, hk1, hk2⟩ | ⟨he, hst⟩
  case inr =>
    have hst2 := hat.er _ hst
    clear hBk
    repeat (first
      | refine OK.drawn (by decide +kernel) ?_
      | refine OK.tree ⟨lookT tis, fun _ => true, []⟩ (by decide +kernel) ?_
      | refine OK.need (by first | assumption | (rw [hA]; first | (show (_ : Int) ≠ _; decide) | (show (0 : Int) ≤ _; decide) | (show (0 : Int) ≤ _ ∧ _ < (256 : Int); decide))) ?_
      | (refine F.hold hA 2000 ?_; cbv))
    refine OK.branch (fun b4 => ?_) (fun b4 => absurd (neq_zero hA b4) he)
    repeat (first
      | refine OK.drawn (by decide +kernel) ?_
      | refine OK.tree ⟨lookT tis, fun _ => true, []⟩ (by decide +kernel) ?_
      | refine OK.need (by first | assumption | (rw [hA]; first | (show (_ : Int) ≠ _; decide) | (show (0 : Int) ≤ _; decide) | (show (0 : Int) ≤ _ ∧ _ < (256 : Int); decide))) ?_
      | (refine F.hold hA 2000 ?_; cbv))
    exact F.ret (H' := [_, .gone, _]) (F.cv ⟨rfl⟩ (.eq rfl (.eq rfl (.nil _))) (.eq rfl (.gone (.eq rfl (.nil _))))) rfl ⟨_, _, _, _, _, _, _, rfl, rfl, .inr ⟨he, hst2⟩⟩
  have hS := bSt hA hl hrow hat hk1 hk2
  clear hn1 hn2 hk1 hk2 hat hp1 hpre
  repeat (first
    | refine OK.drawn (by decide +kernel) ?_
    | refine OK.tree ⟨lookT tis, fun _ => true, []⟩ (by decide +kernel) ?_
    | refine OK.need (by first | assumption | (rw [hA]; first | (show (_ : Int) ≠ _; decide) | (show (0 : Int) ≤ _; decide) | (show (0 : Int) ≤ _ ∧ _ < (256 : Int); decide))) ?_
    | (refine F.hold hA 2000 ?_; cbv))
  refine OK.branch (fun b4 => (neq_self hA b4).elim) (fun b4 => ?_)
  repeat (first
    | refine OK.drawn (by decide +kernel) ?_
    | refine OK.tree ⟨lookT tis, fun _ => true, []⟩ (by decide +kernel) ?_
    | refine OK.need (by first | assumption | (rw [hA]; first | (show (_ : Int) ≠ _; decide) | (show (0 : Int) ≤ _; decide) | (show (0 : Int) ≤ _ ∧ _ < (256 : Int); decide))) ?_
    | (refine F.hold hA 2000 ?_; cbv))
  refine OK.branch (fun c0 => ?_) (fun c0 => ?_)
  · repeat (first
      | refine OK.drawn (by decide +kernel) ?_
      | refine OK.tree ⟨lookT tis, fun _ => true, []⟩ (by decide +kernel) ?_
      | refine OK.need (by first | assumption | (rw [hA]; first | (show (_ : Int) ≠ _; decide) | (show (0 : Int) ≤ _; decide) | (show (0 : Int) ≤ _ ∧ _ < (256 : Int); decide))) ?_
      | (refine F.hold hA 2000 ?_; cbv))
    refine F.call [0, 2] (rstored_ok xs row out p2 (A.imax lim 0) k _ hS.hs) rfl rfl rfl fun rs H' hq => ?_
    obtain ⟨p9, o9, e9, k9, rfl, rfl, hr⟩ := hq
    refine ⟨rfl, ?_⟩
    have hN := hS.s0 c0 _ _ _ _ hr
    repeat (first
      | refine OK.drawn (by decide +kernel) ?_
      | refine OK.tree ⟨lookT tis, fun _ => true, []⟩ (by decide +kernel) ?_
      | refine OK.need (by first | assumption | (rw [hA]; first | (show (_ : Int) ≠ _; decide) | (show (0 : Int) ≤ _; decide) | (show (0 : Int) ≤ _ ∧ _ < (256 : Int); decide))) ?_
      | (refine F.hold hA 2000 ?_; cbv))
    refine OK.back (hBk _ _ (_, _, _, _, _, _) (by cbv; repeat (first | exact WkH.nil _ | apply WkH.gone | refine WkH.eq rfl ?_)) (by cbv; repeat (first | apply WkL.any | exact WkL.nil _ | refine WkL.eq rfl ?_ | refine WkL.bool rfl ?_)) (by cbv; exact ⟨rfl⟩) ?_ ?_)
    · exact hN.1
    · exact hN.2
  repeat (first
    | refine OK.drawn (by decide +kernel) ?_
    | refine OK.tree ⟨lookT tis, fun _ => true, []⟩ (by decide +kernel) ?_
    | refine OK.need (by first | assumption | (rw [hA]; first | (show (_ : Int) ≠ _; decide) | (show (0 : Int) ≤ _; decide) | (show (0 : Int) ≤ _ ∧ _ < (256 : Int); decide))) ?_
    | (refine F.hold hA 2000 ?_; cbv))
  refine OK.branch (fun c1 => ?_) (fun c1 => ?_)
  · repeat (first
      | refine OK.drawn (by decide +kernel) ?_
      | refine OK.tree ⟨lookT tis, fun _ => true, []⟩ (by decide +kernel) ?_
      | refine OK.need (by first | assumption | (rw [hA]; first | (show (_ : Int) ≠ _; decide) | (show (0 : Int) ≤ _; decide) | (show (0 : Int) ≤ _ ∧ _ < (256 : Int); decide))) ?_
      | (refine F.hold hA 2000 ?_; cbv))
    refine F.call [] (reffixed_ok) rfl rfl rfl fun rs H' hq => ?_
    obtain ⟨fa, fb, rfl, rfl, hx⟩ := hq
    refine ⟨rfl, ?_⟩
    have hRa : RdyR fa := by rw [hx.1]; exact rdyA
    have hRb : RdyR fb := by rw [hx.2]; exact rdyB
    have hS1 : ∀ p' o' e' k', RsyIs fa fb xs (A.imax lim 0) p2 out k p' o' e' k' → BN A xs lim p out k b v1 p' o' e' k' := by rw [hx.1, hx.2]; exact hS.s1 c1
    clear hx
    repeat (first
      | refine OK.drawn (by decide +kernel) ?_
      | refine OK.tree ⟨lookT tis, fun _ => true, []⟩ (by decide +kernel) ?_
      | refine OK.need (by first | assumption | (rw [hA]; first | (show (_ : Int) ≠ _; decide) | (show (0 : Int) ≤ _; decide) | (show (0 : Int) ≤ _ ∧ _ < (256 : Int); decide))) ?_
      | (refine F.hold hA 2000 ?_; cbv))
    refine F.callFrz 3 rfl rfl rfl rfl ?_
    refine F.call [] (refnew_ok fa) rfl rfl rfl fun rs H' hq => ?_
    rcases hq with ⟨e, rfl, rfl, hbad⟩ | ⟨rowsa, rfl, rfl, _, hra⟩
    · exact (newBad hRa hbad).elim
    have hoa : ORows fa rowsa := hra ▸ mp_rows hRa.b
    clear hra
    generalize ((roomN fa : Nat) : Int) = na
    refine ⟨rfl, ?_⟩
    repeat (first
      | refine OK.drawn (by decide +kernel) ?_
      | refine OK.tree ⟨lookT tis, fun _ => true, []⟩ (by decide +kernel) ?_
      | refine OK.need (by first | assumption | (rw [hA]; first | (show (_ : Int) ≠ _; decide) | (show (0 : Int) ≤ _; decide) | (show (0 : Int) ≤ _ ∧ _ < (256 : Int); decide))) ?_
      | (refine F.hold hA 2000 ?_; cbv))
    refine F.callFrz 4 rfl rfl rfl rfl ?_
    refine F.call [] (refnew_ok fb) rfl rfl rfl fun rs H' hq => ?_
    rcases hq with ⟨e, rfl, rfl, hbad⟩ | ⟨rowsb, rfl, rfl, _, hrb⟩
    · exact (newBad hRb hbad).elim
    have hob : ORows fb rowsb := hrb ▸ mp_rows hRb.b
    clear hrb
    generalize ((roomN fb : Nat) : Int) = nb
    refine ⟨rfl, ?_⟩
    repeat (first
      | refine OK.drawn (by decide +kernel) ?_
      | refine OK.tree ⟨lookT tis, fun _ => true, []⟩ (by decide +kernel) ?_
      | refine OK.need (by first | assumption | (rw [hA]; first | (show (_ : Int) ≠ _; decide) | (show (0 : Int) ≤ _; decide) | (show (0 : Int) ≤ _ ∧ _ < (256 : Int); decide))) ?_
      | (refine F.hold hA 2000 ?_; cbv))
    refine F.call [0, 2, 6, 8] (rsymbols_ok fa rowsa fb rowsb xs row out na nb p2 (A.imax lim 0) k _ hRa hoa hRb hob hS.hs) rfl rfl rfl fun rs H' hq => ?_
    obtain ⟨p9, o9, e9, k9, rfl, rfl, hr⟩ := hq
    refine ⟨rfl, ?_⟩
    have hN := hS1 _ _ _ _ hr
    repeat (first
      | refine OK.drawn (by decide +kernel) ?_
      | refine OK.tree ⟨lookT tis, fun _ => true, []⟩ (by decide +kernel) ?_
      | refine OK.need (by first | assumption | (rw [hA]; first | (show (_ : Int) ≠ _; decide) | (show (0 : Int) ≤ _; decide) | (show (0 : Int) ≤ _ ∧ _ < (256 : Int); decide))) ?_
      | (refine F.hold hA 2000 ?_; cbv))
    refine OK.back (hBk _ _ (_, _, _, _, _, _) (by cbv; repeat (first | exact WkH.nil _ | apply WkH.gone | refine WkH.eq rfl ?_)) (by cbv; repeat (first | apply WkL.any | exact WkL.nil _ | refine WkL.eq rfl ?_ | refine WkL.bool rfl ?_)) (by cbv; exact ⟨rfl⟩) ?_ ?_)
    · exact hN.1
    · exact hN.2
  repeat (first
    | refine OK.drawn (by decide +kernel) ?_
    | refine OK.tree ⟨lookT tis, fun _ => true, []⟩ (by decide +kernel) ?_
    | refine OK.need (by first | assumption | (rw [hA]; first | (show (_ : Int) ≠ _; decide) | (show (0 : Int) ≤ _; decide) | (show (0 : Int) ≤ _ ∧ _ < (256 : Int); decide))) ?_
    | (refine F.hold hA 2000 ?_; cbv))
  refine OK.branch (fun c2 => ?_) (fun c2 => ?_)
  · repeat (first
      | refine OK.drawn (by decide +kernel) ?_
      | refine OK.tree ⟨lookT tis, fun _ => true, []⟩ (by decide +kernel) ?_
      | refine OK.need (by first | assumption | (rw [hA]; first | (show (_ : Int) ≠ _; decide) | (show (0 : Int) ≤ _; decide) | (show (0 : Int) ≤ _ ∧ _ < (256 : Int); decide))) ?_
      | (refine F.hold hA 2000 ?_; cbv))
    refine F.call [0, 2] (rtold_ok xs row out p2 (A.imax lim 0) k _ hS.hs) rfl rfl rfl fun rs H' hq => ?_
    obtain ⟨p9, o9, e9, k9, rfl, rfl, hr⟩ := hq
    refine ⟨rfl, ?_⟩
    have hN := hS.s2 c2 _ _ _ _ hr
    repeat (first
      | refine OK.drawn (by decide +kernel) ?_
      | refine OK.tree ⟨lookT tis, fun _ => true, []⟩ (by decide +kernel) ?_
      | refine OK.need (by first | assumption | (rw [hA]; first | (show (_ : Int) ≠ _; decide) | (show (0 : Int) ≤ _; decide) | (show (0 : Int) ≤ _ ∧ _ < (256 : Int); decide))) ?_
      | (refine F.hold hA 2000 ?_; cbv))
    refine OK.back (hBk _ _ (_, _, _, _, _, _) (by cbv; repeat (first | exact WkH.nil _ | apply WkH.gone | refine WkH.eq rfl ?_)) (by cbv; repeat (first | apply WkL.any | exact WkL.nil _ | refine WkL.eq rfl ?_ | refine WkL.bool rfl ?_)) (by cbv; exact ⟨rfl⟩) ?_ ?_)
    · exact hN.1
    · exact hN.2
  have hN := hS.s3 c0 c1 c2
  repeat (first
    | refine OK.drawn (by decide +kernel) ?_
    | refine OK.tree ⟨lookT tis, fun _ => true, []⟩ (by decide +kernel) ?_
    | refine OK.need (by first | assumption | (rw [hA]; first | (show (_ : Int) ≠ _; decide) | (show (0 : Int) ≤ _; decide) | (show (0 : Int) ≤ _ ∧ _ < (256 : Int); decide))) ?_
    | (refine F.hold hA 2000 ?_; cbv))
  refine F.call [0, 2] (fail_ok row out p2 (A.imax lim 0) 0 k _ 10) rfl rfl rfl fun rs H' hq => ?_
  obtain ⟨e9, rfl, rfl, hf⟩ := hq
  refine ⟨rfl, ?_⟩
  obtain rfl : e9 = 10 := hf
  repeat (first
    | refine OK.drawn (by decide +kernel) ?_
    | refine OK.tree ⟨lookT tis, fun _ => true, []⟩ (by decide +kernel) ?_
    | refine OK.need (by first | assumption | (rw [hA]; first | (show (_ : Int) ≠ _; decide) | (show (0 : Int) ≤ _; decide) | (show (0 : Int) ≤ _ ∧ _ < (256 : Int); decide))) ?_
    | (refine F.hold hA 2000 ?_; cbv))
  refine OK.back (hBk _ _ (_, _, _, _, _, _) (by cbv; repeat (first | exact WkH.nil _ | apply WkH.gone | refine WkH.eq rfl ?_)) (by cbv; repeat (first | apply WkL.any | exact WkL.nil _ | refine WkL.eq rfl ?_ | refine WkL.bool rfl ?_)) (by cbv; exact ⟨rfl⟩) ?_ ?_)
  · exact hN.1
  · exact hN.2
end Go.L1

-- D34
namespace Go.L1
open Go Go.Sx Go.Proofs Go.Huff
set_option maxRecDepth 20000
set_option linter.unusedVariables false
set_option linter.unusedSimpArgs false
theorem OK.treeE {X : Ctx T1} (B : Tab) {l : List Oper} (T : OTree) {n : Nat} {o : Out T1} {k : List (KI T1)} {fr : List (SV T1)} {H : List (Ch T1)} (hT : treeOf B l = T) (hp : treeOK B l = true) (h : Holds X (.tree T l :: k) fr H) : OK X (.drawn l n o ⟨k, fr, H⟩) := by
  subst hT
  exact OK.tree B hp h
/-- All orders of the last region of 'same'. -/
def tree38 : OTree := (.take 0 (.take 2 (.take 3 (.take 4 (.alt 1 (.op 5 (.op 6 (.take 7 (.take 8 (.take 10 (.take 11 (.take 12 (.alt 9 (.op 13 (.take 14 (.take 15 (.take 16 (.take 17 (.take 18 (.take 19 (.take 21 (.take 22 (.take 23 (.alt 20 (.op 24 (.take 25 (.take 26 (.take 27 (.take 28 (.take 30 (.take 31 (.take 32 (.alt 29 (.op 33 (.take 34 (.take 35 (.take 36 .fin)))) (.op 33 (.op 29 (.take 34 (.take 35 (.take 36 .fin)))))))))))))) (.op 24 (.op 20 (.take 25 (.take 26 (.take 27 (.take 28 (.take 30 (.take 31 (.take 32 (.alt 29 (.op 33 (.take 34 (.take 35 (.take 36 .fin)))) (.op 33 (.op 29 (.take 34 (.take 35 (.take 36 .fin)))))))))))))))))))))))))) (.op 13 (.take 14 (.take 15 (.op 9 (.take 16 (.take 17 (.take 18 (.take 19 (.take 21 (.take 22 (.take 23 (.alt 20 (.op 24 (.take 25 (.take 26 (.take 27 (.take 28 (.take 30 (.take 31 (.take 32 (.alt 29 (.op 33 (.take 34 (.take 35 (.take 36 .fin)))) (.op 33 (.op 29 (.take 34 (.take 35 (.take 36 .fin)))))))))))))) (.op 24 (.op 20 (.take 25 (.take 26 (.take 27 (.take 28 (.take 30 (.take 31 (.take 32 (.alt 29 (.op 33 (.take 34 (.take 35 (.take 36 .fin)))) (.op 33 (.op 29 (.take 34 (.take 35 (.take 36 .fin))))))))))))))))))))))))))))))))))) (.op 5 (.op 1 (.op 6 (.take 7 (.take 8 (.take 10 (.take 11 (.take 12 (.alt 9 (.op 13 (.take 14 (.take 15 (.take 16 (.take 17 (.take 18 (.take 19 (.take 21 (.take 22 (.take 23 (.alt 20 (.op 24 (.take 25 (.take 26 (.take 27 (.take 28 (.take 30 (.take 31 (.take 32 (.alt 29 (.op 33 (.take 34 (.take 35 (.take 36 .fin)))) (.op 33 (.op 29 (.take 34 (.take 35 (.take 36 .fin)))))))))))))) (.op 24 (.op 20 (.take 25 (.take 26 (.take 27 (.take 28 (.take 30 (.take 31 (.take 32 (.alt 29 (.op 33 (.take 34 (.take 35 (.take 36 .fin)))) (.op 33 (.op 29 (.take 34 (.take 35 (.take 36 .fin)))))))))))))))))))))))))) (.op 13 (.take 14 (.take 15 (.op 9 (.take 16 (.take 17 (.take 18 (.take 19 (.take 21 (.take 22 (.take 23 (.alt 20 (.op 24 (.take 25 (.take 26 (.take 27 (.take 28 (.take 30 (.take 31 (.take 32 (.alt 29 (.op 33 (.take 34 (.take 35 (.take 36 .fin)))) (.op 33 (.op 29 (.take 34 (.take 35 (.take 36 .fin)))))))))))))) (.op 24 (.op 20 (.take 25 (.take 26 (.take 27 (.take 28 (.take 30 (.take 31 (.take 32 (.alt 29 (.op 33 (.take 34 (.take 35 (.take 36 .fin)))) (.op 33 (.op 29 (.take 34 (.take 35 (.take 36 .fin)))))))))))))))))))))))))))))))))))))))))
structure AnsOk (A : Leaf) (out out2 : List UInt8) (used p k b e k2 b2 : Int) : Prop where
  o : out2 = out
  e0 : e = 0
  kk : k2 = k
  bb : b2 = b
  u : A.cmp .eql used (A.ar .quo .i64 (A.ar .add .i64 p 7) 8) = false → False
  l : out.length ≤ 100000000000
theorem ansOk {A : Leaf} {xs row out out2 : List UInt8} {lim used k b p e k2 b2 : Int} (hA : A = .std) (hl : xs.length ≤ 400) (h : InfOK xs lim out used k b) (hr : RinIs xs lim row p out2 e k2 b2) : AnsOk A out out2 used p k b e k2 b2 := by
  obtain ⟨q, hs, _, _, _⟩ := h.bd
  rcases hr with ⟨h1, h2, h3⟩ | ⟨_, h2⟩
  · rw [h.e] at h2
    simp only [Except.ok.injEq, Prod.mk.injEq] at h2
    obtain ⟨rfl, rfl, rfl, rfl⟩ := h2
    have hlo := h3.s.rd.rd.lo
    have hhi := h3.s.rd.hi
    have o1 := hs.l.ot
    have o2 := hs.l.hi
    refine ⟨rfl, h1, rfl, rfl, fun hh => ?_, by omega⟩
    subst hA
    have e1 : Leaf.std.ar .add .i64 p 7 = p + 7 := add_i64 (by omega) (by omega)
    have e2 : Leaf.std.ar .quo .i64 (p + 7) 8 = (p + 7) / 8 := by
      show LAr .quo .i64 _ 8 = _
      rw [l_quo_i64 (by omega) (by omega) (by omega)]
    rw [e1, e2] at hh
    have hh : ((p + 7) / 8 == (p + 7) / 8) = false := hh
    simp at hh
  · rw [h.e] at h2; cases h2
theorem ansErr {xs row out2 : List UInt8} {lim p e e2 k2 b2 : Int} (h : inflR xs lim = .error e) (hr : RinIs xs lim row p out2 e2 k2 b2) : e2 = e ∧ e ≠ 0 := by
  rcases hr with ⟨h1, h2, h3⟩ | ⟨h1, h2⟩
  · rw [h] at h2; cases h2
  · rw [h] at h2
    cases h2
    exact ⟨rfl, h1⟩
set_option maxHeartbeats 8000000 in
theorem same6_ok (xs : List UInt8) (lim : Int) (hp : RiP xs lim) : FOK Try.prog C1 38 (fun _ => true) [.ro (.bytes xs), .int .i64 lim] [] (fun rs H => ∃ b : Bool, rs = [.bool (.e b)] ∧ H = [] ∧ b = true) := by
  refine fok_of (B := ⟨lookT tis, fun _ => true, []⟩) (tab1 _) (zero1 _) cod1 mix1 Try.func38 (by kernel_rfl) rfl rfl rfl fun X F => ?_
  obtain ⟨A, hA⟩ : ∃ A, A = Leaf.std := ⟨_, rfl⟩
  refine F.hold hA 2000 ?_
  cbv
  have hl := hp.l
  repeat (first
    | refine OK.drawn (by decide +kernel) ?_
    | refine OK.tree ⟨lookT tis, fun _ => true, []⟩ (by decide +kernel) ?_
    | refine OK.need (by first | assumption | (rw [hA]; first | (show (_ : Int) ≠ _; decide) | (show (0 : Int) ≤ _; decide) | (show (0 : Int) ≤ _ ∧ _ < (256 : Int); decide))) ?_
    | (refine F.hold hA 2000 ?_; cbv))
  refine F.call [] (inflate_ok xs lim hp.inf) rfl rfl rfl fun rs H' hq => ?_
  rcases hq with ⟨out, used, k, b, hok, rfl, rfl⟩ | ⟨e, he, rfl, rfl⟩
  · refine ⟨rfl, ?_⟩
    repeat (first
      | refine OK.drawn (by decide +kernel) ?_
      | refine OK.tree ⟨lookT tis, fun _ => true, []⟩ (by decide +kernel) ?_
      | refine OK.need (by first | assumption | (rw [hA]; first | (show (_ : Int) ≠ _; decide) | (show (0 : Int) ≤ _; decide) | (show (0 : Int) ≤ _ ∧ _ < (256 : Int); decide))) ?_
      | (refine F.hold hA 2000 ?_; cbv))
    refine F.call [] (rinflate_ok xs lim hp) rfl rfl rfl fun rs H' hq => ?_
    obtain ⟨row, p, out2, e2, k2, b2, L, rfl, rfl, hr⟩ := hq
    refine ⟨rfl, ?_⟩
    have hAns := ansOk hA hl hok hr
    obtain ⟨rfl, rfl, rfl, rfl, hU, hol⟩ := hAns
    clear hr
    repeat (first
      | refine OK.drawn (by decide +kernel) ?_
      | refine OK.tree ⟨lookT tis, fun _ => true, []⟩ (by decide +kernel) ?_
      | refine OK.need (by first | assumption | (rw [hA]; first | (show (_ : Int) ≠ _; decide) | (show (0 : Int) ≤ _; decide) | (show (0 : Int) ≤ _ ∧ _ < (256 : Int); decide))) ?_
      | (refine F.hold hA 2000 ?_; cbv))
    refine OK.branch (fun g1 => (neq_self hA g1).elim) (fun g1 => ?_)
    repeat (first
      | refine OK.drawn (by decide +kernel) ?_
      | refine OK.tree ⟨lookT tis, fun _ => true, []⟩ (by decide +kernel) ?_
      | refine OK.need (by first | assumption | (rw [hA]; first | (show (_ : Int) ≠ _; decide) | (show (0 : Int) ≤ _; decide) | (show (0 : Int) ≤ _ ∧ _ < (256 : Int); decide))) ?_
      | (refine F.hold hA 2000 ?_; cbv))
    refine OK.branch (fun g2 => (neq_self hA g2).elim) (fun g2 => ?_)
    refine F.hold hA 2000 ?_
    cbv
    refine OK.treeE ⟨lookT tis, fun _ => true, []⟩ tree38 (by kernel_rfl) (by decide +kernel) ?_
    unfold tree38
    repeat' (first
      | contradiction
      | exact (eql_self hA (by assumption)).elim
      | exact (hU (by assumption)).elim
      | refine OK.drawn (by decide +kernel) ?_
      | refine OK.tree ⟨lookT tis, fun _ => true, []⟩ (by decide +kernel) ?_
      | refine OK.both ?_ ?_
      | refine OK.need (by first | assumption | (rw [hA]; first | (show (_ : Int) ≠ _; decide) | (show (0 : Int) ≤ _; decide) | (show (0 : Int) ≤ _ ∧ _ < (256 : Int); decide))) ?_
      | refine OK.need ?_ ?_
      | (refine OK.branch ?_ ?_ <;> intro h)
      | (refine F.hold hA 2000 ?_; cbv))
    · refine F.callFrz 5 rfl rfl rfl rfl ?_
      refine F.callFrz 9 rfl rfl rfl rfl ?_
      refine F.call [] (same_ok out2 out2 hol) rfl rfl rfl fun rs H' hq => ?_
      obtain ⟨r, rfl, rfl, hr⟩ := hq
      obtain rfl : r = true := hr.2 rfl
      refine ⟨rfl, ?_⟩
      clear hr
      repeat' (first
        | contradiction
        | exact (eql_self hA (by assumption)).elim
        | exact (hU (by assumption)).elim
        | refine OK.drawn (by decide +kernel) ?_
        | refine OK.tree ⟨lookT tis, fun _ => true, []⟩ (by decide +kernel) ?_
        | refine OK.both ?_ ?_
        | refine OK.need (by first | assumption | (rw [hA]; first | (show (_ : Int) ≠ _; decide) | (show (0 : Int) ≤ _; decide) | (show (0 : Int) ≤ _ ∧ _ < (256 : Int); decide))) ?_
        | refine OK.need ?_ ?_
        | (refine OK.branch ?_ ?_ <;> intro h)
        | (refine F.hold hA 2000 ?_; cbv))
      all_goals exact F.ret (H' := []) (F.cv ⟨rfl⟩ (.eq rfl (.nil _)) (.nil _)) rfl ⟨_, rfl, rfl, by subst hA; simp [Leaf.std]⟩
    · refine F.callFrz 5 rfl rfl rfl rfl ?_
      refine F.callFrz 9 rfl rfl rfl rfl ?_
      refine F.call [] (same_ok out2 out2 hol) rfl rfl rfl fun rs H' hq => ?_
      obtain ⟨r, rfl, rfl, hr⟩ := hq
      obtain rfl : r = true := hr.2 rfl
      refine ⟨rfl, ?_⟩
      clear hr
      repeat' (first
        | contradiction
        | exact (eql_self hA (by assumption)).elim
        | exact (hU (by assumption)).elim
        | refine OK.drawn (by decide +kernel) ?_
        | refine OK.tree ⟨lookT tis, fun _ => true, []⟩ (by decide +kernel) ?_
        | refine OK.both ?_ ?_
        | refine OK.need (by first | assumption | (rw [hA]; first | (show (_ : Int) ≠ _; decide) | (show (0 : Int) ≤ _; decide) | (show (0 : Int) ≤ _ ∧ _ < (256 : Int); decide))) ?_
        | refine OK.need ?_ ?_
        | (refine OK.branch ?_ ?_ <;> intro h)
        | (refine F.hold hA 2000 ?_; cbv))
      all_goals exact F.ret (H' := []) (F.cv ⟨rfl⟩ (.eq rfl (.nil _)) (.nil _)) rfl ⟨_, rfl, rfl, by subst hA; simp [Leaf.std]⟩
  · refine ⟨rfl, ?_⟩
    repeat (first
      | refine OK.drawn (by decide +kernel) ?_
      | refine OK.tree ⟨lookT tis, fun _ => true, []⟩ (by decide +kernel) ?_
      | refine OK.need (by first | assumption | (rw [hA]; first | (show (_ : Int) ≠ _; decide) | (show (0 : Int) ≤ _; decide) | (show (0 : Int) ≤ _ ∧ _ < (256 : Int); decide))) ?_
      | (refine F.hold hA 2000 ?_; cbv))
    refine F.call [] (rinflate_ok xs lim hp) rfl rfl rfl fun rs H' hq => ?_
    obtain ⟨row, p, out2, e2, k2, b2, L, rfl, rfl, hr⟩ := hq
    refine ⟨rfl, ?_⟩
    obtain ⟨rfl, hne⟩ := ansErr he hr
    clear hr
    repeat' (first
      | contradiction
      | exact (neq_self hA (by assumption)).elim
      | exact (hne (neq_zero hA (by assumption))).elim
      | exact (eql_self hA (by assumption)).elim
      | refine OK.drawn (by decide +kernel) ?_
      | refine OK.tree ⟨lookT tis, fun _ => true, []⟩ (by decide +kernel) ?_
      | refine OK.both ?_ ?_
      | refine OK.need (by first | assumption | (rw [hA]; first | (show (_ : Int) ≠ _; decide) | (show (0 : Int) ≤ _; decide) | (show (0 : Int) ≤ _ ∧ _ < (256 : Int); decide))) ?_
      | refine OK.need ?_ ?_
      | (refine OK.branch ?_ ?_ <;> intro h)
      | (refine F.hold hA 2000 ?_; cbv))
    exact F.ret (H' := []) (F.cv ⟨rfl⟩ (.eq rfl (.nil _)) (.nil _)) rfl ⟨_, rfl, rfl, by subst hA; rfl⟩
theorem ripOf {A : Leaf} {xs : List UInt8} {lim : Int} (hA : A = .std) (h1 : A.cmp .gtr (A.len xs) 400 = false) (h2 : A.cmp .gtr lim 20000 = false) : RiP xs lim := by
  subst hA
  have h1 : ¬ (400 : Int) < xs.length := of_decide_eq_false h1
  have h2 : ¬ (20000 : Int) < lim := of_decide_eq_false h2
  exact ⟨by omega, by omega⟩
theorem answers_ok (xs : List UInt8) (lim : Int) : FOK Try.prog C1 8 (fun _ => false) [.ro (.bytes xs), .int .i64 lim] [] Yes := by
  refine fok_of (B := ⟨lookT tis, fun _ => false, []⟩) (tab1 _) (zero1 _) cod1 mix1 Try.func8 (by kernel_rfl) rfl rfl rfl fun X F => ?_
  obtain ⟨A, hA⟩ : ∃ A, A = Leaf.std := ⟨_, rfl⟩
  refine F.hold hA 2000 ?_
  cbv
  repeat' (first
    | refine OK.drawn (by decide +kernel) ?_
    | refine OK.tree ⟨lookT tis, fun _ => true, []⟩ (by decide +kernel) ?_
    | refine OK.both ?_ ?_
    | refine OK.need (by first | assumption | (rw [hA]; first | (show (_ : Int) ≠ _; decide) | (show (0 : Int) ≤ _; decide) | (show (0 : Int) ≤ _ ∧ _ < (256 : Int); decide))) ?_
    | refine OK.need ?_ ?_
    | (refine OK.branch ?_ ?_ <;> intro h)
    | (refine F.hold hA 2000 ?_; cbv))
  refine F.call [] (alive6_ok) rfl rfl rfl fun rs H' hq => ?_
  obtain ⟨b, rfl, rfl, rfl⟩ := hq
  refine ⟨rfl, ?_⟩
  repeat' (first
    | contradiction
    | exact (bnot_t hA (by assumption)).elim
    | refine OK.drawn (by decide +kernel) ?_
    | refine OK.tree ⟨lookT tis, fun _ => true, []⟩ (by decide +kernel) ?_
    | refine OK.both ?_ ?_
    | refine OK.need (by first | assumption | (rw [hA]; first | (show (_ : Int) ≠ _; decide) | (show (0 : Int) ≤ _; decide) | (show (0 : Int) ≤ _ ∧ _ < (256 : Int); decide))) ?_
    | refine OK.need ?_ ?_
    | (refine OK.branch ?_ ?_ <;> intro h)
    | (refine F.hold hA 2000 ?_; cbv))
  · exact F.ret0 ⟨_, rfl, rfl⟩
  · exact F.ret0 ⟨_, rfl, rfl⟩
  have hp := ripOf (lim := lim) hA (by assumption) (by assumption)
  have hxl : xs.length ≤ 100000000000 := by have := hp.l; omega
  refine F.call [] (copy_ro xs hxl) rfl rfl rfl fun rs H' hq => ?_
  obtain ⟨rfl, rfl⟩ := hq
  refine ⟨rfl, ?_⟩
  repeat' (first
    | refine OK.drawn (by decide +kernel) ?_
    | refine OK.tree ⟨lookT tis, fun _ => true, []⟩ (by decide +kernel) ?_
    | refine OK.both ?_ ?_
    | refine OK.need (by first | assumption | (rw [hA]; first | (show (_ : Int) ≠ _; decide) | (show (0 : Int) ≤ _; decide) | (show (0 : Int) ≤ _ ∧ _ < (256 : Int); decide))) ?_
    | refine OK.need ?_ ?_
    | (refine OK.branch ?_ ?_ <;> intro h)
    | (refine F.hold hA 2000 ?_; cbv))
  refine F.callFrz 0 rfl rfl rfl rfl ?_
  refine F.call [] (same6_ok xs lim hp) rfl rfl rfl fun rs H' hq => ?_
  obtain ⟨r, rfl, rfl, rfl⟩ := hq
  refine ⟨rfl, ?_⟩
  repeat' (first
    | refine OK.drawn (by decide +kernel) ?_
    | refine OK.tree ⟨lookT tis, fun _ => true, []⟩ (by decide +kernel) ?_
    | refine OK.both ?_ ?_
    | refine OK.need (by first | assumption | (rw [hA]; first | (show (_ : Int) ≠ _; decide) | (show (0 : Int) ≤ _; decide) | (show (0 : Int) ≤ _ ∧ _ < (256 : Int); decide))) ?_
    | refine OK.need ?_ ?_
    | (refine OK.branch ?_ ?_ <;> intro h)
    | (refine F.hold hA 2000 ?_; cbv))
  · refine F.call [] (same_ok xs xs hxl) rfl rfl rfl fun rs H' hq => ?_
    obtain ⟨r, rfl, rfl, hr⟩ := hq
    obtain rfl : r = true := hr.2 rfl
    refine ⟨rfl, ?_⟩
    repeat (first
      | refine OK.drawn (by decide +kernel) ?_
      | refine OK.tree ⟨lookT tis, fun _ => true, []⟩ (by decide +kernel) ?_
      | refine OK.need (by first | assumption | (rw [hA]; first | (show (_ : Int) ≠ _; decide) | (show (0 : Int) ≤ _; decide) | (show (0 : Int) ≤ _ ∧ _ < (256 : Int); decide))) ?_
      | (refine F.hold hA 2000 ?_; cbv))
    exact F.ret0 ⟨_, rfl, rfl⟩
  · exfalso
    cases ‹true = false›
end Go.L1
