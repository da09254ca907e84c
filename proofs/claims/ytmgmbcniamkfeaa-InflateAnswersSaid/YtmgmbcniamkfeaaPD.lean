/- Own work of the session: part PD of a proof that the program's functions do what the statement says (a symbolic executor, contracts of the functions, plain laws). -/
import Derived.Test.YtmgmbcniamkfeaaPC
import Derived.Test.YtmgmbcniamkfeaaChecked
import Derived.KernelRfl
set_option linter.all false
-- L1Defs
namespace Go.L1
open Go Go.Sx Go.Proofs
structure Pr where
  a : Int
  b : Int
def T1 (id : Nat) : Type := match id with | 0 => Pr | 1 => Pr | 2 => Pr | 3 => Option (List UInt8) | 4 => List UInt8 | _ => List Int
def enc1 : (id : Nat) → T1 id → List (SV T1)
  | 0, (x : Pr) => [.int .u32 x.a, .int .i64 x.b]
  | 1, (x : Pr) => [.int .i64 x.a, .int .i64 x.b]
  | 2, (x : Pr) => [.int .i64 x.a, .int .i64 x.b]
  | 3, (x : Option (List UInt8)) => match x with | none => [.val (.slice none 0 0)] | some b => [.ro (.bytes b)]
  | 4, (x : List UInt8) => [.ro (.bytes x)]
  | _ + 5, (x : List Int) => [.ro (.ints .i64 x)]
def dec1 : (id : Nat) → List (SV T1) → Option (T1 id)
  | 0, l => match l with | [.int .u32 a, .int .i64 b] => some (⟨a, b⟩ : Pr) | _ => none
  | 1, l => match l with | [.int .i64 a, .int .i64 b] => some (⟨a, b⟩ : Pr) | _ => none
  | 2, l => match l with | [.int .i64 a, .int .i64 b] => some (⟨a, b⟩ : Pr) | _ => none
  | 3, l => match l with | [.val (.slice none 0 0)] => some (none : Option (List UInt8)) | [.ro (.bytes b)] => some (some b : Option (List UInt8)) | _ => none
  | 4, l => match l with | [.ro (.bytes b)] => some (b : List UInt8) | _ => none
  | _ + 5, l => match l with | [.ro (.ints .i64 b)] => some (b : List Int) | _ => none
def dflt1 : (id : Nat) → T1 id
  | 0 => (⟨0, 0⟩ : Pr)
  | 1 => (⟨0, 0⟩ : Pr)
  | 2 => (⟨0, 0⟩ : Pr)
  | 3 => (none : Option (List UInt8))
  | 4 => ([] : List UInt8)
  | _ + 5 => ([] : List Int)
def C1 : Cod T1 where
  sz id := match id with | 0 => 2 | 1 => 2 | 2 => 2 | _ => 1
  bytes id := match id with | 0 => 16 | 1 => 16 | 2 => 16 | _ => 24
  dflt := dflt1
  enc := enc1
  dec := dec1
def tis : List TI := [⟨.other, 1, 0, .no⟩,
  ⟨.one .nilFunc, 1, 8, .no⟩,
  ⟨.int .i64, 1, 8, .int .i64⟩,
  ⟨.int .i64, 1, 8, .int .i64⟩,
  ⟨.bool, 1, 1, .bool⟩,
  ⟨.int .u8, 1, 1, .byte⟩,
  ⟨.int .u8, 1, 1, .byte⟩,
  ⟨.struct [(2, 0), (3, 1), (4, 2), (6, 3)], 4, 24, .no⟩,
  ⟨.struct [(2, 0), (3, 1), (4, 2), (6, 3)], 4, 24, .no⟩,
  ⟨.str, 1, 16, .str⟩,
  ⟨.str, 1, 16, .str⟩,
  ⟨.str, 1, 16, .str⟩,
  ⟨.int .u64, 1, 8, .int .u64⟩,
  ⟨.struct [(9, 0), (12, 1)], 2, 24, .no⟩,
  ⟨.struct [(9, 0), (12, 1)], 2, 24, .no⟩,
  ⟨.ptr 142, 1, 8, .no⟩,
  ⟨.ptr 145, 1, 8, .no⟩,
  ⟨.ptr 153, 1, 8, .no⟩,
  ⟨.struct [(17, 0)], 1, 8, .no⟩,
  ⟨.struct [(17, 0)], 1, 8, .no⟩,
  ⟨.one .nilIface, 1, 16, .no⟩,
  ⟨.int .i32, 1, 4, .int .i32⟩,
  ⟨.slice 3, 1, 24, .st 5⟩,
  ⟨.one .nilFunc, 1, 8, .no⟩,
  ⟨.one .nilFunc, 1, 8, .no⟩,
  ⟨.other, 1, 0, .no⟩,
  ⟨.one .nilFunc, 1, 8, .no⟩,
  ⟨.ptr 78, 1, 8, .no⟩,
  ⟨.int .i64, 1, 8, .int .i64⟩,
  ⟨.other, 1, 0, .no⟩,
  ⟨.one .nilFunc, 1, 8, .no⟩,
  ⟨.ptr 41, 1, 8, .no⟩,
  ⟨.other, 1, 0, .no⟩,
  ⟨.one .nilFunc, 1, 8, .no⟩,
  ⟨.one .nilFunc, 1, 8, .no⟩,
  ⟨.int .u32, 1, 4, .int .u32⟩,
  ⟨.other, 1, 0, .no⟩,
  ⟨.one .nilFunc, 1, 8, .no⟩,
  ⟨.slice 5, 1, 24, .st 3⟩,
  ⟨.slice 38, 1, 24, .no⟩,
  ⟨.struct [(39, 0), (3, 1)], 2, 32, .no⟩,
  ⟨.struct [(39, 0), (3, 1)], 2, 32, .no⟩,
  ⟨.int .u64, 1, 8, .int .u64⟩,
  ⟨.one .nilFunc, 1, 8, .no⟩,
  ⟨.one .nilFunc, 1, 8, .no⟩,
  ⟨.ptr 82, 1, 8, .no⟩,
  ⟨.one .nilFunc, 1, 8, .no⟩,
  ⟨.other, 1, 0, .no⟩,
  ⟨.one .nilFunc, 1, 8, .no⟩,
  ⟨.one .nilFunc, 1, 8, .no⟩,
  ⟨.one .nilFunc, 1, 8, .no⟩,
  ⟨.one .nilFunc, 1, 8, .no⟩,
  ⟨.one .nilFunc, 1, 8, .no⟩,
  ⟨.other, 1, 0, .no⟩,
  ⟨.one .nilFunc, 1, 8, .no⟩,
  ⟨.one .nilFunc, 1, 8, .no⟩,
  ⟨.ptr 88, 1, 8, .no⟩,
  ⟨.one .nilFunc, 1, 8, .no⟩,
  ⟨.one .nilFunc, 1, 8, .no⟩,
  ⟨.one .nilFunc, 1, 8, .no⟩,
  ⟨.one .nilFunc, 1, 8, .no⟩,
  ⟨.one .nilFunc, 1, 8, .no⟩,
  ⟨.one .nilFunc, 1, 8, .no⟩,
  ⟨.other, 1, 0, .no⟩,
  ⟨.one .nilFunc, 1, 8, .no⟩,
  ⟨.other, 1, 0, .no⟩,
  ⟨.one .nilFunc, 1, 8, .no⟩,
  ⟨.struct [(38, 0), (3, 1), (3, 2), (3, 3)], 4, 48, .no⟩,
  ⟨.struct [(38, 0), (3, 1), (3, 2), (3, 3)], 4, 48, .no⟩,
  ⟨.other, 1, 0, .no⟩,
  ⟨.one .nilFunc, 1, 8, .no⟩,
  ⟨.one .nilFunc, 1, 8, .no⟩,
  ⟨.one .nilFunc, 1, 8, .no⟩,
  ⟨.one .nilFunc, 1, 8, .no⟩,
  ⟨.one .nilFunc, 1, 8, .no⟩,
  ⟨.slice 80, 1, 24, .no⟩,
  ⟨.array 16 3, 16, 128, .no⟩,
  ⟨.struct [(75, 0), (76, 1), (76, 17), (76, 33), (22, 49), (3, 50)], 51, 440, .no⟩,
  ⟨.struct [(75, 0), (76, 1), (76, 17), (76, 33), (22, 49), (3, 50)], 51, 440, .no⟩,
  ⟨.struct [(35, 0), (3, 1)], 2, 16, .no⟩,
  ⟨.struct [(35, 0), (3, 1)], 2, 16, .st 0⟩,
  ⟨.struct [(38, 0), (3, 1)], 2, 32, .no⟩,
  ⟨.struct [(38, 0), (3, 1)], 2, 32, .no⟩,
  ⟨.one .nilFunc, 1, 8, .no⟩,
  ⟨.one .nilFunc, 1, 8, .no⟩,
  ⟨.one .nilFunc, 1, 8, .no⟩,
  ⟨.int .u64, 1, 8, .int .u64⟩,
  ⟨.struct [(38, 0), (86, 1), (3, 2)], 3, 40, .no⟩,
  ⟨.struct [(38, 0), (86, 1), (3, 2)], 3, 40, .no⟩,
  ⟨.ptr 93, 1, 8, .no⟩,
  ⟨.other, 1, 0, .no⟩,
  ⟨.one .nilFunc, 1, 8, .no⟩,
  ⟨.struct [(38, 0), (3, 1), (38, 2), (3, 3), (28, 4), (3, 5), (3, 6)], 7, 88, .no⟩,
  ⟨.struct [(38, 0), (3, 1), (38, 2), (3, 3), (28, 4), (3, 5), (3, 6)], 7, 88, .no⟩,
  ⟨.one .nilFunc, 1, 8, .no⟩,
  ⟨.one .nilFunc, 1, 8, .no⟩,
  ⟨.ptr 98, 1, 8, .no⟩,
  ⟨.struct [(45, 0), (3, 1), (68, 2)], 6, 64, .no⟩,
  ⟨.struct [(45, 0), (3, 1), (68, 2)], 6, 64, .no⟩,
  ⟨.struct [(28, 0)], 1, 8, .no⟩,
  ⟨.struct [(28, 0)], 1, 8, .no⟩,
  ⟨.other, 1, 0, .no⟩,
  ⟨.one .nilFunc, 1, 8, .no⟩,
  ⟨.one .nilFunc, 1, 8, .no⟩,
  ⟨.one .nilFunc, 1, 8, .no⟩,
  ⟨.slice 22, 1, 24, .no⟩,
  ⟨.other, 1, 0, .no⟩,
  ⟨.one .nilFunc, 1, 8, .no⟩,
  ⟨.one .nilFunc, 1, 8, .no⟩,
  ⟨.other, 1, 0, .no⟩,
  ⟨.one .nilFunc, 1, 8, .no⟩,
  ⟨.one .nilFunc, 1, 8, .no⟩,
  ⟨.one .nilFunc, 1, 8, .no⟩,
  ⟨.one .nilFunc, 1, 8, .no⟩,
  ⟨.one .nilFunc, 1, 8, .no⟩,
  ⟨.one .nilFunc, 1, 8, .no⟩,
  ⟨.slice 118, 1, 24, .no⟩,
  ⟨.struct [(3, 0), (3, 1)], 2, 16, .no⟩,
  ⟨.struct [(3, 0), (3, 1)], 2, 16, .st 2⟩,
  ⟨.other, 1, 0, .no⟩,
  ⟨.one .nilFunc, 1, 8, .no⟩,
  ⟨.other, 1, 0, .no⟩,
  ⟨.one .nilFunc, 1, 8, .no⟩,
  ⟨.other, 1, 0, .no⟩,
  ⟨.one .nilFunc, 1, 8, .no⟩,
  ⟨.other, 1, 0, .no⟩,
  ⟨.one .nilFunc, 1, 8, .no⟩,
  ⟨.other, 1, 0, .no⟩,
  ⟨.one .nilFunc, 1, 8, .no⟩,
  ⟨.one .nilFunc, 1, 8, .no⟩,
  ⟨.one .nilFunc, 1, 8, .no⟩,
  ⟨.one .nilFunc, 1, 8, .no⟩,
  ⟨.array 19 3, 19, 152, .no⟩,
  ⟨.one .nilFunc, 1, 8, .no⟩,
  ⟨.one .nilFunc, 1, 8, .no⟩,
  ⟨.one .nilFunc, 1, 8, .no⟩,
  ⟨.slice 137, 1, 24, .no⟩,
  ⟨.struct [(3, 0), (3, 1)], 2, 16, .st 1⟩,
  ⟨.one .nilFunc, 1, 8, .no⟩,
  ⟨.one .nilFunc, 1, 8, .no⟩,
  ⟨.one .nilFunc, 1, 8, .no⟩,
  ⟨.struct [(17, 0), (17, 1), (17, 2), (9, 3)], 4, 40, .no⟩,
  ⟨.struct [(17, 0), (17, 1), (17, 2), (9, 3)], 4, 40, .no⟩,
  ⟨.other, 0, 0, .no⟩,
  ⟨.other, 0, 0, .no⟩,
  ⟨.other, 0, 0, .no⟩,
  ⟨.int .u8, 1, 1, .byte⟩,
  ⟨.int .u8, 1, 1, .byte⟩,
  ⟨.one .nilFunc, 1, 8, .no⟩,
  ⟨.ptr 5, 1, 8, .no⟩,
  ⟨.int .i32, 1, 4, .int .i32⟩,
  ⟨.int .i32, 1, 4, .int .i32⟩,
  ⟨.struct [(12, 0), (12, 1), (35, 2), (146, 3), (5, 4), (5, 5), (147, 6), (148, 7), (149, 8), (150, 9), (151, 10)], 11, 48, .no⟩,
  ⟨.struct [(12, 0), (12, 1), (35, 2), (146, 3), (5, 4), (5, 5), (147, 6), (148, 7), (149, 8), (150, 9), (151, 10)], 11, 48, .no⟩,
  ⟨.other, 1, 8, .no⟩]

theorem cod1 : CodOK C1 where
  sz id x := by
    match id, x with
    | 0, _ => rfl
    | 1, _ => rfl
    | 2, _ => rfl
    | 3, none => rfl
    | 3, some _ => rfl
    | 4, _ => rfl
    | _ + 5, _ => rfl
  pos id := by
    match id with
    | 0 => decide
    | 1 => decide
    | 2 => decide
    | 3 => decide
    | 4 => decide
    | _ + 5 => exact Nat.succ_pos 0
  free id x c := by
    match id, x with
    | 0, _ => rfl
    | 1, _ => rfl
    | 2, _ => rfl
    | 3, none => rfl
    | 3, some _ => rfl
    | 4, _ => rfl
    | _ + 5, _ => rfl
  dec id l x h := by
    match id, x with
    | 0, x => simp only [C1, dec1] at h; split at h <;> first | (cases h; rfl) | cases h
    | 1, x => simp only [C1, dec1] at h; split at h <;> first | (cases h; rfl) | cases h
    | 2, x => simp only [C1, dec1] at h; split at h <;> first | (cases h; rfl) | cases h
    | 3, x => simp only [C1, dec1] at h; split at h <;> first | (cases h; rfl) | cases h
    | 4, x => simp only [C1, dec1] at h; split at h <;> first | (cases h; rfl) | cases h
    | _ + 5, x => simp only [C1, dec1] at h; split at h <;> first | (cases h; rfl) | cases h
theorem tab1 (pin : Nat → Bool) {kp : List Nat} : TabOK Try.prog C1 ⟨lookT tis, pin, kp⟩ := tabOK_of (by kernel_rfl)
theorem zero1 (pin : Nat → Bool) {kp : List Nat} : ZeroOK Try.prog C1 ⟨lookT tis, pin, kp⟩ := zeroOK_of cod1 (by kernel_rfl)
theorem mix1 : Try.prog.follows .mixedOrders = true := by kernel_rfl
end Go.L1

-- A2
namespace Go.L1
open Go Go.Sx Go.Proofs

/-- So many bytes of a number, the lowest first. -/
def bytesOf : Nat → Nat → List UInt8
  | 0, _ => []
  | q + 1, t => UInt8.ofNat (t % 256) :: bytesOf q (t / 256)
/-- What Put has to lay down: what was left, and the number's lower bits above it. -/
def word (last m v n : Nat) : Nat := last + v % 2 ^ n * 2 ^ m

end Go.L1

-- A1
namespace Go.L1
open Go Go.Sx Go.Proofs
set_option maxRecDepth 20000
end Go.L1

-- A3
namespace Go.L1
open Go Go.Sx Go.Proofs
set_option maxRecDepth 20000

/-- slices.Clone of bytes that are only read. -/
theorem clone_ro (xs : List UInt8) (hx : xs.length ≤ 100000000000) : FOK Try.prog C1 48 (fun _ => false) [.ro (.bytes xs)] [] (fun rs H => rs = [.own 0] ∧ H = [.row 5 (.bytes xs)]) := by
  refine fok_of (B := ⟨lookT tis, fun _ => false, []⟩) (tab1 _) (zero1 _) cod1 mix1 Try.func48 (by kernel_rfl) rfl rfl rfl fun X F => ?_
  obtain ⟨A, hA⟩ : ∃ A, A = Leaf.std := ⟨_, rfl⟩
  refine F.hold hA 100 ?_
  cbv
  refine OK.fork fun b => OK.know fun hb => ?_
  refine OK.branch (fun h1 => ?_) (fun h1 => ?_)
  · refine F.hold hA 100 ?_
    cbv
    have h0 : xs = [] := by
      have := hb h1
      subst hA
      rw [Row.len_std] at this
      exact List.eq_nil_of_length_eq_zero (by simpa [Row.length] using this)
    subst h0
    refine F.ret (Cv.adopt F.cod 0 5 (ek := .byte) rfl rfl) rfl ⟨rfl, rfl⟩
  · refine F.hold hA 100 ?_
    cbv
    subst hA
    refine OK.need ?_ (F.ret0 ⟨rfl, rfl⟩)
    exact small1 (by show ([] ++ xs).length ≤ _; simp; omega)

/-- CopyBytes. -/
theorem copy_ro (xs : List UInt8) (hx : xs.length ≤ 100000000000) : FOK Try.prog C1 37 (fun _ => false) [.ro (.bytes xs)] [] (fun rs H => rs = [.own 0] ∧ H = [.row 5 (.bytes xs)]) := by
  refine fok_of (B := ⟨lookT tis, fun _ => false, []⟩) (tab1 _) (zero1 _) cod1 mix1 Try.func37 (by kernel_rfl) rfl rfl rfl fun X F => ?_
  obtain ⟨A, hA⟩ : ∃ A, A = Leaf.std := ⟨_, rfl⟩
  refine F.hold hA 100 ?_
  cbv
  subst hA
  refine OK.need ?_ (F.ret0 ⟨rfl, rfl⟩)
  exact small1 (by show ([] ++ xs).length ≤ _; simp; omega)

end Go.L1

-- A4
namespace Go.L1
open Go Go.Sx Go.Proofs
set_option maxRecDepth 20000
set_option linter.unusedVariables false

def SameInv (a b : List UInt8) (i : Int) : Prop := ∃ j : Nat, i = j ∧ j ≤ a.length ∧ a.length = b.length ∧ a.take j = b.take j
def SameRes (a b : List UInt8) (r : Bool) : Prop := r = true ↔ a = b
/-- SameBytes. -/
theorem same_ok (a b : List UInt8) (ha : a.length ≤ 100000000000) : FOK Try.prog C1 39 (fun _ => true) [.ro (.bytes a), .ro (.bytes b)] []
    (fun rs H => ∃ r, rs = [.bool (.e r)] ∧ H = [] ∧ SameRes a b r) := by
  refine fok_of (B := ⟨lookT tis, fun _ => true, []⟩) (tab1 _) (zero1 _) cod1 mix1 Try.func39 (by kernel_rfl) rfl rfl rfl fun X F => ?_
  obtain ⟨A, hA⟩ : ∃ A, A = Leaf.std := ⟨_, rfl⟩
  refine F.hold hA 1000 ?_
  cbv
  refine OK.branch (fun h1 => ?_) (fun h1 => ?_)
  · refine F.hold hA 1000 ?_
    cbv
    refine F.retE rfl ⟨_, rfl, rfl, ?_⟩
    subst hA
    simp [Leaf.std] at h1
    simp only [SameRes, ebool, Bool.false_eq_true, false_iff]
    intro h; rw [h] at h1; exact h1 rfl
  refine F.hold hA 1000 ?_
  cbv
  refine F.loop (V := Int) [0, 1] (SameInv a b) (fun i => (a.length - i).toNat) (fun i => [(5, .int .i64 i)]) (fun i => []) _
    (by cbv; exact WkH.nil _) (by cbv; repeat (first | apply WkL.any | exact WkL.nil _ | refine WkL.eq rfl ?_)) (by cbv; exact ⟨rfl⟩) ?_ ?_
  · subst hA
    simp [Leaf.std] at h1
    exact ⟨0, by omega, by omega, by omega, by simp⟩
  intro i hI Bk hBk
  refine F.hold hA 1000 ?_
  cbv
  refine OK.branch (fun h2 => ?_) (fun h2 => ?_)
  · refine F.hold hA 1000 ?_
    cbv
    refine OK.drawn (by kernel_rfl) ?_
    refine OK.need ?_ ?_
    · obtain ⟨j, rfl, hj, hab, ht⟩ := hI
      subst hA
      have h2' : j < a.length := by simpa [Leaf.std] using h2
      show (0 : Int) ≤ j ∧ (j : Int) < (a.length : Int); omega
    refine OK.need ?_ ?_
    · obtain ⟨j, rfl, hj, hab, ht⟩ := hI
      subst hA
      have h2' : j < a.length := by simpa [Leaf.std] using h2
      show (0 : Int) ≤ j ∧ (j : Int) < (b.length : Int); omega
    refine OK.branch (fun h3 => ?_) (fun h3 => ?_)
    · refine F.hold hA 1000 ?_
      cbv
      refine F.retE rfl ⟨_, rfl, rfl, ?_⟩
      obtain ⟨j, rfl, hj, hab, ht⟩ := hI
      subst hA
      have h2' : j < a.length := by simpa [Leaf.std] using h2
      simp [Leaf.std, h2', show j < b.length from by omega] at h3
      simp only [SameRes, ebool, Bool.false_eq_true, false_iff]
      intro h; subst h; exact h3 rfl
    · refine F.hold hA 1000 ?_
      cbv
      refine OK.back (hBk _ _ _ (by cbv; exact WkH.nil _) (by cbv; repeat (first | apply WkL.any | exact WkL.nil _ | refine WkL.eq rfl ?_)) (by cbv; exact ⟨rfl⟩) ?_ ?_)
      · obtain ⟨j, rfl, hj, hab, ht⟩ := hI
        subst hA
        have h2' : j < a.length := by simpa [Leaf.std] using h2
        have e : Leaf.std.ar .add .i64 (j : Int) 1 = (j + 1 : Nat) := by rw [add_i64 (by omega) (by omega)]; omega
        refine ⟨j + 1, e, by omega, hab, ?_⟩
        simp [Leaf.std, h2', show j < b.length from by omega] at h3
        rw [List.take_succ_eq_append_getElem h2', List.take_succ_eq_append_getElem (by omega : j < b.length), ht]
        congr 2
        exact UInt8.toNat_inj.1 (by omega)
      · obtain ⟨j, rfl, hj, hab, ht⟩ := hI
        subst hA
        have h2' : j < a.length := by simpa [Leaf.std] using h2
        show ((a.length : Int) - Leaf.std.ar .add .i64 (j : Int) 1).toNat < ((a.length : Int) - (j : Int)).toNat
        rw [add_i64 (by omega) (by omega)]
        omega
  · refine F.hold hA 1000 ?_
    cbv
    refine F.retE rfl ⟨_, rfl, rfl, ?_⟩
    obtain ⟨j, rfl, hj, hab, ht⟩ := hI
    subst hA
    simp [Leaf.std] at h2
    simp only [SameRes, ebool, true_iff]
    rw [List.take_of_length_le (by omega), List.take_of_length_le (by omega)] at ht
    exact ht
end Go.L1

-- A5
namespace Go.L1
open Go Go.Sx Go.Proofs
set_option maxRecDepth 20000
set_option linter.unusedVariables false

/-- So many bits of a number, the lowest first. -/
def bitsOf (n v : Nat) : List UInt8 := (List.range n).map fun i => UInt8.ofNat (v / 2 ^ i % 2)
theorem bitsOf_succ (n v : Nat) : bitsOf (n + 1) v = bitsOf n v ++ [UInt8.ofNat (v / 2 ^ n % 2)] := by simp [bitsOf, List.range_succ]
theorem bitsOf_length (n v : Nat) : (bitsOf n v).length = n := by simp [bitsOf]

end Go.L1

-- A6
namespace Go.L1
open Go Go.Sx Go.Proofs
set_option maxRecDepth 20000
set_option linter.unusedVariables false

end Go.L1

-- A7
namespace Go.L1
open Go Go.Sx Go.Proofs
set_option maxRecDepth 20000
set_option linter.unusedVariables false

def bytesBits (bs : List UInt8) : List UInt8 := bs.flatMap fun b => bitsOf 8 b.toNat
theorem bytesBits_length (bs : List UInt8) : (bytesBits bs).length = 8 * bs.length := by
  induction bs with
  | nil => rfl
  | cons b bs ih => simp only [bytesBits, List.flatMap_cons, List.length_append, bitsOf_length] at ih ⊢; rw [ih]; simp; omega
end Go.L1

-- A8
namespace Go.L1
open Go Go.Sx Go.Proofs
set_option linter.unusedVariables false

/-- Bits, the lowest first, as a number. -/
def valBits : List UInt8 → Nat
  | [] => 0
  | b :: l => b.toNat + 2 * valBits l
theorem valBits_append (l m : List UInt8) : valBits (l ++ m) = valBits l + 2 ^ l.length * valBits m := by
  induction l with
  | nil => simp [valBits]
  | cons b l ih =>
    simp only [List.cons_append, valBits, ih, List.length_cons, Nat.pow_succ]
    rw [Nat.mul_add, Nat.mul_comm (2 ^ l.length) 2, Nat.mul_assoc]
    omega
theorem valBits_bitsOf (n v : Nat) : valBits (bitsOf n v) = v % 2 ^ n := by
  induction n with
  | zero => simp [bitsOf, valBits, Nat.mod_one]
  | succ n ih =>
    rw [bitsOf_succ, valBits_append, ih, bitsOf_length, Nat.mod_pow_succ]
    have : v / 2 ^ n % 2 < 2 := Nat.mod_lt _ (by decide)
    simp only [valBits]
    congr 2
    simp
    omega
def Bits01 (l : List UInt8) : Prop := ∀ b ∈ l, b.toNat ≤ 1
theorem valBits_lt : ∀ {l : List UInt8}, Bits01 l → valBits l < 2 ^ l.length
  | [], _ => by simp [valBits]
  | b :: l, h => by
    have h1 := valBits_lt (l := l) (fun x hx => h x (by simp [hx]))
    have h2 := h b (by simp)
    simp only [valBits, List.length_cons, Nat.pow_succ]
    omega
theorem bits01_bitsOf (n v : Nat) : Bits01 (bitsOf n v) := by
  intro b hb
  simp only [bitsOf, List.mem_map] at hb
  obtain ⟨i, _, rfl⟩ := hb
  have : v / 2 ^ i % 2 < 2 := Nat.mod_lt _ (by decide)
  simp
  omega
theorem Bits01.append {l m : List UInt8} (h : Bits01 l) (k : Bits01 m) : Bits01 (l ++ m) := fun b hb => (List.mem_append.1 hb).elim (h b) (k b)

end Go.L1

-- A9
namespace Go.L1
open Go Go.Sx Go.Proofs
set_option linter.unusedVariables false

theorem valBits_bytes_cons (b : UInt8) (bs : List UInt8) : valBits (bytesBits (b :: bs)) = b.toNat + 256 * valBits (bytesBits bs) := by
  have h := b.toNat_lt
  have e : bytesBits (b :: bs) = bitsOf 8 b.toNat ++ bytesBits bs := by simp [bytesBits]
  rw [e, valBits_append, valBits_bitsOf, bitsOf_length]
  have : b.toNat % 2 ^ 8 = b.toNat := Nat.mod_eq_of_lt h
  rw [this]
theorem bits01_bytes (bs : List UInt8) : Bits01 (bytesBits bs) := by
  intro b hb
  simp only [bytesBits, List.mem_flatMap] at hb
  obtain ⟨c, _, hc⟩ := hb
  exact bits01_bitsOf _ _ b hc
theorem valBytes_lt (bs : List UInt8) : valBits (bytesBits bs) < 256 ^ bs.length := by
  have := valBits_lt (bits01_bytes bs)
  rw [bytesBits_length, Nat.pow_mul] at this
  exact this

end Go.L1

-- A10
namespace Go.L1
open Go Go.Sx Go.Proofs
set_option maxRecDepth 20000
set_option linter.unusedVariables false

end Go.L1

-- A11
namespace Go.L1
open Go Go.Sx Go.Proofs
set_option maxRecDepth 20000
set_option linter.unusedVariables false
end Go.L1

-- A12
namespace Go.L1
open Go Go.Sx Go.Proofs
set_option maxRecDepth 20000
set_option linter.unusedVariables false

/-- So many lower bits, turned around. -/
def revN : Nat → Nat → Nat
  | 0, _ => 0
  | n + 1, v => revN n v * 2 + v / 2 ^ n % 2
theorem revN_lt (n v : Nat) : revN n v < 2 ^ n := by
  induction n with
  | zero => simp [revN]
  | succ n ih =>
    have : v / 2 ^ n % 2 < 2 := Nat.mod_lt _ (by decide)
    simp only [revN, Nat.pow_succ]
    omega
structure RevPre (v' n' : Int) (v : Nat) : Prop where
  v' : v' = v
  v : v < 2 ^ 32
/-- What turning around tells, of whatever number of bits. -/
def RevRes (v : Nat) (n' r : Int) : Prop := r = (if 0 ≤ n' ∧ n' ≤ 32 then revN n'.toNat v else 0 : Nat)

end Go.L1

-- A14
namespace Go.L1
theorem revN_add (n k v : Nat) : revN (n + k) v = revN n v * 2 ^ k + revN k (v / 2 ^ n) := by
  induction k with
  | zero => simp [revN]
  | succ k ih =>
    rw [← Nat.add_assoc]
    simp only [revN, ih]
    rw [Nat.div_div_eq_div_mul, ← Nat.pow_add, Nat.pow_succ, Nat.add_mul, Nat.mul_assoc]
    omega
theorem revN_shift {n v : Nat} (hn : n ≤ 32) : revN 32 v / 2 ^ (32 - n) = revN n v := by
  have e : 32 = n + (32 - n) := by omega
  have h := revN_add n (32 - n) v
  rw [← e] at h
  rw [h, Nat.mul_comm, Nat.mul_add_div (Nat.two_pow_pos _), Nat.div_eq_of_lt (revN_lt _ _), Nat.add_zero]
end Go.L1

-- A15
namespace Go.L1
open Go Go.Sx Go.Proofs
set_option maxRecDepth 20000
set_option linter.unusedVariables false

/-- NewReader. -/
theorem newReader_ok (xs : List UInt8) (hx : xs.length ≤ 100000000000) : FOK Try.prog C1 26 (fun _ => false) [.ro (.bytes xs)] []
    (fun rs H => rs = [.ptr 1 0] ∧ H = [.gone, .cells 82 [.ro (.bytes xs), .int .i64 0]]) := by
  refine fok_of (B := ⟨lookT tis, fun _ => false, []⟩) (tab1 _) (zero1 _) cod1 mix1 Try.func26 (by kernel_rfl) rfl rfl rfl fun X F => ?_
  obtain ⟨A, hA⟩ : ∃ A, A = Leaf.std := ⟨_, rfl⟩
  refine F.hold hA 1000 ?_
  cbv
  refine F.call [] (clone_ro xs hx) rfl rfl rfl fun rs H' hq => ⟨?_, ?_⟩
  · obtain ⟨rfl, rfl⟩ := hq
    rfl
  obtain ⟨rfl, rfl⟩ := hq
  refine F.hold hA 1000 ?_
  cbv
  refine F.ret (Cv.freeze F.cod 0 rfl) rfl ⟨rfl, rfl⟩
end Go.L1

-- A16
namespace Go.L1
open Go Go.Sx Go.Proofs
set_option maxRecDepth 20000
set_option linter.unusedVariables false
structure RdPre (xs : List UInt8) (at' : Int) : Prop where
  xs : xs.length ≤ 1000000000
  lo : 0 ≤ at'
  hi : at' ≤ 8000000008

theorem at_ok (xs : List UInt8) (p : Int) : FOK Try.prog C1 31 (fun _ => true) [.ptr 0 0] [.cells 82 [.ro (.bytes xs), .int .i64 p]]
    (fun rs H => rs = [.int .i64 p] ∧ H = [.cells 82 [.ro (.bytes xs), .int .i64 p]]) := by
  refine fok_of (B := ⟨lookT tis, fun _ => true, []⟩) (tab1 _) (zero1 _) cod1 mix1 Try.func31 (by kernel_rfl) rfl rfl rfl fun X F => ?_
  obtain ⟨A, hA⟩ : ∃ A, A = Leaf.std := ⟨_, rfl⟩
  refine F.hold hA 1000 ?_
  cbv
  exact F.ret0 ⟨rfl, rfl⟩

theorem left_ok (xs : List UInt8) (p : Int) (hp : RdPre xs p) : FOK Try.prog C1 49 (fun _ => true) [.ptr 0 0] [.cells 82 [.ro (.bytes xs), .int .i64 p]]
    (fun rs H => ∃ r, rs = [.int .i64 r] ∧ H = [.cells 82 [.ro (.bytes xs), .int .i64 p]] ∧ r = 8 * xs.length - p) := by
  refine fok_of (B := ⟨lookT tis, fun _ => true, []⟩) (tab1 _) (zero1 _) cod1 mix1 Try.func49 (by kernel_rfl) rfl rfl rfl fun X F => ?_
  obtain ⟨A, hA⟩ : ∃ A, A = Leaf.std := ⟨_, rfl⟩
  refine F.hold hA 1000 ?_
  cbv
  first
    | refine OK.drawn (by kernel_rfl) ?_
    | skip
  refine F.ret0 ⟨_, rfl, rfl, ?_⟩
  obtain ⟨h1, h2, h3⟩ := hp
  subst hA
  show Leaf.std.ar .sub .i64 (Leaf.std.ar .mul .i64 8 (xs.length : Int)) p = _
  rw [mul_i64 (by omega) (by omega), sub_i64 (by omega) (by omega)]
end Go.L1

-- A17
namespace Go.L1
open Go Go.Sx Go.Proofs
set_option maxRecDepth 20000
set_option linter.unusedVariables false
def LeftIs (xs : List UInt8) (p r : Int) : Prop := r = 8 * xs.length - p
def SkipRes (xs : List UInt8) (p n : Int) (r : Bool) (p' : Int) : Prop :=
  (r = true ∧ 0 ≤ n ∧ n ≤ 8 * xs.length - p ∧ p' = p + n) ∨ (r = false ∧ ¬ (0 ≤ n ∧ n ≤ 8 * xs.length - p) ∧ p' = p)

theorem skip_ok (xs : List UInt8) (p n : Int) (hp : RdPre xs p) : FOK Try.prog C1 29 (fun _ => true) [.ptr 0 0, .int .i64 n] [.cells 82 [.ro (.bytes xs), .int .i64 p]]
    (fun rs H => ∃ r p', rs = [.bool (.e r)] ∧ H = [.cells 82 [.ro (.bytes xs), .int .i64 p']] ∧ SkipRes xs p n r p') := by
  refine fok_of (B := ⟨lookT tis, fun _ => true, []⟩) (tab1 _) (zero1 _) cod1 mix1 Try.func29 (by kernel_rfl) rfl rfl rfl fun X F => ?_
  obtain ⟨A, hA⟩ : ∃ A, A = Leaf.std := ⟨_, rfl⟩
  refine F.hold hA 1000 ?_
  cbv
  refine OK.branch (fun h1 => ?_) (fun h1 => ?_)
  · refine F.hold hA 1000 ?_
    cbv
    refine F.retE rfl ⟨_, _, rfl, rfl, .inr ⟨rfl, ?_, rfl⟩⟩
    subst hA
    simp [Leaf.std] at h1
    omega
  refine F.hold hA 1000 ?_
  cbv
  refine F.call [0] (left_ok xs p hp) rfl rfl rfl fun rs H' hq => ⟨?_, ?_⟩
  · obtain ⟨r, rfl, rfl, hr⟩ := hq
    rfl
  obtain ⟨r, rfl, rfl, hr⟩ := hq
  have hr : LeftIs xs p r := hr
  refine F.hold hA 1000 ?_
  cbv
  refine OK.branch (fun h2 => ?_) (fun h2 => ?_)
  · refine F.hold hA 1000 ?_
    cbv
    refine F.retE rfl ⟨_, _, rfl, rfl, .inr ⟨rfl, ?_, rfl⟩⟩
    subst hA
    unfold LeftIs at hr
    simp [Leaf.std] at h2
    omega
  · refine F.hold hA 1000 ?_
    cbv
    first
      | refine OK.drawn (by kernel_rfl) ?_
      | skip
    refine F.retE rfl ⟨_, _, rfl, rfl, .inl ?_⟩
    obtain ⟨a1, a2, a3⟩ := hp
    subst hA
    unfold LeftIs at hr
    simp [Leaf.std] at h1 h2
    refine ⟨rfl, by omega, by omega, ?_⟩
    show Leaf.std.ar .add .i64 p n = _
    rw [add_i64 (by omega) (by omega)]
end Go.L1

-- A18
namespace Go.L1
open Go Go.Sx Go.Proofs
set_option maxRecDepth 20000
set_option linter.unusedVariables false
def UpIs (p r : Int) : Prop := r = (p + 7) / 8 * 8
structure PosOK (p : Int) : Prop where
  lo : 0 ≤ p
  hi : p ≤ 8000000008
theorem up_ok (p : Int) (hp : PosOK p) : FOK Try.prog C1 87 (fun _ => true) [.int .i64 p] [] (fun rs H => ∃ r, rs = [.int .i64 r] ∧ H = [] ∧ UpIs p r) := by
  refine fok_of (B := ⟨lookT tis, fun _ => true, []⟩) (tab1 _) (zero1 _) cod1 mix1 Try.func87 (by kernel_rfl) rfl rfl rfl fun X F => ?_
  obtain ⟨A, hA⟩ : ∃ A, A = Leaf.std := ⟨_, rfl⟩
  refine F.hold hA 1000 ?_
  cbv
  refine OK.need (by subst hA; show (8 : Int) ≠ 0; decide) ?_
  refine F.ret0 ⟨_, rfl, rfl, ?_⟩
  obtain ⟨h1, h2⟩ := hp
  subst hA
  have e1 : Leaf.std.ar .sub .i64 (Leaf.std.ar .add .i64 p 8) 1 = p + 7 := by
    rw [add_i64 (by omega) (by omega), sub_i64 (by omega) (by omega)]; omega
  show Leaf.std.ar .mul .i64 (Leaf.std.ar .quo .i64 (Leaf.std.ar .sub .i64 (Leaf.std.ar .add .i64 p 8) 1) 8) 8 = _
  rw [e1, leaf_quo (by omega) (by omega) (by rw [max_i64]; omega), mul_i64 (by omega) (by omega)]
theorem rdAlign_ok (xs : List UInt8) (p : Int) (hp : PosOK p) : FOK Try.prog C1 79 (fun _ => true) [.ptr 0 0] [.cells 82 [.ro (.bytes xs), .int .i64 p]]
    (fun rs H => ∃ p', rs = [] ∧ H = [.cells 82 [.ro (.bytes xs), .int .i64 p']] ∧ UpIs p p') := by
  refine fok_of (B := ⟨lookT tis, fun _ => true, []⟩) (tab1 _) (zero1 _) cod1 mix1 Try.func79 (by kernel_rfl) rfl rfl rfl fun X F => ?_
  obtain ⟨A, hA⟩ : ∃ A, A = Leaf.std := ⟨_, rfl⟩
  refine F.hold hA 1000 ?_
  cbv
  first
    | refine OK.drawn (by kernel_rfl) ?_
    | skip
  refine F.call [] (up_ok p hp) rfl rfl rfl fun rs H' hq => ⟨?_, ?_⟩
  · obtain ⟨r, rfl, rfl, hr⟩ := hq
    rfl
  obtain ⟨r, rfl, rfl, hr⟩ := hq
  refine F.hold hA 1000 ?_
  cbv
  exact F.ret0 ⟨_, rfl, rfl, hr⟩
end Go.L1

-- A19
namespace Go.L1
open Go Go.Sx Go.Proofs
set_option linter.unusedVariables false
/-- Bytes as a number, the lowest first. -/
def valBytes (xs : List UInt8) : Nat := valBits (bytesBits xs)
theorem valBytes_cons (b : UInt8) (bs : List UInt8) : valBytes (b :: bs) = b.toNat + 256 * valBytes bs := valBits_bytes_cons b bs
theorem bit_at (xs : List UInt8) (k : Nat) : valBytes xs / 2 ^ k % 2 = (xs.getD (k / 8) 0).toNat / 2 ^ (k % 8) % 2 := by
  induction xs generalizing k with
  | nil => simp [valBytes, bytesBits, valBits]
  | cons b bs ih =>
    have hb := b.toNat_lt
    rw [valBytes_cons]
    rcases Nat.lt_or_ge k 8 with h | h
    · have e1 : k / 8 = 0 := by omega
      have e2 : k % 8 = k := by omega
      rw [e1, e2]
      simp only [List.getD_cons_zero]
      have e3 : 256 * valBytes bs = 2 ^ k * (2 * (2 ^ (7 - k) * valBytes bs)) := by
        rw [← Nat.mul_assoc 2, ← Nat.pow_succ', ← Nat.mul_assoc, ← Nat.pow_add]
        congr 1
        have : k + (7 - k + 1) = 8 := by omega
        rw [this]
      rw [e3, Nat.add_mul_div_left _ _ (Nat.two_pow_pos _), Nat.add_mul_mod_self_left]
    · have e1 : k / 8 = (k - 8) / 8 + 1 := by omega
      have e2 : k % 8 = (k - 8) % 8 := by omega
      have e3 : 2 ^ k = 256 * 2 ^ (k - 8) := by
        have : (256 : Nat) = 2 ^ 8 := by decide
        rw [this, ← Nat.pow_add]; congr 1; omega
      rw [e1, e2, e3, ← Nat.div_div_eq_div_mul]
      have e4 : (b.toNat + 256 * valBytes bs) / 256 = valBytes bs := by omega
      rw [e4, ih (k - 8)]
      simp
end Go.L1

-- A20
namespace Go.L1
open Go Go.Sx Go.Proofs
set_option maxRecDepth 20000
set_option linter.unusedVariables false
set_option linter.unusedSimpArgs false
end Go.L1

-- A21
namespace Go.L1
open Go Go.Sx Go.Proofs
set_option linter.unusedVariables false
theorem valBytes_nil : valBytes [] = 0 := rfl
theorem valBytes_drop (xs : List UInt8) (a : Nat) : valBytes (xs.drop a) = valBytes xs / 256 ^ a := by
  induction a generalizing xs with
  | zero => simp
  | succ a ih =>
    cases xs with
    | nil => simp [valBytes_nil]
    | cons b bs =>
      have hb := b.toNat_lt
      have e : (b.toNat + 256 * valBytes bs) / 256 = valBytes bs := by omega
      rw [List.drop_succ_cons, ih, valBytes_cons, Nat.pow_succ', ← Nat.div_div_eq_div_mul, e]
theorem valBytes_take (xs : List UInt8) (a : Nat) : valBytes (xs.take a) = valBytes xs % 256 ^ a := by
  induction a generalizing xs with
  | zero => simp [valBytes_nil, Nat.mod_one]
  | succ a ih =>
    cases xs with
    | nil => simp [valBytes_nil]
    | cons b bs =>
      have hb := b.toNat_lt
      rw [List.take_succ_cons, valBytes_cons, ih, valBytes_cons, Nat.pow_succ, Nat.mul_comm (256 ^ a), Nat.mod_mul]
      have e1 : (b.toNat + 256 * valBytes bs) % 256 = b.toNat := by omega
      have e2 : (b.toNat + 256 * valBytes bs) / 256 = valBytes bs := by omega
      rw [e1, e2]
theorem valBytes_append (xs ys : List UInt8) : valBytes (xs ++ ys) = valBytes xs + 256 ^ xs.length * valBytes ys := by
  induction xs with
  | nil => simp [valBytes_nil]
  | cons b bs ih =>
    rw [List.cons_append, valBytes_cons, ih, valBytes_cons, List.length_cons, Nat.pow_succ, Nat.mul_add, Nat.mul_comm (256 ^ _) 256, Nat.mul_assoc]
    omega
/-- What a window of five bytes tells of so many bits at a place. -/
theorem window (xs : List UInt8) (p n : Nat) (hn : n ≤ 32) : valBytes ((xs.drop (p / 8)).take 5) / 2 ^ (p % 8) % 2 ^ n = valBytes xs / 2 ^ p % 2 ^ n := by
  rw [valBytes_take, valBytes_drop]
  have e1 : 2 ^ p = 256 ^ (p / 8) * 2 ^ (p % 8) := by
    have : (256 : Nat) = 2 ^ 8 := by decide
    rw [this, ← Nat.pow_mul, ← Nat.pow_add]; congr 1; omega
  rw [e1, ← Nat.div_div_eq_div_mul]
  generalize valBytes xs / 256 ^ (p / 8) = V
  have e2 : (256 : Nat) ^ 5 = 2 ^ (p % 8) * (2 ^ n * 2 ^ (40 - p % 8 - n)) := by
    have : (256 : Nat) ^ 5 = 2 ^ 40 := by decide
    rw [this, ← Nat.pow_add, ← Nat.pow_add]; congr 1; omega
  rw [e2, Nat.mod_mul_right_div_self, Nat.mod_mul_right_mod]
theorem or_step {W c j : Nat} (hW : W < 256 ^ j) (hc : c < 256) (hj : j < 5) : LAr .or .u64 (W : Int) (LAr .shl .u64 (c : Int) ((8 * j : Nat) : Int)) = ((W + 256 ^ j * c : Nat) : Int) := by
  have e256 : (256 : Nat) ^ j = 2 ^ (8 * j) := by
    have : (256 : Nat) = 2 ^ 8 := by decide
    rw [this, ← Nat.pow_mul]
  have h1 : (256 : Nat) ^ j ≤ 256 ^ 4 := Nat.pow_le_pow_right (by decide) (by omega)
  have h2 : c * 2 ^ (8 * j) ≤ 255 * 256 ^ 4 := by rw [← e256]; exact Nat.mul_le_mul (by omega) h1
  have e1 : LAr .shl .u64 (c : Int) ((8 * j : Nat) : Int) = ((c * 2 ^ (8 * j) : Nat) : Int) := by
    have hc' : ((c * 2 ^ (8 * j) : Nat) : Int) = (c : Int) * 2 ^ (8 * j) := by simp
    rw [l_shl_u64 (by omega) (by omega) (by rw [Int.toNat_natCast, ← hc']; omega) (by rw [Int.toNat_natCast, ← hc']; omega), Int.toNat_natCast, hc']
  rw [e1, l_or_u64 (by omega) (by omega) (by omega) (by omega), Int.toNat_natCast, Int.toNat_natCast, Nat.or_comm, Nat.mul_comm c]
  rw [e256] at hW
  rw [← Nat.two_pow_add_eq_or_of_lt hW, e256, Nat.add_comm]
end Go.L1

-- A22
namespace Go.L1
open Go Go.Sx Go.Proofs
set_option maxRecDepth 20000
set_option linter.unusedVariables false
set_option linter.unusedSimpArgs false
def PeekIs (xs : List UInt8) (p n r : Int) : Prop := r = (if 0 ≤ n ∧ n ≤ 32 then valBytes xs / 2 ^ p.toNat % 2 ^ n.toNat else 0 : Nat)
def win (xs : List UInt8) (p : Int) : List UInt8 := (xs.drop (p / 8).toNat).take 5
theorem win_eq (xs : List UInt8) (p : Int) (hp : 0 ≤ p) : (xs.drop (min (p / 8) (xs.length : Int)).toNat).take (min (p / 8 + 5) (xs.length : Int) - min (p / 8) (xs.length : Int)).toNat = win xs p := by
  unfold win
  rcases Int.le_total (xs.length : Int) (p / 8) with h | h
  · rw [List.drop_of_length_le (by omega), List.drop_of_length_le (by omega)]; simp
  · have e : (min (p / 8) (xs.length : Int)).toNat = (p / 8).toNat := by omega
    rw [e]
    rcases Int.le_total (p / 8 + 5) (xs.length : Int) with h2 | h2
    · congr 1; omega
    · rw [List.take_of_length_le (by simp; omega), List.take_of_length_le (by simp; omega)]
theorem win_len (xs : List UInt8) (p : Int) : (win xs p).length ≤ 5 := by unfold win; simp; omega
def PeekInv (xs : List UInt8) (p : Int) (w : Int × Int) : Prop := ∃ j : Nat, j ≤ (win xs p).length ∧ w.2 = j ∧ w.1 = (valBytes ((win xs p).take j) : Nat)

theorem peek_step {xs : List UInt8} {p : Int} {j : Nat} (hj : j < (win xs p).length) :
    LAr .or .u64 ((valBytes ((win xs p).take j) : Nat) : Int) (LAr .shl .u64 (((win xs p).getD j 0).toNat : Int) (8 * (j : Int))) = ((valBytes ((win xs p).take (j + 1)) : Nat) : Int) := by
  have h5 := win_len xs p
  have hc : ((win xs p).getD j 0).toNat < 256 := ((win xs p).getD j 0).toNat_lt
  have hw : valBytes ((win xs p).take j) < 256 ^ j := by
    have := valBytes_lt ((win xs p).take j)
    rwa [List.length_take, Nat.min_eq_left (by omega)] at this
  have e : 8 * (j : Int) = ((8 * j : Nat) : Int) := by omega
  rw [e, or_step hw hc (by omega), List.take_succ_eq_append_getElem hj, valBytes_append, List.length_take, Nat.min_eq_left (by omega), List.getD_eq_getElem?_getD, List.getElem?_eq_getElem hj, valBytes_cons, valBytes_nil]
  simp
theorem peek_end {xs : List UInt8} {p n : Int} (hp : 0 ≤ p) (hn : 0 < n) (hn2 : n ≤ 32) :
    PeekIs xs p n (LConv .u32 (((valBytes (win xs p) : Nat) : Int) / 2 ^ (p % 8).toNat % 2 ^ n.toNat)) := by
  have h := window xs p.toNat n.toNat (by omega)
  have e1 : (p / 8).toNat = p.toNat / 8 := by omega
  have e2 : (p % 8).toNat = p.toNat % 8 := by omega
  have e3 : ((valBytes (win xs p) : Nat) : Int) / 2 ^ (p % 8).toNat % 2 ^ n.toNat = ((valBytes xs / 2 ^ p.toNat % 2 ^ n.toNat : Nat) : Int) := by
    rw [← h]; unfold win; rw [e1, e2]; simp
  have h2 : 2 ^ n.toNat ≤ 2 ^ 32 := Nat.pow_le_pow_right (by decide) (by omega)
  have h3 : valBytes xs / 2 ^ p.toNat % 2 ^ n.toNat < 2 ^ n.toNat := Nat.mod_lt _ (Nat.two_pow_pos _)
  unfold PeekIs
  rw [e3, l_conv_u32 (by omega) (by omega), if_pos (by omega)]

theorem peek_ok (xs : List UInt8) (p n : Int) (hp : RdPre xs p) : FOK Try.prog C1 50 (fun _ => true) [.ptr 0 0, .int .i64 n] [.cells 82 [.ro (.bytes xs), .int .i64 p]]
    (fun rs H => ∃ r, rs = [.int .u32 r] ∧ H = [.cells 82 [.ro (.bytes xs), .int .i64 p]] ∧ PeekIs xs p n r) := by
  refine fok_of (B := ⟨lookT tis, fun _ => true, []⟩) (tab1 _) (zero1 _) cod1 mix1 Try.func50 (by kernel_rfl) rfl rfl rfl fun X F => ?_
  obtain ⟨A, hA⟩ : ∃ A, A = Leaf.std := ⟨_, rfl⟩
  refine F.hold hA 2000 ?_
  cbv
  repeat' (first
    | refine OK.drawn (by decide +kernel) ?_
    | refine OK.tree ⟨lookT tis, fun _ => true, []⟩ (by decide +kernel) ?_
    | refine OK.both ?_ ?_
    | refine OK.need (by first | assumption | (rw [hA]; first | (show (_ : Int) ≠ _; decide) | (show (0 : Int) ≤ _; decide) | (show (0 : Int) ≤ _ ∧ _ < (256 : Int); decide))) ?_
    | refine OK.need ?_ ?_
    | (refine OK.branch ?_ ?_ <;> intro h)
    | (refine F.hold hA 2000 ?_; cbv))
  any_goals refine F.ret0 ⟨_, rfl, rfl, ?_⟩
  rotate_left 3
  · refine F.loop (V := Int × Int) [0, 1, 39, 40] (PeekInv xs p) (fun w => (8 - w.2).toNat) (fun w => [(6, .int .u64 w.1), (41, .int .i64 w.2)]) (fun w => []) (_, _) (by cbv; repeat (first | exact WkH.nil _ | apply WkH.gone | refine WkH.eq rfl ?_)) (by cbv; repeat (first | apply WkL.any | exact WkL.nil _ | refine WkL.eq rfl ?_ | refine WkL.bool rfl ?_)) (by cbv; exact ⟨rfl⟩) ?_ ?_
    · exact ⟨0, by omega, rfl, by simp [valBytes_nil]⟩
    rintro ⟨o, i⟩ hI Bk hBk
    repeat' (first
      | refine OK.drawn (by decide +kernel) ?_
      | refine OK.tree ⟨lookT tis, fun _ => true, []⟩ (by decide +kernel) ?_
      | refine OK.both ?_ ?_
      | refine OK.need (by first | assumption | (rw [hA]; first | (show (_ : Int) ≠ _; decide) | (show (0 : Int) ≤ _; decide) | (show (0 : Int) ≤ _ ∧ _ < (256 : Int); decide))) ?_
      | refine OK.need ?_ ?_
      | (refine OK.branch ?_ ?_ <;> intro h)
      | (refine F.hold hA 2000 ?_; cbv))
    any_goals refine OK.back (hBk _ _ (_, _) (by cbv; repeat (first | exact WkH.nil _ | apply WkH.gone | refine WkH.eq rfl ?_)) (by cbv; repeat (first | apply WkL.any | exact WkL.nil _ | refine WkL.eq rfl ?_ | refine WkL.bool rfl ?_)) (by cbv; exact ⟨rfl⟩) ?_ ?_)
    any_goals refine F.ret0 ⟨_, rfl, rfl, ?_⟩
    all_goals try clear hBk
    all_goals try clear F
    all_goals (rw [std_eq] at hA; subst hA)
    all_goals (obtain ⟨j, hj, e1, e2⟩ := hI; obtain ⟨a1, a2, a3⟩ := hp; simp only at e1 e2; subst e1 e2; have hw := win_eq xs p a2; have hw5 := win_len xs p)
    all_goals try simp (disch := omega) only [lf, decide_eq_true_eq, decide_eq_false_iff_not, Int.not_lt, Int.not_le, Bool.not_eq_true', Bool.not_eq_false', Bool.not_true, Bool.not_false, gt_iff_lt, ge_iff_le, Int.toNat_natCast, Bool.true_eq_false, Bool.false_eq_true, beq_iff_eq, Bool.not_eq_eq_eq_not, ne_eq] at *
    all_goals try simp (disch := omega) only [lf, decide_eq_true_eq, decide_eq_false_iff_not, Int.not_lt, Int.not_le, Bool.not_eq_true', Bool.not_eq_false', Bool.not_true, Bool.not_false, gt_iff_lt, ge_iff_le, Int.toNat_natCast, Bool.true_eq_false, Bool.false_eq_true, beq_iff_eq, Bool.not_eq_eq_eq_not, ne_eq] at *
    all_goals try omega
    · rw [hw] at *
      have hj' : j < (win xs p).length := by omega
      have hb := ((win xs p).getD j 0).toNat_lt
      rw [l_conv_u64 (by omega) (by omega), peek_step hj']
      exact ⟨j + 1, by omega, by simp, rfl⟩
    · rw [hw] at *
      rw [List.take_of_length_le (by omega)]
      exact peek_end a2 (by assumption) (by assumption)
  all_goals try clear hBk
  all_goals try clear F
  all_goals (rw [std_eq] at hA; subst hA)
  all_goals (obtain ⟨a1, a2, a3⟩ := hp)
  all_goals try simp (disch := omega) only [lf, decide_eq_true_eq, decide_eq_false_iff_not, Int.not_lt, Int.not_le, Bool.not_eq_true', Bool.not_eq_false', Bool.not_true, Bool.not_false, gt_iff_lt, ge_iff_le, Int.toNat_natCast, Bool.true_eq_false, Bool.false_eq_true, beq_iff_eq, Bool.not_eq_eq_eq_not, ne_eq] at *
  all_goals try simp (disch := omega) only [lf, decide_eq_true_eq, decide_eq_false_iff_not, Int.not_lt, Int.not_le, Bool.not_eq_true', Bool.not_eq_false', Bool.not_true, Bool.not_false, gt_iff_lt, ge_iff_le, Int.toNat_natCast, Bool.true_eq_false, Bool.false_eq_true, beq_iff_eq, Bool.not_eq_eq_eq_not, ne_eq] at *
  all_goals try omega
  · unfold PeekIs
    rcases Int.lt_or_eq_of_le h with h | h
    · rw [if_neg (by omega)]; rfl
    · subst h; simp [Nat.mod_one]
  · unfold PeekIs
    rw [if_neg (by omega)]; rfl
end Go.L1

-- A23
namespace Go.L1
open Go Go.Sx Go.Proofs
set_option maxRecDepth 20000
set_option linter.unusedVariables false
set_option linter.unusedSimpArgs false
def BitsRes (xs : List UInt8) (p n v : Int) (r : Bool) (p' : Int) : Prop :=
  (r = true ∧ 0 ≤ n ∧ n ≤ 32 ∧ n ≤ 8 * xs.length - p ∧ p' = p + n ∧ v = (valBytes xs / 2 ^ p.toNat % 2 ^ n.toNat : Nat)) ∨
  (r = false ∧ ¬ (0 ≤ n ∧ n ≤ 32 ∧ n ≤ 8 * xs.length - p) ∧ p' = p ∧ v = 0)

theorem bits_ok (xs : List UInt8) (p n : Int) (hp : RdPre xs p) : FOK Try.prog C1 78 (fun _ => true) [.ptr 0 0, .int .i64 n] [.cells 82 [.ro (.bytes xs), .int .i64 p]]
    (fun rs H => ∃ v r p', rs = [.int .u32 v, .bool (.e r)] ∧ H = [.cells 82 [.ro (.bytes xs), .int .i64 p']] ∧ BitsRes xs p n v r p') := by
  refine fok_of (B := ⟨lookT tis, fun _ => true, []⟩) (tab1 _) (zero1 _) cod1 mix1 Try.func78 (by kernel_rfl) rfl rfl rfl fun X F => ?_
  obtain ⟨A, hA⟩ : ∃ A, A = Leaf.std := ⟨_, rfl⟩
  refine F.hold hA 2000 ?_
  cbv
  repeat' (first
    | refine OK.drawn (by decide +kernel) ?_
    | refine OK.tree ⟨lookT tis, fun _ => true, []⟩ (by decide +kernel) ?_
    | refine OK.both ?_ ?_
    | refine OK.need (by first | assumption | (rw [hA]; first | (show (_ : Int) ≠ _; decide) | (show (0 : Int) ≤ _; decide) | (show (0 : Int) ≤ _ ∧ _ < (256 : Int); decide))) ?_
    | refine OK.need ?_ ?_
    | (refine OK.branch ?_ ?_ <;> intro h)
    | (refine F.hold hA 2000 ?_; cbv))
  · refine F.retE rfl ⟨_, _, _, rfl, rfl, .inr ⟨rfl, ?_, rfl, rfl⟩⟩
    try clear hBk
    try clear F
    rw [std_eq] at hA; subst hA
    try simp (disch := omega) only [lf, decide_eq_true_eq, decide_eq_false_iff_not, Int.not_lt, Int.not_le, Bool.not_eq_true', Bool.not_eq_false', Bool.not_true, Bool.not_false, gt_iff_lt, ge_iff_le, Int.toNat_natCast, Bool.true_eq_false, Bool.false_eq_true, beq_iff_eq, Bool.not_eq_eq_eq_not, ne_eq] at *
    try simp (disch := omega) only [lf, decide_eq_true_eq, decide_eq_false_iff_not, Int.not_lt, Int.not_le, Bool.not_eq_true', Bool.not_eq_false', Bool.not_true, Bool.not_false, gt_iff_lt, ge_iff_le, Int.toNat_natCast, Bool.true_eq_false, Bool.false_eq_true, beq_iff_eq, Bool.not_eq_eq_eq_not, ne_eq] at *
    omega
  refine F.call [0] (peek_ok xs p n hp) rfl rfl rfl fun rs H' hq => ?_
  obtain ⟨v, rfl, rfl, hv⟩ := hq
  refine ⟨rfl, ?_⟩
  refine F.hold hA 2000 ?_
  cbv
  refine F.call [0] (skip_ok xs p n hp) rfl rfl rfl fun rs H' hq => ?_
  obtain ⟨r, p', rfl, rfl, hs⟩ := hq
  refine ⟨rfl, ?_⟩
  repeat' (first
    | refine OK.drawn (by decide +kernel) ?_
    | refine OK.tree ⟨lookT tis, fun _ => true, []⟩ (by decide +kernel) ?_
    | refine OK.both ?_ ?_
    | refine OK.need (by first | assumption | (rw [hA]; first | (show (_ : Int) ≠ _; decide) | (show (0 : Int) ≤ _; decide) | (show (0 : Int) ≤ _ ∧ _ < (256 : Int); decide))) ?_
    | refine OK.need ?_ ?_
    | (refine OK.branch ?_ ?_ <;> intro h)
    | (refine F.hold hA 2000 ?_; cbv))
  any_goals refine F.retE rfl ⟨_, _, _, rfl, rfl, ?_⟩
  · try clear hBk
    try clear F
    rw [std_eq] at hA; subst hA
    try simp (disch := omega) only [lf, decide_eq_true_eq, decide_eq_false_iff_not, Int.not_lt, Int.not_le, Bool.not_eq_true', Bool.not_eq_false', Bool.not_true, Bool.not_false, gt_iff_lt, ge_iff_le, Int.toNat_natCast, Bool.true_eq_false, Bool.false_eq_true, beq_iff_eq, Bool.not_eq_eq_eq_not, ne_eq] at *
    try simp (disch := omega) only [lf, decide_eq_true_eq, decide_eq_false_iff_not, Int.not_lt, Int.not_le, Bool.not_eq_true', Bool.not_eq_false', Bool.not_true, Bool.not_false, gt_iff_lt, ge_iff_le, Int.toNat_natCast, Bool.true_eq_false, Bool.false_eq_true, beq_iff_eq, Bool.not_eq_eq_eq_not, ne_eq] at *
    rcases hs with ⟨q1, q2, q3, q4⟩ | ⟨q1, q2, q3⟩
    · simp_all
    · exact .inr ⟨rfl, fun h => q2 ⟨h.1, h.2.2⟩, q3, rfl⟩
  · try clear hBk
    try clear F
    rw [std_eq] at hA; subst hA
    try simp (disch := omega) only [lf, decide_eq_true_eq, decide_eq_false_iff_not, Int.not_lt, Int.not_le, Bool.not_eq_true', Bool.not_eq_false', Bool.not_true, Bool.not_false, gt_iff_lt, ge_iff_le, Int.toNat_natCast, Bool.true_eq_false, Bool.false_eq_true, beq_iff_eq, Bool.not_eq_eq_eq_not, ne_eq] at *
    try simp (disch := omega) only [lf, decide_eq_true_eq, decide_eq_false_iff_not, Int.not_lt, Int.not_le, Bool.not_eq_true', Bool.not_eq_false', Bool.not_true, Bool.not_false, gt_iff_lt, ge_iff_le, Int.toNat_natCast, Bool.true_eq_false, Bool.false_eq_true, beq_iff_eq, Bool.not_eq_eq_eq_not, ne_eq] at *
    rcases hs with ⟨q1, q2, q3, q4⟩ | ⟨q1, q2, q3⟩
    · refine .inl ⟨rfl, q2, by assumption, q3, q4, ?_⟩
      unfold PeekIs at hv
      rw [hv, if_pos ⟨q2, by assumption⟩]
    · simp_all

def BytesRes (xs : List UInt8) (p n : Int) (ys : List UInt8) (r : Bool) (p' : Int) : Prop :=
  (r = true ∧ 0 ≤ n ∧ n ≤ xs.length - (p + 7) / 8 ∧ p' = 8 * ((p + 7) / 8 + n) ∧ ys = (xs.drop ((p + 7) / 8).toNat).take n.toNat) ∨
  (r = false ∧ ¬ (0 ≤ n ∧ n ≤ xs.length - (p + 7) / 8) ∧ p' = p ∧ ys = [])
theorem bytes_ok (xs : List UInt8) (p n : Int) (hp : RdPre xs p) : FOK Try.prog C1 80 (fun _ => true) [.ptr 0 0, .int .i64 n] [.cells 82 [.ro (.bytes xs), .int .i64 p]]
    (fun rs H => ∃ ys r p', rs = [.own 1, .bool (.e r)] ∧ H = [.cells 82 [.ro (.bytes xs), .int .i64 p'], .row 5 (.bytes ys)] ∧ BytesRes xs p n ys r p') := by
  refine fok_of (B := ⟨lookT tis, fun _ => true, []⟩) (tab1 _) (zero1 _) cod1 mix1 Try.func80 (by kernel_rfl) rfl rfl rfl fun X F => ?_
  obtain ⟨A, hA⟩ : ∃ A, A = Leaf.std := ⟨_, rfl⟩
  refine F.hold hA 2000 ?_
  cbv
  repeat' (first
    | refine OK.drawn (by decide +kernel) ?_
    | refine OK.tree ⟨lookT tis, fun _ => true, []⟩ (by decide +kernel) ?_
    | refine OK.both ?_ ?_
    | refine OK.need (by first | assumption | (rw [hA]; first | (show (_ : Int) ≠ _; decide) | (show (0 : Int) ≤ _; decide) | (show (0 : Int) ≤ _ ∧ _ < (256 : Int); decide))) ?_
    | refine OK.need ?_ ?_
    | (refine OK.branch ?_ ?_ <;> intro h)
    | (refine F.hold hA 2000 ?_; cbv))
  refine F.call [] (up_ok p ⟨hp.lo, hp.hi⟩) rfl rfl rfl fun rs H' hq => ?_
  obtain ⟨q, rfl, rfl, hq⟩ := hq
  refine ⟨rfl, ?_⟩
  repeat' (first
    | refine OK.drawn (by decide +kernel) ?_
    | refine OK.tree ⟨lookT tis, fun _ => true, []⟩ (by decide +kernel) ?_
    | refine OK.both ?_ ?_
    | refine OK.need (by first | assumption | (rw [hA]; first | (show (_ : Int) ≠ _; decide) | (show (0 : Int) ≤ _; decide) | (show (0 : Int) ≤ _ ∧ _ < (256 : Int); decide))) ?_
    | refine OK.need ?_ ?_
    | (refine OK.branch ?_ ?_ <;> intro h)
    | (refine F.hold hA 2000 ?_; cbv))
  · refine F.ret (Cv.trans (Cv.adopt F.cod 0 5 (ek := .byte) rfl rfl) (Cv.unlit _ _)) rfl ⟨_, _, _, rfl, rfl, .inr ⟨rfl, ?_, rfl, rfl⟩⟩
    obtain ⟨a1, a2, a3⟩ := hp
    unfold UpIs at hq
    try clear hBk
    try clear F
    rw [std_eq] at hA; subst hA
    try simp (disch := omega) only [lf, decide_eq_true_eq, decide_eq_false_iff_not, Int.not_lt, Int.not_le, Bool.not_eq_true', Bool.not_eq_false', Bool.not_true, Bool.not_false, gt_iff_lt, ge_iff_le, Int.toNat_natCast, Bool.true_eq_false, Bool.false_eq_true, beq_iff_eq, Bool.not_eq_eq_eq_not, ne_eq] at *
    try simp (disch := omega) only [lf, decide_eq_true_eq, decide_eq_false_iff_not, Int.not_lt, Int.not_le, Bool.not_eq_true', Bool.not_eq_false', Bool.not_true, Bool.not_false, gt_iff_lt, ge_iff_le, Int.toNat_natCast, Bool.true_eq_false, Bool.false_eq_true, beq_iff_eq, Bool.not_eq_eq_eq_not, ne_eq] at *
    omega
  · refine F.ret (Cv.trans (Cv.adopt F.cod 0 5 (ek := .byte) rfl rfl) (Cv.unlit _ _)) rfl ⟨_, _, _, rfl, rfl, .inr ⟨rfl, ?_, rfl, rfl⟩⟩
    obtain ⟨a1, a2, a3⟩ := hp
    unfold UpIs at hq
    try clear hBk
    try clear F
    rw [std_eq] at hA; subst hA
    try simp (disch := omega) only [lf, decide_eq_true_eq, decide_eq_false_iff_not, Int.not_lt, Int.not_le, Bool.not_eq_true', Bool.not_eq_false', Bool.not_true, Bool.not_false, gt_iff_lt, ge_iff_le, Int.toNat_natCast, Bool.true_eq_false, Bool.false_eq_true, beq_iff_eq, Bool.not_eq_eq_eq_not, ne_eq] at *
    try simp (disch := omega) only [lf, decide_eq_true_eq, decide_eq_false_iff_not, Int.not_lt, Int.not_le, Bool.not_eq_true', Bool.not_eq_false', Bool.not_true, Bool.not_false, gt_iff_lt, ge_iff_le, Int.toNat_natCast, Bool.true_eq_false, Bool.false_eq_true, beq_iff_eq, Bool.not_eq_eq_eq_not, ne_eq] at *
    omega
  · obtain ⟨a1, a2, a3⟩ := hp
    unfold UpIs at hq
    try clear hBk
    try clear F
    rw [std_eq] at hA; subst hA
    try simp (disch := omega) only [lf, decide_eq_true_eq, decide_eq_false_iff_not, Int.not_lt, Int.not_le, Bool.not_eq_true', Bool.not_eq_false', Bool.not_true, Bool.not_false, gt_iff_lt, ge_iff_le, Int.toNat_natCast, Bool.true_eq_false, Bool.false_eq_true, beq_iff_eq, Bool.not_eq_eq_eq_not, ne_eq] at *
    try simp (disch := omega) only [lf, decide_eq_true_eq, decide_eq_false_iff_not, Int.not_lt, Int.not_le, Bool.not_eq_true', Bool.not_eq_false', Bool.not_true, Bool.not_false, gt_iff_lt, ge_iff_le, Int.toNat_natCast, Bool.true_eq_false, Bool.false_eq_true, beq_iff_eq, Bool.not_eq_eq_eq_not, ne_eq] at *
    try simp (disch := omega) only [lf, decide_eq_true_eq, decide_eq_false_iff_not, Int.not_lt, Int.not_le, Bool.not_eq_true', Bool.not_eq_false', Bool.not_true, Bool.not_false, gt_iff_lt, ge_iff_le, Int.toNat_natCast, Bool.true_eq_false, Bool.false_eq_true, beq_iff_eq, Bool.not_eq_eq_eq_not, ne_eq] at *
    omega
  refine F.call [] (clone_ro _ ?_) rfl rfl rfl fun rs H' hq => ?_
  rotate_left 1
  obtain ⟨rfl, rfl⟩ := hq
  refine ⟨rfl, ?_⟩
  · repeat' (first
      | refine OK.drawn (by decide +kernel) ?_
      | refine OK.tree ⟨lookT tis, fun _ => true, []⟩ (by decide +kernel) ?_
      | refine OK.both ?_ ?_
      | refine OK.need (by first | assumption | (rw [hA]; first | (show (_ : Int) ≠ _; decide) | (show (0 : Int) ≤ _; decide) | (show (0 : Int) ≤ _ ∧ _ < (256 : Int); decide))) ?_
      | refine OK.need ?_ ?_
      | (refine OK.branch ?_ ?_ <;> intro h)
      | (refine F.hold hA 2000 ?_; cbv))
    refine F.retE rfl ⟨_, _, _, rfl, rfl, .inl ?_⟩
    obtain ⟨a1, a2, a3⟩ := hp
    unfold UpIs at hq
    subst hq
    try clear hBk
    try clear F
    rw [std_eq] at hA; subst hA
    try simp (disch := omega) only [lf, decide_eq_true_eq, decide_eq_false_iff_not, Int.not_lt, Int.not_le, Bool.not_eq_true', Bool.not_eq_false', Bool.not_true, Bool.not_false, gt_iff_lt, ge_iff_le, Int.toNat_natCast, Bool.true_eq_false, Bool.false_eq_true, beq_iff_eq, Bool.not_eq_eq_eq_not, ne_eq] at *
    try simp (disch := omega) only [lf, decide_eq_true_eq, decide_eq_false_iff_not, Int.not_lt, Int.not_le, Bool.not_eq_true', Bool.not_eq_false', Bool.not_true, Bool.not_false, gt_iff_lt, ge_iff_le, Int.toNat_natCast, Bool.true_eq_false, Bool.false_eq_true, beq_iff_eq, Bool.not_eq_eq_eq_not, ne_eq] at *
    try simp (disch := omega) only [lf, decide_eq_true_eq, decide_eq_false_iff_not, Int.not_lt, Int.not_le, Bool.not_eq_true', Bool.not_eq_false', Bool.not_true, Bool.not_false, gt_iff_lt, ge_iff_le, Int.toNat_natCast, Bool.true_eq_false, Bool.false_eq_true, beq_iff_eq, Bool.not_eq_eq_eq_not, ne_eq] at *
    have e : (p + 7) / 8 * 8 / 8 = (p + 7) / 8 := by omega
    rw [e] at *
    exact ⟨rfl, by omega, by omega, rfl, by congr 1; omega⟩
  · obtain ⟨a1, a2, a3⟩ := hp
    unfold UpIs at hq
    subst hq
    try clear hBk
    try clear F
    rw [std_eq] at hA; subst hA
    try simp (disch := omega) only [lf, decide_eq_true_eq, decide_eq_false_iff_not, Int.not_lt, Int.not_le, Bool.not_eq_true', Bool.not_eq_false', Bool.not_true, Bool.not_false, gt_iff_lt, ge_iff_le, Int.toNat_natCast, Bool.true_eq_false, Bool.false_eq_true, beq_iff_eq, Bool.not_eq_eq_eq_not, ne_eq] at *
    try simp (disch := omega) only [lf, decide_eq_true_eq, decide_eq_false_iff_not, Int.not_lt, Int.not_le, Bool.not_eq_true', Bool.not_eq_false', Bool.not_true, Bool.not_false, gt_iff_lt, ge_iff_le, Int.toNat_natCast, Bool.true_eq_false, Bool.false_eq_true, beq_iff_eq, Bool.not_eq_eq_eq_not, ne_eq] at *
    simp
    omega
end Go.L1

-- A24
namespace Go.L1
open Go Go.Sx Go.Proofs
set_option maxRecDepth 20000
set_option linter.unusedVariables false
set_option linter.unusedSimpArgs false

theorem revN_bit (n v i : Nat) : (revN n v).testBit i = (decide (i < n) && v.testBit (n - 1 - i)) := by
  induction n generalizing i with
  | zero => simp [revN]
  | succ n ih =>
    have hb : v / 2 ^ n % 2 < 2 := Nat.mod_lt _ (by decide)
    cases i with
    | zero =>
      simp only [revN, Nat.testBit_zero]
      have e : (revN n v * 2 + v / 2 ^ n % 2) % 2 = v / 2 ^ n % 2 := by omega
      rw [e]
      simp [Nat.testBit_eq_decide_div_mod_eq]
    | succ i =>
      rw [Nat.testBit_succ]
      have e : revN (n + 1) v / 2 = revN n v := by simp only [revN]; omega
      rw [e, ih]
      have e2 : n + 1 - 1 - (i + 1) = n - 1 - i := by omega
      rw [e2]
      simp
def rb (x : BitVec 32) : BitVec 32 :=
  let y := (x >>> 8 &&& 16711935#32) ||| (x &&& 16711935#32) <<< 8
  y >>> 16 ||| y <<< 16
def r1 (x : BitVec 32) : BitVec 32 := (x >>> 1 &&& 1431655765#32) ||| (x &&& 1431655765#32) <<< 1
def r2 (x : BitVec 32) : BitVec 32 := (x >>> 2 &&& 858993459#32) ||| (x &&& 858993459#32) <<< 2
def r4 (x : BitVec 32) : BitVec 32 := (x >>> 4 &&& 252645135#32) ||| (x &&& 252645135#32) <<< 4
theorem each32 {p : Nat → Prop} (h : p 0 ∧ p 1 ∧ p 2 ∧ p 3 ∧ p 4 ∧ p 5 ∧ p 6 ∧ p 7 ∧ p 8 ∧ p 9 ∧ p 10 ∧ p 11 ∧ p 12 ∧ p 13 ∧ p 14 ∧ p 15 ∧ p 16 ∧ p 17 ∧ p 18 ∧ p 19 ∧ p 20 ∧ p 21 ∧ p 22 ∧ p 23 ∧ p 24 ∧ p 25 ∧ p 26 ∧ p 27 ∧ p 28 ∧ p 29 ∧ p 30 ∧ p 31) : ∀ i, i < 32 → p i := by
  intro i hi
  obtain ⟨_, _, _, _, _, _, _, _, _, _, _, _, _, _, _, _, _, _, _, _, _, _, _, _, _, _, _, _, _, _, _, _⟩ := h
  match i, hi with
  | 0, _ | 1, _ | 2, _ | 3, _ | 4, _ | 5, _ | 6, _ | 7, _ | 8, _ | 9, _ | 10, _ | 11, _ | 12, _ | 13, _ | 14, _ | 15, _ | 16, _ | 17, _ | 18, _ | 19, _ | 20, _ | 21, _ | 22, _ | 23, _ | 24, _ | 25, _ | 26, _ | 27, _ | 28, _ | 29, _ | 30, _ | 31, _ => assumption
  | n + 32, h => exact absurd h (by omega)
def sw (w i : Nat) : Nat := if i / w % 2 = 0 then i + w else i - w
theorem r1_bit (x : BitVec 32) : ∀ i, i < 32 → (r1 x).getLsbD i = x.getLsbD (sw 1 i) :=
  each32 (by simp [r1, sw, BitVec.getLsbD_or, BitVec.getLsbD_and, BitVec.getLsbD_shiftLeft])
theorem r2_bit (x : BitVec 32) : ∀ i, i < 32 → (r2 x).getLsbD i = x.getLsbD (sw 2 i) :=
  each32 (by simp [r2, sw, BitVec.getLsbD_or, BitVec.getLsbD_and, BitVec.getLsbD_shiftLeft])
theorem r4_bit (x : BitVec 32) : ∀ i, i < 32 → (r4 x).getLsbD i = x.getLsbD (sw 4 i) :=
  each32 (by simp [r4, sw, BitVec.getLsbD_or, BitVec.getLsbD_and, BitVec.getLsbD_shiftLeft])
theorem rb_bit (x : BitVec 32) : ∀ i, i < 32 → (rb x).getLsbD i = x.getLsbD (sw 16 (sw 8 i)) :=
  each32 (by simp [rb, sw, BitVec.getLsbD_or, BitVec.getLsbD_and, BitVec.getLsbD_shiftLeft])
theorem sw_all : ∀ i, i < 32 → sw 1 (sw 2 (sw 4 (sw 16 (sw 8 i)))) = 31 - i ∧ sw 2 (sw 4 (sw 16 (sw 8 i))) < 32 ∧ sw 4 (sw 16 (sw 8 i)) < 32 ∧ sw 16 (sw 8 i) < 32 := by decide
theorem rev_bv (x : BitVec 32) : (rb (r4 (r2 (r1 x)))).toNat = revN 32 x.toNat := by
  refine Nat.eq_of_testBit_eq fun i => ?_
  rw [revN_bit]
  rcases Nat.lt_or_ge i 32 with h | h
  · obtain ⟨h1, h2, h3, h4⟩ := sw_all i h
    have : (rb (r4 (r2 (r1 x)))).getLsbD i = x.getLsbD (31 - i) := by
      rw [rb_bit _ i h, r4_bit _ _ h4, r2_bit _ _ h3, r1_bit _ _ h2, h1]
    simpa [h, BitVec.getLsbD] using this
  · have : (rb (r4 (r2 (r1 x)))).toNat < 2 ^ i := Nat.lt_of_lt_of_le (BitVec.isLt _) (Nat.pow_le_pow_right (by decide) h)
    rw [Nat.testBit_lt_two_pow this]
    simp [Nat.not_lt.2 h]

theorem bv_and (x : BitVec 32) (n : Nat) : LAr .and .u32 (x.toNat : Int) (n : Int) = ((x &&& BitVec.ofNat 32 n).toNat : Int) := by
  have h := (x &&& BitVec.ofNat 32 n).isLt
  show IntKind.u32.wrap (BitVec.ofInt 32 (x.toNat : Int) &&& BitVec.ofInt 32 (n : Int)).toNat = _
  rw [BitVec.ofInt_natCast, BitVec.ofInt_natCast, BitVec.ofNat_toNat, BitVec.setWidth_eq]
  exact wrap_id (by rw [min_u32]; omega) (by rw [max_u32]; omega)
theorem bv_or (x y : BitVec 32) : LAr .or .u32 (x.toNat : Int) (y.toNat : Int) = ((x ||| y).toNat : Int) := by
  have h := (x ||| y).isLt
  show IntKind.u32.wrap (BitVec.ofInt 32 (x.toNat : Int) ||| BitVec.ofInt 32 (y.toNat : Int)).toNat = _
  rw [BitVec.ofInt_natCast, BitVec.ofInt_natCast, BitVec.ofNat_toNat, BitVec.ofNat_toNat, BitVec.setWidth_eq, BitVec.setWidth_eq]
  exact wrap_id (by rw [min_u32]; omega) (by rw [max_u32]; omega)
theorem bv_shr (x : BitVec 32) (n : Nat) (hn : n ≤ 32) : LAr .shr .u32 (x.toNat : Int) (n : Int) = ((x >>> n).toNat : Int) := by
  rw [l_shr_u32 (by omega) (by omega), Int.toNat_natCast]
  simp [Nat.shiftRight_eq_div_pow]
theorem bv_shl (x : BitVec 32) (n : Nat) (hn : n ≤ 32) : LAr .shl .u32 (x.toNat : Int) (n : Int) = ((x <<< n).toNat : Int) := by
  show IntKind.u32.wrap ((x.toNat : Int) * 2 ^ min (n : Int).toNat 32) = _
  rw [Int.toNat_natCast, Nat.min_eq_left hn, IntKind.wrap_u32, BitVec.toNat_shiftLeft, Nat.shiftLeft_eq]
  have e : ((x.toNat * 2 ^ n % 2 ^ 32 : Nat) : Int) = ((x.toNat * 2 ^ n : Nat) : Int) % 4294967296 := by omega
  rw [e]
  simp
def RbIs (v r : Int) : Prop := ∀ x : BitVec 32, v = (x.toNat : Int) → r = ((rb x).toNat : Int)
theorem revb_ok (v' : Int) : FOK Try.prog C1 58 (fun _ => true) [.int .u32 v'] []
    (fun rs H => ∃ r, rs = [.int .u32 r] ∧ H = [] ∧ RbIs v' r) := by
  refine fok_of (B := ⟨lookT tis, fun _ => true, []⟩) (tab1 _) (zero1 _) cod1 mix1 Try.func58 (by kernel_rfl) rfl rfl rfl fun X F => ?_
  obtain ⟨A, hA⟩ : ∃ A, A = Leaf.std := ⟨_, rfl⟩
  refine F.hold hA 2000 ?_
  cbv
  repeat' (first
    | refine OK.drawn (by decide +kernel) ?_
    | refine OK.tree ⟨lookT tis, fun _ => true, []⟩ (by decide +kernel) ?_
    | refine OK.both ?_ ?_
    | refine OK.need (by first | assumption | (rw [hA]; first | (show (_ : Int) ≠ _; decide) | (show (0 : Int) ≤ _; decide) | (show (0 : Int) ≤ _ ∧ _ < (256 : Int); decide))) ?_
    | refine OK.need ?_ ?_
    | (refine OK.branch ?_ ?_ <;> intro h)
    | (refine F.hold hA 2000 ?_; cbv))
  refine F.ret0 ⟨_, rfl, rfl, fun x hx => ?_⟩
  clear F
  rw [std_eq] at hA; subst hA; subst hx
  have b1 (x : BitVec 32) : LAr .shr .u32 (x.toNat : Int) 8 = ((x >>> 8).toNat : Int) := bv_shr x 8 (by decide)
  have b2 (x : BitVec 32) : LAr .and .u32 (x.toNat : Int) 16711935 = ((x &&& BitVec.ofNat 32 16711935).toNat : Int) := bv_and x 16711935
  have b3 (x : BitVec 32) : LAr .shl .u32 (x.toNat : Int) 8 = ((x <<< 8).toNat : Int) := bv_shl x 8 (by decide)
  have b4 (x : BitVec 32) : LAr .shr .u32 (x.toNat : Int) 16 = ((x >>> 16).toNat : Int) := bv_shr x 16 (by decide)
  have b5 (x : BitVec 32) : LAr .shl .u32 (x.toNat : Int) 16 = ((x <<< 16).toNat : Int) := bv_shl x 16 (by decide)
  simp only [b1, b2, b3, b4, b5, bv_or]
  rfl
def R32 (v : Nat) (r : Int) : Prop := r = (revN 32 v : Nat)
theorem rev32_ok (v' n' : Int) (v : Nat) (hp : RevPre v' n' v) : FOK Try.prog C1 52 (fun _ => true) [.int .u32 v'] []
    (fun rs H => ∃ r, rs = [.int .u32 r] ∧ H = [] ∧ R32 v r) := by
  refine fok_of (B := ⟨lookT tis, fun _ => true, []⟩) (tab1 _) (zero1 _) cod1 mix1 Try.func52 (by kernel_rfl) rfl rfl rfl fun X F => ?_
  obtain ⟨A, hA⟩ : ∃ A, A = Leaf.std := ⟨_, rfl⟩
  refine F.hold hA 2000 ?_
  cbv
  repeat' (first
    | refine OK.drawn (by decide +kernel) ?_
    | refine OK.tree ⟨lookT tis, fun _ => true, []⟩ (by decide +kernel) ?_
    | refine OK.both ?_ ?_
    | refine OK.need (by first | assumption | (rw [hA]; first | (show (_ : Int) ≠ _; decide) | (show (0 : Int) ≤ _; decide) | (show (0 : Int) ≤ _ ∧ _ < (256 : Int); decide))) ?_
    | refine OK.need ?_ ?_
    | (refine OK.branch ?_ ?_ <;> intro h)
    | (refine F.hold hA 2000 ?_; cbv))
  refine F.call [] (revb_ok _) rfl rfl rfl fun rs H' hq => ?_
  obtain ⟨r, rfl, rfl, hr⟩ := hq
  refine ⟨rfl, ?_⟩
  repeat' (first
    | refine OK.drawn (by decide +kernel) ?_
    | refine OK.tree ⟨lookT tis, fun _ => true, []⟩ (by decide +kernel) ?_
    | refine OK.both ?_ ?_
    | refine OK.need (by first | assumption | (rw [hA]; first | (show (_ : Int) ≠ _; decide) | (show (0 : Int) ≤ _; decide) | (show (0 : Int) ≤ _ ∧ _ < (256 : Int); decide))) ?_
    | refine OK.need ?_ ?_
    | (refine OK.branch ?_ ?_ <;> intro h)
    | (refine F.hold hA 2000 ?_; cbv))
  refine F.ret0 ⟨_, rfl, rfl, ?_⟩
  clear F
  obtain ⟨p1, p2⟩ := hp
  rw [std_eq] at hA; subst hA; subst p1
  have b1 (x : BitVec 32) : LAr .shr .u32 (x.toNat : Int) 1 = ((x >>> 1).toNat : Int) := bv_shr x 1 (by decide)
  have b2 (x : BitVec 32) : LAr .and .u32 (x.toNat : Int) 1431655765 = ((x &&& BitVec.ofNat 32 1431655765).toNat : Int) := bv_and x 1431655765
  have b3 (x : BitVec 32) : LAr .shl .u32 (x.toNat : Int) 1 = ((x <<< 1).toNat : Int) := bv_shl x 1 (by decide)
  have c1 (x : BitVec 32) : LAr .shr .u32 (x.toNat : Int) 2 = ((x >>> 2).toNat : Int) := bv_shr x 2 (by decide)
  have c2 (x : BitVec 32) : LAr .and .u32 (x.toNat : Int) 858993459 = ((x &&& BitVec.ofNat 32 858993459).toNat : Int) := bv_and x 858993459
  have c3 (x : BitVec 32) : LAr .shl .u32 (x.toNat : Int) 2 = ((x <<< 2).toNat : Int) := bv_shl x 2 (by decide)
  have d1 (x : BitVec 32) : LAr .shr .u32 (x.toNat : Int) 4 = ((x >>> 4).toNat : Int) := bv_shr x 4 (by decide)
  have d2 (x : BitVec 32) : LAr .and .u32 (x.toNat : Int) 252645135 = ((x &&& BitVec.ofNat 32 252645135).toNat : Int) := bv_and x 252645135
  have d3 (x : BitVec 32) : LAr .shl .u32 (x.toNat : Int) 4 = ((x <<< 4).toNat : Int) := bv_shl x 4 (by decide)
  have hx : v = (BitVec.ofNat 32 v).toNat := by rw [BitVec.toNat_ofNat]; omega
  generalize BitVec.ofNat 32 v = x at hx
  subst hx
  unfold R32
  rw [← rev_bv]
  refine hr _ ?_
  simp only [b1, b2, b3, c1, c2, c3, d1, d2, d3, bv_or]
  rfl
theorem rev_ok (v' n' : Int) (v : Nat) (hp : RevPre v' n' v) : FOK Try.prog C1 28 (fun _ => true) [.int .u32 v', .int .i64 n'] []
    (fun rs H => ∃ r, rs = [.int .u32 r] ∧ H = [] ∧ RevRes v n' r) := by
  refine fok_of (B := ⟨lookT tis, fun _ => true, []⟩) (tab1 _) (zero1 _) cod1 mix1 Try.func28 (by kernel_rfl) rfl rfl rfl fun X F => ?_
  obtain ⟨A, hA⟩ : ∃ A, A = Leaf.std := ⟨_, rfl⟩
  refine F.hold hA 2000 ?_
  cbv
  repeat' (first
    | refine OK.drawn (by decide +kernel) ?_
    | refine OK.tree ⟨lookT tis, fun _ => true, []⟩ (by decide +kernel) ?_
    | refine OK.both ?_ ?_
    | refine OK.need (by first | assumption | (rw [hA]; first | (show (_ : Int) ≠ _; decide) | (show (0 : Int) ≤ _; decide) | (show (0 : Int) ≤ _ ∧ _ < (256 : Int); decide))) ?_
    | refine OK.need ?_ ?_
    | (refine OK.branch ?_ ?_ <;> intro h)
    | (refine F.hold hA 2000 ?_; cbv))
  · refine F.ret0 ⟨_, rfl, rfl, ?_⟩
    try clear hBk
    try clear F
    rw [std_eq] at hA; subst hA
    try simp (disch := omega) only [lf, decide_eq_true_eq, decide_eq_false_iff_not, Int.not_lt, Int.not_le, Bool.not_eq_true', Bool.not_eq_false', Bool.not_true, Bool.not_false, gt_iff_lt, ge_iff_le, Int.toNat_natCast, Bool.true_eq_false, Bool.false_eq_true, beq_iff_eq, Bool.not_eq_eq_eq_not, ne_eq] at *
    try simp (disch := omega) only [lf, decide_eq_true_eq, decide_eq_false_iff_not, Int.not_lt, Int.not_le, Bool.not_eq_true', Bool.not_eq_false', Bool.not_true, Bool.not_false, gt_iff_lt, ge_iff_le, Int.toNat_natCast, Bool.true_eq_false, Bool.false_eq_true, beq_iff_eq, Bool.not_eq_eq_eq_not, ne_eq] at *
    unfold RevRes
    rcases Int.lt_or_eq_of_le h with h | h
    · rw [if_neg (by omega)]; rfl
    · subst h; rfl
  · refine F.ret0 ⟨_, rfl, rfl, ?_⟩
    try clear hBk
    try clear F
    rw [std_eq] at hA; subst hA
    try simp (disch := omega) only [lf, decide_eq_true_eq, decide_eq_false_iff_not, Int.not_lt, Int.not_le, Bool.not_eq_true', Bool.not_eq_false', Bool.not_true, Bool.not_false, gt_iff_lt, ge_iff_le, Int.toNat_natCast, Bool.true_eq_false, Bool.false_eq_true, beq_iff_eq, Bool.not_eq_eq_eq_not, ne_eq] at *
    try simp (disch := omega) only [lf, decide_eq_true_eq, decide_eq_false_iff_not, Int.not_lt, Int.not_le, Bool.not_eq_true', Bool.not_eq_false', Bool.not_true, Bool.not_false, gt_iff_lt, ge_iff_le, Int.toNat_natCast, Bool.true_eq_false, Bool.false_eq_true, beq_iff_eq, Bool.not_eq_eq_eq_not, ne_eq] at *
    unfold RevRes
    rw [if_neg (by omega)]; rfl
  refine F.call [] (rev32_ok v' n' v hp) rfl rfl rfl fun rs H' hq => ?_
  obtain ⟨r, rfl, rfl, hr⟩ := hq
  refine ⟨rfl, ?_⟩
  repeat' (first
    | refine OK.drawn (by decide +kernel) ?_
    | refine OK.tree ⟨lookT tis, fun _ => true, []⟩ (by decide +kernel) ?_
    | refine OK.both ?_ ?_
    | refine OK.need (by first | assumption | (rw [hA]; first | (show (_ : Int) ≠ _; decide) | (show (0 : Int) ≤ _; decide) | (show (0 : Int) ≤ _ ∧ _ < (256 : Int); decide))) ?_
    | refine OK.need ?_ ?_
    | (refine OK.branch ?_ ?_ <;> intro h)
    | (refine F.hold hA 2000 ?_; cbv))
  · try clear hBk
    try clear F
    rw [std_eq] at hA; subst hA
    try simp (disch := omega) only [lf, decide_eq_true_eq, decide_eq_false_iff_not, Int.not_lt, Int.not_le, Bool.not_eq_true', Bool.not_eq_false', Bool.not_true, Bool.not_false, gt_iff_lt, ge_iff_le, Int.toNat_natCast, Bool.true_eq_false, Bool.false_eq_true, beq_iff_eq, Bool.not_eq_eq_eq_not, ne_eq] at *
    try simp (disch := omega) only [lf, decide_eq_true_eq, decide_eq_false_iff_not, Int.not_lt, Int.not_le, Bool.not_eq_true', Bool.not_eq_false', Bool.not_true, Bool.not_false, gt_iff_lt, ge_iff_le, Int.toNat_natCast, Bool.true_eq_false, Bool.false_eq_true, beq_iff_eq, Bool.not_eq_eq_eq_not, ne_eq] at *
    omega
  · refine F.ret0 ⟨_, rfl, rfl, ?_⟩
    try clear hBk
    try clear F
    rw [std_eq] at hA; subst hA
    try simp (disch := omega) only [lf, decide_eq_true_eq, decide_eq_false_iff_not, Int.not_lt, Int.not_le, Bool.not_eq_true', Bool.not_eq_false', Bool.not_true, Bool.not_false, gt_iff_lt, ge_iff_le, Int.toNat_natCast, Bool.true_eq_false, Bool.false_eq_true, beq_iff_eq, Bool.not_eq_eq_eq_not, ne_eq] at *
    try simp (disch := omega) only [lf, decide_eq_true_eq, decide_eq_false_iff_not, Int.not_lt, Int.not_le, Bool.not_eq_true', Bool.not_eq_false', Bool.not_true, Bool.not_false, gt_iff_lt, ge_iff_le, Int.toNat_natCast, Bool.true_eq_false, Bool.false_eq_true, beq_iff_eq, Bool.not_eq_eq_eq_not, ne_eq] at *
    try simp (disch := omega) only [lf, decide_eq_true_eq, decide_eq_false_iff_not, Int.not_lt, Int.not_le, Bool.not_eq_true', Bool.not_eq_false', Bool.not_true, Bool.not_false, gt_iff_lt, ge_iff_le, Int.toNat_natCast, Bool.true_eq_false, Bool.false_eq_true, beq_iff_eq, Bool.not_eq_eq_eq_not, ne_eq] at *
    unfold R32 at hr
    unfold RevRes
    subst hr
    rw [if_pos (by omega)]
    have := revN_shift (n := n'.toNat) (v := v) (by omega)
    rw [← this]
    have e : (32 - n').toNat = 32 - n'.toNat := by omega
    rw [e]
    simp
end Go.L1

-- A25
namespace Go.L1
open Go Go.Sx Go.Proofs
theorem lT_len (l : List Pr) : @LLen (T1 0) l = (l.length : Int) := rfl
theorem lT_get (d : Pr) (l : List Pr) (i : Int) : @LGet (T1 0) d l i = l.getD i.toNat d := rfl
end Go.L1

-- A27
namespace Go.L1
open Go Go.Sx Go.Proofs
set_option maxRecDepth 20000
set_option linter.unusedVariables false
set_option linter.unusedSimpArgs false
def putBits (n' : Int) (v : Nat) : List UInt8 := if 0 ≤ n' ∧ n' ≤ 32 then bitsOf n'.toNat v else []
end Go.L1

-- A29
namespace Go.L1
open Go Go.Sx Go.Proofs
set_option maxRecDepth 20000
set_option linter.unusedVariables false
set_option linter.unusedSimpArgs false

/-- The bits of the first so many numbers. -/
def bb (values sizes : List Int) (j : Nat) : List UInt8 := (List.range j).flatMap fun k => putBits (sizes.getD k 0) (values.getD k 0).toNat
end Go.L1
