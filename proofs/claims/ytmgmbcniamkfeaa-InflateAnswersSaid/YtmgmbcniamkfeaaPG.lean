/- Own work of the session: part PG of a proof that the program's functions do what the statement says (a symbolic executor, contracts of the functions, plain laws). -/
import Derived.Test.YtmgmbcniamkfeaaPE
import Derived.Test.YtmgmbcniamkfeaaPF
set_option linter.all false
-- H8
namespace Go.L1
open Go Go.Sx Go.Proofs Go.Huff
set_option linter.unusedVariables false
/-- Something, or an error's number. -/
abbrev Er := Except Int
/-- A number of so many bits, and the place behind. -/
def numR (xs : List UInt8) (p : Int) (n : Nat) : Er (Int × Int) :=
  if (n : Int) ≤ 8 * xs.length - p then .ok ((bitsV xs p % 2 ^ n : Nat), p + n) else .error 15
def hitB (ls : List Int) (V left s : Nat) : Bool := decide (0 < len ls s) && decide (len ls s ≤ left) && (code ls s == revN (len ls s) V)
def longB (ls : List Int) (V left : Nat) : Bool := (List.range ls.length).any fun s => decide (left < len ls s) && (code ls s / 2 ^ (len ls s - left) == revN left V)
/-- The next symbol, and the place behind. -/
def symR (ls : List Int) (xs : List UInt8) (p : Int) : Er (Int × Int) :=
  match (List.range ls.length).find? (hitB ls (bitsV xs p) (leftN xs p)) with
  | some s => .ok (s, p + (len ls s : Nat))
  | none => if leftN xs p = 0 ∨ longB ls (bitsV xs p) (leftN xs p) = true then .error 15 else .error 10
def roomR (lim : Int) (out : List UInt8) (n : Int) : Er Unit := if n ≤ lim - out.length then .ok () else .error 14
def storedR (xs : List UInt8) (lim p : Int) (out : List UInt8) : Er (Int × List UInt8 × Int) := do
  let (n, p) ← numR xs (8 * ((p + 7) / 8)) 16
  let (t, p) ← numR xs p 16
  if n + t = 65535 then
    if n ≤ xs.length - (p + 7) / 8 then do
      roomR lim out n
      .ok (8 * ((p + 7) / 8 + n), out ++ (xs.drop ((p + 7) / 8).toNat).take n.toNat, n)
    else .error 15
  else .error 10
/-- What a length's symbol tells. -/
def lenR (s : Int) : Er (Int × Nat) :=
  if s < 257 ∨ 285 < s then .error 10
  else if s = 285 then .ok (258, 0)
  else if s < 265 then .ok (s - 254, 0)
  else .ok (3 + (4 + (s - 257) % 4) * 2 ^ ((s - 257) / 4 - 1).toNat, ((s - 257) / 4 - 1).toNat)
def distR (s : Int) : Er (Int × Nat) :=
  if s < 0 ∨ 29 < s then .error 10
  else if s < 4 then .ok (s + 1, 0)
  else .ok (1 + (2 + s % 2) * 2 ^ (s / 2 - 1).toNat, (s / 2 - 1).toNat)
def copyN (far : Nat) : Nat → List UInt8 → List UInt8
  | 0, out => out
  | n + 1, out => copyN far n (out ++ [out.getD (out.length - far) 0])
def backR (other : List Int) (xs : List UInt8) (lim : Int) (s p : Int) (out : List UInt8) : Er (Int × List UInt8) := do
  let (base, e) ← lenR s
  let (x, p) ← numR xs p e
  let (d, p) ← symR other xs p
  let (far, e) ← distR d
  let (y, p) ← numR xs p e
  if far + y ≤ out.length then do
    roomR lim out (base + x)
    .ok (p, copyN (far + y).toNat (base + x).toNat out)
  else .error 10
/-- So many rounds are enough for whatever bytes there are. -/
def fuel : Nat := 1000000000000
def symsR (first other : List Int) (xs : List UInt8) (lim : Int) : Nat → Int → List UInt8 → Int → Er (Int × List UInt8 × Int)
  | 0, _, _, _ => .error 0
  | f + 1, p, out, k => do
    let (s, p) ← symR first xs p
    if s = 256 then .ok (p, out, k + 1)
    else if s < 256 then do
      roomR lim out 1
      symsR first other xs lim f p (out ++ [UInt8.ofNat s.toNat]) (k + 1)
    else do
      let (p, out) ← backR other xs lim s p out
      symsR first other xs lim f p out (k + 1)
def usedN (l : List Int) : Nat := l.countP fun x => decide (0 < x)
def okLen (l : List Int) : Bool := decide (l.length ≤ 320) && l.all (fun x => decide (0 ≤ x ∧ x ≤ 15)) && decide (roomN l ≤ 32768)
def codeR (l : List Int) (one none : Bool) : Er Unit :=
  if okLen l = true ∧ (roomN l = 32768 ∨ (one = true ∧ usedN l = 1 ∧ l.any (· == 1) = true) ∨ (none = true ∧ usedN l = 0)) then .ok () else .error 10
/-- The lengths that an item tells, and how many the row then has. -/
def itemR (ls : List Int) (xs : List UInt8) (p : Int) (have_ : Int) : Er (Int × (Int × Int) × Int) := do
  let (s, p) ← symR ls xs p
  if s = 16 then do
    let (x, p) ← numR xs p 2
    if 0 < have_ then .ok (p, (s, x), have_ + 3 + x) else .error 10
  else if s = 17 then do
    let (x, p) ← numR xs p 3
    .ok (p, (s, x), have_ + 3 + x)
  else if s = 18 then do
    let (x, p) ← numR xs p 7
    .ok (p, (s, x), have_ + 11 + x)
  else .ok (p, (s, 0), have_ + 1)
def itemsR (ls : List Int) (xs : List UInt8) (n : Int) : Nat → Int → List (Int × Int) → Int → Er (Int × List (Int × Int) × Int)
  | 0, _, _, _ => .error 0
  | f + 1, p, items, have_ =>
    if have_ < n then do
      let (p, x, h) ← itemR ls xs p have_
      itemsR ls xs n f p (items ++ [x]) h
    else .ok (p, items, have_)
/-- What an item tells behind lengths. -/
def rowR (x : Int × Int) (l : List Int) : Option (List Int) :=
  if 0 ≤ x.1 ∧ x.1 ≤ 15 then if x.2 = 0 then some [x.1] else none
  else if x.1 = 16 then if l = [] ∨ ¬ (0 ≤ x.2 ∧ x.2 ≤ 3) then none else some (List.replicate (3 + x.2).toNat (l.getD (l.length - 1) 0))
  else if x.1 = 17 then if 0 ≤ x.2 ∧ x.2 ≤ 7 then some (List.replicate (3 + x.2).toNat 0) else none
  else if x.1 = 18 then if 0 ≤ x.2 ∧ x.2 ≤ 127 then some (List.replicate (11 + x.2).toNat 0) else none
  else none
def unpackR : List (Int × Int) → List Int → Option (List Int)
  | [], l => some l
  | x :: xs, l => match rowR x l with
    | some m => if l.length + m.length ≤ 320 then unpackR xs (l ++ m) else none
    | none => none
/-- So many lengths, as items. -/
def rowsR (ls : List Int) (xs : List UInt8) (n p : Int) : Er (Int × List Int) := do
  let (p, items, h) ← itemsR ls xs n fuel p [] 0
  if h = n then
    match unpackR items [] with
    | some all => .ok (p, all)
    | none => .error 10
  else .error 10
def orderN : List Nat := [16, 17, 18, 0, 8, 7, 9, 6, 10, 5, 11, 4, 12, 3, 13, 2, 14, 1, 15]
def ownR (xs : List UInt8) : List Nat → Int → List Int → Er (Int × List Int)
  | [], p, own => .ok (p, own)
  | i :: l, p, own => do
    let (x, p) ← numR xs p 3
    ownR xs l p (own.set i x)
def codesR (xs : List UInt8) (p : Int) : Er (Int × List Int × List Int) := do
  let (l, p) ← numR xs p 5
  let (d, p) ← numR xs p 5
  let (n, p) ← numR xs p 4
  if l ≤ 29 ∧ d ≤ 29 then do
    let (p, own) ← ownR xs (orderN.take (n + 4).toNat) p (List.replicate 19 0)
    codeR own false false
    let (p, all) ← rowsR own xs (l + 257 + d + 1) p
    if 0 < all.getD 256 0 then do
      codeR (all.take (l + 257).toNat) true false
      codeR (all.drop (l + 257).toNat) true true
      .ok (p, all.take (l + 257).toNat, all.drop (l + 257).toNat)
    else .error 10
  else .error 10
def fixA : List Int := List.replicate 144 8 ++ List.replicate 112 9 ++ List.replicate 24 7 ++ List.replicate 8 8
def fixB : List Int := List.replicate 32 5
def blockR (xs : List UInt8) (lim p : Int) (out : List UInt8) (k : Int) : Er (Bool × Int × List UInt8 × Int) := do
  let (last, p) ← numR xs p 1
  let (kind, p) ← numR xs p 2
  if kind = 0 then do
    let (p, out, n) ← storedR xs lim p out
    .ok (last == 1, p, out, k + n)
  else if kind = 1 then do
    let (p, out, k) ← symsR fixA fixB xs lim fuel p out k
    .ok (last == 1, p, out, k)
  else if kind = 2 then do
    let (p, first, other) ← codesR xs p
    let (p, out, k) ← symsR first other xs lim fuel p out k
    .ok (last == 1, p, out, k)
  else .error 10
def blocksR (xs : List UInt8) (lim : Int) : Nat → Int → List UInt8 → Int → Int → Er (Int × List UInt8 × Int × Int)
  | 0, _, _, _, _ => .error 0
  | f + 1, p, out, k, b => do
    let (last, p, out, k) ← blockR xs lim p out k
    if last = true then .ok (p, out, k, b + 1) else blocksR xs lim f p out k (b + 1)
/-- All of it: what is made, how many bytes are used, steps, blocks. -/
def inflR (xs : List UInt8) (lim : Int) : Er (List UInt8 × Int × Int × Int) := do
  let (p, out, k, b) ← blocksR xs (max lim 0) fuel 0 [] 0 0
  .ok (out, (p + 7) / 8, k, b)
end Go.L1

-- D1
namespace Go.L1
open Go Go.Sx Go.Proofs Go.Huff
set_option maxRecDepth 20000
set_option linter.unusedVariables false
set_option linter.unusedSimpArgs false
/-- The panic of a fault. -/
def Flt (e : Int) (ch : List PanicEntry) : Prop := ch = [{ v := .iface 100 (.agg #[.int .i64 e]), recovered := false }]
theorem den_fault {M : Mem} {t : TypeId} {k : IntKind} {n : Int} {v : Value} (h : DenV C1 M (.iface t (.agg [.int k n])) v) : v = .iface t (.agg #[.int k n]) := by
  simp only [DenV, DenP] at h
  cases h with
  | iface _ _ v h _ => cases h
  | ifaceA _ m us h _ =>
    cases h with
    | int _ _ h => cases h; rfl
theorem need_ok (b : BE) (e : Int) : FOKp Try.prog C1 70 (fun _ => true) [.bool b, .int .i64 e] []
    (fun rs H => rs = [] ∧ H = [] ∧ ebool b = true) (fun ch => ebool b = false ∧ Flt e ch) := by
  cases b with
  | lit b =>
    cases b
    · refine fokp_of (B := ⟨lookT tis, fun _ => true, []⟩) (tab1 _) (zero1 _) cod1 mix1 Try.func70 (by kernel_rfl) rfl rfl rfl fun X F hX => ?_
      obtain ⟨A, hA⟩ : ∃ A, A = Leaf.std := ⟨_, rfl⟩
      refine F.hold hA 2000 ?_
      cbv
      refine OK.panic fun M v hS hv => ?_
      rw [F.C] at hv
      rw [hX, den_fault hv]
      exact ⟨rfl, rfl⟩
    · refine fokp_of (B := ⟨lookT tis, fun _ => true, []⟩) (tab1 _) (zero1 _) cod1 mix1 Try.func70 (by kernel_rfl) rfl rfl rfl fun X F hX => ?_
      obtain ⟨A, hA⟩ : ∃ A, A = Leaf.std := ⟨_, rfl⟩
      refine F.hold hA 2000 ?_
      cbv
      exact F.ret0 ⟨rfl, rfl, rfl⟩
  | e b =>
    refine fokp_of (B := ⟨lookT tis, fun _ => true, []⟩) (tab1 _) (zero1 _) cod1 mix1 Try.func70 (by kernel_rfl) rfl rfl rfl fun X F hX => ?_
    obtain ⟨A, hA⟩ : ∃ A, A = Leaf.std := ⟨_, rfl⟩
    refine F.hold hA 2000 ?_
    cbv
    refine OK.branch (fun h => ?_) (fun h => ?_)
    · repeat (first
        | refine OK.drawn (by decide +kernel) ?_
        | refine OK.tree ⟨lookT tis, fun _ => true, []⟩ (by decide +kernel) ?_
        | refine OK.need (by first | assumption | (rw [hA]; first | (show (_ : Int) ≠ _; decide) | (show (0 : Int) ≤ _; decide) | (show (0 : Int) ≤ _ ∧ _ < (256 : Int); decide))) ?_
        | (refine F.hold hA 2000 ?_; cbv))
      refine OK.panic fun M v hS hv => ?_
      rw [F.C] at hv
      rw [hX, den_fault hv]
      subst hA
      exact ⟨(by cases b <;> first | rfl | cases h), rfl⟩
    · repeat (first
        | refine OK.drawn (by decide +kernel) ?_
        | refine OK.tree ⟨lookT tis, fun _ => true, []⟩ (by decide +kernel) ?_
        | refine OK.need (by first | assumption | (rw [hA]; first | (show (_ : Int) ≠ _; decide) | (show (0 : Int) ≤ _; decide) | (show (0 : Int) ≤ _ ∧ _ < (256 : Int); decide))) ?_
        | (refine F.hold hA 2000 ?_; cbv))
      subst hA
      exact F.ret0 ⟨rfl, rfl, (by cases b <;> first | rfl | cases h)⟩
/-- A reader of what is packed. -/
structure InS (xs : List UInt8) (p : Int) : Prop where
  rd : RdOK xs p
  l : xs.length ≤ 100000
theorem InS.pre {xs : List UInt8} {p : Int} (h : InS xs p) : RdPre xs p := h.rd.rd
def NumIs (xs : List UInt8) (p : Int) (n : Nat) (v p' : Int) : Prop := numR xs p n = .ok (v, p')
theorem bits_num {xs : List UInt8} {p v p' : Int} {n : Nat} {r : Bool} (hn : n ≤ 32) (h : BitsRes xs p n v r p') : (r = true → NumIs xs p n v p') ∧ (r = false → numR xs p n = .error 15) := by
  unfold NumIs numR
  rcases h with ⟨rfl, h1, h2, h3, rfl, rfl⟩ | ⟨rfl, h1, rfl, rfl⟩
  · refine ⟨fun _ => ?_, fun h => (by cases h)⟩
    rw [if_pos h3]
    simp only [bitsV, Int.toNat_natCast]
  · refine ⟨fun h => (by cases h), fun _ => ?_⟩
    rw [if_neg (fun h => h1 ⟨by omega, by omega, h⟩)]
theorem NumIs.val {xs : List UInt8} {p v p' : Int} {n : Nat} (h : NumIs xs p n v p') : 0 ≤ v ∧ v < 2 ^ n ∧ p' = p + n ∧ p' ≤ 8 * xs.length := by
  unfold NumIs numR at h
  split at h
  · rename_i h1
    have := Except.ok.inj h
    have h2 := Nat.mod_lt (bitsV xs p) (Nat.two_pow_pos n)
    obtain ⟨rfl, rfl⟩ := Prod.mk.inj this
    refine ⟨by omega, ?_, rfl, by omega⟩
    have : ((bitsV xs p % 2 ^ n : Nat) : Int) < ((2 ^ n : Nat) : Int) := by omega
    simpa using this
  · cases h
theorem NumIs.ins {xs : List UInt8} {p v p' : Int} {n : Nat} (h : NumIs xs p n v p') (hs : InS xs p) : InS xs p' := by
  obtain ⟨_, _, h3, h4⟩ := h.val
  obtain ⟨⟨⟨a, b, c⟩, d⟩, e⟩ := hs
  exact ⟨⟨⟨a, by omega, by omega⟩, h4⟩, e⟩
theorem NumIs.conv {xs : List UInt8} {p v p' : Int} {n : Nat} {A : Leaf} (hA : A = .std) (hn : n ≤ 32) (h : NumIs xs p n v p') : A.conv .i64 v = v := by
  obtain ⟨h1, h2, _⟩ := h.val
  subst hA
  have h3 : (2 : Nat) ^ n ≤ 2 ^ 32 := Nat.pow_le_pow_right (by decide) hn
  have h4 : (2 : Int) ^ n = ((2 ^ n : Nat) : Int) := by simp
  exact l_conv_i64 (by omega) (by omega)
theorem number_ok (xs out : List UInt8) (lim u k b p : Int) (n : Nat) (hn : Nat.ble n 32 = true) (hs : InS xs p) :
    FOKp Try.prog C1 66 (fun _ => true) [.ptr 0 0, .int .i64 n] [.cells 98 [.ptr 1 0, .int .i64 lim, .own 2, .int .i64 u, .int .i64 k, .int .i64 b], .cells 82 [.ro (.bytes xs), .int .i64 p], .row 5 (.bytes out)]
    (fun rs H => ∃ v p', rs = [.int .i64 v] ∧ H = [.cells 98 [.ptr 1 0, .int .i64 lim, .own 2, .int .i64 u, .int .i64 k, .int .i64 b], .cells 82 [.ro (.bytes xs), .int .i64 p'], .row 5 (.bytes out)] ∧ NumIs xs p n v p')
    (fun ch => ∃ e, numR xs p n = .error e ∧ Flt e ch) := by
  generalize hN : (n : Int) = N
  refine fokp_of (B := ⟨lookT tis, fun _ => true, []⟩) (tab1 _) (zero1 _) cod1 mix1 Try.func66 (by kernel_rfl) rfl rfl rfl fun X F hX => ?_
  obtain ⟨A, hA⟩ : ∃ A, A = Leaf.std := ⟨_, rfl⟩
  refine F.hold hA 2000 ?_
  cbv
  repeat (first
    | refine OK.drawn (by decide +kernel) ?_
    | refine OK.tree ⟨lookT tis, fun _ => true, []⟩ (by decide +kernel) ?_
    | refine OK.need (by first | assumption | (rw [hA]; first | (show (_ : Int) ≠ _; decide) | (show (0 : Int) ≤ _; decide) | (show (0 : Int) ≤ _ ∧ _ < (256 : Int); decide))) ?_
    | (refine F.hold hA 2000 ?_; cbv))
  refine F.call [1] (bits_ok xs p N hs.pre) rfl rfl rfl fun rs H' hq => ?_
  obtain ⟨v, r, p', rfl, rfl, hv⟩ := hq
  refine ⟨rfl, ?_⟩
  subst hN
  have hb := bits_num (Nat.le_of_ble_eq_true hn) hv
  repeat (first
    | refine OK.drawn (by decide +kernel) ?_
    | refine OK.tree ⟨lookT tis, fun _ => true, []⟩ (by decide +kernel) ?_
    | refine OK.need (by first | assumption | (rw [hA]; first | (show (_ : Int) ≠ _; decide) | (show (0 : Int) ≤ _; decide) | (show (0 : Int) ≤ _ ∧ _ < (256 : Int); decide))) ?_
    | (refine F.hold hA 2000 ?_; cbv))
  refine F.callp [] (need_ok _ _) rfl rfl rfl (fun ch hch => ?_) (fun rs H' hq => ?_)
  · rw [hX]
    exact ⟨_, hb.2 hch.1, hch.2⟩
  obtain ⟨rfl, rfl, hr⟩ := hq
  refine ⟨rfl, ?_⟩
  repeat (first
    | refine OK.drawn (by decide +kernel) ?_
    | refine OK.tree ⟨lookT tis, fun _ => true, []⟩ (by decide +kernel) ?_
    | refine OK.need (by first | assumption | (rw [hA]; first | (show (_ : Int) ≠ _; decide) | (show (0 : Int) ≤ _; decide) | (show (0 : Int) ≤ _ ∧ _ < (256 : Int); decide))) ?_
    | (refine F.hold hA 2000 ?_; cbv))
  refine F.ret0 ⟨_, _, rfl, rfl, ?_⟩
  have h2 := hb.1 hr
  have e := h2.conv hA (Nat.le_of_ble_eq_true hn)
  exact (congrArg (fun x => NumIs xs p n x p') e).mpr h2
end Go.L1

-- D2
namespace Go.L1
open Go Go.Sx Go.Proofs Go.Huff
set_option maxRecDepth 20000
set_option linter.unusedVariables false
set_option linter.unusedSimpArgs false
theorem hitB_iff {ls : List Int} {V left s : Nat} (hs : s < ls.length) : hitB ls V left s = true ↔ Hit ls V left s := by
  unfold hitB Hit
  simp only [Bool.and_eq_true, decide_eq_true_eq, beq_iff_eq]
  constructor
  · rintro ⟨⟨a, b⟩, c⟩; exact ⟨hs, a, b, c⟩
  · rintro ⟨_, a, b, c⟩; exact ⟨⟨a, b⟩, c⟩
theorem longB_iff {ls : List Int} {V left : Nat} : longB ls V left = true ↔ Longer ls (revN left V) left := by
  unfold longB Longer
  simp only [List.any_eq_true, List.mem_range, Bool.and_eq_true, decide_eq_true_eq, beq_iff_eq]
theorem symR_is (ls : List Int) (xs : List UInt8) (p : Int) : match symR ls xs p with
    | .ok (s, p') => ∃ n, NextIs ls (bitsV xs p) (leftN xs p) s n 0 ∧ p' = p + n
    | .error e => NextIs ls (bitsV xs p) (leftN xs p) 0 0 e ∧ e ≠ 0 := by
  unfold symR
  cases hf : (List.range ls.length).find? (hitB ls (bitsV xs p) (leftN xs p)) with
  | some s =>
    have h1 := List.find?_some hf
    have h2 := List.mem_of_find?_eq_some hf
    rw [List.mem_range] at h2
    have h3 := (hitB_iff h2).1 h1
    exact ⟨_, .inl ⟨rfl, s, h3, rfl, rfl⟩, rfl⟩
  | none =>
    have hno : ∀ s, ¬ Hit ls (bitsV xs p) (leftN xs p) s := fun s hs => by
      have := List.find?_eq_none.1 hf s (List.mem_range.2 hs.1)
      exact this ((hitB_iff hs.1).2 hs)
    by_cases h : leftN xs p = 0 ∨ longB ls (bitsV xs p) (leftN xs p) = true
    · rw [if_pos h]
      have h2 := h.imp_right longB_iff.1
      exact ⟨.inr ⟨hno, rfl, rfl, .inl ⟨rfl, h2⟩⟩, by decide⟩
    · rw [if_neg h]
      exact ⟨.inr ⟨hno, rfl, rfl, .inr ⟨rfl, by omega, fun hh => h (.inr (longB_iff.2 hh))⟩⟩, by decide⟩
def SymIs (ls : List Int) (xs : List UInt8) (p s p' : Int) : Prop := symR ls xs p = .ok (s, p')
theorem next_sym {ls : List Int} {xs : List UInt8} {p s e p' : Int} (hb : InB ls) (h : NextRes ls xs p s e p') : (e = 0 → SymIs ls xs p s p') ∧ (e ≠ 0 → symR ls xs p = .error e) := by
  obtain ⟨n, h1, h2⟩ := h
  have h3 := symR_is ls xs p
  unfold SymIs
  cases hr : symR ls xs p with
  | ok x =>
    obtain ⟨s2, p2⟩ := x
    rw [hr] at h3
    obtain ⟨m, h4, h5⟩ := h3
    obtain ⟨rfl, rfl, rfl⟩ := NextIs.uniq hb h1 h4
    exact ⟨fun _ => by rw [h2, h5], fun h => absurd rfl h⟩
  | error e2 =>
    rw [hr] at h3
    obtain ⟨h4, h5⟩ := h3
    have h6 : e = e2 := by
      rcases h1 with ⟨rfl, s, a, _⟩ | ⟨a, rfl, rfl, _⟩
      · rcases h4 with ⟨rfl, _⟩ | ⟨b, _⟩
        · rfl
        · exact absurd a (b s)
      · exact (NextIs.uniq hb (.inr ⟨a, rfl, rfl, by assumption⟩) h4).2.2
    subst h6
    exact ⟨fun h => absurd h h5, fun _ => rfl⟩
theorem SymIs.val {ls : List Int} {xs : List UInt8} {p s p' : Int} (h : SymIs ls xs p s p') (hs : InS xs p) : 0 ≤ s ∧ s < ls.length ∧ p < p' ∧ p' ≤ 8 * xs.length := by
  have h3 := symR_is ls xs p
  unfold SymIs at h
  rw [h] at h3
  obtain ⟨n, h4, h5⟩ := h3
  rcases h4 with ⟨_, t, ht, rfl, rfl⟩ | ⟨_, _, _, h | h⟩
  · obtain ⟨h6, h7, h8, _⟩ := ht
    have := hs.rd.hi
    unfold leftN at h8
    omega
  · exact absurd h.1 (by decide)
  · exact absurd h.1 (by decide)
theorem SymIs.ins {ls : List Int} {xs : List UInt8} {p s p' : Int} (h : SymIs ls xs p s p') (hs : InS xs p) : InS xs p' := by
  obtain ⟨_, _, h3, h4⟩ := h.val hs
  obtain ⟨⟨⟨a, b, c⟩, d⟩, e⟩ := hs
  exact ⟨⟨⟨a, by omega, by omega⟩, h4⟩, e⟩
theorem eql0 {A : Leaf} (hA : A = .std) {e : Int} : (ebool (.e (A.cmp .eql e 0)) = true → e = 0) ∧ (ebool (.e (A.cmp .eql e 0)) = false → e ≠ 0) := by
  subst hA
  refine ⟨fun h => ?_, fun h => ?_⟩
  · have h : (e == 0) = true := h
    simpa using h
  · have h : (e == 0) = false := h
    simpa using h
theorem symbol_ok (xs out : List UInt8) (lim u k b p : Int) (ls : List Int) (ws : List Pr) (fs cs ss os : List Int) (r : Int) (hc : CodeOK ls ws fs cs ss os r) (hs : InS xs p) :
    FOKp Try.prog C1 82 (fun _ => true) [.ptr 0 0, .ptr 3 0] [.cells 98 [.ptr 1 0, .int .i64 lim, .own 2, .int .i64 u, .int .i64 k, .int .i64 b], .cells 82 [.ro (.bytes xs), .int .i64 p], .row 5 (.bytes out), .cells 78 [.ro (.recs 0 ws), .arr 16 (.ints .i64 fs), .arr 16 (.ints .i64 cs), .arr 16 (.ints .i64 ss), .ro (.ints .i64 os), .int .i64 r]]
    (fun rs H => ∃ s p', rs = [.int .i64 s] ∧ H = [.cells 98 [.ptr 1 0, .int .i64 lim, .own 2, .int .i64 u, .int .i64 k, .int .i64 b], .cells 82 [.ro (.bytes xs), .int .i64 p'], .row 5 (.bytes out), .cells 78 [.ro (.recs 0 ws), .arr 16 (.ints .i64 fs), .arr 16 (.ints .i64 cs), .arr 16 (.ints .i64 ss), .ro (.ints .i64 os), .int .i64 r]] ∧ SymIs ls xs p s p')
    (fun ch => ∃ e, symR ls xs p = .error e ∧ Flt e ch) := by
  refine fokp_of (B := ⟨lookT tis, fun _ => true, []⟩) (tab1 _) (zero1 _) cod1 mix1 Try.func82 (by kernel_rfl) rfl rfl rfl fun X F hX => ?_
  obtain ⟨A, hA⟩ : ∃ A, A = Leaf.std := ⟨_, rfl⟩
  refine F.hold hA 2000 ?_
  cbv
  repeat (first
    | refine OK.drawn (by decide +kernel) ?_
    | refine OK.tree ⟨lookT tis, fun _ => true, []⟩ (by decide +kernel) ?_
    | refine OK.need (by first | assumption | (rw [hA]; first | (show (_ : Int) ≠ _; decide) | (show (0 : Int) ≤ _; decide) | (show (0 : Int) ≤ _ ∧ _ < (256 : Int); decide))) ?_
    | (refine F.hold hA 2000 ?_; cbv))
  refine F.call [3, 1] (next_ok ls ws fs cs ss os r xs p hc hs.rd) rfl rfl rfl fun rs H' hq => ?_
  obtain ⟨s, e, p', rfl, rfl, hn⟩ := hq
  refine ⟨rfl, ?_⟩
  have hb := next_sym hc.fine.inb hn
  clear hn
  repeat (first
    | refine OK.drawn (by decide +kernel) ?_
    | refine OK.tree ⟨lookT tis, fun _ => true, []⟩ (by decide +kernel) ?_
    | refine OK.need (by first | assumption | (rw [hA]; first | (show (_ : Int) ≠ _; decide) | (show (0 : Int) ≤ _; decide) | (show (0 : Int) ≤ _ ∧ _ < (256 : Int); decide))) ?_
    | (refine F.hold hA 2000 ?_; cbv))
  refine F.callp [] (need_ok _ _) rfl rfl rfl (fun ch hch => ?_) (fun rs H' hq => ?_)
  · rw [hX]
    exact ⟨_, hb.2 ((eql0 hA).2 hch.1), hch.2⟩
  obtain ⟨rfl, rfl, hr⟩ := hq
  refine ⟨rfl, ?_⟩
  repeat (first
    | refine OK.drawn (by decide +kernel) ?_
    | refine OK.tree ⟨lookT tis, fun _ => true, []⟩ (by decide +kernel) ?_
    | refine OK.need (by first | assumption | (rw [hA]; first | (show (_ : Int) ≠ _; decide) | (show (0 : Int) ≤ _; decide) | (show (0 : Int) ≤ _ ∧ _ < (256 : Int); decide))) ?_
    | (refine F.hold hA 2000 ?_; cbv))
  exact F.ret0 ⟨_, _, rfl, rfl, hb.1 ((eql0 hA).1 hr)⟩
structure LimOK (lim : Int) (out : List UInt8) : Prop where
  lo : 0 ≤ lim
  hi : lim ≤ 1048576
  ot : out.length ≤ lim
theorem roomI_ok (xs out : List UInt8) (lim u k b p n : Int) (hl : LimOK lim out) :
    FOKp Try.prog C1 81 (fun _ => true) [.ptr 0 0, .int .i64 n] [.cells 98 [.ptr 1 0, .int .i64 lim, .own 2, .int .i64 u, .int .i64 k, .int .i64 b], .cells 82 [.ro (.bytes xs), .int .i64 p], .row 5 (.bytes out)]
    (fun rs H => rs = [] ∧ H = [.cells 98 [.ptr 1 0, .int .i64 lim, .own 2, .int .i64 u, .int .i64 k, .int .i64 b], .cells 82 [.ro (.bytes xs), .int .i64 p], .row 5 (.bytes out)] ∧ roomR lim out n = .ok ())
    (fun ch => ∃ e, roomR lim out n = .error e ∧ Flt e ch) := by
  refine fokp_of (B := ⟨lookT tis, fun _ => true, []⟩) (tab1 _) (zero1 _) cod1 mix1 Try.func81 (by kernel_rfl) rfl rfl rfl fun X F hX => ?_
  obtain ⟨A, hA⟩ : ∃ A, A = Leaf.std := ⟨_, rfl⟩
  refine F.hold hA 2000 ?_
  cbv
  repeat' (first
    | refine OK.drawn (by decide +kernel) ?_
    | refine OK.tree ⟨lookT tis, fun _ => true, []⟩ (by decide +kernel) ?_
    | refine OK.both ?_ ?_
    | refine OK.need (by first | assumption | (rw [hA]; first | (show (_ : Int) ≠ _; decide) | (show (0 : Int) ≤ _; decide) | (show (0 : Int) ≤ _ ∧ _ < (256 : Int); decide))) ?_
    | refine OK.need ?_ ?_
    | (refine OK.branch ?_ ?_ <;> intro h)
    | (refine F.hold hA 2000 ?_; cbv))
  have hlim : A.ar .sub .i64 lim (A.len out) = lim - out.length := by
    obtain ⟨a, b, c⟩ := hl
    subst hA
    exact sub_i64 (a := lim) (b := (out.length : Int)) (by omega) (by omega)
  refine F.callp [] (need_ok _ _) rfl rfl rfl (fun ch hch => ?_) (fun rs H' hq => ?_)
  · rw [hX]
    refine ⟨14, ?_, hch.2⟩
    have h1 : A.cmp .leq n (A.ar .sub .i64 lim (A.len out)) = false := hch.1
    rw [hlim] at h1
    subst hA
    have h1 : ¬ n ≤ lim - out.length := of_decide_eq_false h1
    unfold roomR
    rw [if_neg h1]
  obtain ⟨rfl, rfl, hr⟩ := hq
  refine ⟨rfl, ?_⟩
  repeat (first
    | refine OK.drawn (by decide +kernel) ?_
    | refine OK.tree ⟨lookT tis, fun _ => true, []⟩ (by decide +kernel) ?_
    | refine OK.need (by first | assumption | (rw [hA]; first | (show (_ : Int) ≠ _; decide) | (show (0 : Int) ≤ _; decide) | (show (0 : Int) ≤ _ ∧ _ < (256 : Int); decide))) ?_
    | (refine F.hold hA 2000 ?_; cbv))
  refine F.ret0 ⟨rfl, rfl, ?_⟩
  have h1 : A.cmp .leq n (A.ar .sub .i64 lim (A.len out)) = true := hr
  rw [hlim] at h1
  subst hA
  have h1 : n ≤ lim - out.length := of_decide_eq_true h1
  unfold roomR
  rw [if_pos h1]
end Go.L1

-- D3
namespace Go.L1
open Go Go.Sx Go.Proofs Go.Huff
set_option maxRecDepth 20000
set_option linter.unusedVariables false
set_option linter.unusedSimpArgs false
def LngIs (s base extra : Int) (ok : Bool) : Prop := (ok = true ∧ 0 ≤ extra ∧ extra ≤ 5 ∧ 3 ≤ base ∧ base ≤ 258 ∧ lenR s = .ok (base, extra.toNat)) ∨ (ok = false ∧ base = 0 ∧ extra = 0 ∧ lenR s = .error 10)
def DstIs (s base extra : Int) (ok : Bool) : Prop := (ok = true ∧ 0 ≤ extra ∧ extra ≤ 13 ∧ 1 ≤ base ∧ base ≤ 24577 ∧ distR s = .ok (base, extra.toNat)) ∨ (ok = false ∧ base = 0 ∧ extra = 0 ∧ distR s = .error 10)
theorem shl_small {a b : Int} (h0 : 0 ≤ a) (h1 : a ≤ 7) (h2 : 0 ≤ b) (h3 : b ≤ 13) : Leaf.std.ar .shl .i64 a b = a * 2 ^ b.toNat ∧ a * 2 ^ b.toNat ≤ 57344 ∧ 0 ≤ a * 2 ^ b.toNat := by
  have hp : (2 : Nat) ^ b.toNat ≤ 2 ^ 13 := Nat.pow_le_pow_right (by decide) (by omega)
  have e : (2 : Int) ^ b.toNat = ((2 ^ b.toNat : Nat) : Int) := by simp
  have h4 : a * 2 ^ b.toNat ≤ 7 * 8192 := by
    rw [e]
    exact Int.mul_le_mul h1 (by omega) (Int.natCast_nonneg _) (by omega)
  have h5 : 0 ≤ a * 2 ^ b.toNat := Int.mul_nonneg h0 (by rw [e]; exact Int.natCast_nonneg _)
  refine ⟨?_, h4, h5⟩
  show LAr .shl .i64 a b = _
  rw [l_shl_i64 h2 (by omega) (by omega) (by omega)]
structure LngA (A : Leaf) (s : Int) : Prop where
  q : A.nn (A.ar .sub .i64 (A.ar .quo .i64 (A.ar .sub .i64 s 257) 4) 1)
  r : LngIs s (A.ar .add .i64 3 (A.ar .shl .i64 (A.ar .add .i64 4 (A.ar .rem .i64 (A.ar .sub .i64 s 257) 4)) (A.ar .sub .i64 (A.ar .quo .i64 (A.ar .sub .i64 s 257) 4) 1))) (A.ar .sub .i64 (A.ar .quo .i64 (A.ar .sub .i64 s 257) 4) 1) true
theorem lngA {A : Leaf} {s : Int} (hA : A = .std) (h1 : A.cmp .gtr s 285 = false) (h2 : A.cmp .eql s 285 = false) (h3 : A.cmp .lss s 265 = false) : LngA A s := by
  subst hA
  have h1 : ¬ (285 : Int) < s := of_decide_eq_false h1
  have h2 : (s == 285) = false := h2
  have h2 : s ≠ 285 := by simpa using h2
  have h3 : ¬ s < 265 := of_decide_eq_false h3
  have e1 : Leaf.std.ar .sub .i64 s 257 = s - 257 := sub_i64 (by omega) (by omega)
  have e2 : Leaf.std.ar .quo .i64 (s - 257) 4 = (s - 257) / 4 := by
    show LAr .quo .i64 _ 4 = _
    rw [l_quo_i64 (by omega) (by omega) (by omega)]
  have e3 : Leaf.std.ar .rem .i64 (s - 257) 4 = (s - 257) % 4 := by
    show LAr .rem .i64 _ 4 = _
    rw [l_rem (by omega)]
  have e4 : Leaf.std.ar .sub .i64 ((s - 257) / 4) 1 = (s - 257) / 4 - 1 := sub_i64 (by omega) (by omega)
  have e5 : Leaf.std.ar .add .i64 4 ((s - 257) % 4) = 4 + (s - 257) % 4 := add_i64 (by omega) (by omega)
  obtain ⟨e6, h6, h7⟩ := shl_small (a := 4 + (s - 257) % 4) (b := (s - 257) / 4 - 1) (by omega) (by omega) (by omega) (by omega)
  have hp : (2 : Nat) ^ ((s - 257) / 4 - 1).toNat ≤ 2 ^ 5 := Nat.pow_le_pow_right (by decide) (by omega)
  have e : (2 : Int) ^ ((s - 257) / 4 - 1).toNat = ((2 ^ ((s - 257) / 4 - 1).toNat : Nat) : Int) := by simp
  have h8 : (4 + (s - 257) % 4) * 2 ^ ((s - 257) / 4 - 1).toNat ≤ 7 * 32 := by
    rw [e]
    exact Int.mul_le_mul (by omega) (by omega) (Int.natCast_nonneg _) (by omega)
  have e7 : Leaf.std.ar .add .i64 3 ((4 + (s - 257) % 4) * 2 ^ ((s - 257) / 4 - 1).toNat) = 3 + (4 + (s - 257) % 4) * 2 ^ ((s - 257) / 4 - 1).toNat := add_i64 (by omega) (by omega)
  refine ⟨?_, ?_⟩
  · rw [e1, e2, e4]; show (0 : Int) ≤ _; omega
  · rw [e1, e2, e3, e4, e5, e6, e7]
    refine .inl ⟨rfl, by omega, by omega, by omega, by omega, ?_⟩
    unfold lenR
    rw [if_neg (by omega), if_neg (by omega), if_neg (by omega)]
theorem length_ok (s : Int) : FOK Try.prog C1 40 (fun _ => true) [.int .i64 s] []
    (fun rs H => ∃ base extra ok, rs = [.int .i64 base, .int .i64 extra, .bool (.e ok)] ∧ H = [] ∧ LngIs s base extra ok) := by
  refine fok_of (B := ⟨lookT tis, fun _ => true, []⟩) (tab1 _) (zero1 _) cod1 mix1 Try.func40 (by kernel_rfl) rfl rfl rfl fun X F => ?_
  obtain ⟨A, hA⟩ : ∃ A, A = Leaf.std := ⟨_, rfl⟩
  refine F.hold hA 2000 ?_
  cbv
  repeat (first
    | refine OK.drawn (by decide +kernel) ?_
    | refine OK.tree ⟨lookT tis, fun _ => true, []⟩ (by decide +kernel) ?_
    | refine OK.need (by first | assumption | (rw [hA]; first | (show (_ : Int) ≠ _; decide) | (show (0 : Int) ≤ _; decide) | (show (0 : Int) ≤ _ ∧ _ < (256 : Int); decide))) ?_
    | (refine F.hold hA 2000 ?_; cbv))
  refine OK.branch (fun h1 => ?_) (fun h1 => ?_)
  · repeat (first
      | refine OK.drawn (by decide +kernel) ?_
      | refine OK.tree ⟨lookT tis, fun _ => true, []⟩ (by decide +kernel) ?_
      | refine OK.need (by first | assumption | (rw [hA]; first | (show (_ : Int) ≠ _; decide) | (show (0 : Int) ≤ _; decide) | (show (0 : Int) ≤ _ ∧ _ < (256 : Int); decide))) ?_
      | (refine F.hold hA 2000 ?_; cbv))
    refine F.retE rfl ⟨_, _, _, rfl, rfl, .inr ⟨rfl, rfl, rfl, ?_⟩⟩
    subst hA
    have h1 : s < 257 := of_decide_eq_true h1
    unfold lenR; rw [if_pos (by omega)]
  repeat (first
    | refine OK.drawn (by decide +kernel) ?_
    | refine OK.tree ⟨lookT tis, fun _ => true, []⟩ (by decide +kernel) ?_
    | refine OK.need (by first | assumption | (rw [hA]; first | (show (_ : Int) ≠ _; decide) | (show (0 : Int) ≤ _; decide) | (show (0 : Int) ≤ _ ∧ _ < (256 : Int); decide))) ?_
    | (refine F.hold hA 2000 ?_; cbv))
  refine OK.branch (fun h2 => ?_) (fun h2 => ?_)
  · repeat (first
      | refine OK.drawn (by decide +kernel) ?_
      | refine OK.tree ⟨lookT tis, fun _ => true, []⟩ (by decide +kernel) ?_
      | refine OK.need (by first | assumption | (rw [hA]; first | (show (_ : Int) ≠ _; decide) | (show (0 : Int) ≤ _; decide) | (show (0 : Int) ≤ _ ∧ _ < (256 : Int); decide))) ?_
      | (refine F.hold hA 2000 ?_; cbv))
    refine F.retE rfl ⟨_, _, _, rfl, rfl, .inr ⟨rfl, rfl, rfl, ?_⟩⟩
    subst hA
    have h2 : (285 : Int) < s := of_decide_eq_true h2
    unfold lenR; rw [if_pos (by omega)]
  repeat (first
    | refine OK.drawn (by decide +kernel) ?_
    | refine OK.tree ⟨lookT tis, fun _ => true, []⟩ (by decide +kernel) ?_
    | refine OK.need (by first | assumption | (rw [hA]; first | (show (_ : Int) ≠ _; decide) | (show (0 : Int) ≤ _; decide) | (show (0 : Int) ≤ _ ∧ _ < (256 : Int); decide))) ?_
    | (refine F.hold hA 2000 ?_; cbv))
  refine OK.branch (fun h3 => ?_) (fun h3 => ?_)
  · repeat (first
      | refine OK.drawn (by decide +kernel) ?_
      | refine OK.tree ⟨lookT tis, fun _ => true, []⟩ (by decide +kernel) ?_
      | refine OK.need (by first | assumption | (rw [hA]; first | (show (_ : Int) ≠ _; decide) | (show (0 : Int) ≤ _; decide) | (show (0 : Int) ≤ _ ∧ _ < (256 : Int); decide))) ?_
      | (refine F.hold hA 2000 ?_; cbv))
    refine F.retE rfl ⟨_, _, _, rfl, rfl, .inl ⟨rfl, by decide, by decide, by decide, by decide, ?_⟩⟩
    subst hA
    have h3 : (s == 285) = true := h3
    have h3 : s = 285 := by simpa using h3
    subst h3; rfl
  repeat (first
    | refine OK.drawn (by decide +kernel) ?_
    | refine OK.tree ⟨lookT tis, fun _ => true, []⟩ (by decide +kernel) ?_
    | refine OK.need (by first | assumption | (rw [hA]; first | (show (_ : Int) ≠ _; decide) | (show (0 : Int) ≤ _; decide) | (show (0 : Int) ≤ _ ∧ _ < (256 : Int); decide))) ?_
    | (refine F.hold hA 2000 ?_; cbv))
  refine OK.branch (fun h4 => ?_) (fun h4 => ?_)
  · repeat (first
      | refine OK.drawn (by decide +kernel) ?_
      | refine OK.tree ⟨lookT tis, fun _ => true, []⟩ (by decide +kernel) ?_
      | refine OK.need (by first | assumption | (rw [hA]; first | (show (_ : Int) ≠ _; decide) | (show (0 : Int) ≤ _; decide) | (show (0 : Int) ≤ _ ∧ _ < (256 : Int); decide))) ?_
      | (refine F.hold hA 2000 ?_; cbv))
    refine F.retE rfl ⟨_, _, _, rfl, rfl, ?_⟩
    subst hA
    have h1 : ¬ s < 257 := of_decide_eq_false h1
    have h4 : s < 265 := of_decide_eq_true h4
    have e1 : Leaf.std.ar .sub .i64 s 257 = s - 257 := sub_i64 (by omega) (by omega)
    have e2 : Leaf.std.ar .add .i64 (s - 257) 3 = s - 254 := by
      have := add_i64 (a := s - 257) (b := 3) (by omega) (by omega)
      rw [this]; omega
    have e3 : Leaf.std.ar .add .i64 (Leaf.std.ar .sub .i64 s 257) 3 = s - 254 := by rw [e1, e2]
    refine (congrArg (fun x => LngIs s x 0 true) e3).mpr (.inl ⟨rfl, by decide, by decide, by omega, by omega, ?_⟩)
    unfold lenR
    rw [if_neg (by omega), if_neg (by omega), if_pos (by omega)]
    rfl
  have hq := lngA hA h2 h3 h4
  have q := hq.q
  repeat (first
    | refine OK.drawn (by decide +kernel) ?_
    | refine OK.tree ⟨lookT tis, fun _ => true, []⟩ (by decide +kernel) ?_
    | refine OK.need (by first | assumption | (rw [hA]; first | (show (_ : Int) ≠ _; decide) | (show (0 : Int) ≤ _; decide) | (show (0 : Int) ≤ _ ∧ _ < (256 : Int); decide))) ?_
    | (refine F.hold hA 2000 ?_; cbv))
  exact F.retE rfl ⟨_, _, _, rfl, rfl, hq.r⟩
structure DstA (A : Leaf) (s : Int) : Prop where
  q : A.nn (A.ar .sub .i64 (A.ar .quo .i64 s 2) 1)
  r : DstIs s (A.ar .add .i64 1 (A.ar .shl .i64 (A.ar .add .i64 2 (A.ar .rem .i64 s 2)) (A.ar .sub .i64 (A.ar .quo .i64 s 2) 1))) (A.ar .sub .i64 (A.ar .quo .i64 s 2) 1) true
theorem dstA {A : Leaf} {s : Int} (hA : A = .std) (h1 : A.cmp .gtr s 29 = false) (h3 : A.cmp .lss s 4 = false) : DstA A s := by
  subst hA
  have h1 : ¬ (29 : Int) < s := of_decide_eq_false h1
  have h3 : ¬ s < 4 := of_decide_eq_false h3
  have e2 : Leaf.std.ar .quo .i64 s 2 = s / 2 := by
    show LAr .quo .i64 _ 2 = _
    rw [l_quo_i64 (by omega) (by omega) (by omega)]
  have e3 : Leaf.std.ar .rem .i64 s 2 = s % 2 := by
    show LAr .rem .i64 _ 2 = _
    rw [l_rem (by omega)]
  have e4 : Leaf.std.ar .sub .i64 (s / 2) 1 = s / 2 - 1 := sub_i64 (by omega) (by omega)
  have e5 : Leaf.std.ar .add .i64 2 (s % 2) = 2 + s % 2 := add_i64 (by omega) (by omega)
  obtain ⟨e6, h6, h7⟩ := shl_small (a := 2 + s % 2) (b := s / 2 - 1) (by omega) (by omega) (by omega) (by omega)
  have hp : (2 : Nat) ^ (s / 2 - 1).toNat ≤ 2 ^ 13 := Nat.pow_le_pow_right (by decide) (by omega)
  have e : (2 : Int) ^ (s / 2 - 1).toNat = ((2 ^ (s / 2 - 1).toNat : Nat) : Int) := by simp
  have h8 : (2 + s % 2) * 2 ^ (s / 2 - 1).toNat ≤ 3 * 8192 := by
    rw [e]
    exact Int.mul_le_mul (by omega) (by omega) (Int.natCast_nonneg _) (by omega)
  have e7 : Leaf.std.ar .add .i64 1 ((2 + s % 2) * 2 ^ (s / 2 - 1).toNat) = 1 + (2 + s % 2) * 2 ^ (s / 2 - 1).toNat := add_i64 (by omega) (by omega)
  refine ⟨?_, ?_⟩
  · rw [e2, e4]; show (0 : Int) ≤ _; omega
  · rw [e2, e3, e4, e5, e6, e7]
    refine .inl ⟨rfl, by omega, by omega, by omega, by omega, ?_⟩
    unfold distR
    rw [if_neg (by omega), if_neg (by omega)]
theorem distance_ok (s : Int) : FOK Try.prog C1 42 (fun _ => true) [.int .i64 s] []
    (fun rs H => ∃ base extra ok, rs = [.int .i64 base, .int .i64 extra, .bool (.e ok)] ∧ H = [] ∧ DstIs s base extra ok) := by
  refine fok_of (B := ⟨lookT tis, fun _ => true, []⟩) (tab1 _) (zero1 _) cod1 mix1 Try.func42 (by kernel_rfl) rfl rfl rfl fun X F => ?_
  obtain ⟨A, hA⟩ : ∃ A, A = Leaf.std := ⟨_, rfl⟩
  refine F.hold hA 2000 ?_
  cbv
  repeat (first
    | refine OK.drawn (by decide +kernel) ?_
    | refine OK.tree ⟨lookT tis, fun _ => true, []⟩ (by decide +kernel) ?_
    | refine OK.need (by first | assumption | (rw [hA]; first | (show (_ : Int) ≠ _; decide) | (show (0 : Int) ≤ _; decide) | (show (0 : Int) ≤ _ ∧ _ < (256 : Int); decide))) ?_
    | (refine F.hold hA 2000 ?_; cbv))
  refine OK.branch (fun h1 => ?_) (fun h1 => ?_)
  · repeat (first
      | refine OK.drawn (by decide +kernel) ?_
      | refine OK.tree ⟨lookT tis, fun _ => true, []⟩ (by decide +kernel) ?_
      | refine OK.need (by first | assumption | (rw [hA]; first | (show (_ : Int) ≠ _; decide) | (show (0 : Int) ≤ _; decide) | (show (0 : Int) ≤ _ ∧ _ < (256 : Int); decide))) ?_
      | (refine F.hold hA 2000 ?_; cbv))
    refine F.retE rfl ⟨_, _, _, rfl, rfl, .inr ⟨rfl, rfl, rfl, ?_⟩⟩
    subst hA
    have h1 : s < 0 := of_decide_eq_true h1
    unfold distR; rw [if_pos (by omega)]
  repeat (first
    | refine OK.drawn (by decide +kernel) ?_
    | refine OK.tree ⟨lookT tis, fun _ => true, []⟩ (by decide +kernel) ?_
    | refine OK.need (by first | assumption | (rw [hA]; first | (show (_ : Int) ≠ _; decide) | (show (0 : Int) ≤ _; decide) | (show (0 : Int) ≤ _ ∧ _ < (256 : Int); decide))) ?_
    | (refine F.hold hA 2000 ?_; cbv))
  refine OK.branch (fun h2 => ?_) (fun h2 => ?_)
  · repeat (first
      | refine OK.drawn (by decide +kernel) ?_
      | refine OK.tree ⟨lookT tis, fun _ => true, []⟩ (by decide +kernel) ?_
      | refine OK.need (by first | assumption | (rw [hA]; first | (show (_ : Int) ≠ _; decide) | (show (0 : Int) ≤ _; decide) | (show (0 : Int) ≤ _ ∧ _ < (256 : Int); decide))) ?_
      | (refine F.hold hA 2000 ?_; cbv))
    refine F.retE rfl ⟨_, _, _, rfl, rfl, .inr ⟨rfl, rfl, rfl, ?_⟩⟩
    subst hA
    have h2 : (29 : Int) < s := of_decide_eq_true h2
    unfold distR; rw [if_pos (by omega)]
  repeat (first
    | refine OK.drawn (by decide +kernel) ?_
    | refine OK.tree ⟨lookT tis, fun _ => true, []⟩ (by decide +kernel) ?_
    | refine OK.need (by first | assumption | (rw [hA]; first | (show (_ : Int) ≠ _; decide) | (show (0 : Int) ≤ _; decide) | (show (0 : Int) ≤ _ ∧ _ < (256 : Int); decide))) ?_
    | (refine F.hold hA 2000 ?_; cbv))
  refine OK.branch (fun h4 => ?_) (fun h4 => ?_)
  · repeat (first
      | refine OK.drawn (by decide +kernel) ?_
      | refine OK.tree ⟨lookT tis, fun _ => true, []⟩ (by decide +kernel) ?_
      | refine OK.need (by first | assumption | (rw [hA]; first | (show (_ : Int) ≠ _; decide) | (show (0 : Int) ≤ _; decide) | (show (0 : Int) ≤ _ ∧ _ < (256 : Int); decide))) ?_
      | (refine F.hold hA 2000 ?_; cbv))
    refine F.retE rfl ⟨_, _, _, rfl, rfl, ?_⟩
    subst hA
    have h1 : ¬ s < 0 := of_decide_eq_false h1
    have h4 : s < 4 := of_decide_eq_true h4
    have e3 : Leaf.std.ar .add .i64 s 1 = s + 1 := add_i64 (by omega) (by omega)
    refine (congrArg (fun x => DstIs s x 0 true) e3).mpr (.inl ⟨rfl, by decide, by decide, by omega, by omega, ?_⟩)
    unfold distR
    rw [if_neg (by omega), if_pos (by omega)]
    rfl
  have hq := dstA hA h2 h4
  have q := hq.q
  repeat (first
    | refine OK.drawn (by decide +kernel) ?_
    | refine OK.tree ⟨lookT tis, fun _ => true, []⟩ (by decide +kernel) ?_
    | refine OK.need (by first | assumption | (rw [hA]; first | (show (_ : Int) ≠ _; decide) | (show (0 : Int) ≤ _; decide) | (show (0 : Int) ≤ _ ∧ _ < (256 : Int); decide))) ?_
    | (refine F.hold hA 2000 ?_; cbv))
  exact F.retE rfl ⟨_, _, _, rfl, rfl, hq.r⟩
end Go.L1

-- D4
namespace Go.L1
open Go Go.Sx Go.Proofs Go.Huff
set_option maxRecDepth 20000
set_option linter.unusedVariables false
set_option linter.unusedSimpArgs false
def StorIs (xs : List UInt8) (lim p : Int) (out : List UInt8) (k p' : Int) (out' : List UInt8) (k' : Int) : Prop := ∃ n, storedR xs lim p out = .ok (p', out', n) ∧ k' = k + n
structure KOK (p k : Int) : Prop where
  lo : 0 ≤ k
  hi : k ≤ p
theorem UpIs.eq {p p1 : Int} (h : UpIs p p1) : p1 = 8 * ((p + 7) / 8) := by unfold UpIs at h; omega
theorem stor1 {xs out : List UInt8} {lim p p1 e : Int} (h1 : UpIs p p1) (h : numR xs p1 16 = .error e) : storedR xs lim p out = .error e := by
  rw [h1.eq] at h
  simp only [storedR, bind, Except.bind, h]
theorem stor2 {xs out : List UInt8} {lim p p1 n p2 e : Int} (h1 : UpIs p p1) (h2 : NumIs xs p1 16 n p2) (h : numR xs p2 16 = .error e) : storedR xs lim p out = .error e := by
  unfold NumIs at h2
  rw [h1.eq] at h2
  simp only [storedR, bind, Except.bind, h, h2]
theorem stor3 {xs out : List UInt8} {lim p p1 n p2 t p3 : Int} (h1 : UpIs p p1) (h2 : NumIs xs p1 16 n p2) (h3 : NumIs xs p2 16 t p3) (h : n + t ≠ 65535) : storedR xs lim p out = .error 10 := by
  unfold NumIs at h2 h3
  rw [h1.eq] at h2
  simp only [storedR, bind, Except.bind, h3, h2, if_neg h]
theorem stor4 {xs out : List UInt8} {lim p p1 n p2 t p3 : Int} (h1 : UpIs p p1) (h2 : NumIs xs p1 16 n p2) (h3 : NumIs xs p2 16 t p3) (h4 : n + t = 65535) (h : ¬ n ≤ xs.length - (p3 + 7) / 8) : storedR xs lim p out = .error 15 := by
  unfold NumIs at h2 h3
  rw [h1.eq] at h2
  simp only [storedR, bind, Except.bind, h3, h2, if_pos h4, if_neg h]
theorem stor5 {xs out : List UInt8} {lim p p1 n p2 t p3 e : Int} (h1 : UpIs p p1) (h2 : NumIs xs p1 16 n p2) (h3 : NumIs xs p2 16 t p3) (h4 : n + t = 65535) (h5 : n ≤ xs.length - (p3 + 7) / 8) (h : roomR lim out n = .error e) : storedR xs lim p out = .error e := by
  unfold NumIs at h2 h3
  rw [h1.eq] at h2
  simp only [storedR, bind, Except.bind, h3, h2, if_pos h4, if_pos h5, h]
theorem stor6 {xs out : List UInt8} {lim p p1 n p2 t p3 : Int} (h1 : UpIs p p1) (h2 : NumIs xs p1 16 n p2) (h3 : NumIs xs p2 16 t p3) (h4 : n + t = 65535) (h5 : n ≤ xs.length - (p3 + 7) / 8) (h : roomR lim out n = .ok ()) : storedR xs lim p out = .ok (8 * ((p3 + 7) / 8 + n), out ++ (xs.drop ((p3 + 7) / 8).toNat).take n.toNat, n) := by
  unfold NumIs at h2 h3
  rw [h1.eq] at h2
  simp only [storedR, bind, Except.bind, h3, h2, if_pos h4, if_pos h5, h]
theorem UpIs.ins {xs : List UInt8} {p p1 : Int} (h : UpIs p p1) (hs : InS xs p) : InS xs p1 := by
  have := h.eq
  obtain ⟨⟨⟨a, b, c⟩, d⟩, e⟩ := hs
  exact ⟨⟨⟨a, by omega, by omega⟩, by omega⟩, e⟩
theorem InS.pos {xs : List UInt8} {p : Int} (h : InS xs p) : PosOK p := ⟨h.rd.rd.lo, h.rd.rd.hi⟩
theorem xor_ones {a : Nat} (h : a < 65536) : a ^^^ 65535 = 65535 - a := by
  have := congrArg BitVec.toNat (BitVec.xor_allOnes (x := BitVec.ofNat 16 a))
  simp only [BitVec.toNat_xor, BitVec.toNat_not, BitVec.toNat_allOnes, BitVec.toNat_ofNat] at this
  rwa [Nat.mod_eq_of_lt (show a < 2 ^ 16 from h)] at this
theorem xor16 {n t : Int} (h1 : 0 ≤ n ∧ n < 65536) (h2 : 0 ≤ t ∧ t < 65536) : Leaf.std.ar .xor .i64 n t = 65535 ↔ n + t = 65535 := by
  obtain ⟨a, rfl⟩ : ∃ a : Nat, n = a := ⟨n.toNat, by omega⟩
  obtain ⟨b, rfl⟩ : ∃ b : Nat, t = b := ⟨t.toNat, by omega⟩
  have e : Leaf.std.ar .xor .i64 (a : Int) (b : Int) = ((a ^^^ b : Nat) : Int) := by
    show LAr .xor .i64 _ _ = _
    rw [l_xor_i64 (by omega) (by omega) (by omega) (by omega), Int.toNat_natCast, Int.toNat_natCast]
  rw [e]
  have hx := xor_ones (a := a) (by omega)
  constructor
  · intro h
    have h3 : a ^^^ b = 65535 := by omega
    have h4 : a ^^^ (a ^^^ b) = b := by rw [← Nat.xor_assoc, Nat.xor_self, Nat.zero_xor]
    rw [h3, hx] at h4
    omega
  · intro h
    have h3 : b = a ^^^ 65535 := by rw [hx]; omega
    rw [h3, ← Nat.xor_assoc, Nat.xor_self, Nat.zero_xor]
    rfl
structure ByG (xs : List UInt8) (p3 n : Int) (ys : List UInt8) (p4 : Int) : Prop where
  le : n ≤ xs.length - (p3 + 7) / 8
  p : p4 = 8 * ((p3 + 7) / 8 + n)
  y : ys = (xs.drop ((p3 + 7) / 8).toNat).take n.toNat
theorem byG {xs ys : List UInt8} {p3 n p4 : Int} {r : Bool} (h0 : 0 ≤ n) (h : BytesRes xs p3 n ys r p4) : (ebool (.e r) = true → ByG xs p3 n ys p4) ∧ (ebool (.e r) = false → ¬ n ≤ xs.length - (p3 + 7) / 8) := by
  rcases h with ⟨rfl, _, a, b, c⟩ | ⟨rfl, a, _⟩
  · exact ⟨fun _ => ⟨a, b, c⟩, fun h => by cases h⟩
  · exact ⟨fun h => (by cases h), fun _ hh => a ⟨h0, hh⟩⟩
structure StorF (A : Leaf) (xs out ys : List UInt8) (lim p k n p4 : Int) : Prop where
  sm : A.small (A.len (A.app out ys)) 1
  r : StorIs xs lim p out k p4 (A.app out ys) (A.ar .add .i64 k n)
theorem storF {A : Leaf} {xs out ys : List UInt8} {lim p p1 n p2 t p3 k p4 : Int} (hA : A = .std) (hl : LimOK lim out) (hs : InS xs p) (hk : KOK p k) (hp1 : UpIs p p1) (hn : NumIs xs p1 16 n p2) (ht : NumIs xs p2 16 t p3) (h65 : n + t = 65535) (hy : ByG xs p3 n ys p4) (hr : roomR lim out n = .ok ()) : StorF A xs out ys lim p k n p4 := by
  obtain ⟨a, b, c⟩ := hl
  obtain ⟨n0, n1, _⟩ := hn.val
  obtain ⟨k0, k1⟩ := hk
  obtain ⟨⟨⟨d1, d2, d3⟩, d4⟩, d5⟩ := hs
  have h6 := stor6 hp1 hn ht h65 hy.le hr
  unfold roomR at hr
  split at hr
  · rename_i hr1
    subst hA
    have hyl : ys.length ≤ n.toNat := by rw [hy.y, List.length_take]; omega
    refine ⟨?_, n, ?_, add_i64 (by omega) (by omega)⟩
    · have e : Leaf.std.len (Leaf.std.app out ys) = ((out.length + ys.length : Nat) : Int) := by
        show (((out ++ ys).length : Nat) : Int) = _
        rw [List.length_append]
      rw [e]
      show (0 : Int) ≤ _ ∧ _ ≤ (140737488355328 : Int) ∧ _ * ((1 : Nat) : Int) ≤ (140737488355328 : Int)
      omega
    · rw [h6, hy.p, hy.y]; rfl
  · cases hr
structure StB (A : Leaf) (n t : Int) : Prop where
  a : ebool (.e (A.cmp .eql (A.ar .xor .i64 n t) 65535)) = false → n + t ≠ 65535
  b : ebool (.e (A.cmp .eql (A.ar .xor .i64 n t) 65535)) = true → n + t = 65535
theorem stB {A : Leaf} {xs : List UInt8} {p1 n p2 t p3 : Int} (hA : A = .std) (h2 : NumIs xs p1 16 n p2) (h3 : NumIs xs p2 16 t p3) : StB A n t := by
  obtain ⟨a1, a2, _⟩ := h2.val
  obtain ⟨b1, b2, _⟩ := h3.val
  have h := xor16 ⟨a1, by omega⟩ ⟨b1, by omega⟩
  subst hA
  refine ⟨fun hh hn => ?_, fun hh => ?_⟩
  · have hh : (Leaf.std.ar .xor .i64 n t == 65535) = false := hh
    rw [h.2 hn] at hh
    cases hh
  · have hh : (Leaf.std.ar .xor .i64 n t == 65535) = true := hh
    exact h.1 (by simpa using hh)
theorem storedI_ok (xs out : List UInt8) (lim u k b p : Int) (hs : InS xs p) (hl : LimOK lim out) (hk : KOK p k) :
    FOKp Try.prog C1 67 (fun c => Nat.ble c 1) [.ptr 0 0] [.cells 98 [.ptr 1 0, .int .i64 lim, .own 2, .int .i64 u, .int .i64 k, .int .i64 b], .cells 82 [.ro (.bytes xs), .int .i64 p], .row 5 (.bytes out)]
    (fun rs H => ∃ p' out' k', rs = [] ∧ H = [.cells 98 [.ptr 1 0, .int .i64 lim, .own 2, .int .i64 u, .int .i64 k', .int .i64 b], .cells 82 [.ro (.bytes xs), .int .i64 p'], .row 5 (.bytes out')] ∧ StorIs xs lim p out k p' out' k')
    (fun ch => ∃ e, storedR xs lim p out = .error e ∧ Flt e ch) := by
  refine fokp_of (B := ⟨lookT tis, fun c => Nat.ble c 1, []⟩) (tab1 _) (zero1 _) cod1 mix1 Try.func67 (by kernel_rfl) rfl rfl rfl fun X F hX => ?_
  obtain ⟨A, hA⟩ : ∃ A, A = Leaf.std := ⟨_, rfl⟩
  refine F.hold hA 2000 ?_
  cbv
  repeat (first
    | refine OK.drawn (by decide +kernel) ?_
    | refine OK.tree ⟨lookT tis, fun _ => true, []⟩ (by decide +kernel) ?_
    | refine OK.need (by first | assumption | (rw [hA]; first | (show (_ : Int) ≠ _; decide) | (show (0 : Int) ≤ _; decide) | (show (0 : Int) ≤ _ ∧ _ < (256 : Int); decide))) ?_
    | (refine F.hold hA 2000 ?_; cbv))
  refine F.call [1] (rdAlign_ok xs p hs.pos) rfl rfl rfl fun rs H' hq => ?_
  obtain ⟨p1, rfl, rfl, hp1⟩ := hq
  refine ⟨rfl, ?_⟩
  have hs1 := hp1.ins hs
  repeat (first
    | refine OK.drawn (by decide +kernel) ?_
    | refine OK.tree ⟨lookT tis, fun _ => true, []⟩ (by decide +kernel) ?_
    | refine OK.need (by first | assumption | (rw [hA]; first | (show (_ : Int) ≠ _; decide) | (show (0 : Int) ≤ _; decide) | (show (0 : Int) ≤ _ ∧ _ < (256 : Int); decide))) ?_
    | (refine F.hold hA 2000 ?_; cbv))
  refine F.callp [0, 1, 2] (number_ok xs out lim u k b p1 16 rfl hs1) rfl rfl rfl (fun ch hch => ?_) (fun rs H' hq => ?_)
  · rw [hX]; obtain ⟨e, he, hf⟩ := hch
    exact ⟨e, stor1 hp1 he, hf⟩
  obtain ⟨n, p2, rfl, rfl, hn⟩ := hq
  have hs2 := hn.ins hs1
  refine ⟨rfl, ?_⟩
  repeat (first
    | refine OK.drawn (by decide +kernel) ?_
    | refine OK.tree ⟨lookT tis, fun _ => true, []⟩ (by decide +kernel) ?_
    | refine OK.need (by first | assumption | (rw [hA]; first | (show (_ : Int) ≠ _; decide) | (show (0 : Int) ≤ _; decide) | (show (0 : Int) ≤ _ ∧ _ < (256 : Int); decide))) ?_
    | (refine F.hold hA 2000 ?_; cbv))
  refine F.callp [0, 1, 2] (number_ok xs out lim u k b p2 16 rfl hs2) rfl rfl rfl (fun ch hch => ?_) (fun rs H' hq => ?_)
  · rw [hX]; obtain ⟨e, he, hf⟩ := hch
    exact ⟨e, stor2 hp1 hn he, hf⟩
  obtain ⟨t, p3, rfl, rfl, ht⟩ := hq
  have hs3 := ht.ins hs2
  have hB := stB hA hn ht
  refine ⟨rfl, ?_⟩
  repeat (first
    | refine OK.drawn (by decide +kernel) ?_
    | refine OK.tree ⟨lookT tis, fun _ => true, []⟩ (by decide +kernel) ?_
    | refine OK.need (by first | assumption | (rw [hA]; first | (show (_ : Int) ≠ _; decide) | (show (0 : Int) ≤ _; decide) | (show (0 : Int) ≤ _ ∧ _ < (256 : Int); decide))) ?_
    | (refine F.hold hA 2000 ?_; cbv))
  refine F.callp [] (need_ok _ _) rfl rfl rfl (fun ch hch => ?_) (fun rs H' hq => ?_)
  · rw [hX]
    exact ⟨_, stor3 hp1 hn ht (hB.a hch.1), hch.2⟩
  obtain ⟨rfl, rfl, hr⟩ := hq
  have h65 := hB.b hr
  clear hr hB
  refine ⟨rfl, ?_⟩
  repeat (first
    | refine OK.drawn (by decide +kernel) ?_
    | refine OK.tree ⟨lookT tis, fun _ => true, []⟩ (by decide +kernel) ?_
    | refine OK.need (by first | assumption | (rw [hA]; first | (show (_ : Int) ≠ _; decide) | (show (0 : Int) ≤ _; decide) | (show (0 : Int) ≤ _ ∧ _ < (256 : Int); decide))) ?_
    | (refine F.hold hA 2000 ?_; cbv))
  refine F.call [1] (bytes_ok xs p3 n hs3.pre) rfl rfl rfl fun rs H' hq => ?_
  obtain ⟨ys, r, p4, rfl, rfl, hy⟩ := hq
  refine ⟨rfl, ?_⟩
  have hyb := byG hn.val.1 hy
  clear hy
  repeat (first
    | refine OK.drawn (by decide +kernel) ?_
    | refine OK.tree ⟨lookT tis, fun _ => true, []⟩ (by decide +kernel) ?_
    | refine OK.need (by first | assumption | (rw [hA]; first | (show (_ : Int) ≠ _; decide) | (show (0 : Int) ≤ _; decide) | (show (0 : Int) ≤ _ ∧ _ < (256 : Int); decide))) ?_
    | (refine F.hold hA 2000 ?_; cbv))
  refine F.callFrz 3 rfl rfl rfl rfl ?_
  refine F.callp [] (need_ok _ _) rfl rfl rfl (fun ch hch => ?_) (fun rs H' hq => ?_)
  · rw [hX]
    exact ⟨_, stor4 hp1 hn ht h65 (hyb.2 hch.1), hch.2⟩
  obtain ⟨rfl, rfl, hr⟩ := hq
  have hy := hyb.1 hr
  clear hr hyb
  refine ⟨rfl, ?_⟩
  repeat (first
    | refine OK.drawn (by decide +kernel) ?_
    | refine OK.tree ⟨lookT tis, fun _ => true, []⟩ (by decide +kernel) ?_
    | refine OK.need (by first | assumption | (rw [hA]; first | (show (_ : Int) ≠ _; decide) | (show (0 : Int) ≤ _; decide) | (show (0 : Int) ≤ _ ∧ _ < (256 : Int); decide))) ?_
    | (refine F.hold hA 2000 ?_; cbv))
  refine F.callp [0, 1, 2] (roomI_ok xs out lim u k b p4 n hl) rfl rfl rfl (fun ch hch => ?_) (fun rs H' hq => ?_)
  · rw [hX]; obtain ⟨e, he, hf⟩ := hch
    exact ⟨_, stor5 hp1 hn ht h65 hy.le he, hf⟩
  obtain ⟨rfl, rfl, hr⟩ := hq
  have hF := storF hA hl hs hk hp1 hn ht h65 hy hr
  have q1 := hF.sm
  refine ⟨rfl, ?_⟩
  repeat (first
    | refine OK.drawn (by decide +kernel) ?_
    | refine OK.tree ⟨lookT tis, fun _ => true, []⟩ (by decide +kernel) ?_
    | refine OK.need (by first | assumption | (rw [hA]; first | (show (_ : Int) ≠ _; decide) | (show (0 : Int) ≤ _; decide) | (show (0 : Int) ≤ _ ∧ _ < (256 : Int); decide))) ?_
    | (refine F.hold hA 2000 ?_; cbv))
  exact F.ret (rs' := []) (H' := [_, _, _]) (F.cv ⟨rfl⟩ (.nil _) (.eq rfl (.eq rfl (.eq rfl (.nil _))))) rfl ⟨_, _, _, rfl, rfl, hF.r⟩
end Go.L1

-- D5
namespace Go.L1
open Go Go.Sx Go.Proofs Go.Huff
set_option maxRecDepth 20000
set_option linter.unusedVariables false
set_option linter.unusedSimpArgs false
theorem number_okN (xs out : List UInt8) (lim u k b p N : Int) (h0 : 0 ≤ N) (h1 : N ≤ 32) (hs : InS xs p) :
    FOKp Try.prog C1 66 (fun _ => true) [.ptr 0 0, .int .i64 N] [.cells 98 [.ptr 1 0, .int .i64 lim, .own 2, .int .i64 u, .int .i64 k, .int .i64 b], .cells 82 [.ro (.bytes xs), .int .i64 p], .row 5 (.bytes out)]
    (fun rs H => ∃ v p', rs = [.int .i64 v] ∧ H = [.cells 98 [.ptr 1 0, .int .i64 lim, .own 2, .int .i64 u, .int .i64 k, .int .i64 b], .cells 82 [.ro (.bytes xs), .int .i64 p'], .row 5 (.bytes out)] ∧ NumIs xs p N.toNat v p')
    (fun ch => ∃ e, numR xs p N.toNat = .error e ∧ Flt e ch) := by
  obtain ⟨n, rfl⟩ : ∃ n : Nat, N = n := ⟨N.toNat, by omega⟩
  rw [Int.toNat_natCast]
  exact number_ok xs out lim u k b p n (Nat.ble_eq_true_of_le (by omega)) hs
structure LngG (s base extra : Int) : Prop where
  e0 : 0 ≤ extra
  e1 : extra ≤ 5
  b0 : 3 ≤ base
  b1 : base ≤ 258
  r : lenR s = .ok (base, extra.toNat)
theorem lngG {s base extra : Int} {ok : Bool} (h : LngIs s base extra ok) : (ebool (.e ok) = true → LngG s base extra) ∧ (ebool (.e ok) = false → lenR s = .error 10) := by
  rcases h with ⟨rfl, a, b, c, d, e⟩ | ⟨rfl, _, _, h⟩
  · exact ⟨fun _ => ⟨a, b, c, d, e⟩, fun h => (by cases h)⟩
  · exact ⟨fun h => (by cases h), fun _ => h⟩
structure DstG (s base extra : Int) : Prop where
  e0 : 0 ≤ extra
  e1 : extra ≤ 13
  b0 : 1 ≤ base
  b1 : base ≤ 24577
  r : distR s = .ok (base, extra.toNat)
theorem dstG {s base extra : Int} {ok : Bool} (h : DstIs s base extra ok) : (ebool (.e ok) = true → DstG s base extra) ∧ (ebool (.e ok) = false → distR s = .error 10) := by
  rcases h with ⟨rfl, a, b, c, d, e⟩ | ⟨rfl, _, _, h⟩
  · exact ⟨fun _ => ⟨a, b, c, d, e⟩, fun h => (by cases h)⟩
  · exact ⟨fun h => (by cases h), fun _ => h⟩
theorem back2 {other : List Int} {xs out : List UInt8} {lim s p base extra e : Int} (h1 : LngG s base extra) (h : numR xs p extra.toNat = .error e) : backR other xs lim s p out = .error e := by
  simp only [backR, bind, Except.bind, h1.r, h]
theorem back3 {other : List Int} {xs out : List UInt8} {lim s p base extra x p1 e : Int} (h1 : LngG s base extra) (h2 : NumIs xs p extra.toNat x p1) (h : symR other xs p1 = .error e) : backR other xs lim s p out = .error e := by
  unfold NumIs at h2
  simp only [backR, bind, Except.bind, h1.r, h2, h]
theorem back4 {other : List Int} {xs out : List UInt8} {lim s p base extra x p1 d p2 e : Int} (h1 : LngG s base extra) (h2 : NumIs xs p extra.toNat x p1) (h3 : SymIs other xs p1 d p2) (h : distR d = .error e) : backR other xs lim s p out = .error e := by
  unfold NumIs at h2
  unfold SymIs at h3
  simp only [backR, bind, Except.bind, h1.r, h2, h3, h]
theorem back5 {other : List Int} {xs out : List UInt8} {lim s p base extra x p1 d p2 far more e : Int} (h1 : LngG s base extra) (h2 : NumIs xs p extra.toNat x p1) (h3 : SymIs other xs p1 d p2) (h4 : DstG d far more) (h : numR xs p2 more.toNat = .error e) : backR other xs lim s p out = .error e := by
  unfold NumIs at h2
  unfold SymIs at h3
  simp only [backR, bind, Except.bind, h1.r, h2, h3, h4.r, h]
structure BkAll (other : List Int) (xs : List UInt8) (s p base extra x p1 d p2 far more y p3 : Int) : Prop where
  h1 : LngG s base extra
  h2 : NumIs xs p extra.toNat x p1
  h3 : SymIs other xs p1 d p2
  h4 : DstG d far more
  h5 : NumIs xs p2 more.toNat y p3
theorem BkAll.eq {other : List Int} {xs out : List UInt8} {lim s p base extra x p1 d p2 far more y p3 : Int} (h : BkAll other xs s p base extra x p1 d p2 far more y p3) :
    backR other xs lim s p out = if far + y ≤ out.length then (do
      roomR lim out (base + x)
      .ok (p3, copyN (far + y).toNat (base + x).toNat out)) else .error 10 := by
  have h2 := h.h2
  have h3 := h.h3
  have h5 := h.h5
  unfold NumIs at h2 h5
  unfold SymIs at h3
  simp only [backR, bind, Except.bind, h.h1.r, h2, h3, h.h4.r, h5]
theorem BkAll.add {A : Leaf} {other : List Int} {xs : List UInt8} {s p base extra x p1 d p2 far more y p3 : Int} (hA : A = .std) (h : BkAll other xs s p base extra x p1 d p2 far more y p3) : A.ar .add .i64 base x = base + x ∧ A.ar .add .i64 far y = far + y ∧ 0 ≤ x ∧ x < 32 ∧ 0 ≤ y ∧ y < 8192 := by
  obtain ⟨a0, a1, a2, a3, _⟩ := h.h1
  obtain ⟨b0, b1, b2, b3, _⟩ := h.h4
  obtain ⟨c0, c1, _⟩ := h.h2.val
  obtain ⟨d0, d1, _⟩ := h.h5.val
  have e1 : (2 : Nat) ^ extra.toNat ≤ 2 ^ 5 := Nat.pow_le_pow_right (by decide) (by omega)
  have e2 : (2 : Nat) ^ more.toNat ≤ 2 ^ 13 := Nat.pow_le_pow_right (by decide) (by omega)
  have f1 : (2 : Int) ^ extra.toNat = ((2 ^ extra.toNat : Nat) : Int) := by simp
  have f2 : (2 : Int) ^ more.toNat = ((2 ^ more.toNat : Nat) : Int) := by simp
  subst hA
  exact ⟨add_i64 (by omega) (by omega), add_i64 (by omega) (by omega), c0, by omega, d0, by omega⟩
def BackIs (other : List Int) (xs : List UInt8) (lim s p : Int) (out : List UInt8) (p' : Int) (out' : List UInt8) : Prop := backR other xs lim s p out = .ok (p', out')
structure BkC (A : Leaf) (other : List Int) (xs out : List UInt8) (lim s p base x far y : Int) : Prop where
  a : ebool (.e (A.cmp .leq (A.ar .add .i64 far y) (A.len out))) = false → backR other xs lim s p out = .error 10
  b : ebool (.e (A.cmp .leq (A.ar .add .i64 far y) (A.len out))) = true → far + y ≤ out.length
theorem bkC {A : Leaf} {other : List Int} {xs out : List UInt8} {lim s p base extra x p1 d p2 far more y p3 : Int} (hA : A = .std) (h : BkAll other xs s p base extra x p1 d p2 far more y p3) : BkC A other xs out lim s p base x far y := by
  obtain ⟨e1, e2, _⟩ := h.add hA
  refine ⟨fun hh => ?_, fun hh => ?_⟩
  · rw [e2] at hh
    subst hA
    have hh : ¬ far + y ≤ (out.length : Int) := of_decide_eq_false hh
    rw [h.eq, if_neg hh]
  · rw [e2] at hh
    subst hA
    exact of_decide_eq_true (p := far + y ≤ (out.length : Int)) hh
theorem copyN_len (far : Nat) : ∀ (n : Nat) (out : List UInt8), (copyN far n out).length = out.length + n
  | 0, out => rfl
  | n + 1, out => by rw [copyN, copyN_len far n, List.length_append]; simp; omega
theorem copyN_succ (far : Nat) : ∀ (n : Nat) (out : List UInt8), copyN far (n + 1) out = copyN far n out ++ [(copyN far n out).getD ((copyN far n out).length - far) 0]
  | 0, out => rfl
  | n + 1, out => by rw [copyN, copyN_succ far n]; rfl
def CpInv (out : List UInt8) (far n : Nat) (w : Int × List UInt8) : Prop := ∃ j : Nat, w.1 = j ∧ j ≤ n ∧ w.2 = copyN far j out
structure BkD (A : Leaf) (other : List Int) (xs out : List UInt8) (lim s p base x far y p3 : Int) : Prop where
  n : A.ar .add .i64 base x = base + x
  f : A.ar .add .i64 far y = far + y
  n0 : 0 ≤ base + x
  f0 : 1 ≤ far + y
  f1 : far + y ≤ out.length
  l : out.length + (base + x) ≤ 1048576
  r : BackIs other xs lim s p out p3 (copyN (far + y).toNat (base + x).toNat out)
theorem bkD {A : Leaf} {other : List Int} {xs out : List UInt8} {lim s p base extra x p1 d p2 far more y p3 : Int} (hA : A = .std) (h : BkAll other xs s p base extra x p1 d p2 far more y p3) (hl : LimOK lim out) (h6 : far + y ≤ out.length) (hr : roomR lim out (A.ar .add .i64 base x) = .ok ()) : BkD A other xs out lim s p base x far y p3 := by
  obtain ⟨e1, e2, e3, e4, e5, e6⟩ := h.add hA
  rw [e1] at hr
  have b0 := h.h1.b0
  have c0 := h.h4.b0
  obtain ⟨l0, l1, l2⟩ := hl
  have hle : base + x ≤ lim - out.length := by
    unfold roomR at hr
    split at hr
    · assumption
    · cases hr
  refine ⟨e1, e2, by omega, by omega, h6, by omega, ?_⟩
  unfold BackIs
  rw [h.eq, if_pos h6]
  simp only [bind, Except.bind, hr]
structure CpAt (A : Leaf) (out o : List UInt8) (base x far y i : Int) : Prop where
  q1 : A.inb (A.ar .sub .i64 (A.len o) (A.ar .add .i64 far y)) (A.len o)
  q2 : A.isB (A.b2i (A.get 0 o (A.ar .sub .i64 (A.len o) (A.ar .add .i64 far y))))
  q3 : A.small (A.len (A.app o [A.i2b (A.b2i (A.get 0 o (A.ar .sub .i64 (A.len o) (A.ar .add .i64 far y))))])) 1
  nx : CpInv out (far + y).toNat (base + x).toNat (A.ar .add .i64 i 1, A.app o [A.i2b (A.b2i (A.get 0 o (A.ar .sub .i64 (A.len o) (A.ar .add .i64 far y))))])
  mu : (base + x - A.ar .add .i64 i 1).toNat < (base + x - i).toNat
theorem cpAt {A : Leaf} {other : List Int} {xs out o : List UInt8} {lim s p base x far y p3 i : Int} (hA : A = .std) (h : BkD A other xs out lim s p base x far y p3) (hI : CpInv out (far + y).toNat (base + x).toNat (i, o)) (b1 : A.cmp .lss i (A.ar .add .i64 base x) = true) : CpAt A out o base x far y i := by
  obtain ⟨e1, e2, n0, f0, f1, l, _⟩ := h
  rw [e1] at b1
  obtain ⟨j, k1, k2, k3⟩ := hI
  simp only at k1 k3
  subst hA k1
  have b1 : (j : Int) < base + x := of_decide_eq_true b1
  have ol : o.length = out.length + j := by rw [k3, copyN_len]
  have ea : Leaf.std.ar .add .i64 (j : Int) 1 = ((j + 1 : Nat) : Int) := by rw [add_i64 (by omega) (by omega)]; omega
  have es : Leaf.std.ar .sub .i64 (Leaf.std.len o) (far + y) = ((o.length - (far + y).toNat : Nat) : Int) := by
    have := sub_i64 (a := (o.length : Int)) (b := far + y) (by omega) (by omega)
    show Leaf.std.ar .sub .i64 (o.length : Int) (far + y) = _
    rw [this]; omega
  have eg : Leaf.std.get 0 o ((o.length - (far + y).toNat : Nat) : Int) = o.getD (o.length - (far + y).toNat) 0 := by show o.getD _ 0 = _; rw [Int.toNat_natCast]
  have eb : Leaf.std.i2b (Leaf.std.b2i (o.getD (o.length - (far + y).toNat) 0)) = o.getD (o.length - (far + y).toNat) 0 := by
    show UInt8.ofNat ((((o.getD (o.length - (far + y).toNat) 0).toNat : Nat) : Int)).toNat = _
    rw [Int.toNat_natCast, UInt8.ofNat_toNat]
  have hb := (o.getD (o.length - (far + y).toNat) 0).toNat_lt
  constructor
  · rw [e2, es]; show (0 : Int) ≤ _ ∧ _ < (o.length : Int); omega
  · rw [e2, es, eg]
    show (0 : Int) ≤ (((o.getD (o.length - (far + y).toNat) 0).toNat : Nat) : Int) ∧ (((o.getD (o.length - (far + y).toNat) 0).toNat : Nat) : Int) < (256 : Int); omega
  · rw [e2, es, eg, eb]
    have e : Leaf.std.len (Leaf.std.app o [o.getD (o.length - (far + y).toNat) 0]) = ((o.length + 1 : Nat) : Int) := by
      show (((o ++ [_]).length : Nat) : Int) = _
      rw [List.length_append]; rfl
    rw [e]
    show (0 : Int) ≤ _ ∧ _ ≤ (140737488355328 : Int) ∧ _ * ((1 : Nat) : Int) ≤ (140737488355328 : Int)
    omega
  · rw [e2, es, eg, eb, ea]
    refine ⟨j + 1, rfl, by omega, ?_⟩
    show o ++ [_] = _
    rw [copyN_succ, ← k3]
  · rw [ea]; omega
theorem cpFin {A : Leaf} {other : List Int} {xs out o : List UInt8} {lim s p base x far y p3 i : Int} (hA : A = .std) (h : BkD A other xs out lim s p base x far y p3) (hI : CpInv out (far + y).toNat (base + x).toNat (i, o)) (b1 : A.cmp .lss i (A.ar .add .i64 base x) = false) : BackIs other xs lim s p out p3 o := by
  have hr := h.r
  obtain ⟨e1, e2, n0, f0, f1, l, _⟩ := h
  rw [e1] at b1
  obtain ⟨j, k1, k2, k3⟩ := hI
  simp only at k1 k3
  subst hA k1
  have b1 : ¬ (j : Int) < base + x := of_decide_eq_false b1
  have : j = (base + x).toNat := by omega
  subst this
  rw [k3]; exact hr
theorem back_ok (xs out : List UInt8) (lim u k b p s : Int) (ls : List Int) (ws : List Pr) (fs cs ss os : List Int) (r : Int) (hc : CodeOK ls ws fs cs ss os r) (hs : InS xs p) (hl : LimOK lim out) :
    FOKp Try.prog C1 83 (fun c => Nat.beq c 0 || Nat.beq c 1 || Nat.beq c 3) [.ptr 0 0, .int .i64 s, .ptr 3 0] [.cells 98 [.ptr 1 0, .int .i64 lim, .own 2, .int .i64 u, .int .i64 k, .int .i64 b], .cells 82 [.ro (.bytes xs), .int .i64 p], .row 5 (.bytes out), .cells 78 [.ro (.recs 0 ws), .arr 16 (.ints .i64 fs), .arr 16 (.ints .i64 cs), .arr 16 (.ints .i64 ss), .ro (.ints .i64 os), .int .i64 r]]
    (fun rs H => ∃ p' out', rs = [] ∧ H = [.cells 98 [.ptr 1 0, .int .i64 lim, .own 2, .int .i64 u, .int .i64 k, .int .i64 b], .cells 82 [.ro (.bytes xs), .int .i64 p'], .row 5 (.bytes out'), .cells 78 [.ro (.recs 0 ws), .arr 16 (.ints .i64 fs), .arr 16 (.ints .i64 cs), .arr 16 (.ints .i64 ss), .ro (.ints .i64 os), .int .i64 r]] ∧ BackIs ls xs lim s p out p' out')
    (fun ch => ∃ e, backR ls xs lim s p out = .error e ∧ Flt e ch) := by
  refine fokp_of (B := ⟨lookT tis, fun c => Nat.beq c 0 || Nat.beq c 1 || Nat.beq c 3, []⟩) (tab1 _) (zero1 _) cod1 mix1 Try.func83 (by kernel_rfl) rfl rfl rfl fun X F hX => ?_
  obtain ⟨A, hA⟩ : ∃ A, A = Leaf.std := ⟨_, rfl⟩
  refine F.hold hA 2000 ?_
  cbv
  repeat (first
    | refine OK.drawn (by decide +kernel) ?_
    | refine OK.tree ⟨lookT tis, fun _ => true, []⟩ (by decide +kernel) ?_
    | refine OK.need (by first | assumption | (rw [hA]; first | (show (_ : Int) ≠ _; decide) | (show (0 : Int) ≤ _; decide) | (show (0 : Int) ≤ _ ∧ _ < (256 : Int); decide))) ?_
    | (refine F.hold hA 2000 ?_; cbv))
  refine F.call [] (length_ok s) rfl rfl rfl fun rs H' hq => ?_
  obtain ⟨base, extra, ok, rfl, rfl, hL⟩ := hq
  refine ⟨rfl, ?_⟩
  have hLg := lngG hL
  clear hL
  repeat (first
    | refine OK.drawn (by decide +kernel) ?_
    | refine OK.tree ⟨lookT tis, fun _ => true, []⟩ (by decide +kernel) ?_
    | refine OK.need (by first | assumption | (rw [hA]; first | (show (_ : Int) ≠ _; decide) | (show (0 : Int) ≤ _; decide) | (show (0 : Int) ≤ _ ∧ _ < (256 : Int); decide))) ?_
    | (refine F.hold hA 2000 ?_; cbv))
  refine F.callp [] (need_ok _ _) rfl rfl rfl (fun ch hch => ?_) (fun rs H' hq => ?_)
  · rw [hX]
    refine ⟨_, ?_, hch.2⟩
    simp only [backR, bind, Except.bind, hLg.2 hch.1]
  obtain ⟨rfl, rfl, hr⟩ := hq
  have h1 := hLg.1 hr
  clear hr hLg
  refine ⟨rfl, ?_⟩
  repeat (first
    | refine OK.drawn (by decide +kernel) ?_
    | refine OK.tree ⟨lookT tis, fun _ => true, []⟩ (by decide +kernel) ?_
    | refine OK.need (by first | assumption | (rw [hA]; first | (show (_ : Int) ≠ _; decide) | (show (0 : Int) ≤ _; decide) | (show (0 : Int) ≤ _ ∧ _ < (256 : Int); decide))) ?_
    | (refine F.hold hA 2000 ?_; cbv))
  refine F.callp [0, 1, 2] (number_okN xs out lim u k b p extra h1.e0 (by have := h1.e1; omega) hs) rfl rfl rfl (fun ch hch => ?_) (fun rs H' hq => ?_)
  · rw [hX]; obtain ⟨e, he, hf⟩ := hch
    exact ⟨e, back2 h1 he, hf⟩
  obtain ⟨x, p1, rfl, rfl, h2⟩ := hq
  have hs1 := h2.ins hs
  refine ⟨rfl, ?_⟩
  repeat (first
    | refine OK.drawn (by decide +kernel) ?_
    | refine OK.tree ⟨lookT tis, fun _ => true, []⟩ (by decide +kernel) ?_
    | refine OK.need (by first | assumption | (rw [hA]; first | (show (_ : Int) ≠ _; decide) | (show (0 : Int) ≤ _; decide) | (show (0 : Int) ≤ _ ∧ _ < (256 : Int); decide))) ?_
    | (refine F.hold hA 2000 ?_; cbv))
  refine F.callp [0, 1, 2, 3] (symbol_ok xs out lim u k b p1 ls ws fs cs ss os r hc hs1) rfl rfl rfl (fun ch hch => ?_) (fun rs H' hq => ?_)
  · rw [hX]; obtain ⟨e, he, hf⟩ := hch
    exact ⟨e, back3 h1 h2 he, hf⟩
  obtain ⟨d, p2, rfl, rfl, h3⟩ := hq
  have hs2 := h3.ins hs1
  refine ⟨rfl, ?_⟩
  repeat (first
    | refine OK.drawn (by decide +kernel) ?_
    | refine OK.tree ⟨lookT tis, fun _ => true, []⟩ (by decide +kernel) ?_
    | refine OK.need (by first | assumption | (rw [hA]; first | (show (_ : Int) ≠ _; decide) | (show (0 : Int) ≤ _; decide) | (show (0 : Int) ≤ _ ∧ _ < (256 : Int); decide))) ?_
    | (refine F.hold hA 2000 ?_; cbv))
  refine F.call [] (distance_ok d) rfl rfl rfl fun rs H' hq => ?_
  obtain ⟨far, more, ok2, rfl, rfl, hL⟩ := hq
  refine ⟨rfl, ?_⟩
  have hLg := dstG hL
  clear hL
  repeat (first
    | refine OK.drawn (by decide +kernel) ?_
    | refine OK.tree ⟨lookT tis, fun _ => true, []⟩ (by decide +kernel) ?_
    | refine OK.need (by first | assumption | (rw [hA]; first | (show (_ : Int) ≠ _; decide) | (show (0 : Int) ≤ _; decide) | (show (0 : Int) ≤ _ ∧ _ < (256 : Int); decide))) ?_
    | (refine F.hold hA 2000 ?_; cbv))
  refine F.callp [] (need_ok _ _) rfl rfl rfl (fun ch hch => ?_) (fun rs H' hq => ?_)
  · rw [hX]
    exact ⟨_, back4 h1 h2 h3 (hLg.2 hch.1), hch.2⟩
  obtain ⟨rfl, rfl, hr⟩ := hq
  have h4 := hLg.1 hr
  clear hr hLg
  refine ⟨rfl, ?_⟩
  repeat (first
    | refine OK.drawn (by decide +kernel) ?_
    | refine OK.tree ⟨lookT tis, fun _ => true, []⟩ (by decide +kernel) ?_
    | refine OK.need (by first | assumption | (rw [hA]; first | (show (_ : Int) ≠ _; decide) | (show (0 : Int) ≤ _; decide) | (show (0 : Int) ≤ _ ∧ _ < (256 : Int); decide))) ?_
    | (refine F.hold hA 2000 ?_; cbv))
  refine F.callp [0, 1, 2] (number_okN xs out lim u k b p2 more h4.e0 (by have := h4.e1; omega) hs2) rfl rfl rfl (fun ch hch => ?_) (fun rs H' hq => ?_)
  · rw [hX]; obtain ⟨e, he, hf⟩ := hch
    exact ⟨e, back5 h1 h2 h3 h4 he, hf⟩
  obtain ⟨y, p3, rfl, rfl, h5⟩ := hq
  have hall : BkAll ls xs s p base extra x p1 d p2 far more y p3 := ⟨h1, h2, h3, h4, h5⟩
  have hC := bkC (out := out) (lim := lim) hA hall
  refine ⟨rfl, ?_⟩
  repeat (first
    | refine OK.drawn (by decide +kernel) ?_
    | refine OK.tree ⟨lookT tis, fun _ => true, []⟩ (by decide +kernel) ?_
    | refine OK.need (by first | assumption | (rw [hA]; first | (show (_ : Int) ≠ _; decide) | (show (0 : Int) ≤ _; decide) | (show (0 : Int) ≤ _ ∧ _ < (256 : Int); decide))) ?_
    | (refine F.hold hA 2000 ?_; cbv))
  refine F.callp [] (need_ok _ _) rfl rfl rfl (fun ch hch => ?_) (fun rs H' hq => ?_)
  · rw [hX]
    exact ⟨_, hC.a hch.1, hch.2⟩
  obtain ⟨rfl, rfl, hr⟩ := hq
  have h6 := hC.b hr
  clear hr hC
  refine ⟨rfl, ?_⟩
  repeat (first
    | refine OK.drawn (by decide +kernel) ?_
    | refine OK.tree ⟨lookT tis, fun _ => true, []⟩ (by decide +kernel) ?_
    | refine OK.need (by first | assumption | (rw [hA]; first | (show (_ : Int) ≠ _; decide) | (show (0 : Int) ≤ _; decide) | (show (0 : Int) ≤ _ ∧ _ < (256 : Int); decide))) ?_
    | (refine F.hold hA 2000 ?_; cbv))
  refine F.callp [0, 1, 2] (roomI_ok xs out lim u k b p3 (A.ar .add .i64 base x) hl) rfl rfl rfl (fun ch hch => ?_) (fun rs H' hq => ?_)
  · rw [hX]; obtain ⟨e, he, hf⟩ := hch
    rw [(hall.add hA).1] at he
    refine ⟨e, ?_, hf⟩
    rw [hall.eq, if_pos h6]
    simp only [bind, Except.bind, he]
  obtain ⟨rfl, rfl, hr⟩ := hq
  have hD := bkD hA hall hl h6 hr
  clear hr
  refine ⟨rfl, ?_⟩
  repeat (first
    | refine OK.drawn (by decide +kernel) ?_
    | refine OK.tree ⟨lookT tis, fun _ => true, []⟩ (by decide +kernel) ?_
    | refine OK.need (by first | assumption | (rw [hA]; first | (show (_ : Int) ≠ _; decide) | (show (0 : Int) ≤ _; decide) | (show (0 : Int) ≤ _ ∧ _ < (256 : Int); decide))) ?_
    | (refine F.hold hA 2000 ?_; cbv))
  refine F.loop (V := Int × List UInt8) [0, 10, 52] (CpInv out (far + y).toNat (base + x).toNat) (fun w => (base + x - w.1).toNat) (fun w => [(53, .int .i64 w.1)]) (fun w => [(2, .row 5 (.bytes w.2))]) (_, _) (by cbv; repeat (first | exact WkH.nil _ | apply WkH.gone | refine WkH.eq rfl ?_)) (by cbv; repeat (first | apply WkL.any | exact WkL.nil _ | refine WkL.eq rfl ?_ | refine WkL.bool rfl ?_)) (by cbv; exact ⟨rfl⟩) ?_ ?_
  · exact ⟨0, rfl, Nat.zero_le _, rfl⟩
  rintro ⟨i, o⟩ hI Bk hBk
  repeat (first
    | refine OK.drawn (by decide +kernel) ?_
    | refine OK.tree ⟨lookT tis, fun _ => true, []⟩ (by decide +kernel) ?_
    | refine OK.need (by first | assumption | (rw [hA]; first | (show (_ : Int) ≠ _; decide) | (show (0 : Int) ≤ _; decide) | (show (0 : Int) ≤ _ ∧ _ < (256 : Int); decide))) ?_
    | (refine F.hold hA 2000 ?_; cbv))
  refine OK.branch (fun b1 => ?_) (fun b1 => ?_)
  · have hat := cpAt hA hD hI b1
    have q1 := hat.q1
    have q2 := hat.q2
    have q3 := hat.q3
    repeat' (first
      | refine OK.drawn (by decide +kernel) ?_
      | refine OK.tree ⟨lookT tis, fun _ => true, []⟩ (by decide +kernel) ?_
      | refine OK.both ?_ ?_
      | refine OK.need (by first | assumption | (rw [hA]; first | (show (_ : Int) ≠ _; decide) | (show (0 : Int) ≤ _; decide) | (show (0 : Int) ≤ _ ∧ _ < (256 : Int); decide))) ?_
      | refine OK.need ?_ ?_
      | (refine OK.branch ?_ ?_ <;> intro h)
      | (refine F.hold hA 2000 ?_; cbv))
    all_goals
      refine OK.back (hBk _ _ (_, _) (by cbv; repeat (first | exact WkH.nil _ | apply WkH.gone | refine WkH.eq rfl ?_)) (by cbv; repeat (first | apply WkL.any | exact WkL.nil _ | refine WkL.eq rfl ?_ | refine WkL.bool rfl ?_)) (by cbv; exact ⟨rfl⟩) ?_ ?_)
      · exact hat.nx
      · exact hat.mu
  · repeat (first
      | refine OK.drawn (by decide +kernel) ?_
      | refine OK.tree ⟨lookT tis, fun _ => true, []⟩ (by decide +kernel) ?_
      | refine OK.need (by first | assumption | (rw [hA]; first | (show (_ : Int) ≠ _; decide) | (show (0 : Int) ≤ _; decide) | (show (0 : Int) ≤ _ ∧ _ < (256 : Int); decide))) ?_
      | (refine F.hold hA 2000 ?_; cbv))
    exact F.ret (rs' := []) (H' := [_, _, _, _]) (F.cv ⟨rfl⟩ (.nil _) (.eq rfl (.eq rfl (.eq rfl (.eq rfl (.nil _)))))) rfl ⟨_, _, rfl, rfl, cpFin hA hD hI b1⟩
end Go.L1

-- D6
namespace Go.L1
open Go Go.Sx Go.Proofs Go.Huff
set_option maxRecDepth 20000
set_option linter.unusedVariables false
set_option linter.unusedSimpArgs false
structure SySt (xs : List UInt8) (lim p : Int) (out : List UInt8) (k : Int) : Prop where
  s : InS xs p
  l : LimOK lim out
  k : KOK p k
def SyInv (first other : List Int) (xs : List UInt8) (lim p0 : Int) (out0 : List UInt8) (k0 : Int) (w : Int × List UInt8 × Int) : Prop :=
  SySt xs lim w.1 w.2.1 w.2.2 ∧ p0 ≤ w.1 ∧ ∃ f : Nat, (fuel : Int) ≤ f + w.1 ∧ symsR first other xs lim fuel p0 out0 k0 = symsR first other xs lim f w.1 w.2.1 w.2.2
theorem SyInv.ge {first other : List Int} {xs : List UInt8} {lim p0 : Int} {out0 : List UInt8} {k0 p : Int} {out : List UInt8} {k : Int} (h : SyInv first other xs lim p0 out0 k0 (p, out, k)) : p0 ≤ p := h.2.1
structure SyAt (first other : List Int) (xs : List UInt8) (lim p : Int) (out : List UInt8) (k : Int) (R : Er (Int × List UInt8 × Int)) : Prop where
  e1 : ∀ e, symR first xs p = .error e → R = .error e
  e2 : ∀ s p1 e, SymIs first xs p s p1 → s < 256 → roomR lim out 1 = .error e → R = .error e
  e3 : ∀ s p1 e, SymIs first xs p s p1 → 256 < s → backR other xs lim s p1 out = .error e → R = .error e
  r1 : ∀ p1, SymIs first xs p 256 p1 → R = .ok (p1, out, k + 1)
theorem SyInv.at_ {first other : List Int} {xs : List UInt8} {lim p0 : Int} {out0 : List UInt8} {k0 p : Int} {out : List UInt8} {k : Int} (h : SyInv first other xs lim p0 out0 k0 (p, out, k)) :
    ∃ f : Nat, (fuel : Int) ≤ f + 1 + p ∧ symsR first other xs lim fuel p0 out0 k0 = symsR first other xs lim (f + 1) p out k ∧ SyAt first other xs lim p out k (symsR first other xs lim fuel p0 out0 k0) := by
  obtain ⟨hs, _, f, hf, he⟩ := h
  simp only at hs hf he
  have h1 := hs.s.rd.hi
  have h2 := hs.s.l
  obtain ⟨g, rfl⟩ : ∃ g, f = g + 1 := ⟨f - 1, by unfold fuel at hf; omega⟩
  refine ⟨g, by omega, he, ?_⟩
  rw [he]
  refine ⟨fun e h => ?_, fun s p1 e h1 h2 h3 => ?_, fun s p1 e h1 h2 h3 => ?_, fun p1 h1 => ?_⟩
  · simp only [symsR, bind, Except.bind, h]
  · unfold SymIs at h1
    simp only [symsR, bind, Except.bind, h1, h3, if_pos h2, if_neg (show ¬ s = 256 by omega)]
  · unfold SymIs at h1
    simp only [symsR, bind, Except.bind, h1, h3, if_neg (show ¬ s < 256 by omega), if_neg (show ¬ s = 256 by omega)]
  · unfold SymIs at h1
    simp only [symsR, bind, Except.bind, h1, if_pos]
theorem er_bind {α β : Type} {x : Er α} {f : α → Er β} {r : β} : (x >>= f) = .ok r ↔ ∃ a, x = .ok a ∧ f a = .ok r := by
  cases x with
  | error e => exact ⟨fun h => (by cases h), fun ⟨a, h, _⟩ => (by cases h)⟩
  | ok a => exact ⟨fun h => ⟨a, rfl, h⟩, fun ⟨b, h, h2⟩ => (by cases h; exact h2)⟩
theorem NumIs.mono {xs : List UInt8} {p v p' : Int} {n : Nat} (h : NumIs xs p n v p') : p ≤ p' := by have := h.val; omega
theorem room_val {lim : Int} {out : List UInt8} {n : Int} (h : roomR lim out n = .ok ()) : out.length + n ≤ lim := by
  unfold roomR at h
  split at h
  · omega
  · cases h
structure BackV (xs : List UInt8) (lim p p' : Int) (out' : List UInt8) : Prop where
  p : p ≤ p'
  s : InS xs p'
  l : LimOK lim out'
theorem BackIs.val {other : List Int} {xs : List UInt8} {lim s p : Int} {out : List UInt8} {p' : Int} {out' : List UInt8} (h : BackIs other xs lim s p out p' out') (hs : InS xs p) (hl : LimOK lim out) : BackV xs lim p p' out' := by
  unfold BackIs backR at h
  obtain ⟨⟨base, e⟩, h1, h⟩ := er_bind.1 h
  obtain ⟨⟨x, p1⟩, h2, h⟩ := er_bind.1 h
  obtain ⟨⟨d, p2⟩, h3, h⟩ := er_bind.1 h
  obtain ⟨⟨far, e2⟩, h4, h⟩ := er_bind.1 h
  obtain ⟨⟨y, p3⟩, h5, h⟩ := er_bind.1 h
  dsimp only at h h2 h3 h4 h5
  split at h
  · obtain ⟨⟨⟩, h6, h⟩ := er_bind.1 h
    have h := Except.ok.inj h
    obtain ⟨rfl, rfl⟩ := Prod.mk.inj h
    have h2 : NumIs xs p e x p1 := h2
    have h3 : SymIs other xs p1 d p2 := h3
    have h5 : NumIs xs p2 e2 y p3 := h5
    have i1 := h2.ins hs
    have i2 := h3.ins i1
    have h7 := room_val h6
    have h8 := h2.mono
    have h9 := (h3.val i1).2.2.1
    have h10 := h5.mono
    have hlen := copyN_len (far + y).toNat (base + x).toNat out
    obtain ⟨l0, l1, l2⟩ := hl
    exact ⟨by omega, h5.ins i2, ⟨l0, l1, by omega⟩⟩
  · cases h
structure LitAt (A : Leaf) (first other : List Int) (xs : List UInt8) (lim p0 : Int) (out0 : List UInt8) (k0 p : Int) (out : List UInt8) (k s p1 : Int) : Prop where
  q1 : A.isB (A.conv .u8 s)
  q2 : A.small (A.len (A.app out [A.i2b (A.conv .u8 s)])) 1
  nx : SyInv first other xs lim p0 out0 k0 (p1, A.app out [A.i2b (A.conv .u8 s)], A.ar .add .i64 k 1)
  mu : (8 * xs.length - p1).toNat < (8 * xs.length - p).toNat
theorem SySt.k1 {A : Leaf} {xs : List UInt8} {lim p : Int} {out : List UInt8} {k : Int} (hA : A = .std) (h : SySt xs lim p out k) : A.ar .add .i64 k 1 = k + 1 := by
  have h1 := h.s.rd.hi
  have h2 := h.s.l
  have h3 := h.k.hi
  have h4 := h.k.lo
  subst hA
  exact add_i64 (by omega) (by omega)
theorem litAt {A : Leaf} {first other : List Int} {xs : List UInt8} {lim p0 : Int} {out0 : List UInt8} {k0 p : Int} {out : List UInt8} {k s p1 : Int} {f : Nat} (hA : A = .std) (hge : p0 ≤ p) (hst : SySt xs lim p out k) (hf : (fuel : Int) ≤ f + 1 + p)
    (he : symsR first other xs lim fuel p0 out0 k0 = symsR first other xs lim (f + 1) p out k) (h1 : SymIs first xs p s p1) (hs : A.cmp .lss s 256 = true) (hr : roomR lim out 1 = .ok ()) : LitAt A first other xs lim p0 out0 k0 p out k s p1 := by
  obtain ⟨s0, _, v1, v2⟩ := h1.val hst.s
  have e2 := hst.k1 hA
  have h7 := room_val hr
  have i1 := h1.ins hst.s
  have hk := hst.k
  subst hA
  have hs : s < 256 := of_decide_eq_true hs
  obtain ⟨l0, l1, l2⟩ := hst.l
  have e1 : Leaf.std.conv .u8 s = s := l_conv_u8 (by omega) (by omega)
  have eb : Leaf.std.i2b s = UInt8.ofNat s.toNat := rfl
  have el : (out ++ [UInt8.ofNat s.toNat]).length = out.length + 1 := by rw [List.length_append]; rfl
  refine ⟨?_, ?_, ?_, by omega⟩
  · rw [e1]; show (0 : Int) ≤ s ∧ s < (256 : Int); omega
  · rw [e1, eb]
    have e : Leaf.std.len (Leaf.std.app out [UInt8.ofNat s.toNat]) = ((out.length + 1 : Nat) : Int) := by
      show (((out ++ [_]).length : Nat) : Int) = _
      rw [el]
    rw [e]
    show (0 : Int) ≤ _ ∧ _ ≤ (140737488355328 : Int) ∧ _ * ((1 : Nat) : Int) ≤ (140737488355328 : Int)
    omega
  · rw [e1, eb, e2]
    refine ⟨⟨i1, ⟨l0, l1, ?_⟩, ⟨by have := hk.lo; simp only; omega, by have := hk.hi; simp only; omega⟩⟩, by simp only; omega, f, by simp only; omega, ?_⟩
    · show (((out ++ [_]).length : Nat) : Int) ≤ lim
      rw [el]; omega
    · rw [he]
      unfold SymIs at h1
      simp only [symsR, bind, Except.bind, h1, hr, if_pos hs, if_neg (show ¬ s = 256 by omega)]
      rfl
structure BckAt (A : Leaf) (first other : List Int) (xs : List UInt8) (lim p0 : Int) (out0 : List UInt8) (k0 p k p2 : Int) (o2 : List UInt8) : Prop where
  nx : SyInv first other xs lim p0 out0 k0 (p2, o2, A.ar .add .i64 k 1)
  mu : (8 * xs.length - p2).toNat < (8 * xs.length - p).toNat
theorem bckAt {A : Leaf} {first other : List Int} {xs : List UInt8} {lim p0 : Int} {out0 : List UInt8} {k0 p : Int} {out : List UInt8} {k s p1 p2 : Int} {o2 : List UInt8} {f : Nat} (hA : A = .std) (hge : p0 ≤ p) (hst : SySt xs lim p out k) (hf : (fuel : Int) ≤ f + 1 + p)
    (he : symsR first other xs lim fuel p0 out0 k0 = symsR first other xs lim (f + 1) p out k) (h1 : SymIs first xs p s p1) (hs : A.cmp .lss s 256 = false) (hs2 : A.cmp .eql s 256 = false) (hb : BackIs other xs lim s p1 out p2 o2) : BckAt A first other xs lim p0 out0 k0 p k p2 o2 := by
  obtain ⟨s0, _, v1, v2⟩ := h1.val hst.s
  have e2 := hst.k1 hA
  have i1 := h1.ins hst.s
  obtain ⟨b1, b2, b3⟩ := hb.val i1 hst.l
  have b4 := b2.rd.hi
  have hk := hst.k
  subst hA
  have hs : ¬ s < 256 := of_decide_eq_false hs
  have hs2 : (s == 256) = false := hs2
  have hs2 : s ≠ 256 := by simpa using hs2
  refine ⟨?_, by omega⟩
  rw [e2]
  refine ⟨⟨b2, b3, ⟨by have := hk.lo; simp only; omega, by have := hk.hi; simp only; omega⟩⟩, by simp only; omega, f, by simp only; omega, ?_⟩
  rw [he]
  unfold SymIs at h1
  unfold BackIs at hb
  simp only [symsR, bind, Except.bind, h1, hb, if_neg hs, if_neg hs2]
def SymsIs6 (first other : List Int) (xs : List UInt8) (lim p : Int) (out : List UInt8) (k p' : Int) (out' : List UInt8) (k' : Int) : Prop := symsR first other xs lim fuel p out k = .ok (p', out', k')
theorem symbols_ok6 (xs out : List UInt8) (lim u k b p : Int) (ls : List Int) (ws : List Pr) (fs cs ss os : List Int) (r : Int) (hc : CodeOK ls ws fs cs ss os r)
    (ls2 : List Int) (ws2 : List Pr) (fs2 cs2 ss2 os2 : List Int) (r2 : Int) (hc2 : CodeOK ls2 ws2 fs2 cs2 ss2 os2 r2) (hs : SySt xs lim p out k) :
    FOKp Try.prog C1 68 (fun c => Nat.beq c 0 || Nat.beq c 1 || Nat.beq c 3 || Nat.beq c 4) [.ptr 0 0, .ptr 3 0, .ptr 4 0] [.cells 98 [.ptr 1 0, .int .i64 lim, .own 2, .int .i64 u, .int .i64 k, .int .i64 b], .cells 82 [.ro (.bytes xs), .int .i64 p], .row 5 (.bytes out), .cells 78 [.ro (.recs 0 ws), .arr 16 (.ints .i64 fs), .arr 16 (.ints .i64 cs), .arr 16 (.ints .i64 ss), .ro (.ints .i64 os), .int .i64 r], .cells 78 [.ro (.recs 0 ws2), .arr 16 (.ints .i64 fs2), .arr 16 (.ints .i64 cs2), .arr 16 (.ints .i64 ss2), .ro (.ints .i64 os2), .int .i64 r2]]
    (fun rs H => ∃ p' out' k', rs = [] ∧ H = [.cells 98 [.ptr 1 0, .int .i64 lim, .own 2, .int .i64 u, .int .i64 k', .int .i64 b], .cells 82 [.ro (.bytes xs), .int .i64 p'], .row 5 (.bytes out'), .cells 78 [.ro (.recs 0 ws), .arr 16 (.ints .i64 fs), .arr 16 (.ints .i64 cs), .arr 16 (.ints .i64 ss), .ro (.ints .i64 os), .int .i64 r], .cells 78 [.ro (.recs 0 ws2), .arr 16 (.ints .i64 fs2), .arr 16 (.ints .i64 cs2), .arr 16 (.ints .i64 ss2), .ro (.ints .i64 os2), .int .i64 r2]] ∧ SymsIs6 ls ls2 xs lim p out k p' out' k' ∧ SySt xs lim p' out' k' ∧ p < p')
    (fun ch => ∃ e, symsR ls ls2 xs lim fuel p out k = .error e ∧ Flt e ch) := by
  refine fokp_of (B := ⟨lookT tis, fun c => Nat.beq c 0 || Nat.beq c 1 || Nat.beq c 3 || Nat.beq c 4, []⟩) (tab1 _) (zero1 _) cod1 mix1 Try.func68 (by kernel_rfl) rfl rfl rfl fun X F hX => ?_
  obtain ⟨A, hA⟩ : ∃ A, A = Leaf.std := ⟨_, rfl⟩
  refine F.hold hA 2000 ?_
  cbv
  repeat (first
    | refine OK.drawn (by decide +kernel) ?_
    | refine OK.tree ⟨lookT tis, fun _ => true, []⟩ (by decide +kernel) ?_
    | refine OK.need (by first | assumption | (rw [hA]; first | (show (_ : Int) ≠ _; decide) | (show (0 : Int) ≤ _; decide) | (show (0 : Int) ≤ _ ∧ _ < (256 : Int); decide))) ?_
    | (refine F.hold hA 2000 ?_; cbv))
  refine F.loop (V := Int × List UInt8 × Int) [0, 1, 2] (SyInv ls ls2 xs lim p out k) (fun w => (8 * xs.length - w.1).toNat) (fun w => []) (fun w => [(0, .cells 98 [.ptr 1 0, .int .i64 lim, .own 2, .int .i64 u, .int .i64 w.2.2, .int .i64 b]), (1, .cells 82 [.ro (.bytes xs), .int .i64 w.1]), (2, .row 5 (.bytes w.2.1))]) (_, _, _) (by cbv; repeat (first | exact WkH.nil _ | apply WkH.gone | refine WkH.eq rfl ?_)) (by cbv; repeat (first | apply WkL.any | exact WkL.nil _ | refine WkL.eq rfl ?_ | refine WkL.bool rfl ?_)) (by cbv; exact ⟨rfl⟩) ?_ ?_
  · exact ⟨hs, Int.le_refl _, fuel, by have := hs.s.rd.rd.lo; simp only; omega, rfl⟩
  rintro ⟨p1, o, k1⟩ hI Bk hBk
  obtain ⟨f, hf, he, hat⟩ := hI.at_
  have hst : SySt xs lim p1 o k1 := hI.1
  repeat (first
    | refine OK.drawn (by decide +kernel) ?_
    | refine OK.tree ⟨lookT tis, fun _ => true, []⟩ (by decide +kernel) ?_
    | refine OK.need (by first | assumption | (rw [hA]; first | (show (_ : Int) ≠ _; decide) | (show (0 : Int) ≤ _; decide) | (show (0 : Int) ≤ _ ∧ _ < (256 : Int); decide))) ?_
    | (refine F.hold hA 2000 ?_; cbv))
  refine F.callp [0, 1, 2, 3] (symbol_ok xs o lim u k1 b p1 ls ws fs cs ss os r hc hst.s) rfl rfl rfl (fun ch hch => ?_) (fun rs H' hq => ?_)
  · rw [hX]; obtain ⟨e, he, hf⟩ := hch
    exact ⟨e, hat.e1 e he, hf⟩
  obtain ⟨s, p2, rfl, rfl, h1⟩ := hq
  refine ⟨rfl, ?_⟩
  repeat (first
    | refine OK.drawn (by decide +kernel) ?_
    | refine OK.tree ⟨lookT tis, fun _ => true, []⟩ (by decide +kernel) ?_
    | refine OK.need (by first | assumption | (rw [hA]; first | (show (_ : Int) ≠ _; decide) | (show (0 : Int) ≤ _; decide) | (show (0 : Int) ≤ _ ∧ _ < (256 : Int); decide))) ?_
    | (refine F.hold hA 2000 ?_; cbv))
  refine OK.branch (fun b1 => ?_) (fun b1 => ?_)
  · repeat (first
      | refine OK.drawn (by decide +kernel) ?_
      | refine OK.tree ⟨lookT tis, fun _ => true, []⟩ (by decide +kernel) ?_
      | refine OK.need (by first | assumption | (rw [hA]; first | (show (_ : Int) ≠ _; decide) | (show (0 : Int) ≤ _; decide) | (show (0 : Int) ≤ _ ∧ _ < (256 : Int); decide))) ?_
      | (refine F.hold hA 2000 ?_; cbv))
    refine F.ret0 ⟨_, _, _, rfl, rfl, ?_⟩
    have e1 := hst.k1 hA
    have e2 : s = 256 := by
      subst hA
      have b1 : (s == 256) = true := b1
      simpa using b1
    subst e2
    refine (congrArg (fun x => SymsIs6 ls ls2 xs lim p out k p2 o x ∧ SySt xs lim p2 o x ∧ p < p2) e1).mpr ⟨?_, ?_, ?_⟩
    · exact hat.r1 p2 h1
    · have := (h1.val hst.s).2.2.1
      exact ⟨h1.ins hst.s, hst.l, ⟨by have := hst.k.lo; omega, by have := hst.k.hi; omega⟩⟩
    · have := (h1.val hst.s).2.2.1
      have := hI.ge
      omega
  · repeat (first
      | refine OK.drawn (by decide +kernel) ?_
      | refine OK.tree ⟨lookT tis, fun _ => true, []⟩ (by decide +kernel) ?_
      | refine OK.need (by first | assumption | (rw [hA]; first | (show (_ : Int) ≠ _; decide) | (show (0 : Int) ≤ _; decide) | (show (0 : Int) ≤ _ ∧ _ < (256 : Int); decide))) ?_
      | (refine F.hold hA 2000 ?_; cbv))
    refine OK.branch (fun b2 => ?_) (fun b2 => ?_)
    · repeat (first
        | refine OK.drawn (by decide +kernel) ?_
        | refine OK.tree ⟨lookT tis, fun _ => true, []⟩ (by decide +kernel) ?_
        | refine OK.need (by first | assumption | (rw [hA]; first | (show (_ : Int) ≠ _; decide) | (show (0 : Int) ≤ _; decide) | (show (0 : Int) ≤ _ ∧ _ < (256 : Int); decide))) ?_
        | (refine F.hold hA 2000 ?_; cbv))
      refine F.callp [0, 1, 2] (roomI_ok xs o lim u _ b p2 1 hst.l) rfl rfl rfl (fun ch hch => ?_) (fun rs H' hq => ?_)
      · rw [hX]; obtain ⟨e, he, hf⟩ := hch
        refine ⟨e, hat.e2 s p2 e h1 ?_ he, hf⟩
        subst hA
        exact of_decide_eq_true (p := s < 256) b2
      obtain ⟨rfl, rfl, hr⟩ := hq
      have hl := litAt hA hI.ge hst hf he h1 b2 hr
      have q1 := hl.q1
      have q2 := hl.q2
      refine ⟨rfl, ?_⟩
      repeat' (first
        | refine OK.drawn (by decide +kernel) ?_
        | refine OK.tree ⟨lookT tis, fun _ => true, []⟩ (by decide +kernel) ?_
        | refine OK.both ?_ ?_
        | refine OK.need (by first | assumption | (rw [hA]; first | (show (_ : Int) ≠ _; decide) | (show (0 : Int) ≤ _; decide) | (show (0 : Int) ≤ _ ∧ _ < (256 : Int); decide))) ?_
        | refine OK.need ?_ ?_
        | (refine OK.branch ?_ ?_ <;> intro h)
        | (refine F.hold hA 2000 ?_; cbv))
      all_goals
        refine OK.back (hBk _ _ (_, _, _) (by cbv; repeat (first | exact WkH.nil _ | apply WkH.gone | refine WkH.eq rfl ?_)) (by cbv; repeat (first | apply WkL.any | exact WkL.nil _ | refine WkL.eq rfl ?_ | refine WkL.bool rfl ?_)) (by cbv; exact ⟨rfl⟩) ?_ ?_)
        · exact hl.nx
        · exact hl.mu
    · repeat (first
        | refine OK.drawn (by decide +kernel) ?_
        | refine OK.tree ⟨lookT tis, fun _ => true, []⟩ (by decide +kernel) ?_
        | refine OK.need (by first | assumption | (rw [hA]; first | (show (_ : Int) ≠ _; decide) | (show (0 : Int) ≤ _; decide) | (show (0 : Int) ≤ _ ∧ _ < (256 : Int); decide))) ?_
        | (refine F.hold hA 2000 ?_; cbv))
      refine F.callp [0, 1, 2, 4] (back_ok xs o lim u _ b p2 s ls2 ws2 fs2 cs2 ss2 os2 r2 hc2 (h1.ins hst.s) hst.l) rfl rfl rfl (fun ch hch => ?_) (fun rs H' hq => ?_)
      · rw [hX]; obtain ⟨e, he, hf⟩ := hch
        refine ⟨e, hat.e3 s p2 e h1 ?_ he, hf⟩
        subst hA
        have b1 : (s == 256) = false := b1
        have b1 : s ≠ 256 := by simpa using b1
        have b2 : ¬ s < 256 := of_decide_eq_false b2
        omega
      obtain ⟨p3, o2, rfl, rfl, hb⟩ := hq
      have hl := bckAt hA hI.ge hst hf he h1 b2 b1 hb
      refine ⟨rfl, ?_⟩
      repeat' (first
        | refine OK.drawn (by decide +kernel) ?_
        | refine OK.tree ⟨lookT tis, fun _ => true, []⟩ (by decide +kernel) ?_
        | refine OK.both ?_ ?_
        | refine OK.need (by first | assumption | (rw [hA]; first | (show (_ : Int) ≠ _; decide) | (show (0 : Int) ≤ _; decide) | (show (0 : Int) ≤ _ ∧ _ < (256 : Int); decide))) ?_
        | refine OK.need ?_ ?_
        | (refine OK.branch ?_ ?_ <;> intro h)
        | (refine F.hold hA 2000 ?_; cbv))
      all_goals
        refine OK.back (hBk _ _ (_, _, _) (by cbv; repeat (first | exact WkH.nil _ | apply WkH.gone | refine WkH.eq rfl ?_)) (by cbv; repeat (first | apply WkL.any | exact WkL.nil _ | refine WkL.eq rfl ?_ | refine WkL.bool rfl ?_)) (by cbv; exact ⟨rfl⟩) ?_ ?_)
        · exact hl.nx
        · exact hl.mu
end Go.L1

-- D7
namespace Go.L1
open Go Go.Sx Go.Proofs Go.Huff
set_option maxRecDepth 20000
set_option linter.unusedVariables false
set_option linter.unusedSimpArgs false
def MxInv (l : List Int) (w : Int × Int) : Prop := ∃ j : Nat, w.2 = j ∧ j ≤ l.length ∧ w.1 ∈ l.take j ∧ ∀ x ∈ l.take j, x ≤ w.1
structure MxP (l : List Int) : Prop where
  lo : 0 < l.length
  hi : l.length ≤ 320
def MaxIs (l : List Int) (m : Int) : Prop := m ∈ l ∧ ∀ x ∈ l, x ≤ m
structure MxAt (A : Leaf) (l : List Int) (m i : Int) : Prop where
  q : A.inb i (A.len l)
  nx : MxInv l (A.imax m (A.get 0 l i), A.ar .add .i64 i 1)
  mu : (l.length - A.ar .add .i64 i 1).toNat < (l.length - i).toNat
theorem mxAt {A : Leaf} {l : List Int} {m i : Int} (hA : A = .std) (hp : MxP l) (h : MxInv l (m, i)) (h1 : A.cmp .lss i (A.len l) = true) : MxAt A l m i := by
  obtain ⟨j, e, h2, h3, h4⟩ := h
  have := hp.hi
  simp only at e h3 h4
  subst e hA
  have h1 : (j : Int) < (l.length : Int) := of_decide_eq_true h1
  have hj : j < l.length := by omega
  have ea : Leaf.std.ar .add .i64 (j : Int) 1 = ((j + 1 : Nat) : Int) := by rw [add_i64 (by omega) (by omega)]; omega
  have eg : Leaf.std.get 0 l (j : Int) = l[j] := by show l.getD _ 0 = _; rw [Int.toNat_natCast]; simp [hj]
  have ht : l.take (j + 1) = l.take j ++ [l[j]] := List.take_succ_eq_append_getElem hj
  refine ⟨?_, ?_, by rw [ea]; omega⟩
  · show (0 : Int) ≤ (j : Int) ∧ (j : Int) < (l.length : Int); omega
  · rw [eg, ea]
    refine ⟨j + 1, rfl, by omega, ?_, ?_⟩
    · show (if m < l[j] then l[j] else m) ∈ _
      rw [ht]
      split
      · exact List.mem_append_right _ (List.mem_singleton.2 rfl)
      · exact List.mem_append_left _ h3
    · intro x hx
      show x ≤ (if m < l[j] then l[j] else m)
      rw [ht] at hx
      rcases List.mem_append.1 hx with hx | hx
      · have := h4 x hx
        split <;> omega
      · simp at hx
        subst hx
        split <;> omega
theorem max_ok (l : List Int) (hp : MxP l) : FOK Try.prog C1 89 (fun _ => true) [.ro (.ints .i64 l)] [] (fun rs H => ∃ m, rs = [.int .i64 m] ∧ H = [] ∧ MaxIs l m) := by
  refine fok_of (B := ⟨lookT tis, fun _ => true, []⟩) (tab1 _) (zero1 _) cod1 mix1 Try.func89 (by kernel_rfl) rfl rfl rfl fun X F => ?_
  obtain ⟨A, hA⟩ : ∃ A, A = Leaf.std := ⟨_, rfl⟩
  refine F.hold hA 2000 ?_
  cbv
  repeat (first
    | refine OK.drawn (by decide +kernel) ?_
    | refine OK.tree ⟨lookT tis, fun _ => true, []⟩ (by decide +kernel) ?_
    | refine OK.need (by first | assumption | (rw [hA]; first | (show (_ : Int) ≠ _; decide) | (show (0 : Int) ≤ _; decide) | (show (0 : Int) ≤ _ ∧ _ < (256 : Int); decide))) ?_
    | (refine F.hold hA 2000 ?_; cbv))
  refine OK.branch (fun b1 => ?_) (fun b1 => ?_)
  · exfalso
    subst hA
    have b1 : (l.length : Int) < 1 := of_decide_eq_true b1
    have := hp.lo
    omega
  have q0 : A.inb 0 (A.len l) := by
    subst hA
    have := hp.lo
    show (0 : Int) ≤ 0 ∧ (0 : Int) < (l.length : Int); omega
  repeat (first
    | refine OK.drawn (by decide +kernel) ?_
    | refine OK.tree ⟨lookT tis, fun _ => true, []⟩ (by decide +kernel) ?_
    | refine OK.need (by first | assumption | (rw [hA]; first | (show (_ : Int) ≠ _; decide) | (show (0 : Int) ≤ _; decide) | (show (0 : Int) ≤ _ ∧ _ < (256 : Int); decide))) ?_
    | (refine F.hold hA 2000 ?_; cbv))
  refine F.loop (V := Int × Int) [0] (MxInv l) (fun w => (l.length - w.2).toNat) (fun w => [(3, .int .i64 w.1), (4, .int .i64 w.2)]) (fun w => []) (_, _) (by cbv; repeat (first | exact WkH.nil _ | apply WkH.gone | refine WkH.eq rfl ?_)) (by cbv; repeat (first | apply WkL.any | exact WkL.nil _ | refine WkL.eq rfl ?_ | refine WkL.bool rfl ?_)) (by cbv; exact ⟨rfl⟩) ?_ ?_
  · subst hA
    have := hp.lo
    refine ⟨1, rfl, by omega, ?_, ?_⟩
    · show l.getD 0 0 ∈ l.take 1
      cases l with
      | nil => simp at this
      | cons a l => simp
    · intro x hx
      show x ≤ l.getD 0 0
      cases l with
      | nil => simp at this
      | cons a l => simp at hx ⊢; omega
  rintro ⟨m, i⟩ hI Bk hBk
  repeat (first
    | refine OK.drawn (by decide +kernel) ?_
    | refine OK.tree ⟨lookT tis, fun _ => true, []⟩ (by decide +kernel) ?_
    | refine OK.need (by first | assumption | (rw [hA]; first | (show (_ : Int) ≠ _; decide) | (show (0 : Int) ≤ _; decide) | (show (0 : Int) ≤ _ ∧ _ < (256 : Int); decide))) ?_
    | (refine F.hold hA 2000 ?_; cbv))
  refine OK.branch (fun b2 => ?_) (fun b2 => ?_)
  · have hat := mxAt hA hp hI b2
    have q := hat.q
    repeat (first
      | refine OK.drawn (by decide +kernel) ?_
      | refine OK.tree ⟨lookT tis, fun _ => true, []⟩ (by decide +kernel) ?_
      | refine OK.need (by first | assumption | (rw [hA]; first | (show (_ : Int) ≠ _; decide) | (show (0 : Int) ≤ _; decide) | (show (0 : Int) ≤ _ ∧ _ < (256 : Int); decide))) ?_
      | (refine F.hold hA 2000 ?_; cbv))
    refine OK.back (hBk _ _ (_, _) (by cbv; repeat (first | exact WkH.nil _ | apply WkH.gone | refine WkH.eq rfl ?_)) (by cbv; repeat (first | apply WkL.any | exact WkL.nil _ | refine WkL.eq rfl ?_ | refine WkL.bool rfl ?_)) (by cbv; exact ⟨rfl⟩) ?_ ?_)
    · exact hat.nx
    · exact hat.mu
  · repeat (first
      | refine OK.drawn (by decide +kernel) ?_
      | refine OK.tree ⟨lookT tis, fun _ => true, []⟩ (by decide +kernel) ?_
      | refine OK.need (by first | assumption | (rw [hA]; first | (show (_ : Int) ≠ _; decide) | (show (0 : Int) ≤ _; decide) | (show (0 : Int) ≤ _ ∧ _ < (256 : Int); decide))) ?_
      | (refine F.hold hA 2000 ?_; cbv))
    refine F.ret0 ⟨_, rfl, rfl, ?_⟩
    obtain ⟨j, e, h2, h3, h4⟩ := hI
    simp only at e h3 h4
    subst e hA
    have b2 : ¬ (j : Int) < (l.length : Int) := of_decide_eq_false b2
    rw [List.take_of_length_le (by omega)] at h3 h4
    exact ⟨h3, h4⟩
def CondC (l : List Int) (one none : Bool) : Prop := roomN l = 32768 ∨ (one = true ∧ usedN l = 1 ∧ l.any (· == 1) = true) ∨ (none = true ∧ usedN l = 0)
theorem okLen_of {l : List Int} (h : Fine l) : okLen l = true := by
  unfold okLen
  simp only [Bool.and_eq_true, decide_eq_true_eq, List.all_eq_true]
  exact ⟨⟨h.le, fun x hx => h.inb x hx⟩, h.room⟩
theorem okLen_no {l : List Int} (h : ¬ (l.length ≤ 320 ∧ InB l) ∨ 32768 < roomN l) : okLen l = false := by
  cases ho : okLen l with
  | false => rfl
  | true =>
    unfold okLen at ho
    simp only [Bool.and_eq_true, decide_eq_true_eq, List.all_eq_true] at ho
    rcases h with h | h
    · exact absurd ⟨ho.1.1, fun x hx => ho.1.2 x hx⟩ h
    · omega
theorem code_bad {l : List Int} {one none : Bool} (h : okLen l = false) : codeR l one none = .error 10 := by
  unfold codeR
  rw [if_neg (by rw [h]; simp)]
theorem code_yes {l : List Int} {one none : Bool} (hf : Fine l) (h : CondC l one none) : codeR l one none = .ok () := by
  unfold codeR
  rw [if_pos ⟨okLen_of hf, h⟩]
theorem code_no {l : List Int} {one none : Bool} (h : ¬ CondC l one none) : codeR l one none = .error 10 := by
  unfold codeR
  rw [if_neg (fun hh => h hh.2)]
theorem used_eq {l : List Int} {ws : List Pr} {fs cs ss os : List Int} {r n : Int} (hc : CodeOK l ws fs cs ss os r) (hn : SymsIs os n) : n = usedN l := by
  unfold SymsIs at hn
  rw [hn, hc.o.ln, st_mny]
  unfold usedN
  congr 1
  refine List.countP_congr fun x hx => ?_
  have := (hc.fine.inb x hx).2
  simp; omega
theorem comp_eq {l : List Int} {ws : List Pr} {fs cs ss os : List Int} {r : Int} {b : Bool} (hc : CodeOK l ws fs cs ss os r) (hb : CompIs r b) : (b = true ↔ roomN l = 32768) := by
  unfold CompIs at hb
  rw [hb, hc.r, decide_eq_true_iff]
  omega
theorem one_uniq {l : List Int} (h : usedN l = 1) {a b : Int} (ha : a ∈ l) (hb : b ∈ l) (h1 : 0 < a) (h2 : 0 < b) : a = b := by
  unfold usedN at h
  rw [List.countP_eq_length_filter] at h
  obtain ⟨c, hc⟩ := List.length_eq_one_iff.1 h
  have m1 : a ∈ l.filter (fun x => decide (0 < x)) := List.mem_filter.2 ⟨ha, by simpa using h1⟩
  have m2 : b ∈ l.filter (fun x => decide (0 < x)) := List.mem_filter.2 ⟨hb, by simpa using h2⟩
  rw [hc] at m1 m2
  simp at m1 m2
  rw [m1, m2]
theorem max_one {l : List Int} {m : Int} (h : usedN l = 1) (hm : MaxIs l m) : m = 1 ↔ l.any (· == 1) = true := by
  rw [List.any_eq_true]
  constructor
  · rintro rfl; exact ⟨1, hm.1, rfl⟩
  · rintro ⟨x, hx, h1⟩
    have h1 : x = 1 := by simpa using h1
    subst h1
    have := hm.2 1 hx
    exact one_uniq h hm.1 hx (by omega) (by decide)
theorem eqT {A : Leaf} {a b : Int} (hA : A = .std) (h : A.cmp .eql a b = true) : a = b := by
  subst hA
  have h : (a == b) = true := h
  simpa using h
theorem eqF {A : Leaf} {a b : Int} (hA : A = .std) (h : A.cmp .eql a b = false) : a ≠ b := by
  subst hA
  have h : (a == b) = false := h
  simpa using h
theorem mxP_of {l : List Int} {ws : List Pr} {fs cs ss os : List Int} {r n : Int} {A : Leaf} (hA : A = .std) (hc : CodeOK l ws fs cs ss os r) (hn : SymsIs os n) (h : A.cmp .eql n 1 = true) : MxP l := by
  have h1 := eqT hA h
  have h2 := used_eq hc hn
  refine ⟨?_, hc.fine.le⟩
  cases l with
  | nil => simp [usedN] at h2; omega
  | cons a l => simp
theorem cond1 {A : Leaf} {l : List Int} {ws : List Pr} {fs cs ss os : List Int} {r n m : Int} {none : Bool} (hA : A = .std) (hc : CodeOK l ws fs cs ss os r) (hn : SymsIs os n) (b1 : A.cmp .eql n 1 = true) (hm : MaxIs l m) (b3 : A.cmp .eql m 1 = true) : CondC l true none := by
  have h1 := used_eq hc hn
  have h2 := eqT hA b1
  have hu : usedN l = 1 := by omega
  exact .inr (.inl ⟨rfl, hu, (max_one hu hm).1 (eqT hA b3)⟩)
theorem cond2 {A : Leaf} {l : List Int} {ws : List Pr} {fs cs ss os : List Int} {r n m : Int} {none b : Bool} (hA : A = .std) (hc : CodeOK l ws fs cs ss os r) (hb : CompIs r b) (b2 : b = false) (hn : SymsIs os n) (b1 : A.cmp .eql n 1 = true) (hm : MaxIs l m) (b3 : A.cmp .eql m 1 = false) : ¬ CondC l true none := by
  have h1 := used_eq hc hn
  have h2 := eqT hA b1
  have hu : usedN l = 1 := by omega
  rintro (h | ⟨_, h, h2⟩ | ⟨_, h⟩)
  · have := (comp_eq hc hb).2 h; rw [b2] at this; cases this
  · exact eqF hA b3 ((max_one h hm).2 h2)
  · omega
theorem cond3 {A : Leaf} {l : List Int} {ws : List Pr} {fs cs ss os : List Int} {r n : Int} {none b : Bool} (hA : A = .std) (hc : CodeOK l ws fs cs ss os r) (hb : CompIs r b) (b2 : b = false) (hn : SymsIs os n) (b1 : A.cmp .eql n 1 = false) (h0 : none = false ∨ usedN l ≠ 0) : ¬ CondC l true none := by
  have h1 := used_eq hc hn
  have h2 := eqF hA b1
  rintro (h | ⟨_, h, h2⟩ | ⟨h, h3⟩)
  · have := (comp_eq hc hb).2 h; rw [b2] at this; cases this
  · omega
  · rcases h0 with h0 | h0
    · rw [h0] at h; cases h
    · exact h0 h3
theorem code_ok (l : List Int) (one none : Bool) (ho : none = true → one = true) : FOKp Try.prog C1 86 (fun _ => false) [.ro (.ints .i64 l), .bool (.lit one), .bool (.lit none)] []
    (fun rs H => ∃ ws fs cs ss os r, rs = [.ptr 1 0] ∧ H = [.gone, .cells 78 [.ro (.recs 0 ws), .arr 16 (.ints .i64 fs), .arr 16 (.ints .i64 cs), .arr 16 (.ints .i64 ss), .ro (.ints .i64 os), .int .i64 r]] ∧ CodeOK l ws fs cs ss os r ∧ codeR l one none = .ok ())
    (fun ch => codeR l one none = .error 10 ∧ Flt 10 ch) := by
  cases one <;> cases none
  · refine fokp_of (B := ⟨lookT tis, fun _ => false, []⟩) (tab1 _) (zero1 _) cod1 mix1 Try.func86 (by kernel_rfl) rfl rfl rfl fun X F hX => ?_
    obtain ⟨A, hA⟩ : ∃ A, A = Leaf.std := ⟨_, rfl⟩
    refine F.hold hA 2000 ?_
    cbv
    repeat (first
      | refine OK.drawn (by decide +kernel) ?_
      | refine OK.tree ⟨lookT tis, fun _ => true, []⟩ (by decide +kernel) ?_
      | refine OK.need (by first | assumption | (rw [hA]; first | (show (_ : Int) ≠ _; decide) | (show (0 : Int) ≤ _; decide) | (show (0 : Int) ≤ _ ∧ _ < (256 : Int); decide))) ?_
      | (refine F.hold hA 2000 ?_; cbv))
    refine F.call [] (new_ok l) rfl rfl rfl fun rs H' hq => ?_
    rcases hq with ⟨e, rfl, rfl, hbad⟩ | ⟨ws, fs, cs, ss, os, r, rfl, rfl, hc⟩
    · refine ⟨rfl, ?_⟩
      repeat (first
        | refine OK.drawn (by decide +kernel) ?_
        | refine OK.tree ⟨lookT tis, fun _ => true, []⟩ (by decide +kernel) ?_
        | refine OK.need (by first | assumption | (rw [hA]; first | (show (_ : Int) ≠ _; decide) | (show (0 : Int) ≤ _; decide) | (show (0 : Int) ≤ _ ∧ _ < (256 : Int); decide))) ?_
        | (refine F.hold hA 2000 ?_; cbv))
      refine F.callp [] (need_ok _ _) rfl rfl rfl (fun ch hch => ?_) (fun rs H' hq => ?_)
      · rw [hX]
        exact ⟨code_bad (okLen_no (by rcases hbad with ⟨_, h⟩ | ⟨_, _, h⟩; exact .inl h; exact .inr h)), hch.2⟩
      · exfalso
        have := (eql0 hA).1 hq.2.2
        rcases hbad with ⟨h, _⟩ | ⟨h, _⟩ <;> omega
    refine ⟨rfl, ?_⟩
    repeat (first
      | refine OK.drawn (by decide +kernel) ?_
      | refine OK.tree ⟨lookT tis, fun _ => true, []⟩ (by decide +kernel) ?_
      | refine OK.need (by first | assumption | (rw [hA]; first | (show (_ : Int) ≠ _; decide) | (show (0 : Int) ≤ _; decide) | (show (0 : Int) ≤ _ ∧ _ < (256 : Int); decide))) ?_
      | (refine F.hold hA 2000 ?_; cbv))
    refine F.callp [] (need_ok _ _) rfl rfl rfl (fun ch hch => ?_) (fun rs H' hq => ?_)
    · exact absurd rfl ((eql0 hA).2 hch.1)
    obtain ⟨rfl, rfl, hr⟩ := hq
    clear hr
    refine ⟨rfl, ?_⟩
    repeat (first
      | refine OK.drawn (by decide +kernel) ?_
      | refine OK.tree ⟨lookT tis, fun _ => true, []⟩ (by decide +kernel) ?_
      | refine OK.need (by first | assumption | (rw [hA]; first | (show (_ : Int) ≠ _; decide) | (show (0 : Int) ≤ _; decide) | (show (0 : Int) ≤ _ ∧ _ < (256 : Int); decide))) ?_
      | (refine F.hold hA 2000 ?_; cbv))
    refine F.call [1] (complete_ok ws fs cs ss os r) rfl rfl rfl fun rs H' hq => ?_
    obtain ⟨b, rfl, rfl, hb⟩ := hq
    refine ⟨rfl, ?_⟩
    have hb := comp_eq hc hb
    repeat' (first
      | refine OK.drawn (by decide +kernel) ?_
      | refine OK.tree ⟨lookT tis, fun _ => true, []⟩ (by decide +kernel) ?_
      | refine OK.both ?_ ?_
      | refine OK.need (by first | assumption | (rw [hA]; first | (show (_ : Int) ≠ _; decide) | (show (0 : Int) ≤ _; decide) | (show (0 : Int) ≤ _ ∧ _ < (256 : Int); decide))) ?_
      | refine OK.need ?_ ?_
      | (refine OK.branch ?_ ?_ <;> intro h)
      | (refine F.hold hA 2000 ?_; cbv))
    · skip
      refine F.callp [] (need_ok _ _) rfl rfl rfl (fun ch hch => by cases hch.1) (fun rs H' hq => ?_)
      obtain ⟨rfl, rfl, hr2⟩ := hq
      refine ⟨rfl, ?_⟩
      repeat (first
        | refine OK.drawn (by decide +kernel) ?_
        | refine OK.tree ⟨lookT tis, fun _ => true, []⟩ (by decide +kernel) ?_
        | refine OK.need (by first | assumption | (rw [hA]; first | (show (_ : Int) ≠ _; decide) | (show (0 : Int) ≤ _; decide) | (show (0 : Int) ≤ _ ∧ _ < (256 : Int); decide))) ?_
        | (refine F.hold hA 2000 ?_; cbv))
      refine F.ret0 ⟨_, _, _, _, _, _, rfl, rfl, hc, code_yes hc.fine ?_⟩
      exact .inl (hb.1 ‹_›)
    · skip
      refine F.callp [] (need_ok _ _) rfl rfl rfl (fun ch hch => ?_) (fun rs H' hq => by cases hq.2.2)
      rw [hX]
      refine ⟨code_no ?_, hch.2⟩
      rintro (h | ⟨h, _⟩ | ⟨h, _⟩)
      · have := hb.2 h; simp_all
      · cases h
      · cases h
  · exact absurd (ho rfl) (by decide)
  · refine fokp_of (B := ⟨lookT tis, fun _ => false, []⟩) (tab1 _) (zero1 _) cod1 mix1 Try.func86 (by kernel_rfl) rfl rfl rfl fun X F hX => ?_
    obtain ⟨A, hA⟩ : ∃ A, A = Leaf.std := ⟨_, rfl⟩
    refine F.hold hA 2000 ?_
    cbv
    repeat (first
      | refine OK.drawn (by decide +kernel) ?_
      | refine OK.tree ⟨lookT tis, fun _ => true, []⟩ (by decide +kernel) ?_
      | refine OK.need (by first | assumption | (rw [hA]; first | (show (_ : Int) ≠ _; decide) | (show (0 : Int) ≤ _; decide) | (show (0 : Int) ≤ _ ∧ _ < (256 : Int); decide))) ?_
      | (refine F.hold hA 2000 ?_; cbv))
    refine F.call [] (new_ok l) rfl rfl rfl fun rs H' hq => ?_
    rcases hq with ⟨e, rfl, rfl, hbad⟩ | ⟨ws, fs, cs, ss, os, r, rfl, rfl, hc⟩
    · refine ⟨rfl, ?_⟩
      repeat (first
        | refine OK.drawn (by decide +kernel) ?_
        | refine OK.tree ⟨lookT tis, fun _ => true, []⟩ (by decide +kernel) ?_
        | refine OK.need (by first | assumption | (rw [hA]; first | (show (_ : Int) ≠ _; decide) | (show (0 : Int) ≤ _; decide) | (show (0 : Int) ≤ _ ∧ _ < (256 : Int); decide))) ?_
        | (refine F.hold hA 2000 ?_; cbv))
      refine F.callp [] (need_ok _ _) rfl rfl rfl (fun ch hch => ?_) (fun rs H' hq => ?_)
      · rw [hX]
        exact ⟨code_bad (okLen_no (by rcases hbad with ⟨_, h⟩ | ⟨_, _, h⟩; exact .inl h; exact .inr h)), hch.2⟩
      · exfalso
        have := (eql0 hA).1 hq.2.2
        rcases hbad with ⟨h, _⟩ | ⟨h, _⟩ <;> omega
    refine ⟨rfl, ?_⟩
    repeat (first
      | refine OK.drawn (by decide +kernel) ?_
      | refine OK.tree ⟨lookT tis, fun _ => true, []⟩ (by decide +kernel) ?_
      | refine OK.need (by first | assumption | (rw [hA]; first | (show (_ : Int) ≠ _; decide) | (show (0 : Int) ≤ _; decide) | (show (0 : Int) ≤ _ ∧ _ < (256 : Int); decide))) ?_
      | (refine F.hold hA 2000 ?_; cbv))
    refine F.callp [] (need_ok _ _) rfl rfl rfl (fun ch hch => ?_) (fun rs H' hq => ?_)
    · exact absurd rfl ((eql0 hA).2 hch.1)
    obtain ⟨rfl, rfl, hr⟩ := hq
    clear hr
    refine ⟨rfl, ?_⟩
    repeat (first
      | refine OK.drawn (by decide +kernel) ?_
      | refine OK.tree ⟨lookT tis, fun _ => true, []⟩ (by decide +kernel) ?_
      | refine OK.need (by first | assumption | (rw [hA]; first | (show (_ : Int) ≠ _; decide) | (show (0 : Int) ≤ _; decide) | (show (0 : Int) ≤ _ ∧ _ < (256 : Int); decide))) ?_
      | (refine F.hold hA 2000 ?_; cbv))
    refine F.call [1] (symbols_ok ws fs cs ss os r) rfl rfl rfl fun rs H' hq => ?_
    obtain ⟨n, rfl, rfl, hn⟩ := hq
    refine ⟨rfl, ?_⟩
    repeat (first
      | refine OK.drawn (by decide +kernel) ?_
      | refine OK.tree ⟨lookT tis, fun _ => true, []⟩ (by decide +kernel) ?_
      | refine OK.need (by first | assumption | (rw [hA]; first | (show (_ : Int) ≠ _; decide) | (show (0 : Int) ≤ _; decide) | (show (0 : Int) ≤ _ ∧ _ < (256 : Int); decide))) ?_
      | (refine F.hold hA 2000 ?_; cbv))
    refine OK.branch (fun b1 => ?_) (fun b1 => ?_)
    · have hmp := mxP_of hA hc hn b1
      repeat' (first
        | refine OK.drawn (by decide +kernel) ?_
        | refine OK.tree ⟨lookT tis, fun _ => true, []⟩ (by decide +kernel) ?_
        | refine OK.both ?_ ?_
        | refine OK.need (by first | assumption | (rw [hA]; first | (show (_ : Int) ≠ _; decide) | (show (0 : Int) ≤ _; decide) | (show (0 : Int) ≤ _ ∧ _ < (256 : Int); decide))) ?_
        | refine OK.need ?_ ?_
        | (refine OK.branch ?_ ?_ <;> intro h)
        | (refine F.hold hA 2000 ?_; cbv))
      refine F.call [] (max_ok l hmp) rfl rfl rfl fun rs H' hq => ?_
      obtain ⟨m, rfl, rfl, hm⟩ := hq
      refine ⟨rfl, ?_⟩
      repeat' (first
        | refine OK.drawn (by decide +kernel) ?_
        | refine OK.tree ⟨lookT tis, fun _ => true, []⟩ (by decide +kernel) ?_
        | refine OK.both ?_ ?_
        | refine OK.need (by first | assumption | (rw [hA]; first | (show (_ : Int) ≠ _; decide) | (show (0 : Int) ≤ _; decide) | (show (0 : Int) ≤ _ ∧ _ < (256 : Int); decide))) ?_
        | refine OK.need ?_ ?_
        | (refine OK.branch ?_ ?_ <;> intro h)
        | (refine F.hold hA 2000 ?_; cbv))
      refine F.call [1] (complete_ok ws fs cs ss os r) rfl rfl rfl fun rs H' hq => ?_
      obtain ⟨b, rfl, rfl, hb⟩ := hq
      refine ⟨rfl, ?_⟩
      repeat (first
        | refine OK.drawn (by decide +kernel) ?_
        | refine OK.tree ⟨lookT tis, fun _ => true, []⟩ (by decide +kernel) ?_
        | refine OK.need (by first | assumption | (rw [hA]; first | (show (_ : Int) ≠ _; decide) | (show (0 : Int) ≤ _; decide) | (show (0 : Int) ≤ _ ∧ _ < (256 : Int); decide))) ?_
        | (refine F.hold hA 2000 ?_; cbv))
      refine OK.branch (fun b2 => ?_) (fun b2 => ?_)
      · repeat (first
          | refine OK.drawn (by decide +kernel) ?_
          | refine OK.tree ⟨lookT tis, fun _ => true, []⟩ (by decide +kernel) ?_
          | refine OK.need (by first | assumption | (rw [hA]; first | (show (_ : Int) ≠ _; decide) | (show (0 : Int) ≤ _; decide) | (show (0 : Int) ≤ _ ∧ _ < (256 : Int); decide))) ?_
          | (refine F.hold hA 2000 ?_; cbv))
        refine F.callp [] (need_ok _ _) rfl rfl rfl (fun ch hch => by cases hch.1) (fun rs H' hq => ?_)
        obtain ⟨rfl, rfl, hr2⟩ := hq
        refine ⟨rfl, ?_⟩
        repeat (first
          | refine OK.drawn (by decide +kernel) ?_
          | refine OK.tree ⟨lookT tis, fun _ => true, []⟩ (by decide +kernel) ?_
          | refine OK.need (by first | assumption | (rw [hA]; first | (show (_ : Int) ≠ _; decide) | (show (0 : Int) ≤ _; decide) | (show (0 : Int) ≤ _ ∧ _ < (256 : Int); decide))) ?_
          | (refine F.hold hA 2000 ?_; cbv))
        refine F.ret0 ⟨_, _, _, _, _, _, rfl, rfl, hc, code_yes hc.fine ?_⟩
        exact .inl ((comp_eq hc hb).1 b2)
      · repeat (first
          | refine OK.drawn (by decide +kernel) ?_
          | refine OK.tree ⟨lookT tis, fun _ => true, []⟩ (by decide +kernel) ?_
          | refine OK.need (by first | assumption | (rw [hA]; first | (show (_ : Int) ≠ _; decide) | (show (0 : Int) ≤ _; decide) | (show (0 : Int) ≤ _ ∧ _ < (256 : Int); decide))) ?_
          | (refine F.hold hA 2000 ?_; cbv))
        refine OK.branch (fun b3 => ?_) (fun b3 => ?_)
        · repeat (first
            | refine OK.drawn (by decide +kernel) ?_
            | refine OK.tree ⟨lookT tis, fun _ => true, []⟩ (by decide +kernel) ?_
            | refine OK.need (by first | assumption | (rw [hA]; first | (show (_ : Int) ≠ _; decide) | (show (0 : Int) ≤ _; decide) | (show (0 : Int) ≤ _ ∧ _ < (256 : Int); decide))) ?_
            | (refine F.hold hA 2000 ?_; cbv))
          refine F.callp [] (need_ok _ _) rfl rfl rfl (fun ch hch => by cases hch.1) (fun rs H' hq => ?_)
          obtain ⟨rfl, rfl, hr2⟩ := hq
          refine ⟨rfl, ?_⟩
          repeat (first
            | refine OK.drawn (by decide +kernel) ?_
            | refine OK.tree ⟨lookT tis, fun _ => true, []⟩ (by decide +kernel) ?_
            | refine OK.need (by first | assumption | (rw [hA]; first | (show (_ : Int) ≠ _; decide) | (show (0 : Int) ≤ _; decide) | (show (0 : Int) ≤ _ ∧ _ < (256 : Int); decide))) ?_
            | (refine F.hold hA 2000 ?_; cbv))
          refine F.ret0 ⟨_, _, _, _, _, _, rfl, rfl, hc, code_yes hc.fine ?_⟩
          exact cond1 hA hc hn b1 hm b3
        · repeat (first
            | refine OK.drawn (by decide +kernel) ?_
            | refine OK.tree ⟨lookT tis, fun _ => true, []⟩ (by decide +kernel) ?_
            | refine OK.need (by first | assumption | (rw [hA]; first | (show (_ : Int) ≠ _; decide) | (show (0 : Int) ≤ _; decide) | (show (0 : Int) ≤ _ ∧ _ < (256 : Int); decide))) ?_
            | (refine F.hold hA 2000 ?_; cbv))
          refine F.callp [] (need_ok _ _) rfl rfl rfl (fun ch hch => ?_) (fun rs H' hq => by cases hq.2.2)
          rw [hX]
          refine ⟨code_no ?_, hch.2⟩
          exact cond2 hA hc hb b2 hn b1 hm b3
    · repeat (first
        | refine OK.drawn (by decide +kernel) ?_
        | refine OK.tree ⟨lookT tis, fun _ => true, []⟩ (by decide +kernel) ?_
        | refine OK.need (by first | assumption | (rw [hA]; first | (show (_ : Int) ≠ _; decide) | (show (0 : Int) ≤ _; decide) | (show (0 : Int) ≤ _ ∧ _ < (256 : Int); decide))) ?_
        | (refine F.hold hA 2000 ?_; cbv))
      refine F.call [1] (complete_ok ws fs cs ss os r) rfl rfl rfl fun rs H' hq => ?_
      obtain ⟨b, rfl, rfl, hb⟩ := hq
      refine ⟨rfl, ?_⟩
      repeat (first
        | refine OK.drawn (by decide +kernel) ?_
        | refine OK.tree ⟨lookT tis, fun _ => true, []⟩ (by decide +kernel) ?_
        | refine OK.need (by first | assumption | (rw [hA]; first | (show (_ : Int) ≠ _; decide) | (show (0 : Int) ≤ _; decide) | (show (0 : Int) ≤ _ ∧ _ < (256 : Int); decide))) ?_
        | (refine F.hold hA 2000 ?_; cbv))
      refine OK.branch (fun b2 => ?_) (fun b2 => ?_)
      · repeat (first
          | refine OK.drawn (by decide +kernel) ?_
          | refine OK.tree ⟨lookT tis, fun _ => true, []⟩ (by decide +kernel) ?_
          | refine OK.need (by first | assumption | (rw [hA]; first | (show (_ : Int) ≠ _; decide) | (show (0 : Int) ≤ _; decide) | (show (0 : Int) ≤ _ ∧ _ < (256 : Int); decide))) ?_
          | (refine F.hold hA 2000 ?_; cbv))
        refine F.callp [] (need_ok _ _) rfl rfl rfl (fun ch hch => by cases hch.1) (fun rs H' hq => ?_)
        obtain ⟨rfl, rfl, hr2⟩ := hq
        refine ⟨rfl, ?_⟩
        repeat (first
          | refine OK.drawn (by decide +kernel) ?_
          | refine OK.tree ⟨lookT tis, fun _ => true, []⟩ (by decide +kernel) ?_
          | refine OK.need (by first | assumption | (rw [hA]; first | (show (_ : Int) ≠ _; decide) | (show (0 : Int) ≤ _; decide) | (show (0 : Int) ≤ _ ∧ _ < (256 : Int); decide))) ?_
          | (refine F.hold hA 2000 ?_; cbv))
        refine F.ret0 ⟨_, _, _, _, _, _, rfl, rfl, hc, code_yes hc.fine ?_⟩
        exact .inl ((comp_eq hc hb).1 b2)
      · repeat (first
          | refine OK.drawn (by decide +kernel) ?_
          | refine OK.tree ⟨lookT tis, fun _ => true, []⟩ (by decide +kernel) ?_
          | refine OK.need (by first | assumption | (rw [hA]; first | (show (_ : Int) ≠ _; decide) | (show (0 : Int) ≤ _; decide) | (show (0 : Int) ≤ _ ∧ _ < (256 : Int); decide))) ?_
          | (refine F.hold hA 2000 ?_; cbv))
        refine F.callp [] (need_ok _ _) rfl rfl rfl (fun ch hch => ?_) (fun rs H' hq => by cases hq.2.2)
        rw [hX]
        refine ⟨code_no ?_, hch.2⟩
        exact cond3 hA hc hb b2 hn b1 (.inl rfl)
  · refine fokp_of (B := ⟨lookT tis, fun _ => false, []⟩) (tab1 _) (zero1 _) cod1 mix1 Try.func86 (by kernel_rfl) rfl rfl rfl fun X F hX => ?_
    obtain ⟨A, hA⟩ : ∃ A, A = Leaf.std := ⟨_, rfl⟩
    refine F.hold hA 2000 ?_
    cbv
    repeat (first
      | refine OK.drawn (by decide +kernel) ?_
      | refine OK.tree ⟨lookT tis, fun _ => true, []⟩ (by decide +kernel) ?_
      | refine OK.need (by first | assumption | (rw [hA]; first | (show (_ : Int) ≠ _; decide) | (show (0 : Int) ≤ _; decide) | (show (0 : Int) ≤ _ ∧ _ < (256 : Int); decide))) ?_
      | (refine F.hold hA 2000 ?_; cbv))
    refine F.call [] (new_ok l) rfl rfl rfl fun rs H' hq => ?_
    rcases hq with ⟨e, rfl, rfl, hbad⟩ | ⟨ws, fs, cs, ss, os, r, rfl, rfl, hc⟩
    · refine ⟨rfl, ?_⟩
      repeat (first
        | refine OK.drawn (by decide +kernel) ?_
        | refine OK.tree ⟨lookT tis, fun _ => true, []⟩ (by decide +kernel) ?_
        | refine OK.need (by first | assumption | (rw [hA]; first | (show (_ : Int) ≠ _; decide) | (show (0 : Int) ≤ _; decide) | (show (0 : Int) ≤ _ ∧ _ < (256 : Int); decide))) ?_
        | (refine F.hold hA 2000 ?_; cbv))
      refine F.callp [] (need_ok _ _) rfl rfl rfl (fun ch hch => ?_) (fun rs H' hq => ?_)
      · rw [hX]
        exact ⟨code_bad (okLen_no (by rcases hbad with ⟨_, h⟩ | ⟨_, _, h⟩; exact .inl h; exact .inr h)), hch.2⟩
      · exfalso
        have := (eql0 hA).1 hq.2.2
        rcases hbad with ⟨h, _⟩ | ⟨h, _⟩ <;> omega
    refine ⟨rfl, ?_⟩
    repeat (first
      | refine OK.drawn (by decide +kernel) ?_
      | refine OK.tree ⟨lookT tis, fun _ => true, []⟩ (by decide +kernel) ?_
      | refine OK.need (by first | assumption | (rw [hA]; first | (show (_ : Int) ≠ _; decide) | (show (0 : Int) ≤ _; decide) | (show (0 : Int) ≤ _ ∧ _ < (256 : Int); decide))) ?_
      | (refine F.hold hA 2000 ?_; cbv))
    refine F.callp [] (need_ok _ _) rfl rfl rfl (fun ch hch => ?_) (fun rs H' hq => ?_)
    · exact absurd rfl ((eql0 hA).2 hch.1)
    obtain ⟨rfl, rfl, hr⟩ := hq
    clear hr
    refine ⟨rfl, ?_⟩
    repeat (first
      | refine OK.drawn (by decide +kernel) ?_
      | refine OK.tree ⟨lookT tis, fun _ => true, []⟩ (by decide +kernel) ?_
      | refine OK.need (by first | assumption | (rw [hA]; first | (show (_ : Int) ≠ _; decide) | (show (0 : Int) ≤ _; decide) | (show (0 : Int) ≤ _ ∧ _ < (256 : Int); decide))) ?_
      | (refine F.hold hA 2000 ?_; cbv))
    refine F.call [1] (symbols_ok ws fs cs ss os r) rfl rfl rfl fun rs H' hq => ?_
    obtain ⟨n, rfl, rfl, hn⟩ := hq
    refine ⟨rfl, ?_⟩
    repeat (first
      | refine OK.drawn (by decide +kernel) ?_
      | refine OK.tree ⟨lookT tis, fun _ => true, []⟩ (by decide +kernel) ?_
      | refine OK.need (by first | assumption | (rw [hA]; first | (show (_ : Int) ≠ _; decide) | (show (0 : Int) ≤ _; decide) | (show (0 : Int) ≤ _ ∧ _ < (256 : Int); decide))) ?_
      | (refine F.hold hA 2000 ?_; cbv))
    refine OK.branch (fun b1 => ?_) (fun b1 => ?_)
    · have hmp := mxP_of hA hc hn b1
      repeat' (first
        | refine OK.drawn (by decide +kernel) ?_
        | refine OK.tree ⟨lookT tis, fun _ => true, []⟩ (by decide +kernel) ?_
        | refine OK.both ?_ ?_
        | refine OK.need (by first | assumption | (rw [hA]; first | (show (_ : Int) ≠ _; decide) | (show (0 : Int) ≤ _; decide) | (show (0 : Int) ≤ _ ∧ _ < (256 : Int); decide))) ?_
        | refine OK.need ?_ ?_
        | (refine OK.branch ?_ ?_ <;> intro h)
        | (refine F.hold hA 2000 ?_; cbv))
      refine F.call [] (max_ok l hmp) rfl rfl rfl fun rs H' hq => ?_
      obtain ⟨m, rfl, rfl, hm⟩ := hq
      refine ⟨rfl, ?_⟩
      repeat' (first
        | refine OK.drawn (by decide +kernel) ?_
        | refine OK.tree ⟨lookT tis, fun _ => true, []⟩ (by decide +kernel) ?_
        | refine OK.both ?_ ?_
        | refine OK.need (by first | assumption | (rw [hA]; first | (show (_ : Int) ≠ _; decide) | (show (0 : Int) ≤ _; decide) | (show (0 : Int) ≤ _ ∧ _ < (256 : Int); decide))) ?_
        | refine OK.need ?_ ?_
        | (refine OK.branch ?_ ?_ <;> intro h)
        | (refine F.hold hA 2000 ?_; cbv))
      refine F.call [1] (complete_ok ws fs cs ss os r) rfl rfl rfl fun rs H' hq => ?_
      obtain ⟨b, rfl, rfl, hb⟩ := hq
      refine ⟨rfl, ?_⟩
      repeat (first
        | refine OK.drawn (by decide +kernel) ?_
        | refine OK.tree ⟨lookT tis, fun _ => true, []⟩ (by decide +kernel) ?_
        | refine OK.need (by first | assumption | (rw [hA]; first | (show (_ : Int) ≠ _; decide) | (show (0 : Int) ≤ _; decide) | (show (0 : Int) ≤ _ ∧ _ < (256 : Int); decide))) ?_
        | (refine F.hold hA 2000 ?_; cbv))
      refine OK.branch (fun b2 => ?_) (fun b2 => ?_)
      · repeat (first
          | refine OK.drawn (by decide +kernel) ?_
          | refine OK.tree ⟨lookT tis, fun _ => true, []⟩ (by decide +kernel) ?_
          | refine OK.need (by first | assumption | (rw [hA]; first | (show (_ : Int) ≠ _; decide) | (show (0 : Int) ≤ _; decide) | (show (0 : Int) ≤ _ ∧ _ < (256 : Int); decide))) ?_
          | (refine F.hold hA 2000 ?_; cbv))
        refine F.callp [] (need_ok _ _) rfl rfl rfl (fun ch hch => by cases hch.1) (fun rs H' hq => ?_)
        obtain ⟨rfl, rfl, hr2⟩ := hq
        refine ⟨rfl, ?_⟩
        repeat (first
          | refine OK.drawn (by decide +kernel) ?_
          | refine OK.tree ⟨lookT tis, fun _ => true, []⟩ (by decide +kernel) ?_
          | refine OK.need (by first | assumption | (rw [hA]; first | (show (_ : Int) ≠ _; decide) | (show (0 : Int) ≤ _; decide) | (show (0 : Int) ≤ _ ∧ _ < (256 : Int); decide))) ?_
          | (refine F.hold hA 2000 ?_; cbv))
        refine F.ret0 ⟨_, _, _, _, _, _, rfl, rfl, hc, code_yes hc.fine ?_⟩
        exact .inl ((comp_eq hc hb).1 b2)
      · repeat (first
          | refine OK.drawn (by decide +kernel) ?_
          | refine OK.tree ⟨lookT tis, fun _ => true, []⟩ (by decide +kernel) ?_
          | refine OK.need (by first | assumption | (rw [hA]; first | (show (_ : Int) ≠ _; decide) | (show (0 : Int) ≤ _; decide) | (show (0 : Int) ≤ _ ∧ _ < (256 : Int); decide))) ?_
          | (refine F.hold hA 2000 ?_; cbv))
        refine OK.branch (fun b3 => ?_) (fun b3 => ?_)
        · repeat (first
            | refine OK.drawn (by decide +kernel) ?_
            | refine OK.tree ⟨lookT tis, fun _ => true, []⟩ (by decide +kernel) ?_
            | refine OK.need (by first | assumption | (rw [hA]; first | (show (_ : Int) ≠ _; decide) | (show (0 : Int) ≤ _; decide) | (show (0 : Int) ≤ _ ∧ _ < (256 : Int); decide))) ?_
            | (refine F.hold hA 2000 ?_; cbv))
          refine F.callp [] (need_ok _ _) rfl rfl rfl (fun ch hch => by cases hch.1) (fun rs H' hq => ?_)
          obtain ⟨rfl, rfl, hr2⟩ := hq
          refine ⟨rfl, ?_⟩
          repeat (first
            | refine OK.drawn (by decide +kernel) ?_
            | refine OK.tree ⟨lookT tis, fun _ => true, []⟩ (by decide +kernel) ?_
            | refine OK.need (by first | assumption | (rw [hA]; first | (show (_ : Int) ≠ _; decide) | (show (0 : Int) ≤ _; decide) | (show (0 : Int) ≤ _ ∧ _ < (256 : Int); decide))) ?_
            | (refine F.hold hA 2000 ?_; cbv))
          refine F.ret0 ⟨_, _, _, _, _, _, rfl, rfl, hc, code_yes hc.fine ?_⟩
          exact cond1 hA hc hn b1 hm b3
        · repeat (first
            | refine OK.drawn (by decide +kernel) ?_
            | refine OK.tree ⟨lookT tis, fun _ => true, []⟩ (by decide +kernel) ?_
            | refine OK.need (by first | assumption | (rw [hA]; first | (show (_ : Int) ≠ _; decide) | (show (0 : Int) ≤ _; decide) | (show (0 : Int) ≤ _ ∧ _ < (256 : Int); decide))) ?_
            | (refine F.hold hA 2000 ?_; cbv))
          refine F.call [1] (symbols_ok ws fs cs ss os r) rfl rfl rfl fun rs H' hq => ?_
          obtain ⟨n2, rfl, rfl, hn2⟩ := hq
          refine ⟨rfl, ?_⟩
          repeat (first
            | refine OK.drawn (by decide +kernel) ?_
            | refine OK.tree ⟨lookT tis, fun _ => true, []⟩ (by decide +kernel) ?_
            | refine OK.need (by first | assumption | (rw [hA]; first | (show (_ : Int) ≠ _; decide) | (show (0 : Int) ≤ _; decide) | (show (0 : Int) ≤ _ ∧ _ < (256 : Int); decide))) ?_
            | (refine F.hold hA 2000 ?_; cbv))
          refine F.callp [] (need_ok _ _) rfl rfl rfl (fun ch hch => ?_) (fun rs H' hq => ?_)
          · rw [hX]
            refine ⟨code_no ?_, hch.2⟩
            exact cond2 hA hc hb b2 hn b1 hm b3
          · exfalso
            have h0 := (eql0 hA).1 hq.2.2
            have h1 := used_eq hc hn
            have h2 := used_eq hc hn2
            have h3 := eqT hA b1
            omega
    · repeat (first
        | refine OK.drawn (by decide +kernel) ?_
        | refine OK.tree ⟨lookT tis, fun _ => true, []⟩ (by decide +kernel) ?_
        | refine OK.need (by first | assumption | (rw [hA]; first | (show (_ : Int) ≠ _; decide) | (show (0 : Int) ≤ _; decide) | (show (0 : Int) ≤ _ ∧ _ < (256 : Int); decide))) ?_
        | (refine F.hold hA 2000 ?_; cbv))
      refine F.call [1] (complete_ok ws fs cs ss os r) rfl rfl rfl fun rs H' hq => ?_
      obtain ⟨b, rfl, rfl, hb⟩ := hq
      refine ⟨rfl, ?_⟩
      repeat (first
        | refine OK.drawn (by decide +kernel) ?_
        | refine OK.tree ⟨lookT tis, fun _ => true, []⟩ (by decide +kernel) ?_
        | refine OK.need (by first | assumption | (rw [hA]; first | (show (_ : Int) ≠ _; decide) | (show (0 : Int) ≤ _; decide) | (show (0 : Int) ≤ _ ∧ _ < (256 : Int); decide))) ?_
        | (refine F.hold hA 2000 ?_; cbv))
      refine OK.branch (fun b2 => ?_) (fun b2 => ?_)
      · repeat (first
          | refine OK.drawn (by decide +kernel) ?_
          | refine OK.tree ⟨lookT tis, fun _ => true, []⟩ (by decide +kernel) ?_
          | refine OK.need (by first | assumption | (rw [hA]; first | (show (_ : Int) ≠ _; decide) | (show (0 : Int) ≤ _; decide) | (show (0 : Int) ≤ _ ∧ _ < (256 : Int); decide))) ?_
          | (refine F.hold hA 2000 ?_; cbv))
        refine F.callp [] (need_ok _ _) rfl rfl rfl (fun ch hch => by cases hch.1) (fun rs H' hq => ?_)
        obtain ⟨rfl, rfl, hr2⟩ := hq
        refine ⟨rfl, ?_⟩
        repeat (first
          | refine OK.drawn (by decide +kernel) ?_
          | refine OK.tree ⟨lookT tis, fun _ => true, []⟩ (by decide +kernel) ?_
          | refine OK.need (by first | assumption | (rw [hA]; first | (show (_ : Int) ≠ _; decide) | (show (0 : Int) ≤ _; decide) | (show (0 : Int) ≤ _ ∧ _ < (256 : Int); decide))) ?_
          | (refine F.hold hA 2000 ?_; cbv))
        refine F.ret0 ⟨_, _, _, _, _, _, rfl, rfl, hc, code_yes hc.fine ?_⟩
        exact .inl ((comp_eq hc hb).1 b2)
      · repeat (first
          | refine OK.drawn (by decide +kernel) ?_
          | refine OK.tree ⟨lookT tis, fun _ => true, []⟩ (by decide +kernel) ?_
          | refine OK.need (by first | assumption | (rw [hA]; first | (show (_ : Int) ≠ _; decide) | (show (0 : Int) ≤ _; decide) | (show (0 : Int) ≤ _ ∧ _ < (256 : Int); decide))) ?_
          | (refine F.hold hA 2000 ?_; cbv))
        refine F.call [1] (symbols_ok ws fs cs ss os r) rfl rfl rfl fun rs H' hq => ?_
        obtain ⟨n2, rfl, rfl, hn2⟩ := hq
        refine ⟨rfl, ?_⟩
        repeat (first
          | refine OK.drawn (by decide +kernel) ?_
          | refine OK.tree ⟨lookT tis, fun _ => true, []⟩ (by decide +kernel) ?_
          | refine OK.need (by first | assumption | (rw [hA]; first | (show (_ : Int) ≠ _; decide) | (show (0 : Int) ≤ _; decide) | (show (0 : Int) ≤ _ ∧ _ < (256 : Int); decide))) ?_
          | (refine F.hold hA 2000 ?_; cbv))
        refine F.callp [] (need_ok _ _) rfl rfl rfl (fun ch hch => ?_) (fun rs H' hq => ?_)
        · rw [hX]
          refine ⟨code_no ?_, hch.2⟩
          have h0 := (eql0 hA).2 hch.1
          exact cond3 hA hc hb b2 hn b1 (.inr (by have := used_eq hc hn2; omega))
        · obtain ⟨rfl, rfl, hr2⟩ := hq
          refine ⟨rfl, ?_⟩
          repeat (first
            | refine OK.drawn (by decide +kernel) ?_
            | refine OK.tree ⟨lookT tis, fun _ => true, []⟩ (by decide +kernel) ?_
            | refine OK.need (by first | assumption | (rw [hA]; first | (show (_ : Int) ≠ _; decide) | (show (0 : Int) ≤ _; decide) | (show (0 : Int) ≤ _ ∧ _ < (256 : Int); decide))) ?_
            | (refine F.hold hA 2000 ?_; cbv))
          refine F.ret0 ⟨_, _, _, _, _, _, rfl, rfl, hc, code_yes hc.fine ?_⟩
          have h0 := (eql0 hA).1 hr2
          exact .inr (.inr ⟨rfl, by have := used_eq hc hn2; omega⟩)
end Go.L1
