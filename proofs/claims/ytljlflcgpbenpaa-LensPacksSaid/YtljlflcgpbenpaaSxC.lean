/- Own work of the session: part SxC of a proof that the program's functions do what the statement says (a symbolic executor, contracts of the functions, plain laws). -/
import Derived.Test.YtljlflcgpbenpaaSxB
import Derived.Recover
import Derived.OrdersIn
import Derived.TacticsIn
import Derived.CallsIn
import Derived.RangeFuncOwn
set_option linter.all false
-- Sx21
namespace Go.Sx
open Go
section
variable {T : Nat → Type} {X : Ctx T} {C : Cod T} {M M' : Mem}

def frz (c : Nat) (r : Row T) : SV T → SV T
  | .agg l => .agg (frzL c r l)
  | .tup l => .tup (frzL c r l)
  | .own d => match Nat.beq d c with | true => .ro r | false => .own d
  | .ptr d o => match Nat.beq d c with | true => .any | false => .ptr d o
  | .elt d o i z s => match Nat.beq d c with | true => .any | false => .elt d o i z s
  | .osl d lo hi => match Nat.beq d c with | true => .any | false => .osl d lo hi
  | .fn f l => .fn f (frzL c r l)
  | .iface t s => .iface t (frz c r s)
  | .rp l o => .rp (frzL c r l) o
  | .rpe l o i z s => .rpe (frzL c r l) o i z s
  | s => s
where frzL (c : Nat) (r : Row T) : List (SV T) → List (SV T)
  | [] => []
  | s :: l => frz c r s :: frzL c r l
def frzCh (c : Nat) (r : Row T) : Ch T → Ch T
  | .cells t l => .cells t (frz.frzL c r l)
  | .hole t r' i s => .hole t r' i (frz c r s)
  | x => x
def frzH (c : Nat) (r : Row T) : List (Ch T) → List (Ch T)
  | [] => []
  | x :: H => frzCh c r x :: frzH c r H

theorem Den.frz (hC : CodOK C) {c : Nat} {r : Row T} (hn : M'.n = M.n) (hρ : M'.ρ = M.ρ) (hw : M'.w = M.w) (hD : ∀ b, M.D b → M'.D b)
    (hr : r.length = (M.ρ c).len ∧ (M.ρ c).len ≤ (M.ρ c).cap ∧ (((M.ρ c).blk = none ∧ (M.ρ c).len = 0) ∨ ∃ g us, (M.ρ c).blk = some g ∧ M'.D g ∧ us.length = r.length * r.elemSz C ∧ (∀ q, q < us.length → M'.w.cell? ⟨g, 0 + q, none⟩ = us[q]?) ∧ RowOK C M' r us))
    {l : List (SV T)} {vs : List Value} (h : Den C M l vs) : Den C M' (frz.frzL c r l) vs := by
  have hDD : ∀ b, M.D b → M'.D b ∧ M'.w.heap[b]? = M.w.heap[b]? := fun b hb => ⟨hD b hb, by rw [hw]⟩
  have hcell : ∀ b o, M.D b → M'.w.cell? ⟨b, o, none⟩ = M.w.cell? ⟨b, o, none⟩ := fun b o _ => by rw [hw]
  induction h with
  | nil => exact .nil
  | any v h1 _ ih => exact .any v h1 ih
  | val v h1 _ ih => exact .val v h1 ih
  | int k n _ ih => exact .int k n ih
  | bool b _ ih => exact .bool b ih
  | str s _ ih => exact .str s ih
  | arr r us hu h _ _ ihl => exact .arr r us hu (Row.free2 hC hDD h) ihl
  | ptr d off g hc h _ ih =>
    simp only [frz.frzL, Go.Sx.frz]
    split
    · exact .any _ rfl ih
    · exact .ptr d off g (by omega) (by rw [hρ]; exact h) ih
  | elt d off i sz sub g hc h _ ih =>
    simp only [frz.frzL, Go.Sx.frz]
    split
    · exact .any _ rfl ih
    · exact .elt d off i sz sub g (by omega) (by rw [hρ]; exact h) ih
  | osl d lo hi a cap hc h0 h1 h2 ha hz _ ih =>
    simp only [frz.frzL, Go.Sx.frz]
    split
    · exact .any _ rfl ih
    · exact .osl d lo hi a cap (by omega) h0 h1 (by rw [hρ]; exact h2) (by rw [hρ]; exact ha) (by rw [hρ]; exact hz) ih
  | own d hc _ ih =>
    simp only [frz.frzL, Go.Sx.frz]
    split
    · rename_i hd
      rw [Nat.beq_eq] at hd
      subst hd
      obtain ⟨h1, h2, h3⟩ := hr
      rw [← h1] at h2 h3 ⊢
      rcases h3 with ⟨hb, h0⟩ | ⟨g, us, hg, hDg, hus, hq, hrow⟩
      · rw [hb]
        exact .ro r _ _ [] (by simp [h0]) h2 (fun h => by omega) (fun i e he => by have := Row.cells_lt he; omega) ih
      · rw [hg]
        exact .ro r _ _ us hus h2 (fun _ => ⟨g, 0, rfl, hDg, hq⟩) hrow ih
    · have := Den.own (C := C) (M := M') d (by omega) ih
      rw [hρ] at this
      exact this
  | ro r a cap us hu hc ha h _ _ ihl =>
    refine .ro r a cap us hu hc (fun h0 => ?_) (Row.free2 hC hDD h) ihl
    obtain ⟨b, o, rfl, hb, hq⟩ := ha h0
    exact ⟨b, o, rfl, hD b hb, fun q hql => by rw [hcell b _ hb]; exact hq q hql⟩
  | roe r i sub b o us hu h0 h1 hd ha h _ _ ihl =>
    exact .roe r i sub b o us hu h0 h1 (hD b hd) (fun q hql => by rw [hcell b _ hd]; exact ha q hql) (Row.free2 hC hDD h) ihl
  | rp m off b o us hd ha h _ ih ihl =>
    exact .rp _ off b o us (hD b hd) (fun q hql => by rw [hcell b _ hd]; exact ha q hql) ih ihl
  | rpe m off i sz sub b o us hd ha h _ ih ihl =>
    exact .rpe _ off i sz sub b o us (hD b hd) (fun q hql => by rw [hcell b _ hd]; exact ha q hql) ih ihl
  | fn f m us h _ ih ihl => exact .fn f _ us ih ihl
  | iface t s v h _ ih ihl => exact .iface t _ v ih ihl
  | ifaceA t m us h _ ih ihl => exact .ifaceA t _ us ih ihl

theorem frzL_get (c : Nat) (r : Row T) : ∀ (l : List (SV T)) (i : Nat), (frz.frzL c r l)[i]? = l[i]?.map (frz c r)
  | [], i => by simp [frz.frzL]
  | s :: l, i => by cases i with
    | zero => simp [frz.frzL]
    | succ i => simpa [frz.frzL] using frzL_get c r l i
theorem frzL_length (c : Nat) (r : Row T) (l : List (SV T)) : (frz.frzL c r l).length = l.length := by
  induction l with
  | nil => rfl
  | cons s l ih => simp [frz.frzL, ih]
theorem frzH_get (c : Nat) (r : Row T) : ∀ (l : List (Ch T)) (i : Nat), (frzH c r l)[i]? = l[i]?.map (frzCh c r)
  | [], i => by simp [frzH]
  | s :: l, i => by cases i with
    | zero => simp [frzH]
    | succ i => simpa [frzH] using frzH_get c r l i
theorem frzH_length (c : Nat) (r : Row T) (l : List (Ch T)) : (frzH c r l).length = l.length := by
  induction l with
  | nil => rfl
  | cons s l ih => simp [frzH, ih]
end
end Go.Sx

-- Sx22
namespace Go.Sx
open Go
section
variable {T : Nat → Type} {X : Ctx T}

theorem Cv.freeze (hC : CodOK X.C) {l : List (SV T)} {H : List (Ch T)} (c : Nat) {t : TypeId} {r : Row T} (hc : nth H c = some (.row t r)) : Cv X l H (frz.frzL c r l) (frzH c r (setN H c .gone)) := by
  rw [setN_eq]
  rw [nth_eq] at hc
  refine ⟨by rw [frzL_length]; exact Nat.le_refl _, fun M hS => ?_⟩
  have hlc : live H c := ⟨_, hc, rfl⟩
  have hcl := live_lt hlc
  have hlv : ∀ d, live (frzH c r (H.set c .gone)) d → live H d ∧ d ≠ c := by
    rintro d ⟨x, hx, hxl⟩
    rw [frzH_get] at hx
    obtain ⟨y, hy, rfl⟩ := Option.map_eq_some_iff.1 hx
    by_cases hd : c = d
    · subst hd
      rw [List.getElem?_set_self hcl] at hy
      cases hy
      cases hxl
    · rw [List.getElem?_set_ne hd] at hy
      refine ⟨⟨y, hy, ?_⟩, fun h => hd h.symm⟩
      cases y <;> first | exact hxl | rfl
  let M' : Mem := { n := M.n, ρ := M.ρ, D := fun b => b < M.w.heap.size ∧ ¬ X.E.X b ∧ ∀ d, live (frzH c r (H.set c .gone)) d → (M.ρ d).blk ≠ some b, w := M.w }
  have hD : ∀ b, M.D b → M'.D b := fun b hb => by
    obtain ⟨h1, h2, h3⟩ := (hS.D b).1 hb
    exact ⟨h1, h2, fun d hd => h3 d (hlv d hd).1⟩
  have hDD : ∀ b, M.D b → M'.D b ∧ M'.w.heap[b]? = M.w.heap[b]? := fun b hb => ⟨hD b hb, rfl⟩
  obtain ⟨hl, hr⟩ := hS.ch c _ hc
  have key : r.length = (M.ρ c).len ∧ (M.ρ c).len ≤ (M.ρ c).cap ∧ (((M.ρ c).blk = none ∧ (M.ρ c).len = 0) ∨ ∃ g us, (M.ρ c).blk = some g ∧ M'.D g ∧ us.length = r.length * r.elemSz X.C ∧ (∀ q, q < us.length → M'.w.cell? ⟨g, 0 + q, none⟩ = us[q]?) ∧ RowOK X.C M' r us) := by
    rcases hr with ⟨h1, h2, h3⟩ | ⟨g, us, hg, hh, hle, hcm, hus, hrow⟩
    · exact ⟨hl, by omega, .inl ⟨h1, h2⟩⟩
    · have hle' : r.length * r.elemSz X.C ≤ us.length := by rw [hus, hl]; exact Nat.mul_le_mul_right _ hle
      refine ⟨hl, hle, .inr ⟨g, us.take (r.length * r.elemSz X.C), hg, ?_, by simp; omega, fun q hq => ?_, ?_⟩⟩
      · have := hS.lt c g hlc hg
        refine ⟨this.1, this.2.1, fun d hd hdg => ?_⟩
        obtain ⟨h1, h2⟩ := hlv d hd
        exact h2 (hS.inj d c g h1 hlc hdg hg)
      · simp only [List.length_take] at hq
        rw [Nat.zero_add, List.getElem?_take, if_pos (by omega)]
        exact cell_blk hh q
      · exact Row.free2 hC hDD (hrow.front (by rw [List.take_take, Nat.min_self]))
  have hden : ∀ {l : List (SV T)} {vs : List Value}, Den X.C M l vs → Den X.C M' (frz.frzL c r l) vs := fun h => Den.frz (M := M) (M' := M') hC rfl rfl rfl hD key h
  refine ⟨M', rfl, ⟨by rw [frzH_length, List.length_set]; exact hS.n, fun d x hx => ?_, fun d1 d2 g h1 h2 => hS.inj d1 d2 g (hlv d1 h1).1 (hlv d2 h2).1, fun d g h1 => hS.lt d g (hlv d h1).1, fun b => Iff.rfl, hS.os, hS.tape, hS.output, hS.size, fun d h hA => ⟨by rw [frzH_length, List.length_set]; exact (hS.anch d h hA).1, (hS.anch d h hA).2⟩, hS.kept⟩, fun vs hv i s hs => ?_⟩
  · rw [frzH_get] at hx
    obtain ⟨y, hy, rfl⟩ := Option.map_eq_some_iff.1 hx
    by_cases hd : c = d
    · subst hd
      rw [List.getElem?_set_self hcl] at hy
      cases hy
      trivial
    · rw [List.getElem?_set_ne hd] at hy
      have hch := hS.ch d y hy
      cases y with
      | gone => trivial
      | cells t' m => obtain ⟨g, us, hg, hh, hm⟩ := hch; exact ⟨g, us, hg, hh, hden hm⟩
      | row t' r' =>
        obtain ⟨a1, a2⟩ := hch
        refine ⟨a1, ?_⟩
        rcases a2 with a2 | ⟨g, us, hg, hh, b1, b2, b3, b4⟩
        · exact .inl a2
        · exact .inr ⟨g, us, hg, hh, b1, b2, b3, Row.free2 hC hDD b4⟩
      | hole t' r' i' s' =>
        obtain ⟨b0, a1, a2, a3, g, us, hg, hh, b1, b2, b3, hm, ho⟩ := hch
        exact ⟨b0, a1, a2, a3, g, us, hg, hh, b1, b2, b3, hden hm, fun k x hk hx => (ho k x hk hx).mono2 hC (fun c _ hm => by rw [Row.cells_free hC hx] at hm; cases hm) hDD⟩
  · rw [frzL_get] at hs
    obtain ⟨y, hy, rfl⟩ := Option.map_eq_some_iff.1 hs
    have hp : ∀ {s : SV T} {v : Value}, DenP X.C M s v → DenP X.C M' (frz c r s) v := by
      intro s v h
      cases s
      case agg m => obtain ⟨us, rfl, h⟩ := h; exact ⟨us, rfl, hden h⟩
      case arr n r' => obtain ⟨us, rfl, h⟩ := h; exact ⟨us, rfl, hden h⟩
      case any => trivial
      case tup => exact h.elim
      case own d =>
        have h2 := hden h
        simp only [frz, frz.frzL] at h2 ⊢
        split at h2 <;> exact h2
      case ptr d o =>
        have h2 := hden h
        simp only [frz, frz.frzL] at h2 ⊢
        split at h2
        · trivial
        · exact h2
      case elt d o i z s =>
        have h2 := hden h
        simp only [frz, frz.frzL] at h2 ⊢
        split at h2
        · trivial
        · exact h2
      case osl d lo hi =>
        have h2 := hden h
        simp only [frz, frz.frzL] at h2 ⊢
        split at h2
        · trivial
        · exact h2
      all_goals exact hden h
    have := hv i y hy
    cases y
    case tup m =>
      obtain ⟨us, h1, h2, h3⟩ := this
      refine ⟨us, h1, by rw [frzL_length]; exact h2, fun j z u hz hu => ?_⟩
      rw [frzL_get] at hz
      obtain ⟨z', hz', rfl⟩ := Option.map_eq_some_iff.1 hz
      exact hp (h3 j z' u hz' hu)
    all_goals exact denV_of_P (hp this)
end
end Go.Sx

-- Sx23
namespace Go.Sx
open Go
def LAr := Leaf.std.ar
def LCmp := Leaf.std.cmp
def LNeg := Leaf.std.neg
def LCpl := Leaf.std.cpl
def LConv := Leaf.std.conv
def LMin := Leaf.std.imin
def LMax := Leaf.std.imax
def LNot := Leaf.std.bnot
def LBeq := Leaf.std.beq
def LLen {α : Type} (l : List α) : Int := Leaf.std.len l
def LGet {α : Type} (d : α) (l : List α) (i : Int) : α := Leaf.std.get d l i
def LSet {α : Type} (l : List α) (i : Int) (v : α) : List α := Leaf.std.set l i v
def LApp {α : Type} (l m : List α) : List α := Leaf.std.app l m
def LSub {α : Type} (l : List α) (a b : Int) : List α := Leaf.std.sub l a b
def LRep {α : Type} (n : Int) (a : α) : List α := Leaf.std.rep n a
def LB2i := Leaf.std.b2i
def LI2b := Leaf.std.i2b
def LSeq := Leaf.std.seq
def LSlt := Leaf.std.slt
def LInb := Leaf.std.inb
def LSlb := Leaf.std.slb
def LIsB := Leaf.std.isB
def LNn := Leaf.std.nn
def LNz := Leaf.std.nz
def LSmall := Leaf.std.small
theorem std_eq : Leaf.std = { ar := LAr, cmp := LCmp, neg := LNeg, cpl := LCpl, conv := LConv, imin := LMin, imax := LMax, bnot := LNot, beq := LBeq, len := LLen, get := LGet, set := LSet, app := LApp, sub := LSub, rep := LRep, b2i := LB2i, i2b := LI2b, seq := LSeq, slt := LSlt, inb := LInb, slb := LSlb, isB := LIsB, nn := LNn, nz := LNz, small := LSmall } := rfl
theorem l_cast (n : Nat) : (NatCast.natCast n : Int) = (n : Int) := rfl
theorem l_lss (a b : Int) : LCmp .lss a b = decide (a < b) := rfl
theorem l_leq (a b : Int) : LCmp .leq a b = decide (a ≤ b) := rfl
theorem l_gtr (a b : Int) : LCmp .gtr a b = decide (b < a) := rfl
theorem l_geq (a b : Int) : LCmp .geq a b = decide (b ≤ a) := rfl
theorem l_eql (a b : Int) : LCmp .eql a b = decide (a = b) := rfl
theorem l_neq (a b : Int) : LCmp .neq a b = !decide (a = b) := rfl
theorem l_not (b : Bool) : LNot b = !b := rfl
theorem l_beq (a b : Bool) : LBeq a b = (a == b) := rfl
theorem l_len {α : Type} (l : List α) : LLen l = (l.length : Int) := rfl
theorem l_get {α : Type} (d : α) (l : List α) (i : Int) : LGet d l i = l.getD i.toNat d := rfl
theorem l_set {α : Type} (l : List α) (i : Int) (v : α) : LSet l i v = l.set i.toNat v := rfl
theorem l_app {α : Type} (l m : List α) : LApp l m = l ++ m := rfl
theorem l_sub {α : Type} (l : List α) (a b : Int) : LSub l a b = (l.drop a.toNat).take (b - a).toNat := rfl
theorem l_rep {α : Type} (n : Int) (a : α) : LRep n a = List.replicate n.toNat a := rfl
theorem l_b2i (b : UInt8) : LB2i b = (b.toNat : Int) := rfl
theorem l_i2b (n : Int) : LI2b n = UInt8.ofNat n.toNat := rfl
theorem l_seq (s t : List UInt8) : LSeq s t = (s == t) := rfl
theorem l_slt (s t : List UInt8) : LSlt s t = Op.bytesLess s t := rfl
theorem l_inb (i n : Int) : LInb i n = (0 ≤ i ∧ i < n) := rfl
theorem l_slb (a b c : Int) : LSlb a b c = (0 ≤ a ∧ a ≤ b ∧ b ≤ c) := rfl
theorem l_isB (n : Int) : LIsB n = (0 ≤ n ∧ n < 256) := rfl
theorem l_nn (n : Int) : LNn n = (0 ≤ n) := rfl
theorem l_nz (n : Int) : LNz n = (n ≠ 0) := rfl
theorem l_small (n : Int) (b : Nat) : LSmall n b = (0 ≤ n ∧ n ≤ 140737488355328 ∧ n * (b : Int) ≤ 140737488355328) := rfl
theorem l_min (a b : Int) : LMin a b = min a b := by
  show (if b < a then b else a) = _
  omega
theorem l_max (a b : Int) : LMax a b = max a b := by
  show (if a < b then b else a) = _
  omega

theorem l_add_i8 {a b : Int} (h0 : -128 ≤ a + b) (h1 : a + b ≤ 127) : LAr .add .i8 a b = a + b := add_i8 h0 h1
theorem l_sub_i8 {a b : Int} (h0 : -128 ≤ a - b) (h1 : a - b ≤ 127) : LAr .sub .i8 a b = a - b := sub_i8 h0 h1
theorem l_mul_i8 {a b : Int} (h0 : -128 ≤ a * b) (h1 : a * b ≤ 127) : LAr .mul .i8 a b = a * b := mul_i8 h0 h1
theorem l_conv_i8 {a : Int} (h0 : -128 ≤ a) (h1 : a ≤ 127) : LConv .i8 a = a := conv_i8 h0 h1
theorem l_quo_i8 {a b : Int} (h0 : 0 ≤ a) (hb : 0 ≤ b) (h1 : a ≤ 127) : LAr .quo .i8 a b = a / b := leaf_quo h0 hb (by rw [max_i8]; exact h1)
theorem l_add_i16 {a b : Int} (h0 : -32768 ≤ a + b) (h1 : a + b ≤ 32767) : LAr .add .i16 a b = a + b := add_i16 h0 h1
theorem l_sub_i16 {a b : Int} (h0 : -32768 ≤ a - b) (h1 : a - b ≤ 32767) : LAr .sub .i16 a b = a - b := sub_i16 h0 h1
theorem l_mul_i16 {a b : Int} (h0 : -32768 ≤ a * b) (h1 : a * b ≤ 32767) : LAr .mul .i16 a b = a * b := mul_i16 h0 h1
theorem l_conv_i16 {a : Int} (h0 : -32768 ≤ a) (h1 : a ≤ 32767) : LConv .i16 a = a := conv_i16 h0 h1
theorem l_quo_i16 {a b : Int} (h0 : 0 ≤ a) (hb : 0 ≤ b) (h1 : a ≤ 32767) : LAr .quo .i16 a b = a / b := leaf_quo h0 hb (by rw [max_i16]; exact h1)
theorem l_add_i32 {a b : Int} (h0 : -2147483648 ≤ a + b) (h1 : a + b ≤ 2147483647) : LAr .add .i32 a b = a + b := add_i32 h0 h1
theorem l_sub_i32 {a b : Int} (h0 : -2147483648 ≤ a - b) (h1 : a - b ≤ 2147483647) : LAr .sub .i32 a b = a - b := sub_i32 h0 h1
theorem l_mul_i32 {a b : Int} (h0 : -2147483648 ≤ a * b) (h1 : a * b ≤ 2147483647) : LAr .mul .i32 a b = a * b := mul_i32 h0 h1
theorem l_conv_i32 {a : Int} (h0 : -2147483648 ≤ a) (h1 : a ≤ 2147483647) : LConv .i32 a = a := conv_i32 h0 h1
theorem l_quo_i32 {a b : Int} (h0 : 0 ≤ a) (hb : 0 ≤ b) (h1 : a ≤ 2147483647) : LAr .quo .i32 a b = a / b := leaf_quo h0 hb (by rw [max_i32]; exact h1)
theorem l_add_i64 {a b : Int} (h0 : -9223372036854775808 ≤ a + b) (h1 : a + b ≤ 9223372036854775807) : LAr .add .i64 a b = a + b := add_i64 h0 h1
theorem l_sub_i64 {a b : Int} (h0 : -9223372036854775808 ≤ a - b) (h1 : a - b ≤ 9223372036854775807) : LAr .sub .i64 a b = a - b := sub_i64 h0 h1
theorem l_mul_i64 {a b : Int} (h0 : -9223372036854775808 ≤ a * b) (h1 : a * b ≤ 9223372036854775807) : LAr .mul .i64 a b = a * b := mul_i64 h0 h1
theorem l_conv_i64 {a : Int} (h0 : -9223372036854775808 ≤ a) (h1 : a ≤ 9223372036854775807) : LConv .i64 a = a := conv_i64 h0 h1
theorem l_quo_i64 {a b : Int} (h0 : 0 ≤ a) (hb : 0 ≤ b) (h1 : a ≤ 9223372036854775807) : LAr .quo .i64 a b = a / b := leaf_quo h0 hb (by rw [max_i64]; exact h1)
theorem l_add_u8 {a b : Int} (h0 : 0 ≤ a + b) (h1 : a + b ≤ 255) : LAr .add .u8 a b = a + b := add_u8 h0 h1
theorem l_sub_u8 {a b : Int} (h0 : 0 ≤ a - b) (h1 : a - b ≤ 255) : LAr .sub .u8 a b = a - b := sub_u8 h0 h1
theorem l_mul_u8 {a b : Int} (h0 : 0 ≤ a * b) (h1 : a * b ≤ 255) : LAr .mul .u8 a b = a * b := mul_u8 h0 h1
theorem l_conv_u8 {a : Int} (h0 : 0 ≤ a) (h1 : a ≤ 255) : LConv .u8 a = a := conv_u8 h0 h1
theorem l_quo_u8 {a b : Int} (h0 : 0 ≤ a) (hb : 0 ≤ b) (h1 : a ≤ 255) : LAr .quo .u8 a b = a / b := leaf_quo h0 hb (by rw [max_u8]; exact h1)
theorem l_add_u16 {a b : Int} (h0 : 0 ≤ a + b) (h1 : a + b ≤ 65535) : LAr .add .u16 a b = a + b := add_u16 h0 h1
theorem l_sub_u16 {a b : Int} (h0 : 0 ≤ a - b) (h1 : a - b ≤ 65535) : LAr .sub .u16 a b = a - b := sub_u16 h0 h1
theorem l_mul_u16 {a b : Int} (h0 : 0 ≤ a * b) (h1 : a * b ≤ 65535) : LAr .mul .u16 a b = a * b := mul_u16 h0 h1
theorem l_conv_u16 {a : Int} (h0 : 0 ≤ a) (h1 : a ≤ 65535) : LConv .u16 a = a := conv_u16 h0 h1
theorem l_quo_u16 {a b : Int} (h0 : 0 ≤ a) (hb : 0 ≤ b) (h1 : a ≤ 65535) : LAr .quo .u16 a b = a / b := leaf_quo h0 hb (by rw [max_u16]; exact h1)
theorem l_add_u32 {a b : Int} (h0 : 0 ≤ a + b) (h1 : a + b ≤ 4294967295) : LAr .add .u32 a b = a + b := add_u32 h0 h1
theorem l_sub_u32 {a b : Int} (h0 : 0 ≤ a - b) (h1 : a - b ≤ 4294967295) : LAr .sub .u32 a b = a - b := sub_u32 h0 h1
theorem l_mul_u32 {a b : Int} (h0 : 0 ≤ a * b) (h1 : a * b ≤ 4294967295) : LAr .mul .u32 a b = a * b := mul_u32 h0 h1
theorem l_conv_u32 {a : Int} (h0 : 0 ≤ a) (h1 : a ≤ 4294967295) : LConv .u32 a = a := conv_u32 h0 h1
theorem l_quo_u32 {a b : Int} (h0 : 0 ≤ a) (hb : 0 ≤ b) (h1 : a ≤ 4294967295) : LAr .quo .u32 a b = a / b := leaf_quo h0 hb (by rw [max_u32]; exact h1)
theorem l_add_u64 {a b : Int} (h0 : 0 ≤ a + b) (h1 : a + b ≤ 18446744073709551615) : LAr .add .u64 a b = a + b := add_u64 h0 h1
theorem l_sub_u64 {a b : Int} (h0 : 0 ≤ a - b) (h1 : a - b ≤ 18446744073709551615) : LAr .sub .u64 a b = a - b := sub_u64 h0 h1
theorem l_mul_u64 {a b : Int} (h0 : 0 ≤ a * b) (h1 : a * b ≤ 18446744073709551615) : LAr .mul .u64 a b = a * b := mul_u64 h0 h1
theorem l_conv_u64 {a : Int} (h0 : 0 ≤ a) (h1 : a ≤ 18446744073709551615) : LConv .u64 a = a := conv_u64 h0 h1
theorem l_quo_u64 {a b : Int} (h0 : 0 ≤ a) (hb : 0 ≤ b) (h1 : a ≤ 18446744073709551615) : LAr .quo .u64 a b = a / b := leaf_quo h0 hb (by rw [max_u64]; exact h1)
theorem l_rem {k : IntKind} {a b : Int} (h0 : 0 ≤ a) : LAr .rem k a b = a % b := leaf_rem h0
theorem l_shr {k : IntKind} {a b : Int} (h0 : 0 ≤ b) (h1 : b ≤ k.bits) : LAr .shr k a b = a / 2 ^ b.toNat := by
  have := leaf_shr (k := k) (a := a) (n := b.toNat) (by omega)
  rw [← this, Int.toNat_of_nonneg h0]; rfl
theorem l_shr_i8 {a b : Int} (h0 : 0 ≤ b) (h1 : b ≤ 8) : LAr .shr .i8 a b = a / 2 ^ b.toNat := l_shr h0 h1
theorem l_shl_i8 {a b : Int} (h0 : 0 ≤ b) (h1 : b ≤ 8) (h2 : -128 ≤ a * 2 ^ b.toNat) (h3 : a * 2 ^ b.toNat ≤ 127) : LAr .shl .i8 a b = a * 2 ^ b.toNat := by
  have := leaf_shl (k := .i8) (a := a) (n := b.toNat) (by show _ ≤ 8; omega) (by rw [min_i8]; exact h2) (by rw [max_i8]; exact h3)
  rw [← this, Int.toNat_of_nonneg h0]; rfl
theorem l_and_i8 {a b : Int} (h0 : 0 ≤ a) (h1 : a ≤ 127) (h2 : 0 ≤ b) (h3 : b ≤ 127) : LAr .and .i8 a b = ((a.toNat &&& b.toNat : Nat) : Int) := by
  have := leaf_and (k := .i8) (a := a.toNat) (b := b.toNat) (by show _ < 2 ^ 7; omega) (by show _ < 2 ^ 7; omega)
  rw [← this, Int.toNat_of_nonneg h0, Int.toNat_of_nonneg h2]; rfl
theorem l_or_i8 {a b : Int} (h0 : 0 ≤ a) (h1 : a ≤ 127) (h2 : 0 ≤ b) (h3 : b ≤ 127) : LAr .or .i8 a b = ((a.toNat ||| b.toNat : Nat) : Int) := by
  have := leaf_or (k := .i8) (a := a.toNat) (b := b.toNat) (by show _ < 2 ^ 7; omega) (by show _ < 2 ^ 7; omega)
  rw [← this, Int.toNat_of_nonneg h0, Int.toNat_of_nonneg h2]; rfl
theorem l_xor_i8 {a b : Int} (h0 : 0 ≤ a) (h1 : a ≤ 127) (h2 : 0 ≤ b) (h3 : b ≤ 127) : LAr .xor .i8 a b = ((a.toNat ^^^ b.toNat : Nat) : Int) := by
  have := leaf_xor (k := .i8) (a := a.toNat) (b := b.toNat) (by show _ < 2 ^ 7; omega) (by show _ < 2 ^ 7; omega)
  rw [← this, Int.toNat_of_nonneg h0, Int.toNat_of_nonneg h2]; rfl
theorem l_shr_i16 {a b : Int} (h0 : 0 ≤ b) (h1 : b ≤ 16) : LAr .shr .i16 a b = a / 2 ^ b.toNat := l_shr h0 h1
theorem l_shl_i16 {a b : Int} (h0 : 0 ≤ b) (h1 : b ≤ 16) (h2 : -32768 ≤ a * 2 ^ b.toNat) (h3 : a * 2 ^ b.toNat ≤ 32767) : LAr .shl .i16 a b = a * 2 ^ b.toNat := by
  have := leaf_shl (k := .i16) (a := a) (n := b.toNat) (by show _ ≤ 16; omega) (by rw [min_i16]; exact h2) (by rw [max_i16]; exact h3)
  rw [← this, Int.toNat_of_nonneg h0]; rfl
theorem l_and_i16 {a b : Int} (h0 : 0 ≤ a) (h1 : a ≤ 32767) (h2 : 0 ≤ b) (h3 : b ≤ 32767) : LAr .and .i16 a b = ((a.toNat &&& b.toNat : Nat) : Int) := by
  have := leaf_and (k := .i16) (a := a.toNat) (b := b.toNat) (by show _ < 2 ^ 15; omega) (by show _ < 2 ^ 15; omega)
  rw [← this, Int.toNat_of_nonneg h0, Int.toNat_of_nonneg h2]; rfl
theorem l_or_i16 {a b : Int} (h0 : 0 ≤ a) (h1 : a ≤ 32767) (h2 : 0 ≤ b) (h3 : b ≤ 32767) : LAr .or .i16 a b = ((a.toNat ||| b.toNat : Nat) : Int) := by
  have := leaf_or (k := .i16) (a := a.toNat) (b := b.toNat) (by show _ < 2 ^ 15; omega) (by show _ < 2 ^ 15; omega)
  rw [← this, Int.toNat_of_nonneg h0, Int.toNat_of_nonneg h2]; rfl
theorem l_xor_i16 {a b : Int} (h0 : 0 ≤ a) (h1 : a ≤ 32767) (h2 : 0 ≤ b) (h3 : b ≤ 32767) : LAr .xor .i16 a b = ((a.toNat ^^^ b.toNat : Nat) : Int) := by
  have := leaf_xor (k := .i16) (a := a.toNat) (b := b.toNat) (by show _ < 2 ^ 15; omega) (by show _ < 2 ^ 15; omega)
  rw [← this, Int.toNat_of_nonneg h0, Int.toNat_of_nonneg h2]; rfl
theorem l_shr_i32 {a b : Int} (h0 : 0 ≤ b) (h1 : b ≤ 32) : LAr .shr .i32 a b = a / 2 ^ b.toNat := l_shr h0 h1
theorem l_shl_i32 {a b : Int} (h0 : 0 ≤ b) (h1 : b ≤ 32) (h2 : -2147483648 ≤ a * 2 ^ b.toNat) (h3 : a * 2 ^ b.toNat ≤ 2147483647) : LAr .shl .i32 a b = a * 2 ^ b.toNat := by
  have := leaf_shl (k := .i32) (a := a) (n := b.toNat) (by show _ ≤ 32; omega) (by rw [min_i32]; exact h2) (by rw [max_i32]; exact h3)
  rw [← this, Int.toNat_of_nonneg h0]; rfl
theorem l_and_i32 {a b : Int} (h0 : 0 ≤ a) (h1 : a ≤ 2147483647) (h2 : 0 ≤ b) (h3 : b ≤ 2147483647) : LAr .and .i32 a b = ((a.toNat &&& b.toNat : Nat) : Int) := by
  have := leaf_and (k := .i32) (a := a.toNat) (b := b.toNat) (by show _ < 2 ^ 31; omega) (by show _ < 2 ^ 31; omega)
  rw [← this, Int.toNat_of_nonneg h0, Int.toNat_of_nonneg h2]; rfl
theorem l_or_i32 {a b : Int} (h0 : 0 ≤ a) (h1 : a ≤ 2147483647) (h2 : 0 ≤ b) (h3 : b ≤ 2147483647) : LAr .or .i32 a b = ((a.toNat ||| b.toNat : Nat) : Int) := by
  have := leaf_or (k := .i32) (a := a.toNat) (b := b.toNat) (by show _ < 2 ^ 31; omega) (by show _ < 2 ^ 31; omega)
  rw [← this, Int.toNat_of_nonneg h0, Int.toNat_of_nonneg h2]; rfl
theorem l_xor_i32 {a b : Int} (h0 : 0 ≤ a) (h1 : a ≤ 2147483647) (h2 : 0 ≤ b) (h3 : b ≤ 2147483647) : LAr .xor .i32 a b = ((a.toNat ^^^ b.toNat : Nat) : Int) := by
  have := leaf_xor (k := .i32) (a := a.toNat) (b := b.toNat) (by show _ < 2 ^ 31; omega) (by show _ < 2 ^ 31; omega)
  rw [← this, Int.toNat_of_nonneg h0, Int.toNat_of_nonneg h2]; rfl
theorem l_shr_i64 {a b : Int} (h0 : 0 ≤ b) (h1 : b ≤ 64) : LAr .shr .i64 a b = a / 2 ^ b.toNat := l_shr h0 h1
theorem l_shl_i64 {a b : Int} (h0 : 0 ≤ b) (h1 : b ≤ 64) (h2 : -9223372036854775808 ≤ a * 2 ^ b.toNat) (h3 : a * 2 ^ b.toNat ≤ 9223372036854775807) : LAr .shl .i64 a b = a * 2 ^ b.toNat := by
  have := leaf_shl (k := .i64) (a := a) (n := b.toNat) (by show _ ≤ 64; omega) (by rw [min_i64]; exact h2) (by rw [max_i64]; exact h3)
  rw [← this, Int.toNat_of_nonneg h0]; rfl
theorem l_and_i64 {a b : Int} (h0 : 0 ≤ a) (h1 : a ≤ 9223372036854775807) (h2 : 0 ≤ b) (h3 : b ≤ 9223372036854775807) : LAr .and .i64 a b = ((a.toNat &&& b.toNat : Nat) : Int) := by
  have := leaf_and (k := .i64) (a := a.toNat) (b := b.toNat) (by show _ < 2 ^ 63; omega) (by show _ < 2 ^ 63; omega)
  rw [← this, Int.toNat_of_nonneg h0, Int.toNat_of_nonneg h2]; rfl
theorem l_or_i64 {a b : Int} (h0 : 0 ≤ a) (h1 : a ≤ 9223372036854775807) (h2 : 0 ≤ b) (h3 : b ≤ 9223372036854775807) : LAr .or .i64 a b = ((a.toNat ||| b.toNat : Nat) : Int) := by
  have := leaf_or (k := .i64) (a := a.toNat) (b := b.toNat) (by show _ < 2 ^ 63; omega) (by show _ < 2 ^ 63; omega)
  rw [← this, Int.toNat_of_nonneg h0, Int.toNat_of_nonneg h2]; rfl
theorem l_xor_i64 {a b : Int} (h0 : 0 ≤ a) (h1 : a ≤ 9223372036854775807) (h2 : 0 ≤ b) (h3 : b ≤ 9223372036854775807) : LAr .xor .i64 a b = ((a.toNat ^^^ b.toNat : Nat) : Int) := by
  have := leaf_xor (k := .i64) (a := a.toNat) (b := b.toNat) (by show _ < 2 ^ 63; omega) (by show _ < 2 ^ 63; omega)
  rw [← this, Int.toNat_of_nonneg h0, Int.toNat_of_nonneg h2]; rfl
theorem l_shr_u8 {a b : Int} (h0 : 0 ≤ b) (h1 : b ≤ 8) : LAr .shr .u8 a b = a / 2 ^ b.toNat := l_shr h0 h1
theorem l_shl_u8 {a b : Int} (h0 : 0 ≤ b) (h1 : b ≤ 8) (h2 : 0 ≤ a * 2 ^ b.toNat) (h3 : a * 2 ^ b.toNat ≤ 255) : LAr .shl .u8 a b = a * 2 ^ b.toNat := by
  have := leaf_shl (k := .u8) (a := a) (n := b.toNat) (by show _ ≤ 8; omega) (by rw [min_u8]; exact h2) (by rw [max_u8]; exact h3)
  rw [← this, Int.toNat_of_nonneg h0]; rfl
theorem l_and_u8 {a b : Int} (h0 : 0 ≤ a) (h1 : a ≤ 255) (h2 : 0 ≤ b) (h3 : b ≤ 255) : LAr .and .u8 a b = ((a.toNat &&& b.toNat : Nat) : Int) := by
  have := leaf_and (k := .u8) (a := a.toNat) (b := b.toNat) (by show _ < 2 ^ 8; omega) (by show _ < 2 ^ 8; omega)
  rw [← this, Int.toNat_of_nonneg h0, Int.toNat_of_nonneg h2]; rfl
theorem l_or_u8 {a b : Int} (h0 : 0 ≤ a) (h1 : a ≤ 255) (h2 : 0 ≤ b) (h3 : b ≤ 255) : LAr .or .u8 a b = ((a.toNat ||| b.toNat : Nat) : Int) := by
  have := leaf_or (k := .u8) (a := a.toNat) (b := b.toNat) (by show _ < 2 ^ 8; omega) (by show _ < 2 ^ 8; omega)
  rw [← this, Int.toNat_of_nonneg h0, Int.toNat_of_nonneg h2]; rfl
theorem l_xor_u8 {a b : Int} (h0 : 0 ≤ a) (h1 : a ≤ 255) (h2 : 0 ≤ b) (h3 : b ≤ 255) : LAr .xor .u8 a b = ((a.toNat ^^^ b.toNat : Nat) : Int) := by
  have := leaf_xor (k := .u8) (a := a.toNat) (b := b.toNat) (by show _ < 2 ^ 8; omega) (by show _ < 2 ^ 8; omega)
  rw [← this, Int.toNat_of_nonneg h0, Int.toNat_of_nonneg h2]; rfl
theorem l_shr_u16 {a b : Int} (h0 : 0 ≤ b) (h1 : b ≤ 16) : LAr .shr .u16 a b = a / 2 ^ b.toNat := l_shr h0 h1
theorem l_shl_u16 {a b : Int} (h0 : 0 ≤ b) (h1 : b ≤ 16) (h2 : 0 ≤ a * 2 ^ b.toNat) (h3 : a * 2 ^ b.toNat ≤ 65535) : LAr .shl .u16 a b = a * 2 ^ b.toNat := by
  have := leaf_shl (k := .u16) (a := a) (n := b.toNat) (by show _ ≤ 16; omega) (by rw [min_u16]; exact h2) (by rw [max_u16]; exact h3)
  rw [← this, Int.toNat_of_nonneg h0]; rfl
theorem l_and_u16 {a b : Int} (h0 : 0 ≤ a) (h1 : a ≤ 65535) (h2 : 0 ≤ b) (h3 : b ≤ 65535) : LAr .and .u16 a b = ((a.toNat &&& b.toNat : Nat) : Int) := by
  have := leaf_and (k := .u16) (a := a.toNat) (b := b.toNat) (by show _ < 2 ^ 16; omega) (by show _ < 2 ^ 16; omega)
  rw [← this, Int.toNat_of_nonneg h0, Int.toNat_of_nonneg h2]; rfl
theorem l_or_u16 {a b : Int} (h0 : 0 ≤ a) (h1 : a ≤ 65535) (h2 : 0 ≤ b) (h3 : b ≤ 65535) : LAr .or .u16 a b = ((a.toNat ||| b.toNat : Nat) : Int) := by
  have := leaf_or (k := .u16) (a := a.toNat) (b := b.toNat) (by show _ < 2 ^ 16; omega) (by show _ < 2 ^ 16; omega)
  rw [← this, Int.toNat_of_nonneg h0, Int.toNat_of_nonneg h2]; rfl
theorem l_xor_u16 {a b : Int} (h0 : 0 ≤ a) (h1 : a ≤ 65535) (h2 : 0 ≤ b) (h3 : b ≤ 65535) : LAr .xor .u16 a b = ((a.toNat ^^^ b.toNat : Nat) : Int) := by
  have := leaf_xor (k := .u16) (a := a.toNat) (b := b.toNat) (by show _ < 2 ^ 16; omega) (by show _ < 2 ^ 16; omega)
  rw [← this, Int.toNat_of_nonneg h0, Int.toNat_of_nonneg h2]; rfl
theorem l_shr_u32 {a b : Int} (h0 : 0 ≤ b) (h1 : b ≤ 32) : LAr .shr .u32 a b = a / 2 ^ b.toNat := l_shr h0 h1
theorem l_shl_u32 {a b : Int} (h0 : 0 ≤ b) (h1 : b ≤ 32) (h2 : 0 ≤ a * 2 ^ b.toNat) (h3 : a * 2 ^ b.toNat ≤ 4294967295) : LAr .shl .u32 a b = a * 2 ^ b.toNat := by
  have := leaf_shl (k := .u32) (a := a) (n := b.toNat) (by show _ ≤ 32; omega) (by rw [min_u32]; exact h2) (by rw [max_u32]; exact h3)
  rw [← this, Int.toNat_of_nonneg h0]; rfl
theorem l_and_u32 {a b : Int} (h0 : 0 ≤ a) (h1 : a ≤ 4294967295) (h2 : 0 ≤ b) (h3 : b ≤ 4294967295) : LAr .and .u32 a b = ((a.toNat &&& b.toNat : Nat) : Int) := by
  have := leaf_and (k := .u32) (a := a.toNat) (b := b.toNat) (by show _ < 2 ^ 32; omega) (by show _ < 2 ^ 32; omega)
  rw [← this, Int.toNat_of_nonneg h0, Int.toNat_of_nonneg h2]; rfl
theorem l_or_u32 {a b : Int} (h0 : 0 ≤ a) (h1 : a ≤ 4294967295) (h2 : 0 ≤ b) (h3 : b ≤ 4294967295) : LAr .or .u32 a b = ((a.toNat ||| b.toNat : Nat) : Int) := by
  have := leaf_or (k := .u32) (a := a.toNat) (b := b.toNat) (by show _ < 2 ^ 32; omega) (by show _ < 2 ^ 32; omega)
  rw [← this, Int.toNat_of_nonneg h0, Int.toNat_of_nonneg h2]; rfl
theorem l_xor_u32 {a b : Int} (h0 : 0 ≤ a) (h1 : a ≤ 4294967295) (h2 : 0 ≤ b) (h3 : b ≤ 4294967295) : LAr .xor .u32 a b = ((a.toNat ^^^ b.toNat : Nat) : Int) := by
  have := leaf_xor (k := .u32) (a := a.toNat) (b := b.toNat) (by show _ < 2 ^ 32; omega) (by show _ < 2 ^ 32; omega)
  rw [← this, Int.toNat_of_nonneg h0, Int.toNat_of_nonneg h2]; rfl
theorem l_shr_u64 {a b : Int} (h0 : 0 ≤ b) (h1 : b ≤ 64) : LAr .shr .u64 a b = a / 2 ^ b.toNat := l_shr h0 h1
theorem l_shl_u64 {a b : Int} (h0 : 0 ≤ b) (h1 : b ≤ 64) (h2 : 0 ≤ a * 2 ^ b.toNat) (h3 : a * 2 ^ b.toNat ≤ 18446744073709551615) : LAr .shl .u64 a b = a * 2 ^ b.toNat := by
  have := leaf_shl (k := .u64) (a := a) (n := b.toNat) (by show _ ≤ 64; omega) (by rw [min_u64]; exact h2) (by rw [max_u64]; exact h3)
  rw [← this, Int.toNat_of_nonneg h0]; rfl
theorem l_and_u64 {a b : Int} (h0 : 0 ≤ a) (h1 : a ≤ 18446744073709551615) (h2 : 0 ≤ b) (h3 : b ≤ 18446744073709551615) : LAr .and .u64 a b = ((a.toNat &&& b.toNat : Nat) : Int) := by
  have := leaf_and (k := .u64) (a := a.toNat) (b := b.toNat) (by show _ < 2 ^ 64; omega) (by show _ < 2 ^ 64; omega)
  rw [← this, Int.toNat_of_nonneg h0, Int.toNat_of_nonneg h2]; rfl
theorem l_or_u64 {a b : Int} (h0 : 0 ≤ a) (h1 : a ≤ 18446744073709551615) (h2 : 0 ≤ b) (h3 : b ≤ 18446744073709551615) : LAr .or .u64 a b = ((a.toNat ||| b.toNat : Nat) : Int) := by
  have := leaf_or (k := .u64) (a := a.toNat) (b := b.toNat) (by show _ < 2 ^ 64; omega) (by show _ < 2 ^ 64; omega)
  rw [← this, Int.toNat_of_nonneg h0, Int.toNat_of_nonneg h2]; rfl
theorem l_xor_u64 {a b : Int} (h0 : 0 ≤ a) (h1 : a ≤ 18446744073709551615) (h2 : 0 ≤ b) (h3 : b ≤ 18446744073709551615) : LAr .xor .u64 a b = ((a.toNat ^^^ b.toNat : Nat) : Int) := by
  have := leaf_xor (k := .u64) (a := a.toNat) (b := b.toNat) (by show _ < 2 ^ 64; omega) (by show _ < 2 ^ 64; omega)
  rw [← this, Int.toNat_of_nonneg h0, Int.toNat_of_nonneg h2]; rfl
theorem l_shl1_i8 {b : Int} (h0 : 0 ≤ b) (h1 : b ≤ 6) : LAr .shl .i8 1 b = 2 ^ b.toNat := by
  have h : (2:Int) ^ b.toNat ≤ 2 ^ 6 := by
    have : (2:Nat) ^ b.toNat ≤ 2 ^ 6 := Nat.pow_le_pow_right (by decide) (by omega)
    exact_mod_cast this
  have h' : (0:Int) < 2 ^ b.toNat := Int.pow_pos (by decide)
  rw [l_shl_i8 h0 (by omega) (by omega) (by omega), Int.one_mul]
theorem l_shl1_i16 {b : Int} (h0 : 0 ≤ b) (h1 : b ≤ 14) : LAr .shl .i16 1 b = 2 ^ b.toNat := by
  have h : (2:Int) ^ b.toNat ≤ 2 ^ 14 := by
    have : (2:Nat) ^ b.toNat ≤ 2 ^ 14 := Nat.pow_le_pow_right (by decide) (by omega)
    exact_mod_cast this
  have h' : (0:Int) < 2 ^ b.toNat := Int.pow_pos (by decide)
  rw [l_shl_i16 h0 (by omega) (by omega) (by omega), Int.one_mul]
theorem l_shl1_i32 {b : Int} (h0 : 0 ≤ b) (h1 : b ≤ 30) : LAr .shl .i32 1 b = 2 ^ b.toNat := by
  have h : (2:Int) ^ b.toNat ≤ 2 ^ 30 := by
    have : (2:Nat) ^ b.toNat ≤ 2 ^ 30 := Nat.pow_le_pow_right (by decide) (by omega)
    exact_mod_cast this
  have h' : (0:Int) < 2 ^ b.toNat := Int.pow_pos (by decide)
  rw [l_shl_i32 h0 (by omega) (by omega) (by omega), Int.one_mul]
theorem l_shl1_i64 {b : Int} (h0 : 0 ≤ b) (h1 : b ≤ 62) : LAr .shl .i64 1 b = 2 ^ b.toNat := by
  have h : (2:Int) ^ b.toNat ≤ 2 ^ 62 := by
    have : (2:Nat) ^ b.toNat ≤ 2 ^ 62 := Nat.pow_le_pow_right (by decide) (by omega)
    exact_mod_cast this
  have h' : (0:Int) < 2 ^ b.toNat := Int.pow_pos (by decide)
  rw [l_shl_i64 h0 (by omega) (by omega) (by omega), Int.one_mul]
theorem l_shl1_u8 {b : Int} (h0 : 0 ≤ b) (h1 : b ≤ 7) : LAr .shl .u8 1 b = 2 ^ b.toNat := by
  have h : (2:Int) ^ b.toNat ≤ 2 ^ 7 := by
    have : (2:Nat) ^ b.toNat ≤ 2 ^ 7 := Nat.pow_le_pow_right (by decide) (by omega)
    exact_mod_cast this
  have h' : (0:Int) < 2 ^ b.toNat := Int.pow_pos (by decide)
  rw [l_shl_u8 h0 (by omega) (by omega) (by omega), Int.one_mul]
theorem l_shl1_u16 {b : Int} (h0 : 0 ≤ b) (h1 : b ≤ 15) : LAr .shl .u16 1 b = 2 ^ b.toNat := by
  have h : (2:Int) ^ b.toNat ≤ 2 ^ 15 := by
    have : (2:Nat) ^ b.toNat ≤ 2 ^ 15 := Nat.pow_le_pow_right (by decide) (by omega)
    exact_mod_cast this
  have h' : (0:Int) < 2 ^ b.toNat := Int.pow_pos (by decide)
  rw [l_shl_u16 h0 (by omega) (by omega) (by omega), Int.one_mul]
theorem l_shl1_u32 {b : Int} (h0 : 0 ≤ b) (h1 : b ≤ 31) : LAr .shl .u32 1 b = 2 ^ b.toNat := by
  have h : (2:Int) ^ b.toNat ≤ 2 ^ 31 := by
    have : (2:Nat) ^ b.toNat ≤ 2 ^ 31 := Nat.pow_le_pow_right (by decide) (by omega)
    exact_mod_cast this
  have h' : (0:Int) < 2 ^ b.toNat := Int.pow_pos (by decide)
  rw [l_shl_u32 h0 (by omega) (by omega) (by omega), Int.one_mul]
theorem l_shl1_u64 {b : Int} (h0 : 0 ≤ b) (h1 : b ≤ 63) : LAr .shl .u64 1 b = 2 ^ b.toNat := by
  have h : (2:Int) ^ b.toNat ≤ 2 ^ 63 := by
    have : (2:Nat) ^ b.toNat ≤ 2 ^ 63 := Nat.pow_le_pow_right (by decide) (by omega)
    exact_mod_cast this
  have h' : (0:Int) < 2 ^ b.toNat := Int.pow_pos (by decide)
  rw [l_shl_u64 h0 (by omega) (by omega) (by omega), Int.one_mul]
theorem and_mask (w : Nat) (a : Int) (m : Nat) (hm : m ≤ w) : (BitVec.ofInt w a &&& BitVec.ofInt w ((2 ^ m - 1 : Nat) : Int)).toNat = (a % 2 ^ m).toNat := by
  rw [BitVec.toNat_and, BitVec.ofInt_natCast, BitVec.toNat_ofNat]
  have h1 : (2 ^ m - 1) % 2 ^ w = 2 ^ m - 1 := Nat.mod_eq_of_lt (by have := Nat.pow_le_pow_right (n := 2) (by decide) hm; have := Nat.two_pow_pos m; omega)
  rw [h1, Nat.and_two_pow_sub_one_eq_mod, BitVec.toNat_ofInt]
  have h2 : (0 : Int) < 2 ^ w := Int.pow_pos (by decide)
  have h3 : (0 : Int) < 2 ^ m := Int.pow_pos (by decide)
  have h4 : ((((a % (2 ^ w : Nat)).toNat % 2 ^ m : Nat)) : Int) = (((a % 2 ^ m).toNat : Nat) : Int) := by
    have hd : ((2 ^ w : Nat) : Int) = 2 ^ w := by simp
    rw [hd]
    rw [Int.natCast_emod, Int.toNat_of_nonneg (Int.emod_nonneg _ (by omega)), Int.toNat_of_nonneg (Int.emod_nonneg _ (by omega))]
    have : ((2 ^ m : Nat) : Int) = 2 ^ m := by simp
    rw [this]
    exact Int.emod_emod_of_dvd _ ⟨2 ^ (w - m), by rw [← Int.pow_add]; congr 1; omega⟩
  exact_mod_cast h4
theorem and_mask_k (k : IntKind) (a : Int) (m : Nat) (hm : m ≤ room k) : LAr .and k a ((2 ^ m - 1 : Nat) : Int) = a % 2 ^ m := by
  show k.wrap (BitVec.ofInt k.bits a &&& BitVec.ofInt k.bits ((2 ^ m - 1 : Nat) : Int)).toNat = _
  rw [and_mask k.bits a m (Nat.le_trans hm (room_le k))]
  have h3 : (0 : Int) < 2 ^ m := Int.pow_pos (by decide)
  have h5 : (2 : Int) ^ m ≤ 2 ^ room k := by
    have : (2:Nat) ^ m ≤ 2 ^ room k := Nat.pow_le_pow_right (by decide) hm
    exact_mod_cast this
  have h6 := Int.emod_lt_of_pos a h3
  rw [Int.toNat_of_nonneg (Int.emod_nonneg _ (by omega))]
  exact room_wrap (Int.emod_nonneg _ (by omega)) (by omega)
theorem l_and1_i8 (a : Int) : LAr .and .i8 a 1 = a % 2 := and_mask_k .i8 a 1 (by decide)
theorem l_and2_i8 (a : Int) : LAr .and .i8 a 3 = a % 4 := and_mask_k .i8 a 2 (by decide)
theorem l_and3_i8 (a : Int) : LAr .and .i8 a 7 = a % 8 := and_mask_k .i8 a 3 (by decide)
theorem l_and4_i8 (a : Int) : LAr .and .i8 a 15 = a % 16 := and_mask_k .i8 a 4 (by decide)
theorem l_and5_i8 (a : Int) : LAr .and .i8 a 31 = a % 32 := and_mask_k .i8 a 5 (by decide)
theorem l_and6_i8 (a : Int) : LAr .and .i8 a 63 = a % 64 := and_mask_k .i8 a 6 (by decide)
theorem l_and7_i8 (a : Int) : LAr .and .i8 a 127 = a % 128 := and_mask_k .i8 a 7 (by decide)
theorem l_and1_i16 (a : Int) : LAr .and .i16 a 1 = a % 2 := and_mask_k .i16 a 1 (by decide)
theorem l_and2_i16 (a : Int) : LAr .and .i16 a 3 = a % 4 := and_mask_k .i16 a 2 (by decide)
theorem l_and3_i16 (a : Int) : LAr .and .i16 a 7 = a % 8 := and_mask_k .i16 a 3 (by decide)
theorem l_and4_i16 (a : Int) : LAr .and .i16 a 15 = a % 16 := and_mask_k .i16 a 4 (by decide)
theorem l_and5_i16 (a : Int) : LAr .and .i16 a 31 = a % 32 := and_mask_k .i16 a 5 (by decide)
theorem l_and6_i16 (a : Int) : LAr .and .i16 a 63 = a % 64 := and_mask_k .i16 a 6 (by decide)
theorem l_and7_i16 (a : Int) : LAr .and .i16 a 127 = a % 128 := and_mask_k .i16 a 7 (by decide)
theorem l_and8_i16 (a : Int) : LAr .and .i16 a 255 = a % 256 := and_mask_k .i16 a 8 (by decide)
theorem l_and1_i32 (a : Int) : LAr .and .i32 a 1 = a % 2 := and_mask_k .i32 a 1 (by decide)
theorem l_and2_i32 (a : Int) : LAr .and .i32 a 3 = a % 4 := and_mask_k .i32 a 2 (by decide)
theorem l_and3_i32 (a : Int) : LAr .and .i32 a 7 = a % 8 := and_mask_k .i32 a 3 (by decide)
theorem l_and4_i32 (a : Int) : LAr .and .i32 a 15 = a % 16 := and_mask_k .i32 a 4 (by decide)
theorem l_and5_i32 (a : Int) : LAr .and .i32 a 31 = a % 32 := and_mask_k .i32 a 5 (by decide)
theorem l_and6_i32 (a : Int) : LAr .and .i32 a 63 = a % 64 := and_mask_k .i32 a 6 (by decide)
theorem l_and7_i32 (a : Int) : LAr .and .i32 a 127 = a % 128 := and_mask_k .i32 a 7 (by decide)
theorem l_and8_i32 (a : Int) : LAr .and .i32 a 255 = a % 256 := and_mask_k .i32 a 8 (by decide)
theorem l_and16_i32 (a : Int) : LAr .and .i32 a 65535 = a % 65536 := and_mask_k .i32 a 16 (by decide)
theorem l_and1_i64 (a : Int) : LAr .and .i64 a 1 = a % 2 := and_mask_k .i64 a 1 (by decide)
theorem l_and2_i64 (a : Int) : LAr .and .i64 a 3 = a % 4 := and_mask_k .i64 a 2 (by decide)
theorem l_and3_i64 (a : Int) : LAr .and .i64 a 7 = a % 8 := and_mask_k .i64 a 3 (by decide)
theorem l_and4_i64 (a : Int) : LAr .and .i64 a 15 = a % 16 := and_mask_k .i64 a 4 (by decide)
theorem l_and5_i64 (a : Int) : LAr .and .i64 a 31 = a % 32 := and_mask_k .i64 a 5 (by decide)
theorem l_and6_i64 (a : Int) : LAr .and .i64 a 63 = a % 64 := and_mask_k .i64 a 6 (by decide)
theorem l_and7_i64 (a : Int) : LAr .and .i64 a 127 = a % 128 := and_mask_k .i64 a 7 (by decide)
theorem l_and8_i64 (a : Int) : LAr .and .i64 a 255 = a % 256 := and_mask_k .i64 a 8 (by decide)
theorem l_and16_i64 (a : Int) : LAr .and .i64 a 65535 = a % 65536 := and_mask_k .i64 a 16 (by decide)
theorem l_and1_u8 (a : Int) : LAr .and .u8 a 1 = a % 2 := and_mask_k .u8 a 1 (by decide)
theorem l_and2_u8 (a : Int) : LAr .and .u8 a 3 = a % 4 := and_mask_k .u8 a 2 (by decide)
theorem l_and3_u8 (a : Int) : LAr .and .u8 a 7 = a % 8 := and_mask_k .u8 a 3 (by decide)
theorem l_and4_u8 (a : Int) : LAr .and .u8 a 15 = a % 16 := and_mask_k .u8 a 4 (by decide)
theorem l_and5_u8 (a : Int) : LAr .and .u8 a 31 = a % 32 := and_mask_k .u8 a 5 (by decide)
theorem l_and6_u8 (a : Int) : LAr .and .u8 a 63 = a % 64 := and_mask_k .u8 a 6 (by decide)
theorem l_and7_u8 (a : Int) : LAr .and .u8 a 127 = a % 128 := and_mask_k .u8 a 7 (by decide)
theorem l_and1_u16 (a : Int) : LAr .and .u16 a 1 = a % 2 := and_mask_k .u16 a 1 (by decide)
theorem l_and2_u16 (a : Int) : LAr .and .u16 a 3 = a % 4 := and_mask_k .u16 a 2 (by decide)
theorem l_and3_u16 (a : Int) : LAr .and .u16 a 7 = a % 8 := and_mask_k .u16 a 3 (by decide)
theorem l_and4_u16 (a : Int) : LAr .and .u16 a 15 = a % 16 := and_mask_k .u16 a 4 (by decide)
theorem l_and5_u16 (a : Int) : LAr .and .u16 a 31 = a % 32 := and_mask_k .u16 a 5 (by decide)
theorem l_and6_u16 (a : Int) : LAr .and .u16 a 63 = a % 64 := and_mask_k .u16 a 6 (by decide)
theorem l_and7_u16 (a : Int) : LAr .and .u16 a 127 = a % 128 := and_mask_k .u16 a 7 (by decide)
theorem l_and8_u16 (a : Int) : LAr .and .u16 a 255 = a % 256 := and_mask_k .u16 a 8 (by decide)
theorem l_and1_u32 (a : Int) : LAr .and .u32 a 1 = a % 2 := and_mask_k .u32 a 1 (by decide)
theorem l_and2_u32 (a : Int) : LAr .and .u32 a 3 = a % 4 := and_mask_k .u32 a 2 (by decide)
theorem l_and3_u32 (a : Int) : LAr .and .u32 a 7 = a % 8 := and_mask_k .u32 a 3 (by decide)
theorem l_and4_u32 (a : Int) : LAr .and .u32 a 15 = a % 16 := and_mask_k .u32 a 4 (by decide)
theorem l_and5_u32 (a : Int) : LAr .and .u32 a 31 = a % 32 := and_mask_k .u32 a 5 (by decide)
theorem l_and6_u32 (a : Int) : LAr .and .u32 a 63 = a % 64 := and_mask_k .u32 a 6 (by decide)
theorem l_and7_u32 (a : Int) : LAr .and .u32 a 127 = a % 128 := and_mask_k .u32 a 7 (by decide)
theorem l_and8_u32 (a : Int) : LAr .and .u32 a 255 = a % 256 := and_mask_k .u32 a 8 (by decide)
theorem l_and16_u32 (a : Int) : LAr .and .u32 a 65535 = a % 65536 := and_mask_k .u32 a 16 (by decide)
theorem l_and1_u64 (a : Int) : LAr .and .u64 a 1 = a % 2 := and_mask_k .u64 a 1 (by decide)
theorem l_and2_u64 (a : Int) : LAr .and .u64 a 3 = a % 4 := and_mask_k .u64 a 2 (by decide)
theorem l_and3_u64 (a : Int) : LAr .and .u64 a 7 = a % 8 := and_mask_k .u64 a 3 (by decide)
theorem l_and4_u64 (a : Int) : LAr .and .u64 a 15 = a % 16 := and_mask_k .u64 a 4 (by decide)
theorem l_and5_u64 (a : Int) : LAr .and .u64 a 31 = a % 32 := and_mask_k .u64 a 5 (by decide)
theorem l_and6_u64 (a : Int) : LAr .and .u64 a 63 = a % 64 := and_mask_k .u64 a 6 (by decide)
theorem l_and7_u64 (a : Int) : LAr .and .u64 a 127 = a % 128 := and_mask_k .u64 a 7 (by decide)
theorem l_and8_u64 (a : Int) : LAr .and .u64 a 255 = a % 256 := and_mask_k .u64 a 8 (by decide)
theorem l_and16_u64 (a : Int) : LAr .and .u64 a 65535 = a % 65536 := and_mask_k .u64 a 16 (by decide)
theorem l_mask_u64 (a : Int) {m : Nat} (h0 : m ≤ 63) : LAr .and .u64 a (LAr .sub .u64 (2 ^ m) 1) = a % 2 ^ m := by
  have h : (2:Int) ^ m ≤ 2 ^ 63 := by
    have : (2:Nat) ^ m ≤ 2 ^ 63 := Nat.pow_le_pow_right (by decide) (by omega)
    exact_mod_cast this
  have h' : (0:Int) < 2 ^ m := Int.pow_pos (by decide)
  have e : (2:Int) ^ m - 1 = ((2 ^ m - 1 : Nat) : Int) := by
    have : 0 < 2 ^ m := Nat.two_pow_pos m
    have e2 : (2:Int) ^ m = ((2 ^ m : Nat) : Int) := by simp
    rw [e2]; omega
  rw [l_sub_u64 (by omega) (by omega), e]
  exact and_mask_k .u64 a m (by show m ≤ 64; omega)
theorem l_mask_u32 (a : Int) {m : Nat} (h0 : m ≤ 31) : LAr .and .u32 a (LAr .sub .u32 (2 ^ m) 1) = a % 2 ^ m := by
  have h : (2:Int) ^ m ≤ 2 ^ 31 := by
    have : (2:Nat) ^ m ≤ 2 ^ 31 := Nat.pow_le_pow_right (by decide) (by omega)
    exact_mod_cast this
  have h' : (0:Int) < 2 ^ m := Int.pow_pos (by decide)
  have e : (2:Int) ^ m - 1 = ((2 ^ m - 1 : Nat) : Int) := by
    have : 0 < 2 ^ m := Nat.two_pow_pos m
    have e2 : (2:Int) ^ m = ((2 ^ m : Nat) : Int) := by simp
    rw [e2]; omega
  rw [l_sub_u32 (by omega) (by omega), e]
  exact and_mask_k .u32 a m (by show m ≤ 32; omega)
theorem l_mask_i64 (a : Int) {m : Nat} (h0 : m ≤ 62) : LAr .and .i64 a (LAr .sub .i64 (2 ^ m) 1) = a % 2 ^ m := by
  have h : (2:Int) ^ m ≤ 2 ^ 62 := by
    have : (2:Nat) ^ m ≤ 2 ^ 62 := Nat.pow_le_pow_right (by decide) (by omega)
    exact_mod_cast this
  have h' : (0:Int) < 2 ^ m := Int.pow_pos (by decide)
  have e : (2:Int) ^ m - 1 = ((2 ^ m - 1 : Nat) : Int) := by
    have : 0 < 2 ^ m := Nat.two_pow_pos m
    have e2 : (2:Int) ^ m = ((2 ^ m : Nat) : Int) := by simp
    rw [e2]; omega
  rw [l_sub_i64 (by omega) (by omega), e]
  exact and_mask_k .i64 a m (by show m ≤ 63; omega)
theorem l_wrap8 (a : Int) : LConv .u8 a = a % 256 := by show IntKind.u8.wrap a = _; rw [IntKind.wrap_u8]
theorem l_u8 (b : UInt8) : (b.toNat : Int) < 256 := by have := b.toNat_lt; omega
theorem lf : (∀ (n : Nat), (NatCast.natCast n : Int) = (n : Int)) ∧
  (∀ (a b : Int), LCmp .lss a b = decide (a < b)) ∧
  (∀ (a b : Int), LCmp .leq a b = decide (a ≤ b)) ∧
  (∀ (a b : Int), LCmp .gtr a b = decide (b < a)) ∧
  (∀ (a b : Int), LCmp .geq a b = decide (b ≤ a)) ∧
  (∀ (a b : Int), LCmp .eql a b = decide (a = b)) ∧
  (∀ (a b : Int), LCmp .neq a b = !decide (a = b)) ∧
  (∀ (b : Bool), LNot b = !b) ∧
  (∀ (a b : Bool), LBeq a b = (a == b)) ∧
  (∀ (α : Type) (l : List α), LLen l = (l.length : Int)) ∧
  (∀ (α : Type) (d : α) (l : List α) (i : Int), LGet d l i = l.getD i.toNat d) ∧
  (∀ (α : Type) (l : List α) (i : Int) (v : α), LSet l i v = l.set i.toNat v) ∧
  (∀ (α : Type) (l m : List α), LApp l m = l ++ m) ∧
  (∀ (α : Type) (l : List α) (a b : Int), LSub l a b = (l.drop a.toNat).take (b - a).toNat) ∧
  (∀ (α : Type) (n : Int) (a : α), LRep n a = List.replicate n.toNat a) ∧
  (∀ (b : UInt8), LB2i b = (b.toNat : Int)) ∧
  (∀ (n : Int), LI2b n = UInt8.ofNat n.toNat) ∧
  (∀ (s t : List UInt8), LSeq s t = (s == t)) ∧
  (∀ (s t : List UInt8), LSlt s t = Op.bytesLess s t) ∧
  (∀ (i n : Int), LInb i n = (0 ≤ i ∧ i < n)) ∧
  (∀ (a b c : Int), LSlb a b c = (0 ≤ a ∧ a ≤ b ∧ b ≤ c)) ∧
  (∀ (n : Int), LIsB n = (0 ≤ n ∧ n < 256)) ∧
  (∀ (n : Int), LNn n = (0 ≤ n)) ∧
  (∀ (n : Int), LNz n = (n ≠ 0)) ∧
  (∀ (n : Int) (b : Nat), LSmall n b = (0 ≤ n ∧ n ≤ 140737488355328 ∧ n * (b : Int) ≤ 140737488355328)) ∧
  (∀ (a b : Int), LMin a b = min a b) ∧
  (∀ (a b : Int), LMax a b = max a b) ∧
  (∀ (k : IntKind) (a b : Int), 0 ≤ a → LAr .rem k a b = a % b) ∧
  (∀ (a b : Int), -2147483648 ≤ a + b → a + b ≤ 2147483647 → LAr .add .i32 a b = a + b) ∧
  (∀ (a b : Int), -2147483648 ≤ a - b → a - b ≤ 2147483647 → LAr .sub .i32 a b = a - b) ∧
  (∀ (a b : Int), -2147483648 ≤ a * b → a * b ≤ 2147483647 → LAr .mul .i32 a b = a * b) ∧
  (∀ (a : Int), -2147483648 ≤ a → a ≤ 2147483647 → LConv .i32 a = a) ∧
  (∀ (a b : Int), 0 ≤ a → 0 ≤ b → a ≤ 2147483647 → LAr .quo .i32 a b = a / b) ∧
  (∀ (a b : Int), -9223372036854775808 ≤ a + b → a + b ≤ 9223372036854775807 → LAr .add .i64 a b = a + b) ∧
  (∀ (a b : Int), -9223372036854775808 ≤ a - b → a - b ≤ 9223372036854775807 → LAr .sub .i64 a b = a - b) ∧
  (∀ (a b : Int), -9223372036854775808 ≤ a * b → a * b ≤ 9223372036854775807 → LAr .mul .i64 a b = a * b) ∧
  (∀ (a : Int), -9223372036854775808 ≤ a → a ≤ 9223372036854775807 → LConv .i64 a = a) ∧
  (∀ (a b : Int), 0 ≤ a → 0 ≤ b → a ≤ 9223372036854775807 → LAr .quo .i64 a b = a / b) ∧
  (∀ (a b : Int), 0 ≤ a + b → a + b ≤ 255 → LAr .add .u8 a b = a + b) ∧
  (∀ (a b : Int), 0 ≤ a - b → a - b ≤ 255 → LAr .sub .u8 a b = a - b) ∧
  (∀ (a b : Int), 0 ≤ a * b → a * b ≤ 255 → LAr .mul .u8 a b = a * b) ∧
  (∀ (a : Int), 0 ≤ a → a ≤ 255 → LConv .u8 a = a) ∧
  (∀ (a b : Int), 0 ≤ a → 0 ≤ b → a ≤ 255 → LAr .quo .u8 a b = a / b) ∧
  (∀ (a b : Int), 0 ≤ a + b → a + b ≤ 65535 → LAr .add .u16 a b = a + b) ∧
  (∀ (a b : Int), 0 ≤ a - b → a - b ≤ 65535 → LAr .sub .u16 a b = a - b) ∧
  (∀ (a b : Int), 0 ≤ a * b → a * b ≤ 65535 → LAr .mul .u16 a b = a * b) ∧
  (∀ (a : Int), 0 ≤ a → a ≤ 65535 → LConv .u16 a = a) ∧
  (∀ (a b : Int), 0 ≤ a → 0 ≤ b → a ≤ 65535 → LAr .quo .u16 a b = a / b) ∧
  (∀ (a b : Int), 0 ≤ a + b → a + b ≤ 4294967295 → LAr .add .u32 a b = a + b) ∧
  (∀ (a b : Int), 0 ≤ a - b → a - b ≤ 4294967295 → LAr .sub .u32 a b = a - b) ∧
  (∀ (a b : Int), 0 ≤ a * b → a * b ≤ 4294967295 → LAr .mul .u32 a b = a * b) ∧
  (∀ (a : Int), 0 ≤ a → a ≤ 4294967295 → LConv .u32 a = a) ∧
  (∀ (a b : Int), 0 ≤ a → 0 ≤ b → a ≤ 4294967295 → LAr .quo .u32 a b = a / b) ∧
  (∀ (a b : Int), 0 ≤ a + b → a + b ≤ 18446744073709551615 → LAr .add .u64 a b = a + b) ∧
  (∀ (a b : Int), 0 ≤ a - b → a - b ≤ 18446744073709551615 → LAr .sub .u64 a b = a - b) ∧
  (∀ (a b : Int), 0 ≤ a * b → a * b ≤ 18446744073709551615 → LAr .mul .u64 a b = a * b) ∧
  (∀ (a : Int), 0 ≤ a → a ≤ 18446744073709551615 → LConv .u64 a = a) ∧
  (∀ (a b : Int), 0 ≤ a → 0 ≤ b → a ≤ 18446744073709551615 → LAr .quo .u64 a b = a / b) ∧
  (∀ (a b : Int), 0 ≤ b → b ≤ 32 → LAr .shr .i32 a b = a / 2 ^ b.toNat) ∧
  (∀ (a b : Int), 0 ≤ a → a ≤ 2147483647 → 0 ≤ b → b ≤ 2147483647 → LAr .and .i32 a b = ((a.toNat &&& b.toNat : Nat) : Int)) ∧
  (∀ (a b : Int), 0 ≤ a → a ≤ 2147483647 → 0 ≤ b → b ≤ 2147483647 → LAr .or .i32 a b = ((a.toNat ||| b.toNat : Nat) : Int)) ∧
  (∀ (a b : Int), 0 ≤ a → a ≤ 2147483647 → 0 ≤ b → b ≤ 2147483647 → LAr .xor .i32 a b = ((a.toNat ^^^ b.toNat : Nat) : Int)) ∧
  (∀ (a b : Int), 0 ≤ b → b ≤ 64 → LAr .shr .i64 a b = a / 2 ^ b.toNat) ∧
  (∀ (a b : Int), 0 ≤ a → a ≤ 9223372036854775807 → 0 ≤ b → b ≤ 9223372036854775807 → LAr .and .i64 a b = ((a.toNat &&& b.toNat : Nat) : Int)) ∧
  (∀ (a b : Int), 0 ≤ a → a ≤ 9223372036854775807 → 0 ≤ b → b ≤ 9223372036854775807 → LAr .or .i64 a b = ((a.toNat ||| b.toNat : Nat) : Int)) ∧
  (∀ (a b : Int), 0 ≤ a → a ≤ 9223372036854775807 → 0 ≤ b → b ≤ 9223372036854775807 → LAr .xor .i64 a b = ((a.toNat ^^^ b.toNat : Nat) : Int)) ∧
  (∀ (a b : Int), 0 ≤ b → b ≤ 8 → LAr .shr .u8 a b = a / 2 ^ b.toNat) ∧
  (∀ (a b : Int), 0 ≤ a → a ≤ 255 → 0 ≤ b → b ≤ 255 → LAr .and .u8 a b = ((a.toNat &&& b.toNat : Nat) : Int)) ∧
  (∀ (a b : Int), 0 ≤ a → a ≤ 255 → 0 ≤ b → b ≤ 255 → LAr .or .u8 a b = ((a.toNat ||| b.toNat : Nat) : Int)) ∧
  (∀ (a b : Int), 0 ≤ a → a ≤ 255 → 0 ≤ b → b ≤ 255 → LAr .xor .u8 a b = ((a.toNat ^^^ b.toNat : Nat) : Int)) ∧
  (∀ (a b : Int), 0 ≤ b → b ≤ 16 → LAr .shr .u16 a b = a / 2 ^ b.toNat) ∧
  (∀ (a b : Int), 0 ≤ a → a ≤ 65535 → 0 ≤ b → b ≤ 65535 → LAr .and .u16 a b = ((a.toNat &&& b.toNat : Nat) : Int)) ∧
  (∀ (a b : Int), 0 ≤ a → a ≤ 65535 → 0 ≤ b → b ≤ 65535 → LAr .or .u16 a b = ((a.toNat ||| b.toNat : Nat) : Int)) ∧
  (∀ (a b : Int), 0 ≤ a → a ≤ 65535 → 0 ≤ b → b ≤ 65535 → LAr .xor .u16 a b = ((a.toNat ^^^ b.toNat : Nat) : Int)) ∧
  (∀ (a b : Int), 0 ≤ b → b ≤ 32 → LAr .shr .u32 a b = a / 2 ^ b.toNat) ∧
  (∀ (a b : Int), 0 ≤ a → a ≤ 4294967295 → 0 ≤ b → b ≤ 4294967295 → LAr .and .u32 a b = ((a.toNat &&& b.toNat : Nat) : Int)) ∧
  (∀ (a b : Int), 0 ≤ a → a ≤ 4294967295 → 0 ≤ b → b ≤ 4294967295 → LAr .or .u32 a b = ((a.toNat ||| b.toNat : Nat) : Int)) ∧
  (∀ (a b : Int), 0 ≤ a → a ≤ 4294967295 → 0 ≤ b → b ≤ 4294967295 → LAr .xor .u32 a b = ((a.toNat ^^^ b.toNat : Nat) : Int)) ∧
  (∀ (a b : Int), 0 ≤ b → b ≤ 64 → LAr .shr .u64 a b = a / 2 ^ b.toNat) ∧
  (∀ (a b : Int), 0 ≤ a → a ≤ 18446744073709551615 → 0 ≤ b → b ≤ 18446744073709551615 → LAr .and .u64 a b = ((a.toNat &&& b.toNat : Nat) : Int)) ∧
  (∀ (a b : Int), 0 ≤ a → a ≤ 18446744073709551615 → 0 ≤ b → b ≤ 18446744073709551615 → LAr .or .u64 a b = ((a.toNat ||| b.toNat : Nat) : Int)) ∧
  (∀ (a b : Int), 0 ≤ a → a ≤ 18446744073709551615 → 0 ≤ b → b ≤ 18446744073709551615 → LAr .xor .u64 a b = ((a.toNat ^^^ b.toNat : Nat) : Int)) ∧
  (∀ (b : Int), 0 ≤ b → b ≤ 30 → LAr .shl .i32 1 b = 2 ^ b.toNat) ∧
  (∀ (b : Int), 0 ≤ b → b ≤ 62 → LAr .shl .i64 1 b = 2 ^ b.toNat) ∧
  (∀ (b : Int), 0 ≤ b → b ≤ 7 → LAr .shl .u8 1 b = 2 ^ b.toNat) ∧
  (∀ (b : Int), 0 ≤ b → b ≤ 15 → LAr .shl .u16 1 b = 2 ^ b.toNat) ∧
  (∀ (b : Int), 0 ≤ b → b ≤ 31 → LAr .shl .u32 1 b = 2 ^ b.toNat) ∧
  (∀ (b : Int), 0 ≤ b → b ≤ 63 → LAr .shl .u64 1 b = 2 ^ b.toNat) ∧
  (∀ (a : Int), LAr .and .i64 a 1 = a % 2) ∧
  (∀ (a : Int), LAr .and .i64 a 3 = a % 4) ∧
  (∀ (a : Int), LAr .and .i64 a 7 = a % 8) ∧
  (∀ (a : Int), LAr .and .i64 a 15 = a % 16) ∧
  (∀ (a : Int), LAr .and .i64 a 31 = a % 32) ∧
  (∀ (a : Int), LAr .and .i64 a 63 = a % 64) ∧
  (∀ (a : Int), LAr .and .i64 a 127 = a % 128) ∧
  (∀ (a : Int), LAr .and .i64 a 255 = a % 256) ∧
  (∀ (a : Int), LAr .and .i64 a 65535 = a % 65536) ∧
  (∀ (a : Int), LAr .and .u8 a 1 = a % 2) ∧
  (∀ (a : Int), LAr .and .u8 a 3 = a % 4) ∧
  (∀ (a : Int), LAr .and .u8 a 7 = a % 8) ∧
  (∀ (a : Int), LAr .and .u8 a 15 = a % 16) ∧
  (∀ (a : Int), LAr .and .u8 a 31 = a % 32) ∧
  (∀ (a : Int), LAr .and .u8 a 63 = a % 64) ∧
  (∀ (a : Int), LAr .and .u8 a 127 = a % 128) ∧
  (∀ (a : Int), LAr .and .u32 a 1 = a % 2) ∧
  (∀ (a : Int), LAr .and .u32 a 3 = a % 4) ∧
  (∀ (a : Int), LAr .and .u32 a 7 = a % 8) ∧
  (∀ (a : Int), LAr .and .u32 a 15 = a % 16) ∧
  (∀ (a : Int), LAr .and .u32 a 31 = a % 32) ∧
  (∀ (a : Int), LAr .and .u32 a 63 = a % 64) ∧
  (∀ (a : Int), LAr .and .u32 a 127 = a % 128) ∧
  (∀ (a : Int), LAr .and .u32 a 255 = a % 256) ∧
  (∀ (a : Int), LAr .and .u32 a 65535 = a % 65536) ∧
  (∀ (a : Int), LAr .and .u64 a 1 = a % 2) ∧
  (∀ (a : Int), LAr .and .u64 a 3 = a % 4) ∧
  (∀ (a : Int), LAr .and .u64 a 7 = a % 8) ∧
  (∀ (a : Int), LAr .and .u64 a 15 = a % 16) ∧
  (∀ (a : Int), LAr .and .u64 a 31 = a % 32) ∧
  (∀ (a : Int), LAr .and .u64 a 63 = a % 64) ∧
  (∀ (a : Int), LAr .and .u64 a 127 = a % 128) ∧
  (∀ (a : Int), LAr .and .u64 a 255 = a % 256) ∧
  (∀ (a : Int), LAr .and .u64 a 65535 = a % 65536) ∧
  (∀ (a : Int) (m : Nat), m ≤ 63 → LAr .and .u64 a (LAr .sub .u64 (2 ^ m) 1) = a % 2 ^ m) ∧
  (∀ (a : Int) (m : Nat), m ≤ 31 → LAr .and .u32 a (LAr .sub .u32 (2 ^ m) 1) = a % 2 ^ m) ∧
  (∀ (a : Int) (m : Nat), m ≤ 62 → LAr .and .i64 a (LAr .sub .i64 (2 ^ m) 1) = a % 2 ^ m) := ⟨by intros; apply l_cast <;> assumption,
  by intros; apply l_lss <;> assumption,
  by intros; apply l_leq <;> assumption,
  by intros; apply l_gtr <;> assumption,
  by intros; apply l_geq <;> assumption,
  by intros; apply l_eql <;> assumption,
  by intros; apply l_neq <;> assumption,
  by intros; apply l_not <;> assumption,
  by intros; apply l_beq <;> assumption,
  by intros; apply l_len <;> assumption,
  by intros; apply l_get <;> assumption,
  by intros; apply l_set <;> assumption,
  by intros; apply l_app <;> assumption,
  by intros; apply l_sub <;> assumption,
  by intros; apply l_rep <;> assumption,
  by intros; apply l_b2i <;> assumption,
  by intros; apply l_i2b <;> assumption,
  by intros; apply l_seq <;> assumption,
  by intros; apply l_slt <;> assumption,
  by intros; apply l_inb <;> assumption,
  by intros; apply l_slb <;> assumption,
  by intros; apply l_isB <;> assumption,
  by intros; apply l_nn <;> assumption,
  by intros; apply l_nz <;> assumption,
  by intros; apply l_small <;> assumption,
  by intros; apply l_min <;> assumption,
  by intros; apply l_max <;> assumption,
  by intros; apply l_rem <;> assumption,
  by intros; apply l_add_i32 <;> assumption,
  by intros; apply l_sub_i32 <;> assumption,
  by intros; apply l_mul_i32 <;> assumption,
  by intros; apply l_conv_i32 <;> assumption,
  by intros; apply l_quo_i32 <;> assumption,
  by intros; apply l_add_i64 <;> assumption,
  by intros; apply l_sub_i64 <;> assumption,
  by intros; apply l_mul_i64 <;> assumption,
  by intros; apply l_conv_i64 <;> assumption,
  by intros; apply l_quo_i64 <;> assumption,
  by intros; apply l_add_u8 <;> assumption,
  by intros; apply l_sub_u8 <;> assumption,
  by intros; apply l_mul_u8 <;> assumption,
  by intros; apply l_conv_u8 <;> assumption,
  by intros; apply l_quo_u8 <;> assumption,
  by intros; apply l_add_u16 <;> assumption,
  by intros; apply l_sub_u16 <;> assumption,
  by intros; apply l_mul_u16 <;> assumption,
  by intros; apply l_conv_u16 <;> assumption,
  by intros; apply l_quo_u16 <;> assumption,
  by intros; apply l_add_u32 <;> assumption,
  by intros; apply l_sub_u32 <;> assumption,
  by intros; apply l_mul_u32 <;> assumption,
  by intros; apply l_conv_u32 <;> assumption,
  by intros; apply l_quo_u32 <;> assumption,
  by intros; apply l_add_u64 <;> assumption,
  by intros; apply l_sub_u64 <;> assumption,
  by intros; apply l_mul_u64 <;> assumption,
  by intros; apply l_conv_u64 <;> assumption,
  by intros; apply l_quo_u64 <;> assumption,
  by intros; apply l_shr_i32 <;> assumption,
  by intros; apply l_and_i32 <;> assumption,
  by intros; apply l_or_i32 <;> assumption,
  by intros; apply l_xor_i32 <;> assumption,
  by intros; apply l_shr_i64 <;> assumption,
  by intros; apply l_and_i64 <;> assumption,
  by intros; apply l_or_i64 <;> assumption,
  by intros; apply l_xor_i64 <;> assumption,
  by intros; apply l_shr_u8 <;> assumption,
  by intros; apply l_and_u8 <;> assumption,
  by intros; apply l_or_u8 <;> assumption,
  by intros; apply l_xor_u8 <;> assumption,
  by intros; apply l_shr_u16 <;> assumption,
  by intros; apply l_and_u16 <;> assumption,
  by intros; apply l_or_u16 <;> assumption,
  by intros; apply l_xor_u16 <;> assumption,
  by intros; apply l_shr_u32 <;> assumption,
  by intros; apply l_and_u32 <;> assumption,
  by intros; apply l_or_u32 <;> assumption,
  by intros; apply l_xor_u32 <;> assumption,
  by intros; apply l_shr_u64 <;> assumption,
  by intros; apply l_and_u64 <;> assumption,
  by intros; apply l_or_u64 <;> assumption,
  by intros; apply l_xor_u64 <;> assumption,
  by intros; apply l_shl1_i32 <;> assumption,
  by intros; apply l_shl1_i64 <;> assumption,
  by intros; apply l_shl1_u8 <;> assumption,
  by intros; apply l_shl1_u16 <;> assumption,
  by intros; apply l_shl1_u32 <;> assumption,
  by intros; apply l_shl1_u64 <;> assumption,
  by intros; apply l_and1_i64 <;> assumption,
  by intros; apply l_and2_i64 <;> assumption,
  by intros; apply l_and3_i64 <;> assumption,
  by intros; apply l_and4_i64 <;> assumption,
  by intros; apply l_and5_i64 <;> assumption,
  by intros; apply l_and6_i64 <;> assumption,
  by intros; apply l_and7_i64 <;> assumption,
  by intros; apply l_and8_i64 <;> assumption,
  by intros; apply l_and16_i64 <;> assumption,
  by intros; apply l_and1_u8 <;> assumption,
  by intros; apply l_and2_u8 <;> assumption,
  by intros; apply l_and3_u8 <;> assumption,
  by intros; apply l_and4_u8 <;> assumption,
  by intros; apply l_and5_u8 <;> assumption,
  by intros; apply l_and6_u8 <;> assumption,
  by intros; apply l_and7_u8 <;> assumption,
  by intros; apply l_and1_u32 <;> assumption,
  by intros; apply l_and2_u32 <;> assumption,
  by intros; apply l_and3_u32 <;> assumption,
  by intros; apply l_and4_u32 <;> assumption,
  by intros; apply l_and5_u32 <;> assumption,
  by intros; apply l_and6_u32 <;> assumption,
  by intros; apply l_and7_u32 <;> assumption,
  by intros; apply l_and8_u32 <;> assumption,
  by intros; apply l_and16_u32 <;> assumption,
  by intros; apply l_and1_u64 <;> assumption,
  by intros; apply l_and2_u64 <;> assumption,
  by intros; apply l_and3_u64 <;> assumption,
  by intros; apply l_and4_u64 <;> assumption,
  by intros; apply l_and5_u64 <;> assumption,
  by intros; apply l_and6_u64 <;> assumption,
  by intros; apply l_and7_u64 <;> assumption,
  by intros; apply l_and8_u64 <;> assumption,
  by intros; apply l_and16_u64 <;> assumption,
  by intros; apply l_mask_u64 <;> assumption,
  by intros; apply l_mask_u32 <;> assumption,
  by intros; apply l_mask_i64 <;> assumption⟩
end Go.Sx

-- Sx24
namespace Go.Sx
open Go
section
variable {T : Nat → Type} {X : Ctx T} {P : Program} {C : Cod T} {B : Tab} {res : List ResultVar} {n0 : Nat} {Post : List (SV T) → List (Ch T) → Prop}
def unlit1 : SV T → SV T
  | .bool b => .bool (.e (ebool b))
  | s => s
def unlit : List (SV T) → List (SV T)
  | [] => []
  | s :: l => unlit1 s :: unlit l
theorem unlit_get : ∀ (l : List (SV T)) (i : Nat), (unlit l)[i]? = l[i]?.map unlit1
  | [], i => by simp [unlit]
  | s :: l, i => by cases i with
    | zero => simp [unlit]
    | succ i => simpa [unlit] using unlit_get l i
theorem unlit_length (l : List (SV T)) : (unlit l).length = l.length := by
  induction l with
  | nil => rfl
  | cons s l ih => simp [unlit, ih]
theorem DenV.unlit {M : Mem} {s : SV T} {v : Value} (h : DenV C M s v) : DenV C M (unlit1 s) v := by
  cases s
  case bool b =>
    have := denV_bool h
    subst this
    exact Den.bool (.e (ebool b)) .nil
  all_goals exact h
theorem Cv.unlit (l : List (SV T)) (H : List (Ch T)) : Cv X l H (unlit l) H := by
  refine ⟨by rw [unlit_length]; exact Nat.le_refl _, fun M hS => ⟨M, rfl, hS, fun vs hv i s hs => ?_⟩⟩
  rw [unlit_get] at hs
  obtain ⟨y, hy, rfl⟩ := Option.map_eq_some_iff.1 hs
  exact (hv i y hy).unlit
theorem Fits.retE (F : Fits X P C B res n0 Post) {rs rs' : List (SV T)} {H : List (Ch T)} (h : Go.Sx.unlit rs = rs') (hp : Post rs' H) : OK X (.ret rs H) := by
  subst h
  exact F.ret (Cv.unlit rs H) (unlit_length rs) hp
end
end Go.Sx

-- Sx25
namespace Go.Sx
open Go
section
variable {T : Nat → Type} {X : Ctx T} {P : Program} {C : Cod T} {B : Tab} {res : List ResultVar} {n0 : Nat} {Post : List (SV T) → List (Ch T) → Prop}

theorem CallOK.cv {f : FuncId} {args args' : List (SV T)} {d : Option Tmp} {k : List (KI T)} {fr fr' : List (SV T)} {H H' : List (Ch T)}
    (h : Cv X (args ++ fr) H (args' ++ fr') H') (hl : args'.length = args.length) (hk : CallOK X f args' d ⟨k, fr', H'⟩) : CallOK X f args d ⟨k, fr, H⟩ := by
  intro M a vals hS hF hd hsz hdv
  have hS : Sat X.C X.E M H := hS
  have hF : FrOK X.C M fr a := hF
  obtain ⟨hlen, hcv⟩ := h
  obtain ⟨M', hw, hS', hv⟩ := hcv M hS
  have hlf : fr'.length ≤ fr.length := by simp only [List.length_append] at hlen; omega
  have key := hv (fun i => if i < args.length then vals.getD i undef else a.tmps.getD (i - args.length) undef) (fun i s hs => by
    by_cases hi : i < args.length
    · rw [List.getElem?_append_left hi] at hs
      have hi' : i < vals.size := by omega
      have := hdv i s vals[i] hs (Array.getElem?_eq_getElem hi')
      simpa [hi, Array.getD, hi'] using this
    · rw [List.getElem?_append_right (by omega)] at hs
      simpa [hi] using hF.2 _ s hs)
  have := hk M' a vals hS' ⟨Nat.le_trans hlf hF.1, fun i s hs => by
    have := key (args.length + i) s (by rw [List.getElem?_append_right (by omega), hl, Nat.add_sub_cancel_left]; exact hs)
    have hn : ¬ args.length + i < args.length := by omega
    simpa [hn] using this⟩ hd (by omega) (fun i s u hs hu => by
    have hi : i < args'.length := (List.getElem?_eq_some_iff.1 hs).1
    have := key i s (by rw [List.getElem?_append_left hi]; exact hs)
    have hi' : i < vals.size := by omega
    rw [Array.getElem?_eq_getElem hi'] at hu
    cases hu
    simpa [← hl, hi, Array.getD, hi'] using this)
  rw [hw] at this
  exact this

theorem frzL_append (c : Nat) (r : Row T) (l m : List (SV T)) : frz.frzL c r (l ++ m) = frz.frzL c r l ++ frz.frzL c r m := by
  induction l with
  | nil => rfl
  | cons s l ih => simp [frz.frzL, ih]
/-- A row that isn't written any more, ahead of a call. -/
theorem Fits.callFrz (F : Fits X P C B res n0 Post) (c : Nat) {t : TypeId} {r : Row T} {f : FuncId} {args args' : List (SV T)} {d : Option Tmp} {k : List (KI T)} {fr fr' : List (SV T)} {H H' : List (Ch T)}
    (hc : nth H c = some (.row t r)) (ha : frz.frzL c r args = args') (hf : frz.frzL c r fr = fr') (hH : frzH c r (setN H c .gone) = H') (h : OK X (.call f args' d ⟨k, fr', H'⟩)) : OK X (.call f args d ⟨k, fr, H⟩) := by
  subst ha hf hH
  refine ⟨CallOK.cv ?_ (frzL_length _ _ _) h.h⟩
  rw [← frzL_append]
  exact Cv.freeze F.cod c hc
end
end Go.Sx

-- Sx26
namespace Go.Sx
open Go
section
variable {T : Nat → Type} {X : Ctx T} {P : Program} {C : Cod T} {B : Tab} {res : List ResultVar} {n0 : Nat} {Post : List (SV T) → List (Ch T) → Prop}
theorem OK.loopCv {body : Code} {k : List (KI T)} {fr fr' : List (SV T)} {H H' : List (Ch T)} (h : Cv X fr H fr' H') (hk : OK X (.loop body ⟨k, fr', H'⟩)) : OK X (.loop body ⟨k, fr, H⟩) := by
  have hk : LoopOK X body ⟨k, fr', H'⟩ := hk.h
  refine ⟨fun M a hS hF hd => ?_⟩
  have hF : FrOK X.C M fr a := hF
  obtain ⟨hlen, hcv⟩ := h
  obtain ⟨M', hw, hS', hv⟩ := hcv M hS
  have := hk M' a hS' ⟨Nat.le_trans hlen hF.1, fun i s hs => hv (fun i => a.tmps.getD i undef) (fun i s hs => hF.2 i s hs) i s hs⟩ hd
  rw [hw] at this
  exact this
end
end Go.Sx

-- Sx27
namespace Go.Sx
open Go
section
variable {T : Nat → Type} {X : Ctx T} {P : Program} {C : Cod T} {B : Tab} {res : List ResultVar} {n0 : Nat} {Post : List (SV T) → List (Ch T) → Prop}

/-- A chunk is told otherwise. -/
theorem Cv.chunk {l : List (SV T)} {H : List (Ch T)} {c : Nat} {x y : Ch T} (hc : nth H c = some x) (hx : x.lv = true) (hy : y.lv = true) (h : ∀ M, ChOK X.C M c x → ChOK X.C M c y) : Cv X l H l (setN H c y) := by
  rw [setN_eq]
  rw [nth_eq] at hc
  refine ⟨Nat.le_refl _, fun M hS => ⟨M, rfl, ?_, fun _ h => h⟩⟩
  have hlv : ∀ d, live (H.set c y) d ↔ live H d := fun d => live_set hc hx hy
  refine ⟨by simpa using hS.n, fun d z hz => ?_, fun d1 d2 g h1 h2 => hS.inj d1 d2 g ((hlv _).1 h1) ((hlv _).1 h2), fun d g h1 h2 => hS.lt d g ((hlv _).1 h1) h2, fun b => ?_, hS.os, hS.tape, hS.output, hS.size, fun d h hA => by simpa using hS.anch d h hA, hS.kept⟩
  · by_cases hcd : c = d
    · subst hcd
      rw [List.getElem?_set_self ((List.getElem?_eq_some_iff.1 hc).1)] at hz
      cases hz
      exact h M (hS.ch c x hc)
    · rw [List.getElem?_set_ne hcd] at hz
      exact hS.ch d z hz
  · rw [hS.D b]
    simp only [hlv]

theorem ChOK.open {M : Mem} {c : Nat} {t : TypeId} {r : Row T} {i : Int} {s : SV T} (h1 : r.elemSz C = 1) (hi : 0 ≤ i ∧ i < r.length) (hs : ∀ vs, Den C M (r.get C .std i) vs → Den C M [s] vs) (h : ChOK C M c (.row t r)) : ChOK C M c (.hole t r i s) := by
  obtain ⟨hl, hr⟩ := h
  rcases hr with ⟨_, h0, _⟩ | ⟨g, us, hg, hh, a1, a2, a3, hrow⟩
  · omega
  · exact ⟨hl, h1, hi.1, hi.2, g, us, hg, hh, a1, a2, a3, hs _ (hrow _ _ (Row.get_std C r i hi.1 hi.2)), fun k e _ he => hrow k e he⟩
theorem ChOK.close {M : Mem} {c : Nat} {t : TypeId} {r r' : Row T} {i : Int} {s : SV T} (hl : r'.length = r.length) (hsz : r'.elemSz C = r.elemSz C)
    (hk : ∀ k e, k ≠ i.toNat → r'.cells C k = some e → r.cells C k = some e) (hi : ∀ e vs, r'.cells C i.toNat = some e → Den C M [s] vs → Den C M e vs) (h : ChOK C M c (.hole t r i s)) : ChOK C M c (.row t r') := by
  obtain ⟨b0, b1, b2, b3, g, us, hg, hh, a1, a2, a3, hd, ho⟩ := h
  refine ⟨by rw [hl]; exact b0, .inr ⟨g, us, hg, hh, a1, a2, by rw [hsz]; exact a3, fun k e he => ?_⟩⟩
  rw [hsz]
  by_cases hki : k = i.toNat
  · subst hki
    exact hi e _ he hd
  · exact ho k e hki (hk k e hki he)
theorem ChOK.map {M : Mem} {c : Nat} {t : TypeId} {r r' : Row T} (hl : r'.length = r.length) (hsz : r'.elemSz C = r.elemSz C)
    (hk : ∀ k e', r'.cells C k = some e' → ∃ e, r.cells C k = some e ∧ ∀ vs, Den C M e vs → Den C M e' vs) (h : ChOK C M c (.row t r)) : ChOK C M c (.row t r') := by
  obtain ⟨b0, hr⟩ := h
  refine ⟨by rw [hl]; exact b0, ?_⟩
  rcases hr with hr | ⟨g, us, hg, hh, a1, a2, a3, hrow⟩
  · exact .inl hr
  · refine .inr ⟨g, us, hg, hh, a1, a2, by rw [hsz]; exact a3, fun k e' he => ?_⟩
    obtain ⟨e, h1, h2⟩ := hk k e' he
    rw [hsz]
    exact h2 _ (hrow k e h1)
/-- An empty slice, told by a name of its own, where an element is told by itself. -/
theorem Cv.adoptHole (hC : CodOK X.C) {l : List (SV T)} {H : List (Ch T)} (c : Nat) (e : TypeId) {ek : EK} {t : TypeId} {r : Row T} {i : Int} {z : Row T} (hc : nth H c = some (.hole t r i (.val (.slice none 0 0)))) (hz : Row.nil T ek = some z) :
    Cv X l H l (app' (setN H c (.hole t r i (.own (len' H)))) [.row e z]) := by
  rw [setN_eq, len'_eq, app'_eq]
  rw [nth_eq] at hc
  refine ⟨Nat.le_refl _, fun M hS => ?_⟩
  obtain ⟨M', hw, ee, hS', hn, hρ⟩ := Sat.adopt hC hS e (Row.nil_len hz)
  have hcl := (List.getElem?_eq_some_iff.1 hc).1
  have hMn := hS.n
  have hcm : (H ++ [.row e z])[c]? = some (.hole t r i (.val (.slice none 0 0))) := by rw [List.getElem?_append_left hcl]; exact hc
  have hlv : ∀ d, live (H.set c (.hole t r i (.own H.length)) ++ [.row e z]) d ↔ live (H ++ [.row e z]) d := by
    intro d
    have := live_set (H := H ++ [.row e z]) (y := .hole t r i (.own H.length)) (c' := d) hcm rfl rfl
    rwa [List.set_append_left _ _ hcl] at this
  refine ⟨M', hw, ⟨by simpa using hS'.n, fun d x hx => ?_, fun d1 d2 g h1 h2 => hS'.inj d1 d2 g ((hlv _).1 h1) ((hlv _).1 h2), fun d g h1 h2 => hS'.lt d g ((hlv _).1 h1) h2, fun b => ?_, hS'.os, hS'.tape, hS'.output, hS'.size, fun d h hA => by simpa using hS'.anch d h hA, hS'.kept⟩, fun vs hv i s hs => (hv i s hs).ext hC ee⟩
  · by_cases hcd : c = d
    · subst hcd
      rw [List.getElem?_append_left (by simpa using hcl), List.getElem?_set_self hcl] at hx
      cases hx
      obtain ⟨b0, b1, b2, b3, g, us, hg, hh, a1, a2, a3, hd, ho⟩ := hS'.ch c _ hcm
      exact ⟨b0, b1, b2, b3, g, us, hg, hh, a1, a2, a3, Den.setOwn hC (Ext.refl M') (j := 0) (by omega) hρ hd rfl, ho⟩
    · refine hS'.ch d x ?_
      rw [← hx]
      rcases Nat.lt_or_ge d H.length with h | h
      · rw [List.getElem?_append_left h, List.getElem?_append_left (by simpa using h), List.getElem?_set_ne hcd]
      · rw [List.getElem?_append_right h, List.getElem?_append_right (by simpa using h), List.length_set]
  · rw [hS'.D b]
    simp only [hlv]

variable {k : List (KI T)} {fr : List (SV T)} {H : List (Ch T)}
/-- One element by itself. -/
theorem Fits.open (F : Fits X P C B res n0 Post) (c : Nat) {t : TypeId} {r : Row T} (i : Int) {s : SV T} (hc : nth H c = some (.row t r)) (h1 : r.elemSz C = 1) (hi : 0 ≤ i ∧ i < r.length) (hs : r.get C .std i = [s])
    (h : Holds X k fr (setN H c (.hole t r i s))) : Holds X k fr H :=
  Holds.cv (Cv.chunk hc rfl rfl fun M hm => ChOK.open (by rw [F.C]; exact h1) hi (fun vs hd => by rw [F.C, hs] at hd; rw [F.C]; exact hd) hm) h
theorem Fits.adoptHole (F : Fits X P C B res n0 Post) (c : Nat) (e : TypeId) {ek : EK} {t : TypeId} {r : Row T} {i : Int} {z : Row T} (hc : nth H c = some (.hole t r i (.val (.slice none 0 0)))) (hz : Row.nil T ek = some z)
    (h : Holds X k fr (app' (setN H c (.hole t r i (.own (len' H)))) [.row e z])) : Holds X k fr H :=
  Holds.cv (Cv.adoptHole F.cod c e hc hz) h
theorem Fits.frz (F : Fits X P C B res n0 Post) (c : Nat) {t : TypeId} {r : Row T} (hc : nth H c = some (.row t r)) (h : Holds X k (frz.frzL c r fr) (frzH c r (setN H c .gone))) : Holds X k fr H :=
  Holds.cv (Cv.freeze F.cod c hc) h
/-- All elements are told as one row again. -/
theorem Fits.close (F : Fits X P C B res n0 Post) (c : Nat) {t : TypeId} {r : Row T} {i : Int} {s : SV T} (r' : Row T) (hc : nth H c = some (.hole t r i s)) (hl : r'.length = r.length) (hsz : r'.elemSz C = r.elemSz C)
    (hk : ∀ k e, k ≠ i.toNat → r'.cells C k = some e → r.cells C k = some e) (hi : ∀ e, r'.cells C i.toNat = some e → e = [s])
    (h : Holds X k fr (setN H c (.row t r'))) : Holds X k fr H :=
  Holds.cv (Cv.chunk hc rfl rfl fun M hm => ChOK.close hl (by rw [F.C]; exact hsz) (by rw [F.C]; exact hk) (fun e vs he hd => by rw [F.C] at he; rw [hi e he]; exact hd) hm) h
theorem Fits.map (F : Fits X P C B res n0 Post) (c : Nat) {t : TypeId} {r : Row T} (r' : Row T) (hc : nth H c = some (.row t r)) (hl : r'.length = r.length) (hsz : r'.elemSz C = r.elemSz C)
    (hk : ∀ k e', r'.cells C k = some e' → ∃ e, r.cells C k = some e ∧ ∀ M vs, Den C M e vs → Den C M e' vs)
    (h : Holds X k fr (setN H c (.row t r'))) : Holds X k fr H :=
  Holds.cv (Cv.chunk hc rfl rfl fun M hm => ChOK.map hl (by rw [F.C]; exact hsz) (fun k e' he => by rw [F.C] at he ⊢; obtain ⟨e, h1, h2⟩ := hk k e' he; exact ⟨e, h1, fun vs => h2 M vs⟩) hm) h
end
end Go.Sx

-- Sx28
namespace Go.Sx
open Go
section
variable {T : Nat → Type} {X : Ctx T} {C : Cod T} {M M' : Mem} {P : Program} {B : Tab} {res : List ResultVar} {n0 : Nat} {Post : List (SV T) → List (Ch T) → Prop}

/-- Cells, told where they are pointed to. -/
def frp1 (c : Nat) (m : List (SV T)) : SV T → SV T
  | .ptr d o => match Nat.beq d c with | true => .rp m o | false => .ptr d o
  | s => match ment c s with | true => .any | false => s
def frpL (c : Nat) (m : List (SV T)) : List (SV T) → List (SV T)
  | [] => []
  | s :: l => frp1 c m s :: frpL c m l
theorem frpL_get (c : Nat) (m : List (SV T)) : ∀ (l : List (SV T)) (i : Nat), (frpL c m l)[i]? = l[i]?.map (frp1 c m)
  | [], i => by simp [frpL]
  | s :: l, i => by cases i with
    | zero => simp [frpL]
    | succ i => simpa [frpL] using frpL_get c m l i
theorem frpL_length (c : Nat) (m : List (SV T)) (l : List (SV T)) : (frpL c m l).length = l.length := by
  induction l with
  | nil => rfl
  | cons s l ih => simp [frpL, ih]
/-- Cells that nobody writes any more. -/
theorem Cv.freezeCells (hC : CodOK X.C) {l : List (SV T)} {H : List (Ch T)} (c : Nat) {t : TypeId} {m : List (SV T)} (hc : nth H c = some (.cells t m)) : Cv X l H (frpL c m l) (setN H c .gone) := by
  rw [setN_eq]
  rw [nth_eq] at hc
  refine ⟨by rw [frpL_length]; exact Nat.le_refl _, fun M hS => ?_⟩
  have hlc : live H c := ⟨_, hc, rfl⟩
  have hcl := live_lt hlc
  have hlv : ∀ d, live (H.set c .gone) d → live H d ∧ d ≠ c := by
    rintro d ⟨x, hx, hxl⟩
    by_cases hd : c = d
    · subst hd
      rw [List.getElem?_set_self hcl] at hx
      cases hx
      cases hxl
    · rw [List.getElem?_set_ne hd] at hx
      exact ⟨⟨x, hx, hxl⟩, fun h => hd h.symm⟩
  let M' : Mem := { n := M.n, ρ := M.ρ, D := fun b => b < M.w.heap.size ∧ ¬ X.E.X b ∧ ∀ d, live (H.set c .gone) d → (M.ρ d).blk ≠ some b, w := M.w }
  have hDD : ∀ b, M.D b → M'.D b ∧ M'.w.heap[b]? = M.w.heap[b]? := fun b hb => by
    obtain ⟨h1, h2, h3⟩ := (hS.D b).1 hb
    exact ⟨⟨h1, h2, fun d hd => h3 d (hlv d hd).1⟩, rfl⟩
  have e : Ext M M' := ⟨Nat.le_refl _, fun _ _ => rfl, hDD⟩
  obtain ⟨g, us, hg, hh, hden⟩ := hS.ch c _ hc
  have hDg : M'.D g := by
    have := hS.lt c g hlc hg
    refine ⟨this.1, this.2.1, fun d hd hdg => ?_⟩
    obtain ⟨h1, h2⟩ := hlv d hd
    exact h2 (hS.inj d c g h1 hlc hdg hg)
  refine ⟨M', rfl, ⟨by rw [List.length_set]; exact hS.n, fun d x hx => ?_, fun d1 d2 g h1 h2 => hS.inj d1 d2 g (hlv d1 h1).1 (hlv d2 h2).1, fun d g h1 => hS.lt d g (hlv d h1).1, fun b => Iff.rfl, hS.os, hS.tape, hS.output, hS.size, fun d h hA => ⟨by rw [List.length_set]; exact (hS.anch d h hA).1, (hS.anch d h hA).2⟩, hS.kept⟩, fun vs hv i s hs => ?_⟩
  · by_cases hd : c = d
    · subst hd
      rw [List.getElem?_set_self hcl] at hx
      cases hx
      trivial
    · rw [List.getElem?_set_ne hd] at hx
      exact ChOK.same (M := M) (M' := M') hC (Nat.le_refl _) rfl hDD (hS.ch d x hx) (fun _ _ => rfl)
  · rw [frpL_get] at hs
    obtain ⟨y, hy, rfl⟩ := Option.map_eq_some_iff.1 hs
    have hyv := hv i y hy
    have hgen : DenV X.C M' (match ment c y with | true => .any | false => y) (vs i) := by
      split
      · trivial
      · exact hyv.ext hC e
    cases y
    case ptr d o =>
      simp only [frp1]
      split
      · rename_i hd
        rw [Nat.beq_eq] at hd
        subst hd
        simp only [DenV, DenP] at hyv
        generalize vs i = v at hyv ⊢
        cases hyv with
        | ptr _ _ g' hc' hg' _ =>
          rw [hg] at hg'
          cases hg'
          have := Den.rp (C := X.C) (M := M') m o g 0 us hDg (fun q _ => by rw [Nat.zero_add]; exact cell_blk hh q) (hden.ext hC e) .nil
          rw [Nat.zero_add] at this
          exact this
      · exact hyv.ext hC e
    all_goals exact hgen
/-- A row's beginning, as a row by itself. -/
def cutL (c : Nat) (l : List (SV T)) (j : Nat) : List (SV T) := setN (killL c l) j (.own c)
theorem Cv.cut (hC : CodOK X.C) {A : Leaf} (hA : A = .std) {l : List (SV T)} {H : List (Ch T)} {c j : Nat} (hlo : X.E.A c = none) {h : Int} {t : TypeId} {r : Row T} (hc : nth H c = some (.row t r)) (hj : nth l j = some (.osl c 0 h)) (hh : A.slb 0 h (r.len A)) :
    Cv X l H (cutL c l j) (killH c (setN H c (.row t (r.sub A 0 h)))) := by
  subst hA
  unfold cutL
  rw [setN_eq, setN_eq]
  rw [nth_eq] at hc hj
  rw [Row.len_std] at hh
  obtain ⟨h0, h1, h2⟩ : (0 : Int) ≤ 0 ∧ 0 ≤ h ∧ h ≤ (r.length : Int) := hh
  refine ⟨by rw [List.length_set, killL_length]; exact Nat.le_refl _, fun M hS => ?_⟩
  obtain ⟨hl, hr⟩ := hS.ch c _ hc
  obtain ⟨s1, s2, s3⟩ := Row.sub_ok (C := X.C) r (Int.le_refl 0) h1 h2
  have hlc : live H c := ⟨_, hc, rfl⟩
  obtain ⟨M', hw, hρ, hn, e, hS'⟩ := Sat.moved (r := r.sub .std 0 h) (t := t) (hd := ⟨(M.ρ c).blk, h.toNat, (M.ρ c).cap⟩) (w' := M.w) hC hS hc rfl hlo rfl rfl rfl (Nat.le_refl _) (fun _ _ _ => rfl)
    (fun g hg => ⟨(hS.lt c g hlc hg).1, .inl hg⟩) (fun M'' e2 hρ2 hw2 => by
      refine ⟨by rw [hρ2, s1]; simp, ?_⟩
      rw [hρ2]
      rcases hr with ⟨hb, k0, k1⟩ | ⟨g, us, hg, hhp, hle, hcm, hus, hrow⟩
      · exact .inl ⟨hb, by show h.toNat = 0; omega, k1⟩
      · refine .inr ⟨g, us, hg, by rw [hw2]; exact hhp, by show h.toNat ≤ (M.ρ c).cap; omega, hcm, by rw [s2]; exact hus, fun i x hx => ?_⟩
        have := (s3 i x hx).2
        rw [Int.toNat_zero, Nat.zero_add] at this
        have := hrow i x this
        rw [s2]
        exact Den.but (c := c) hC this e2 (Row.cells_free hC (s3 i x hx).2 c))
  refine ⟨M', hw, hS', fun vs hv i s hs => ?_⟩
  by_cases hji : j = i
  · subst hji
    rw [List.getElem?_set_self (by rw [killL_length]; exact (List.getElem?_eq_some_iff.1 hj).1)] at hs
    cases hs
    have hv := hv j _ hj
    simp only [DenV, DenP] at hv
    generalize vs j = v at hv ⊢
    cases hv with
    | osl _ _ _ a cap hcn _ _ _ ha hz _ =>
      obtain ⟨z1, z2⟩ := hz rfl
      rw [z1, z2]
      have := Den.own (C := X.C) (M := M') c (by omega) .nil
      rw [hρ] at this
      have e2 : (h - 0).toNat = h.toNat := by omega
      rw [e2]
      exact this
  · rw [List.getElem?_set_ne hji, killL_get] at hs
    obtain ⟨y, hy, rfl⟩ := Option.map_eq_some_iff.1 hs
    exact (hv i y hy).kill hC e
end
end Go.Sx

-- Sx29
namespace Go.Sx
open Go
section
variable {T : Nat → Type} {C : Cod T} {P : Program}

def seqs : List Code → Code → Code
  | [], r => r
  | c :: l, r => .seq c (seqs l r)
def codesK (Bk : List (SV T) → List (Ch T) → Prop) : List Code → List (KI T)
  | [] => [.back Bk]
  | c :: l => .code c :: codesK Bk l

theorem QK_none {X : Ctx T} (hP : ∀ rs H, ¬ X.Post rs H) (hE : ∀ ch fr H, ¬ X.PE ch fr H) {Bk : List (SV T) → List (Ch T) → Prop} : ∀ {l : List Code} {e : Exit} {a : Act} {w : World}, e ≠ .normal → ¬ QK X (codesK Bk l) e a w
  | [], e, a, w, he, h => by
    cases e with
    | normal => exact he rfl
    | ret => obtain ⟨_, v, rs, H, M, _, _, h, _⟩ := h; exact hP _ _ h
    | panic ch => obtain ⟨_, fr, H, M, _, _, h, _⟩ := h; exact hE _ _ _ h
    | exit => exact h.elim
    | goto => exact h.elim
    | outgrown => exact h.elim
  | c :: l, e, a, w, he, h => by
    cases e with
    | normal => exact he rfl
    | ret => exact QK_none hP hE (l := l) (e := .ret) (by simp) h
    | panic ch => exact QK_none hP hE (l := l) (e := .panic ch) (by simp) h
    | exit id => exact QK_none hP hE (l := l) (e := .exit id) (by simp) h
    | goto id => exact QK_none hP hE (l := l) (e := .goto id) (by simp) h
    | outgrown => exact QK_none hP hE (l := l) (e := .outgrown) (by simp) h

theorem seqs_wp {X : Ctx T} (hP : ∀ rs H, ¬ X.Post rs H) (hE : ∀ ch fr H, ¬ X.PE ch fr H) {Bk : List (SV T) → List (Ch T) → Prop} {r : Code} {Q : Exit → Act → World → Prop}
    (hr : ∀ fr H M a, Bk fr H → Sat X.C X.E M H → FrOK X.C M fr a → a.defers = X.ds → r.wp X.P Q a M.w) :
    ∀ {l : List Code} {a : Act} {w : World}, QK X (codesK Bk l) .normal a w → (seqs l r).wp X.P Q a w
  | [], a, w, h => by
    obtain ⟨fr, H, M, h1, h2, h3, h4, rfl⟩ := h
    exact hr fr H M a h1 h2 h3 h4
  | c :: l, a, w, h => by
    refine wp_seq (Code.wp_mono (fun e a w hq => ?_) (show c.wp X.P (QK X (codesK Bk l)) a w from h))
    cases e with
    | normal => exact seqs_wp hP hE hr (l := l) hq
    | ret => exact (QK_none hP hE (by simp) hq).elim
    | panic ch => exact (QK_none hP hE (by simp) hq).elim
    | exit id => exact (QK_none hP hE (by simp) hq).elim
    | goto id => exact (QK_none hP hE (by simp) hq).elim
    | outgrown => exact (QK_none hP hE (by simp) hq).elim

def capV (caps : List Nat) (a : Act) : Array Value := (caps.map fun t => a.tmps.getD t undef).toArray

/-- More is pinned. -/
def Env.pinned (E : Env) (M : Mem) (pin : Nat → Bool) (n : Nat) : Env := { E with A := fun c => if pin c = true ∧ c < n then some (M.ρ c) else none }
theorem Sat.pinned {E : Env} {M : Mem} {H : List (Ch T)} (h : Sat C E M H) (pin : Nat → Bool) : Sat C (E.pinned M pin H.length) M H := by
  refine ⟨h.n, h.ch, h.inj, h.lt, h.D, h.os, h.tape, h.output, h.size, fun c hd hA => ?_, h.kept⟩
  simp only [Env.pinned] at hA
  split at hA
  · rename_i hc
    cases hA
    exact ⟨hc.2, rfl⟩
  · cases hA
theorem Sat.unpinned {E : Env} {M M' : Mem} {H H' : List (Ch T)} {pin0 pin : Nat → Bool} (h : Sat C E M H) (hp : ∀ c, pin0 c = false → E.A c = none) (hpin : ∀ c, pin0 c = true → pin c = true) (h' : Sat C (E.pinned M pin H.length) M' H') : Sat C E M' H' := by
  refine ⟨h'.n, h'.ch, h'.inj, h'.lt, h'.D, h'.os, h'.tape, h'.output, h'.size, fun c hd hA => ?_, h'.kept⟩
  have h1 : pin0 c = true := by
    cases hq : pin0 c with
    | true => rfl
    | false => rw [hp c hq] at hA; cases hA
  obtain ⟨h2, h3⟩ := h.anch c hd hA
  obtain ⟨h4, h5⟩ := h'.anch c (M.ρ c) (by simp [Env.pinned, hpin c h1, h2])
  exact ⟨h4, h5.trans h3⟩

theorem fokd_of {B B2 : Tab} {f g : FuncId} {fn : Func} {pre : List Code} {dreg rest : Code} {args : List (SV T)} {H : List (Ch T)} {Post : List (SV T) → List (Ch T) → Prop} {PE2 : List PanicEntry → List (SV T) → List (Ch T) → Prop}
    {Bk : List (SV T) → List (Ch T) → Prop} {nt t : Nat} {res : List ResultVar} {caps : List Nat}
    (hP : TabOK P C B) (hZ : ZeroOK P C B) (hP2 : TabOK P C B2) (hZ2 : ZeroOK P C B2) (hC : CodOK C) (hmix : P.follows .mixedOrders = true)
    (hf : P.funcs[f]? = some fn) (hn : (fn.name == "runtime.NumGoroutine") = false) (hb : fn.body = some (seqs pre (.seq dreg rest))) (hnt : fn.ntmps = nt) (hres : fn.results.toList = res)
    (hpin : ∀ c, B.pin c = true → B2.pin c = true) (hinv : ∀ vals w, (invoke (.fn (.func g) vals) #[]).run P w = .ok (.enter g vals) w)
    (h1 : ∀ X : Ctx T, Fits X P C B res (len' H) (fun _ _ => False) → Holds X (codesK Bk pre) (app' args (anys (nt - len' args))) H)
    (hlen : ∀ fr H1, Bk fr H1 → t < fr.length)
    (hd : ∀ Q a w, t < a.tmps.size → Q .normal { (a.put (some t) (.func (.func g) #[] (capV caps a))) with defers := { target := .fn (.func g) (capV caps a), args := #[] } :: a.defers } w → dreg.wp P Q a w)
    (h2 : ∀ fr H1, Bk fr H1 → ∀ X : Ctx T, Fits X P C B2 res (len' H1) Post → X.PE = PE2 → Holds X [.code rest] (putF fr (some t) .any) H1)
    (hidle : ∀ vals w, vals.size = caps.length → CallsD P g vals .returning w fun e u' w' => (∃ v, e = .returned v) ∧ u' = .returning ∧ w' = w)
    (hpan : ∀ fr1 H1, Bk fr1 H1 → ∀ (E : Env) (M1 M : Mem) fr H' ch (a a1 : Act), PE2 ch fr H' → FrOK C M1 fr1 a1 → (∀ c, B2.pin c = false → E.A c = none) → (∀ c, c < H1.length → B2.pin c = true → E.A c = some (M1.ρ c)) → Sat C E M H' →
      (∀ t ∈ B2.kp, ∀ s, fr[t]? = some s → DenV C M s (a.tmps.getD t undef)) →
      CallsD P g (capV caps a1) (.panicking ch) M.w fun e u' w' => (∃ v, e = .returned v) ∧ settle u' = .returning ∧ ∃ v, (results fn a.tmps).run P w' = .ok v w' ∧ ∃ rs H'' M', Post rs H'' ∧ Sat C E M' H'' ∧ M'.w = w' ∧ DenR C M' rs v) :
    FOK P C f B.pin args H Post := by
  subst hnt
  refine ⟨fn, _, hf, hn, hb, fun E M vals hA hS hl hdv => ?_⟩
  refine calls_of_wp_defers hf hb ?_
  have hF : FrOK C M (app' args (anys (fn.ntmps - len' args))) { tmps := vals ++ Array.replicate (fn.ntmps - vals.size) undef, defers := [] } := by
    rw [app'_eq, len'_eq args]
    refine ⟨by simp [anys_length, hl], fun i s hs => ?_⟩
    rcases Nat.lt_or_ge i args.length with hi | hi
    · rw [List.getElem?_append_left hi] at hs
      have hv : i < vals.size := by omega
      have : (vals ++ Array.replicate (fn.ntmps - vals.size) undef).getD i undef = vals[i] := by
        simp [Array.getD, hv]
        omega
      show DenV C M s ((vals ++ Array.replicate (fn.ntmps - vals.size) undef).getD i undef)
      rw [this]
      exact hdv i s _ hs (Array.getElem?_eq_getElem hv)
    · rw [List.getElem?_append_right hi] at hs
      rw [anys_get _ _ _ hs]
      trivial
  have hX1 := h1 ⟨P, C, B, E, fn, len' H, fun _ _ => False, fun _ _ _ => False, []⟩ ⟨rfl, rfl, rfl, hres, rfl, rfl, ⟨hP, hZ, hC, hA, hmix⟩, fun c h hc => by show c < len' H; rw [len'_eq]; exact (hS.anch c h hc).1⟩ M _ hS hF rfl
  refine seqs_wp (fun _ _ h => h) (fun _ _ _ h => h) (fun fr1 H1 M1 a1 hB hS1 hF1 hd1 => ?_) hX1
  refine wp_seq (hd _ _ _ (Nat.lt_of_lt_of_le (hlen _ _ hB) hF1.1) ?_)
  have hS1 : Sat C E M1 H1 := hS1
  have hF1 : FrOK C M1 fr1 a1 := hF1
  have hd1 : a1.defers = [] := hd1
  have hS2 := hS1.pinned B2.pin
  have hA2 : ∀ c, B2.pin c = false → (E.pinned M1 B2.pin H1.length).A c = none := fun c hc => by simp [Env.pinned, hc]
  have hX2 := h2 fr1 H1 hB ⟨P, C, B2, E.pinned M1 B2.pin H1.length, fn, len' H1, Post, PE2, [{ target := .fn (.func g) (capV caps a1), args := #[] }]⟩ ⟨rfl, rfl, rfl, hres, rfl, rfl, ⟨hP2, hZ2, hC, hA2, hmix⟩, fun c h hc => by show c < len' H1; rw [len'_eq]; exact (hS2.anch c h hc).1⟩ rfl
    M1 { (a1.put (some t) (.func (.func g) #[] (capV caps a1))) with defers := { target := .fn (.func g) (capV caps a1), args := #[] } :: a1.defers } hS2 ?_ (by rw [hd1])
  · refine Code.wp_mono (fun e a w hq => ?_) hX2
    have hlv : ∀ {u : FrameMode} {R' : Ending → World → Prop} {a : Act} {w : World}, a.defers = [{ target := .fn (.func g) (capV caps a1), args := #[] }] → u ≠ .run →
        (CallsD P g (capV caps a1) u w fun e u' w' => (∃ v, e = .returned v) ∧ settle u' = .returning ∧ ∃ v, (results fn a.tmps).run P w' = .ok v w' ∧ R' (.returned v) w') → Leaves P fn a.tmps R' a.defers u w := by
      intro u R' a w hda hu h
      rw [hda]
      refine leaves_cons hu (hinv _ _) (h.mono ?_)
      rintro e u' w' ⟨⟨v', rfl⟩, h2, h3⟩
      show Leaves P fn a.tmps R' [] (settle u') w'
      rw [h2]
      exact h3
    have hfin : ∀ {a : Act} {w : World}, (a.defers = [{ target := .fn (.func g) (capV caps a1), args := #[] }] ∧ ∃ v rs H' M', (results fn a.tmps).run P w = .ok v w ∧ M'.w = w ∧ Post rs H' ∧ Sat C (E.pinned M1 B2.pin H1.length) M' H' ∧ DenR C M' rs v) →
        Leaves P fn a.tmps (fun e w' => match e with
          | .returned v => ∃ rs H' M', Post rs H' ∧ Sat C E M' H' ∧ M'.w = w' ∧ DenR C M' rs v
          | .panicked ch => False ∧ ∃ H' M', Sat C E M' H' ∧ M'.w = w'
          | .outgrown => False) a.defers .returning w := by
      rintro a w ⟨hda, v, rs, H', M', h3, h4, h5, h6, h7⟩
      refine hlv hda (by simp) ((hidle _ w (by simp [capV])).mono ?_)
      rintro e u' w' ⟨h8, rfl, rfl⟩
      exact ⟨h8, rfl, v, h3, rs, H', M', h5, hS1.unpinned hA hpin h6, h4, h7⟩
    cases e with
    | normal => exact hfin hq
    | ret => exact hfin hq
    | panic ch =>
      obtain ⟨hda, fr, H', M', h3, h4, h5, h6⟩ := hq
      subst h3
      refine hlv hda (by simp) ((hpan fr1 H1 hB (E.pinned M1 B2.pin H1.length) M1 M' fr H' ch a a1 h5 hF1 hA2 (fun c hc hp => by simp [Env.pinned, hc, hp]) h4 h6).mono ?_)
      rintro e u' w' ⟨h8, h9, v, h10, rs, H'', M'', h11, h12, h13, h14⟩
      exact ⟨h8, h9, v, h10, rs, H'', M'', h11, hS1.unpinned hA hpin h12, h13, h14⟩
    | exit id => exact hq.elim
    | goto id => exact hq.elim
    | outgrown => exact hq.elim
  · exact putF_put (a := a1) (d := some t) (v := .func (.func g) #[] (capV caps a1)) hF1 trivial

theorem upon_mono {o : Oper} {a : Act} {K K' : Act → World → Prop} {Q Q' : Exit → Act → World → Prop} (hK : ∀ a w, K a w → K' a w) (hQ : ∀ e a w, Q e a w → Q' e a w) {r : Result Next} (h : o.upon P a K Q r) : o.upon P a K' Q' r := by
  cases r with
  | ok n w' =>
    cases n <;> simp only [Oper.upon] at h ⊢ <;>
      first
        | exact hK _ _ h
        | exact Calls.mono h (fun e w'' he => by cases e <;> first | exact hK _ _ he | exact hQ _ _ _ he | (obtain ⟨a, w, he⟩ := he; exact ⟨a, w, hQ _ _ _ he⟩))
        | exact Rows.mono h (fun _ _ he => hK _ _ he)
        | exact h
  | halt x w' => cases x <;> simp only [Oper.upon] at h ⊢ <;> first | exact hQ _ _ _ h | exact h

theorem wpOpsS_of {ops : Array Oper} {cs : List Frame} {Q : Exit → Act → List Frame → World → Prop} (hno : ∀ a w, ¬ Q .outgrown a cs w) : ∀ (l : List Nat) (a : Act) (w : World), wpOps P ops (fun e a w => Q e a cs w) l a w → wpOpsS P ops Q l a cs w
  | [], a, w, h => h
  | i :: l, a, w, h => by
    simp only [wpOps] at h
    simp only [wpOpsS]
    cases ho : ops[i]? with
    | none => rw [ho] at h; exact wpOpsS_of hno l a w h
    | some o =>
      rw [ho] at h
      simp only at h ⊢
      split
      · rename_i hw
        rw [if_pos hw] at h
        rcases h with h | ⟨_, a', w', h⟩
        · unfold Oper.wp at h
          split
          · rename_i w' hr
            rw [hr] at h
            exact h.elim
          · exact upon_mono (fun a w h => wpOpsS_of hno l a w h) (fun _ _ _ h => h) h
        · exact (hno _ _ h).elim
      · rename_i hw
        rw [if_neg hw] at h
        exact wpOpsS_of hno l _ w h

theorem wpList_mono' {ops : Array Oper} {Q Q' : Exit → Act → World → Prop} (hQ : ∀ e a w, Q e a w → Q' e a w) : ∀ (l : List Oper) (a : Act) (w : World), wpList P ops Q l a w → wpList P ops Q' l a w
  | [], a, w, h => hQ _ _ _ h
  | o :: l, a, w, h => by
    simp only [wpList] at h ⊢
    split
    · rename_i hw
      rw [if_pos hw] at h
      rcases h with h | ⟨h1, a', w', h⟩
      · exact .inl (upon_mono (fun a w h => wpList_mono' hQ l a w h) hQ h)
      · exact .inr ⟨h1, a', w', hQ _ _ _ h⟩
    · rename_i hw
      rw [if_neg hw] at h
      exact wpList_mono' hQ l _ w h

/-- A deferred closure that recovers ahead of everything. -/
theorem callsD_rec {X : Ctx T} {f : FuncId} {u u1 : FrameMode} {id : Nat} {o0 : Oper} {l : List Oper} {c : Code} {fr : List (SV T)} {H : List (Ch T)} {M : Mem} {v : Value} {vals : Array Value}
    (hf : X.P.funcs[f]? = some X.fn) (hb : X.fn.body = some (.seq (.region id (o0 :: l).toArray false) c))
    (hop : ∀ ρ w, (execOp ρ o0).run X.P w = .ok .recover w) (hg : o0.guard = none) (hds : X.ds = [])
    (hrec : ∀ (c0 : Frame) cs, c0.mode = u → recoverD (c0 :: cs) = some (v, { c0 with mode := u1 } :: cs))
    (hH : Holds X [.ops l (o0 :: l), .code c] fr H) (hS : Sat X.C X.E M H)
    (hF : FrOK X.C M fr (({ tmps := vals ++ Array.replicate (X.fn.ntmps - vals.size) undef, defers := [] } : Act).put o0.dst v)) :
    CallsD X.P f vals u M.w fun e u' w' => u' = u1 ∧ match e with
      | .returned r => ∃ rs H' M', X.Post rs H' ∧ Sat X.C X.E M' H' ∧ M'.w = w' ∧ DenR X.C M' rs r
      | .panicked ch => ∃ fr H' M', X.PE ch fr H' ∧ Sat X.C X.E M' H' ∧ M'.w = w'
      | .outgrown => False := by
  refine callsD_of_wpS hf hb fun c0 cs hu => ?_
  refine wpS_seq (wpS_region ?_)
  have hsz : (o0 :: l).toArray.size = l.length + 1 := by simp
  rw [hsz, List.range_eq_range', List.range'_succ]
  have h0 : (o0 :: l).toArray[0]? = some o0 := by simp
  simp only [wpOpsS, h0]
  have hwant : ∀ ts, Region.wanted o0 (yielded (o0 :: l).toArray ts) = true := fun ts => by simp [Region.wanted, hg]
  rw [if_pos (hwant _), hop]
  simp only [hrec c0 cs hu]
  refine wpOpsS_of ?_ _ _ _ ?_
  · rintro a w ⟨u', h⟩
    exact h.2
  rw [wpOps_eq_wpList l (0 + 1) (fun j => by simp [Nat.add_comm])]
  have h1 := hH M _ hS hF (by rw [put_defers, hds])
  refine wpList_mono' (fun e a w hq => ?_) l _ _ (show wpList X.P (o0 :: l).toArray (QK X [.code c]) l _ _ from h1)
  have hQ : ∀ e a w, QK X [] e a w → bodyPostS X.P X.fn c0 cs (fun e u' w' => u' = u1 ∧ match e with
      | .returned r => ∃ rs H' M', X.Post rs H' ∧ Sat X.C X.E M' H' ∧ M'.w = w' ∧ DenR X.C M' rs r
      | .panicked ch => ∃ fr H' M', X.PE ch fr H' ∧ Sat X.C X.E M' H' ∧ M'.w = w'
      | .outgrown => False) e a ({ c0 with mode := u1 } :: cs) w := by
    intro e a w h
    cases e with
    | normal => obtain ⟨h1, v, rs, H', M', h2, h3, h4, h5, h6⟩ := h; exact ⟨h1.trans hds, u1, rfl, v, h2, rfl, rs, H', M', h4, h5, h3, h6⟩
    | ret => obtain ⟨h1, v, rs, H', M', h2, h3, h4, h5, h6⟩ := h; exact ⟨h1.trans hds, u1, rfl, v, h2, rfl, rs, H', M', h4, h5, h3, h6⟩
    | panic ch => obtain ⟨h1, fr', H', M', h2, h3, h4, _⟩ := h; exact ⟨h1.trans hds, u1, rfl, rfl, fr', H', M', h4, h3, h2⟩
    | exit => exact h.elim
    | goto => exact h.elim
    | outgrown => exact h.elim
  cases e with
  | normal => exact wpS_of_wp (Code.wp_mono (fun e a w hq => hQ e a w hq) (show c.wp X.P (QK X []) a w from hq))
  | ret => exact hQ .ret _ _ hq
  | panic ch => exact hQ (.panic ch) _ _ hq
  | exit id => exact hq.elim
  | goto id => exact hq.elim
  | outgrown => exact hq.elim
theorem ptr_inv {M : Mem} {c off : Nat} {v : Value} (h : DenV C M (.ptr c off) v) : ∃ g, c < M.n ∧ (M.ρ c).blk = some g ∧ v = .pointer (some ⟨g, off, none⟩) := by
  have h : Den C M [.ptr c off] [v] := h
  cases h with
  | ptr _ _ g hc hb _ => exact ⟨g, hc, hb, rfl⟩
theorem ptr_lt {M : Mem} {c off i : Nat} {a : Act} (h : DenV C M (.ptr c off) (a.tmps.getD i undef)) : i < a.tmps.size := by
  obtain ⟨g, _, _, h⟩ := ptr_inv h
  rcases Nat.lt_or_ge i a.tmps.size with hi | hi
  · exact hi
  · rw [Array.getD_eq_getD_getElem?, Array.getElem?_eq_none hi] at h
    cases h
theorem ptr_anch {E : Env} {M M' : Mem} {H : List (Ch T)} {c off : Nat} {v : Value} (h : DenV C M (.ptr c off) v) (hA : E.A c = some (M.ρ c)) (hS : Sat C E M' H) : DenV C M' (.ptr c off) v := by
  obtain ⟨g, hc, hb, rfl⟩ := ptr_inv h
  obtain ⟨h1, h2⟩ := hS.anch c _ hA
  exact Den.ptr c off g (by rw [hS.n]; exact h1) (by rw [h2]; exact hb) .nil
theorem Sat.anchor {E : Env} {M : Mem} {H : List (Ch T)} {c : Nat} {h : Hd} (hA : E.A c = some h) (hS : Sat C E M H) : E.A c = some (M.ρ c) := by
  rw [(hS.anch c _ hA).2]; exact hA

theorem put_same {a : Act} {d : Nat} {v : Value} (h : d < a.tmps.size) : (a.put (some d) v).tmps.getD d undef = v := by
  simp only [Act.put, Array.getD_eq_getD_getElem?]
  rw [Array.getElem?_setIfInBounds_self_of_lt h]
  rfl
theorem put_size {a : Act} {d : Option Nat} {v : Value} : (a.put d v).tmps.size = a.tmps.size := by
  cases d <;> simp [Act.put]
theorem wpOpsS_step {ops : Array Oper} {Q : Exit → Act → List Frame → World → Prop} {i : Nat} {l : List Nat} {a : Act} {cs : List Frame} {w : World} {o : Oper} {v : Value}
    (ho : ops[i]? = some o) (hg : o.guard = none) (he : (execOp a.eval o).run P w = .ok (.value v) w) (h : wpOpsS P ops Q l (a.put o.dst v) cs w) : wpOpsS P ops Q (i :: l) a cs w := by
  simp only [wpOpsS, ho]
  rw [if_pos (by simp [Region.wanted, hg]), he]
  exact h
theorem wpOpsS_none {ops : Array Oper} {Q : Exit → Act → List Frame → World → Prop} {i : Nat} {l : List Nat} {a : Act} {cs : List Frame} {w : World} {o : Oper}
    (ho : ops[i]? = some o) (hg : o.guard = none) (he : (execOp a.eval o).run P w = .ok .recover w) (hr : recoverD cs = none) (h : wpOpsS P ops Q l (a.put o.dst .nilIface) cs w) : wpOpsS P ops Q (i :: l) a cs w := by
  simp only [wpOpsS, ho]
  rw [if_pos (by simp [Region.wanted, hg]), he]
  simp only [hr]
  exact h

/-- A closure that begins with 'x := recover(); if x == nil { return }', where nothing panics. -/
theorem idle_of {g : FuncId} {fn : Func} {i0 i1 d0 d1 d2 d3 : Nat} {o0 o1 o2 o3 : Oper} {x r : Code} {vals : Array Value} {w : World}
    (hf : P.funcs[g]? = some fn) (hb : fn.body = some (.seq (.region i0 #[o0, o1] false) (.seq (.seq (.region i1 #[o2, o3] false) (.cond (.tmp d3) .ret x)) r))) (hres : fn.results = #[])
    (h0 : ∀ ρ w, (execOp ρ o0).run P w = .ok .recover w) (h1 : ∀ ρ w, (execOp ρ o1).run P w = .ok (.value (ρ (.tmp d0))) w) (h2 : ∀ ρ w, (execOp ρ o2).run P w = .ok (.value (ρ (.tmp d1))) w)
    (h3 : ∀ (a : Act) w, a.eval (.tmp d2) = .nilIface → (execOp a.eval o3).run P w = .ok (.value (.bool true)) w)
    (hg : o0.guard = none ∧ o1.guard = none ∧ o2.guard = none ∧ o3.guard = none) (hd : o0.dst = some d0 ∧ o1.dst = some d1 ∧ o2.dst = some d2 ∧ o3.dst = some d3)
    (hn : d0 < fn.ntmps ∧ d1 < fn.ntmps ∧ d2 < fn.ntmps ∧ d3 < fn.ntmps) :
    CallsD P g vals .returning w fun e u' w' => (∃ v, e = .returned v) ∧ u' = .returning ∧ w' = w := by
  refine callsD_of_wpS hf hb fun c0 cs hu => ?_
  obtain ⟨g0, g1, g2, g3⟩ := hg
  obtain ⟨e0, e1, e2, e3⟩ := hd
  obtain ⟨n0, n1, n2, n3⟩ := hn
  generalize ha : ({ tmps := vals ++ Array.replicate (fn.ntmps - vals.size) undef, defers := [] } : Act) = a
  have hsz : fn.ntmps ≤ a.tmps.size := by subst ha; simp; omega
  have hde : a.defers = [] := by subst ha; rfl
  have hrec : recoverD (c0 :: cs) = none := by simp [recoverD, hu]
  refine wpS_seq (wpS_region ?_)
  refine wpOpsS_none (o := o0) rfl g0 (h0 _ _) hrec ?_
  rw [e0]
  refine wpOpsS_step (o := o1) rfl g1 (h1 _ _) ?_
  rw [e1, show (a.put (some d0) Value.nilIface).eval (.tmp d0) = .nilIface from put_same (by omega)]
  show (Code.seq _ r).wpS _ _ _ _ _
  refine wpS_seq (wpS_seq (wpS_region ?_))
  refine wpOpsS_step (o := o2) rfl g2 (h2 _ _) ?_
  rw [e2, show ((a.put (some d0) Value.nilIface).put (some d1) Value.nilIface).eval (.tmp d1) = .nilIface from put_same (by rw [put_size]; omega)]
  refine wpOpsS_step (o := o3) (v := .bool true) rfl g3 (h3 _ _ (put_same (by rw [put_size, put_size]; omega))) ?_
  rw [e3]
  show (Code.cond _ _ _).wpS _ _ _ _ _
  refine wpS_cond (t := true) (put_same (by rw [put_size, put_size, put_size]; omega)) ?_
  refine wpS_of_wp (wp_ret ?_)
  refine ⟨by simp only [put_defers, hde], _, rfl, .tuple #[], ?_, ⟨_, rfl⟩, hu, rfl⟩
  unfold results
  rw [hres]
  simp
end
end Go.Sx

-- Sx30
namespace Go.Sx.Draw
open Go
section
variable {P : Program} {ops : Array Oper} {Q : Exit → Act → World → Prop} {md : Region.Mode}
theorem any_region_drawn {l : List Oper} {a : Act} {w : World} (n : Nat) (hm : P.follows .mixedOrders = true) (hB : drawB l.toArray n = true) (hQ : ∀ (i : Nat) o, l.toArray[i]? = some o → ∀ v c a w, Q (.panic c) (a.put o.dst v) w → Q (.panic c) a w)
    (h : wpHd P l.toArray (fun w' => Old { w with drawn := w.drawn + 1 } w' ∧ w.heap.size ≤ w'.heap.size) (fun a' => wpList P l.toArray Q (l.drop n) a' { w with drawn := w.drawn + 1 }) (l.take n) a) : wpAny P .any l.toArray Q l.toArray.size (Array.replicate l.toArray.size false) a { w with drawn := w.drawn + 1 } := by
  simp only [drawB, Bool.and_eq_true, decide_eq_true_eq] at hB
  obtain ⟨⟨hsel, hn⟩, hB⟩ := hB
  have hn' : n ≤ l.length := by simpa using hn
  have htl : (l.take n).length = n := by simp; omega
  refine (wpAny_of_last (S := fun w' => Old { w with drawn := w.drawn + 1 } w' ∧ w.heap.size ≤ w'.heap.size) (ds := dsFrom l.toArray n) _ _ _ _ ?_)
  have := last_head (P := P) (Q := Q) (w1 := { w with drawn := w.drawn + 1 }) (n := n) hQ hsel hn (l.take n) 0 (Array.replicate l.toArray.size false) a { w with drawn := w.drawn + 1 } (by omega) (fun j hj => by
    rw [htl] at hj
    simp [hj]) (by rw [htl]; exact hB) ⟨.refl _, Nat.le_refl _⟩ h
  rwa [htl, show n + (l.toArray.size - n) = l.toArray.size from by omega] at this
end
end Go.Sx.Draw
namespace Go.Sx.Rd
open Go Go.Sx
/-- What code does, said without a machine: of code that makes no deferred calls. -/
def fw (P : Program) : Code → (Exit → Act → World → Prop) → Act → World → Prop
  | .skip, Q => Q .normal
  | .label _, Q => Q .normal
  | .seq x y, Q => fw P x (Exit.then (fw P y Q) Q)
  | .cond c x y, Q => fun a w => ∃ t, a.eval c = .bool t ∧ (t = true → fw P x Q a w) ∧ (t = false → fw P y Q a w)
  | .block id c, Q => fw P c (Exit.inBlock id Q)
  | .exit id, Q => Q (.exit id)
  | .ret, Q => Q .ret
  | .loop c, Q => fun a w => ∃ (I : Act → World → Prop) (μ : Act → World → Nat), I a w ∧ ∀ a w, I a w → fw P c (Exit.then (fun a' w' => I a' w' ∧ μ a' w' < μ a w) Q) a w
  | .region _ ops d, Q => fun a w => match d with
    | false => wpList P ops Q ops.toList a w
    | true => P.follows .mixedOrders = true ∧ wpAny P .any ops Q ops.size (Array.replicate ops.size false) a { w with drawn := w.drawn + 1 }
  | _, _ => fun _ _ => False
def ndO (o : Oper) : Bool := match o.op with | .defer _ => false | _ => true
def ndL : List Oper → Bool
  | [] => true
  | o :: l => match ndO o with | true => ndL l | false => false
/-- Code without deferred calls. -/
def nd : Code → Bool
  | .skip | .label _ | .exit _ | .ret => true
  | .seq x y | .cond _ x y => match nd x with | true => nd y | false => false
  | .block _ c | .loop c => nd c
  | .region _ ops _ => ndL ops.toList
  | _ => false
theorem ndL_mem : ∀ {l : List Oper}, ndL l = true → ∀ o ∈ l, ndO o = true
  | [], _, o, ho => by cases ho
  | x :: l, h, o, ho => by
    simp only [ndL] at h
    split at h
    · rename_i hx
      rcases List.mem_cons.1 ho with rfl | ho
      · exact hx
      · exact ndL_mem h o ho
    · cases h
section
variable {P : Program} {Q : Exit → Act → World → Prop} {r n : Nat}
theorem rowsIn_of {row : String} {args : Array Value} {w : World} {R : Value → World → Prop} (h : Rows P row args w R) : RowsIn (Fence.wide.inRound r) n P row args w R :=
  fun c cs _ => let ⟨v, w', h1, h2⟩ := h c cs; ⟨v, w', h1, stepsIn_wide.2 h2⟩
theorem oper_in {o : Oper} (ho : ndO o = true) {a : Act} {w : World} {K K' : Act → World → Prop} (hK : ∀ a w, K a w → K' a w) (h : o.wp P a w K Q) : o.wpIn (Fence.wide.inRound r) n P a w K' Q := by
  refine ⟨fun _ _ => trivial, ?_⟩
  have hs : o.semAt (Fence.wide.inRound r).round a.eval = execOp a.eval o := Oper.semAt_some r _ _ (fun c hc => by unfold ndO at ho; rw [hc] at ho; cases ho)
  rw [hs]
  unfold Oper.wp at h
  generalize (execOp a.eval o).run P w = x at *
  cases x with
  | ok x w' =>
    cases x with
    | value v => exact hK _ _ h
    | skip => exact hK _ _ h
    | defer d => exact hK _ _ h
    | enter f args =>
      refine ⟨(fun h => by cases h), ?_⟩
      show CallsIn Fence.wide (n - 1) P f args w' _
      refine (callsIn_wide (n := n - 1)).2 (Calls.mono h fun e w'' he => ?_)
      cases e with
      | returned v => exact hK _ _ he
      | panicked ch => exact he
      | outgrown => exact he
    | row row args => exact ⟨(fun h => by cases h), (rowsIn_of h).mono fun v w'' he => hK _ _ he⟩
    | _ => exact h.elim
  | halt x w' => cases x <;> first | exact h | exact h.elim
theorem list_in (hO : ∀ a w, ¬ Q .outgrown a w) {ops : Array Oper} : ∀ {l : List Oper}, ndL l = true → ∀ {a : Act} {w : World}, wpList P ops Q l a w → wpListIn (Fence.wide.inRound r) n P ops Q l a w
  | [], _, a, w, h => h
  | o :: l, hl, a, w, h => by
    simp only [ndL] at hl
    split at hl
    · rename_i ho
      unfold wpList at h
      unfold wpListIn
      split
      · rename_i hw
        rw [if_pos hw] at h
        rcases h with h | ⟨_, a', w', h⟩
        · exact oper_in ho (fun a w h => list_in hO hl h) h
        · exact (hO _ _ h).elim
      · rename_i hw
        rw [if_neg hw] at h
        exact ⟨fun _ _ => trivial, list_in hO hl h⟩
    · cases hl
theorem any_in (hO : ∀ a w, ¬ Q .outgrown a w) {md : Region.Mode} {ops : Array Oper} (hn : ndL ops.toList = true) : ∀ (fuel : Nat) (listed : Array Bool) (a : Act) (w : World), wpAny P md ops Q fuel listed a w → wpAnyIn (Fence.wide.inRound r) n P md ops Q fuel listed a w
  | 0, _, _, _, h => h
  | fuel + 1, listed, a, w, h => by
    refine ⟨h.1, fun i hi => ?_⟩
    have := h.2 i hi
    unfold wpOp at this
    unfold wpOpIn
    split
    · rename_i ho
      rw [ho] at this
      exact any_in hO hn fuel _ _ _ this
    · rename_i o ho
      rw [ho] at this
      simp only at this
      split
      · rename_i hw
        rw [if_pos hw] at this
        rcases this with h | ⟨_, a', w', h⟩
        · exact oper_in (ndL_mem hn o (List.mem_of_getElem? (by simpa using ho))) (fun a w h => any_in hO hn fuel _ _ _ h) h
        · exact (hO _ _ h).elim
      · rename_i hw
        rw [if_neg hw] at this
        exact ⟨fun _ _ => trivial, any_in hO hn fuel _ _ _ this⟩
/-- Code in a round. -/
theorem fw_in : ∀ (c : Code) {Q : Exit → Act → World → Prop}, (∀ a w, ¬ Q .outgrown a w) → nd c = true → ∀ {a : Act} {w : World}, fw P c Q a w → c.wpIn (Fence.wide.inRound r) n P Q a w
  | .skip, _, _, _, _, _, h => wpIn_skip h
  | .label _, _, _, _, _, _, h => wpIn_label h
  | .exit _, _, _, _, _, _, h => wpIn_exit h
  | .ret, _, _, _, _, _, h => wpIn_ret h
  | .seq x y, Q, hO, hn, a, w, h => by
    simp only [nd] at hn
    split at hn
    · rename_i hx
      refine wpIn_seq (wpIn_mono (fw_in x (Q := Exit.then (fw P y Q) Q) hO hx h) fun e a w hq => ?_)
      cases e with
      | normal => exact fw_in y hO hn hq
      | _ => exact hq
    · cases hn
  | .cond c x y, Q, hO, hn, a, w, h => by
    simp only [nd] at hn
    split at hn
    · rename_i hx
      obtain ⟨t, ht, h1, h2⟩ := h
      cases t with
      | true => exact wpIn_cond_true ht (fw_in x hO hx (h1 rfl))
      | false => exact wpIn_cond_false ht (fw_in y hO hn (h2 rfl))
    · cases hn
  | .block id c, Q, hO, hn, a, w, h => wpIn_block (fw_in c (Q := Exit.inBlock id Q) hO hn h)
  | .loop c, Q, hO, hn, a, w, h => by
    obtain ⟨I, μ, h0, h1⟩ := h
    exact wpIn_loop I μ h0 fun a w hi => fw_in c (Q := Exit.then _ Q) hO hn (h1 a w hi)
  | .region id ops d, Q, hO, hn, a, w, h => by
    cases d with
    | false => exact wpIn_region_list (list_in hO hn h)
    | true => exact wpIn_region_any h.1 (any_in hO hn _ _ _ _ h.2)
  | .rangeFunc .., _, _, hn, _, _, _ | .scope _, _, _, hn, _, _, _ | .goto _, _, _, hn, _, _, _ => by cases hn
variable {a : Act} {w : World}
theorem fw_skip (h : Q .normal a w) : fw P .skip Q a w := h
theorem fw_label {l : Nat} (h : Q .normal a w) : fw P (.label l) Q a w := h
theorem fw_exit {id : Nat} (h : Q (.exit id) a w) : fw P (.exit id) Q a w := h
theorem fw_ret (h : Q .ret a w) : fw P .ret Q a w := h
theorem fw_seq {x y : Code} (h : fw P x (Exit.then (fw P y Q) Q) a w) : fw P (.seq x y) Q a w := h
theorem fw_cond_true {c : Operand} {x y : Code} (hc : a.eval c = .bool true) (h : fw P x Q a w) : fw P (.cond c x y) Q a w := ⟨true, hc, (fun _ => h), (fun h => by cases h)⟩
theorem fw_cond_false {c : Operand} {x y : Code} (hc : a.eval c = .bool false) (h : fw P y Q a w) : fw P (.cond c x y) Q a w := ⟨false, hc, (fun h => by cases h), (fun _ => h)⟩
theorem fw_block {id : Nat} {c : Code} (h : fw P c (Exit.inBlock id Q) a w) : fw P (.block id c) Q a w := h
theorem fw_region_list {id : Nat} {ops : Array Oper} (h : wpList P ops Q ops.toList a w) : fw P (.region id ops false) Q a w := h
theorem fw_region_tree {id : Nat} {l : List Oper} (t : OTree) (hm : P.follows .mixedOrders = true) (hsel : Region.noSelect l.toArray = true)
    (ht : okT l.toArray l.toArray.size (Array.replicate l.toArray.size false) none t = true) (hQ : ∀ (i : Nat) o, l.toArray[i]? = some o → ∀ v c a w, Q (.panic c) (a.put o.dst v) w → Q (.panic c) a w)
    (h : wpT P l.toArray Q t a { w with drawn := w.drawn + 1 }) : fw P (.region id l.toArray true) Q a w := ⟨hm, okT_sound hsel hQ t _ _ none a _ ht h⟩
theorem fw_region_drawn {id : Nat} {l : List Oper} (n : Nat) (hm : P.follows .mixedOrders = true) (hB : Draw.drawB l.toArray n = true) (hQ : ∀ (i : Nat) o, l.toArray[i]? = some o → ∀ v c a w, Q (.panic c) (a.put o.dst v) w → Q (.panic c) a w)
    (h : Draw.wpHd P l.toArray (fun w' => Old { w with drawn := w.drawn + 1 } w' ∧ w.heap.size ≤ w'.heap.size) (fun a' => wpList P l.toArray Q (l.drop n) a' { w with drawn := w.drawn + 1 }) (l.take n) a) : fw P (.region id l.toArray true) Q a w :=
  ⟨hm, Draw.any_region_drawn n hm hB hQ h⟩
end
section
variable {T : Nat → Type}
/-- What is to be shown behind each ending. -/
def QK (X : Ctx T) : List (KI T) → Exit → Act → World → Prop
  | [], e, a, w => match e with
    | .panic ch => a.defers = X.ds ∧ ∃ fr H M, M.w = w ∧ Sat X.C X.E M H ∧ X.PE ch fr H ∧ ∀ t ∈ X.B.kp, ∀ s, fr[t]? = some s → DenV X.C M s (a.tmps.getD t undef)
    | .normal | .ret => a.defers = X.ds ∧ ∃ v rs H M, (results X.fn a.tmps).run X.P w = .ok v w ∧ M.w = w ∧ X.Post rs H ∧ Sat X.C X.E M H ∧ DenR X.C M rs v
    | _ => False
  | .code c :: k, e, a, w => Exit.then (fun a w => fw X.P c (QK X k) a w) (QK X k) e a w
  | .ops l all :: k, e, a, w => Exit.then (fun a w => wpList X.P all.toArray (QK X k) l a w) (QK X k) e a w
  | .still h t all :: k, e, a, w => Exit.then (fun a w => Draw.wpHd X.P all.toArray (fun w' => Old w w' ∧ w.heap.size ≤ w'.heap.size) (fun a' => wpList X.P all.toArray (QK X k) t a' w) h a) (QK X k) e a w
  | .blk id :: k, e, a, w => Exit.inBlock id (QK X k) e a w
  | .tree t all :: k, e, a, w => Exit.then (fun a w => wpT X.P all.toArray (QK X k) t a w) (QK X k) e a w
  | .back B :: k, e, a, w => Exit.then (fun a w => ∃ fr H M, B fr H ∧ Sat X.C X.E M H ∧ FrOK X.C M fr a ∧ a.defers = X.ds ∧ M.w = w) (QK X k) e a w

theorem QK_code (X : Ctx T) (c : Code) (k : List (KI T)) : QK X (.code c :: k) = Exit.then (fun a w => fw X.P c (QK X k) a w) (QK X k) := rfl
theorem QK_ops (X : Ctx T) (l all : List Oper) (k : List (KI T)) : QK X (.ops l all :: k) = Exit.then (fun a w => wpList X.P all.toArray (QK X k) l a w) (QK X k) := rfl
theorem QK_blk (X : Ctx T) (id : Nat) (k : List (KI T)) : QK X (.blk id :: k) = Exit.inBlock id (QK X k) := rfl

def Holds (X : Ctx T) (k : List (KI T)) (fr : List (SV T)) (H : List (Ch T)) : Prop :=
  ∀ (M : Mem) (a : Act), Sat X.C X.E M H → FrOK X.C M fr a → a.defers = X.ds → QK X k .normal a M.w

def CallOK (X : Ctx T) (f : FuncId) (args : List (SV T)) (d : Option Tmp) (c : Cfg T) : Prop :=
  ∀ (M : Mem) (a : Act) (vals : Array Value), Sat X.C X.E M c.H → FrOK X.C M c.fr a → a.defers = X.ds → vals.size = args.length →
    (∀ (i : Nat) s u, args[i]? = some s → vals[i]? = some u → DenV X.C M s u) →
    (callFunc f vals).run X.P M.w = .ok (.enter f vals) M.w ∧
    Calls X.P f vals M.w fun e w' => match e with | .returned v => QK X c.k .normal (a.put d v) w' | .panicked ch => QK X [] (.panic ch) a w' | .outgrown => False

def LoopOK (X : Ctx T) (body : Code) (c : Cfg T) : Prop :=
  ∀ (M : Mem) (a : Act), Sat X.C X.E M c.H → FrOK X.C M c.fr a → a.defers = X.ds → fw X.P (Code.loop body) (QK X c.k) a M.w

def OutOK (X : Ctx T) : Out T → Prop
  | .more c => Holds X c.k c.fr c.H
  | .branch b x y => (b = true → Holds X x.k x.fr x.H) ∧ (b = false → Holds X y.k y.fr y.H)
  | .need p o => p ∧ OutOK X o
  | .know p o => p → OutOK X o
  | .fork f => ∀ b, OutOK X (f b)
  | .drawn l n o c => (Draw.drawB l.toArray n = true ∧ OutOK X o) ∨ (∃ t, (Region.noSelect l.toArray = true ∧ okT l.toArray l.toArray.size (Array.replicate l.toArray.size false) none t = true) ∧ Holds X (.tree t l :: c.k) c.fr c.H)
  | .both x y => Holds X x.k x.fr x.H ∧ Holds X y.k y.fr y.H
  | .call f args d c => CallOK X f args d c
  | .loop body c => LoopOK X body c
  | .back P fr H => P fr H
  | .ret rs H => RetOK X rs H
  | .panic s fr H => ∀ M v, Sat X.C X.E M H → DenV X.C M s v → X.PE [{ v := v, recovered := false }] fr H
  | .stuck _ => False

variable {X : Ctx T} {M M' : Mem} {H : List (Ch T)} {fr : List (SV T)} {a : Act} {k : List (KI T)}

theorem QK_ret {w : World} : ∀ {k : List (KI T)}, QK X [] .ret a w → QK X k .ret a w
  | [], h => h
  | .code _ :: k, h => QK_ret (k := k) h
  | .ops _ _ :: k, h => QK_ret (k := k) h
  | .still _ _ _ :: k, h => QK_ret (k := k) h
  | .blk _ :: k, h => QK_ret (k := k) h
  | .back _ :: k, h => QK_ret (k := k) h
  | .tree _ _ :: k, h => QK_ret (k := k) h

theorem QK_exit {w : World} {id : Nat} : ∀ {k k' : List (KI T)}, unwind id k = some k' → QK X k' .normal a w → QK X k (.exit id) a w
  | [], k', h, _ => by simp [unwind] at h
  | .code c :: k, k', h, hq => QK_exit (k := k) h hq
  | .ops l all :: k, k', h, hq => QK_exit (k := k) h hq
  | .still _ _ _ :: k, k', h, hq => QK_exit (k := k) h hq
  | .back B :: k, k', h, hq => QK_exit (k := k) h hq
  | .tree _ _ :: k, k', h, hq => QK_exit (k := k) h hq
  | .blk i :: k, k', h, hq => by
    simp only [unwind] at h
    show Exit.inBlock i (QK X k) (.exit id) a w
    simp only [Exit.inBlock]
    split at h
    · rename_i hi
      rw [Nat.beq_eq] at hi
      cases h
      rw [if_pos hi.symm]; exact hq
    · rename_i hi
      have hne : ¬ id = i := fun h => hi (by rw [h]; exact Nat.beq_refl i)
      rw [if_neg hne]
      exact QK_exit h hq

theorem ret_ok (G : Giv X.P X.C X.B X.E) {rs : List (SV T)} (hr : resE X.C .std X.B H fr X.fn.results.toList = some rs) (hp : RetOK X rs H)
    (hS : Sat X.C X.E M H) (hF : FrOK X.C M fr a) (hd : a.defers = X.ds) : QK X [] .ret a M.w := by
  obtain ⟨vs, h1, h2, h3⟩ := res_ok G hS hF hr
  have hres : (results X.fn a.tmps).run X.P M.w = .ok (if h : vs.toArray.size = 1 then vs.toArray[0] else .tuple vs.toArray) M.w := by
    unfold results
    rw [Array.mapM_eq_mapM_toList]
    simp only [Sem.run_bind, Sem.run_map]
    erw [h1]
    rfl
  obtain ⟨rs', H', hl, ⟨_, hcv⟩, hp⟩ := hp
  obtain ⟨M', hw, hS', hv⟩ := hcv M hS
  refine ⟨hd, _, rs', H', M', hres, hw, hp, hS', denR_of (hl.trans h2) fun i s u hs hu => ?_⟩
  have := hv (fun i => vs.getD i undef) (fun i s hs => by
    have hi : i < vs.length := by rw [← h2]; exact (List.getElem?_eq_some_iff.1 hs).1
    have := h3 i s _ hs (List.getElem?_eq_getElem hi)
    simpa [List.getD, hi] using this) i s hs
  simpa [List.getD, hu] using this

theorem QK_panic {c : List PanicEntry} {w : World} {a : Act} : ∀ {k : List (KI T)}, QK X k (.panic c) a w ↔ QK X [] (.panic c) a w
  | [] => Iff.rfl
  | .code _ :: k => QK_panic (k := k)
  | .ops _ _ :: k => QK_panic (k := k)
  | .still _ _ _ :: k => QK_panic (k := k)
  | .blk _ :: k => QK_panic (k := k)
  | .back _ :: k => QK_panic (k := k)
  | .tree _ _ :: k => QK_panic (k := k)
theorem QK_panic_put {c : List PanicEntry} {w : World} {a : Act} {l : List Oper} {i : Nat} {o : Oper} {v : Value} {k : List (KI T)} (hk : kpOK X.B.kp l = true) (ho : l.toArray[i]? = some o) (h : QK X k (.panic c) (a.put o.dst v) w) : QK X k (.panic c) a w := by
  rw [QK_panic] at h ⊢
  obtain ⟨h1, fr, H, M, h2, h3, h4, h5⟩ := h
  refine ⟨put_defers.symm.trans h1, fr, H, M, h2, h3, h4, fun t ht s hs => ?_⟩
  have hm : o ∈ l := by
    have : l[i]? = some o := by simpa using ho
    exact List.mem_of_getElem? this
  have := h5 t ht s hs
  rwa [put_getD (kpOK_spec hk t ht o hm)] at this

theorem eff_ok {n : Nat} (IH : ∀ k fr H, OutOK X (run X.C .std X.B X.fn.results.toList n k fr H) → Holds X k fr H) (G : Giv X.P X.C X.B X.E) (hS : Sat X.C X.E M H) (hF : FrOK X.C M fr a) (hd : a.defers = X.ds)
    {o : Oper} {l all : List Oper} {r : World → Result Next} : ∀ {ef : Ef T}, OutOK X (eff (run X.C .std X.B X.fn.results.toList n) o.dst (.ops l all :: k) fr H ef) → Does X.P X.C X.E M ef r → r M.w = (execOp a.eval o).run X.P M.w →
      o.wp X.P a M.w (wpList X.P all.toArray (QK X k) l) (QK X k)
  | .val s, h, hdo, hr => by
    obtain ⟨v, hv, hdv⟩ := hdo
    replace hv := hv M.w (Old.refl _)
    unfold Oper.wp
    rw [← hr, hv]
    exact IH _ _ _ h M _ hS (putF_put hF hdv) (put_defers.trans hd)
  | .mem s H', h, hdo, hr => by
    obtain ⟨nx, M', hv, hc, hS', e⟩ := hdo
    unfold Oper.wp
    rw [← hr, hv]
    rcases hc with ⟨v, rfl, hdv⟩ | ⟨rfl, rfl⟩
    · exact IH _ _ _ h M' _ hS' (putF_put (hF.ext G.cod e) hdv) (put_defers.trans hd)
    · exact IH _ _ _ h M' _ hS' (putF_put (hF.ext G.cod e) trivial) (put_defers.trans hd)
  | .app c H', h, hdo, hr => by
    obtain ⟨v, M', hv, hdv, hS', h1, h2, h3⟩ := hdo
    unfold Oper.wp
    rw [← hr, hv]
    exact IH _ _ _ h M' _ hS' (putF_put (FrOK.kill G.cod (c := c) ⟨h1, h2, h3⟩ hF) hdv) (put_defers.trans hd)
  | .need p e, h, hdo, hr => eff_ok IH G hS hF hd h.2 (hdo h.1) hr
  | .know p e, h, hdo, hr => eff_ok IH G hS hF hd (h hdo.1) hdo.2 hr
  | .fork f, h, hdo, hr => let ⟨b, hb⟩ := hdo; eff_ok IH G hS hF hd (h b) hb hr
  | .call f args, h, hdo, hr => by
    obtain ⟨vals, hv, hl, hdv⟩ := hdo
    obtain ⟨h1, h2⟩ := h M a vals hS hF hd hl hdv
    unfold Oper.wp
    rw [← hr, hv, h1]
    refine Calls.mono h2 fun e w' he => ?_
    cases e with
    | returned v => exact he
    | panicked ch => exact QK_panic.2 he
    | outgrown => exact he.elim
  | .panic s, h, hdo, hr => by
    obtain ⟨v, hv, hdv⟩ := hdo
    unfold Oper.wp
    rw [← hr, hv]
    exact QK_panic.2 ⟨hd, fr, H, M, rfl, hS, h M v hS hdv, fun t _ s hs => hF.2 t s hs⟩
  | .stuck w, h, _, _ => h.elim

theorem effS_ok {n : Nat} (IH : ∀ k fr H, OutOK X (run X.C .std X.B X.fn.results.toList n k fr H) → Holds X k fr H) (hS : Sat X.C X.E M H) (hF : FrOK X.C M fr a) (hd : a.defers = X.ds)
    {o : Oper} {h t all : List Oper} : ∀ {ef : Ef T}, OutOK X (effS (run X.C .std X.B X.fn.results.toList n) o.dst (.still h t all :: k) fr H ef) → DoesS X.C M (Draw.pureOp o) ef (fun w => (execOp a.eval o).run X.P w) →
      ∃ v, (∀ w, Draw.pureOp o = true ∨ (Old M.w w ∧ M.w.heap.size ≤ w.heap.size) → (execOp a.eval o).run X.P w = .ok (.value v) w) ∧ Draw.wpHd X.P all.toArray (fun w' => Old M.w w' ∧ M.w.heap.size ≤ w'.heap.size) (fun a' => wpList X.P all.toArray (QK X k) t a' M.w) h (a.put o.dst v)
  | .val s, h, hdo => by
    obtain ⟨v, hv, hdv⟩ := hdo
    exact ⟨v, fun w hw => hv w (hw.imp id (·.1)), IH _ _ _ h M _ hS (putF_put hF hdv) (put_defers.trans hd)⟩
  | .need p e, h, hdo => effS_ok IH hS hF hd h.2 (hdo h.1)
  | .know p e, h, hdo => effS_ok IH hS hF hd (h hdo.1) hdo.2
  | .fork f, h, hdo => let ⟨b, hb⟩ := hdo; effS_ok IH hS hF hd (h b) hb
  | .mem .., h, _ => h.elim
  | .app .., h, _ => h.elim
  | .call .., h, _ => h.elim
  | .panic s, h, _ => h.elim
  | .stuck w, h, _ => h.elim

theorem effT_ok {n : Nat} (IH : ∀ k fr H, OutOK X (run X.C .std X.B X.fn.results.toList n k fr H) → Holds X k fr H) (hS : Sat X.C X.E M H) (hF : FrOK X.C M fr a) (hd : a.defers = X.ds)
    {o : Oper} {t : OTree} {all : List Oper} : ∀ {ef : Ef T}, OutOK X (effS (run X.C .std X.B X.fn.results.toList n) o.dst (.tree t all :: k) fr H ef) → DoesS X.C M true ef (fun w => (execOp a.eval o).run X.P w) →
      ∃ v, (∀ w, (execOp a.eval o).run X.P w = .ok (.value v) w) ∧ wpT X.P all.toArray (QK X k) t (a.put o.dst v) M.w
  | .val s, h, hdo => by
    obtain ⟨v, hv, hdv⟩ := hdo
    exact ⟨v, fun w => hv w (.inl rfl), IH _ _ _ h M _ hS (putF_put hF hdv) (put_defers.trans hd)⟩
  | .need p e, h, hdo => effT_ok IH hS hF hd h.2 (hdo h.1)
  | .know p e, h, hdo => effT_ok IH hS hF hd (h hdo.1) hdo.2
  | .fork f, h, hdo => let ⟨b, hb⟩ := hdo; effT_ok IH hS hF hd (h b) hb
  | .mem .., h, _ => h.elim
  | .app .., h, _ => h.elim
  | .call .., h, _ => h.elim
  | .panic s, h, _ => h.elim
  | .stuck w, h, _ => h.elim

theorem run_ok (G : Giv X.P X.C X.B X.E) : ∀ (n : Nat) (k : List (KI T)) (fr : List (SV T)) (H : List (Ch T)), OutOK X (run X.C .std X.B X.fn.results.toList n k fr H) → Holds X k fr H := by
  intro n
  induction n with
  | zero => intro k fr H h; exact h
  | succ n IH =>
    intro k fr H h M a hS hF hd
    unfold run at h
    split at h
    · split at h
      · rename_i r hr
        exact ret_ok G hr h hS hF hd
      · exact h.elim
    · exact ⟨fr, H, M, h, hS, hF, hd, rfl⟩
    · exact IH _ _ _ h M a hS hF hd
    · exact IH _ _ _ h M a hS hF hd
    · have := IH _ _ _ h M a hS hF hd
      exact this
    · rename_i o hh t all k
      show Draw.wpHd X.P all.toArray _ _ (o :: hh) a
      unfold Draw.wpHd
      split at h
      · rename_i hg
        rw [if_pos (by simp [Region.wanted, hg])]
        exact effS_ok IH hS hF hd h (does_opS G hS hF o)
      · rename_i j want hg
        split at h
        · rename_i oj hj
          rw [nth_eq] at hj
          split at h
          · rename_i d hdst
            rw [nth_eq] at h
            split at h
            · rename_i b hb
              obtain ⟨hy, hl⟩ := yielded_eq hj hdst hb hF
              split at h
              · rename_i hw
                rw [if_pos (by simp [Region.wanted, hg, hy, ebool]; simpa using hw)]
                exact effS_ok IH hS hF hd h (does_opS G hS hF o)
              · rename_i hw
                rw [if_neg (by simp [Region.wanted, hg, hy, ebool]; simpa using hw)]
                exact IH _ _ _ h M _ hS (putF_put hF denV_skip) (put_defers.trans hd)
            · rename_i hb
              have hy := yielded_skip hj hdst hb hF
              rw [if_neg (by simp [Region.wanted, hg, hy])]
              exact IH _ _ _ h M _ hS (putF_put hF denV_skip) (put_defers.trans hd)
            · rename_i b hb
              cases b with
              | true =>
                have := h.1 rfl M a hS (by rw [setN_eq]; exact FrOK.setb hF hb rfl) hd
                have h2 : Draw.wpHd X.P all.toArray (fun w' => Old M.w w' ∧ M.w.heap.size ≤ w'.heap.size) (fun a' => wpList X.P all.toArray (QK X k) t a' M.w) (o :: hh) a := this
                unfold Draw.wpHd at h2
                exact h2
              | false =>
                have := h.2 rfl M a hS (by rw [setN_eq]; exact FrOK.setb hF hb rfl) hd
                have h2 : Draw.wpHd X.P all.toArray (fun w' => Old M.w w' ∧ M.w.heap.size ≤ w'.heap.size) (fun a' => wpList X.P all.toArray (QK X k) t a' M.w) (o :: hh) a := this
                unfold Draw.wpHd at h2
                exact h2
            · exact h.elim
          · exact h.elim
        · exact h.elim
    · rename_i o l all k
      show wpList X.P all.toArray (QK X k) (o :: l) a M.w
      unfold wpList
      split at h
      · rename_i hg
        rw [if_pos (by simp [Region.wanted, hg])]
        exact .inl (eff_ok IH G hS hF hd h (does_op G hS hF o) rfl)
      · rename_i j want hg
        split at h
        · rename_i oj hj
          rw [nth_eq] at hj
          split at h
          · rename_i d hdst
            rw [nth_eq] at h
            split at h
            · rename_i b hb
              obtain ⟨hy, hl⟩ := yielded_eq hj hdst hb hF
              split at h
              · rename_i hw
                rw [if_pos (by simp [Region.wanted, hg, hy, ebool]; simpa using hw)]
                exact .inl (eff_ok IH G hS hF hd h (does_op G hS hF o) rfl)
              · rename_i hw
                rw [if_neg (by simp [Region.wanted, hg, hy, ebool]; simpa using hw)]
                exact IH _ _ _ h M _ hS (putF_put hF denV_skip) (put_defers.trans hd)
            · rename_i hb
              have hy := yielded_skip hj hdst hb hF
              rw [if_neg (by simp [Region.wanted, hg, hy])]
              exact IH _ _ _ h M _ hS (putF_put hF denV_skip) (put_defers.trans hd)
            · rename_i b hb
              cases b with
              | true =>
                have := h.1 rfl M a hS (by rw [setN_eq]; exact FrOK.setb hF hb rfl) hd
                have h2 : wpList X.P all.toArray (QK X k) (o :: l) a M.w := this
                unfold wpList at h2
                exact h2
              | false =>
                have := h.2 rfl M a hS (by rw [setN_eq]; exact FrOK.setb hF hb rfl) hd
                have h2 : wpList X.P all.toArray (QK X k) (o :: l) a M.w := this
                unfold wpList at h2
                exact h2
            · exact h.elim
          · exact h.elim
        · exact h.elim
    · rename_i t all k
      show wpT X.P all.toArray (QK X k) t a M.w
      split at h
      · exact IH _ _ _ h M a hS hF hd
      · rename_i i t
        split at h
        · rename_i o ho
          rw [nth_eq] at ho
          exact wpT_op ho (IH _ _ _ h M a hS hF hd)
        · exact h.elim
      · rename_i i t u
        split at h
        · rename_i o ho
          rw [nth_eq] at ho
          obtain ⟨h1, h2⟩ := h
          exact ⟨wpT_op ho (h1 M a hS hF hd), h2 M a hS hF hd⟩
        · exact h.elim
      · rename_i i t
        split at h
        · exact h.elim
        · rename_i o ho
          rw [nth_eq] at ho
          have ho' : all.toArray[i]? = some o := by simpa using ho
          split at h
          · exact h.elim
          · rename_i hp
            unfold wpT
            rw [ho']
            simp only
            split at h
            · rename_i hg
              rw [if_pos (by simp [Region.wanted, hg])]
              exact effT_ok IH hS hF hd h (does_pure G hS hF o hp)
            · rename_i j want hg
              split at h
              · rename_i oj hj
                rw [nth_eq] at hj
                split at h
                · rename_i d hdst
                  rw [nth_eq] at h
                  split at h
                  · rename_i b hb
                    obtain ⟨hy, hl⟩ := yielded_eq hj hdst hb hF
                    split at h
                    · rename_i hw
                      rw [if_pos (by simp [Region.wanted, hg, hy, ebool]; simpa using hw)]
                      exact effT_ok IH hS hF hd h (does_pure G hS hF o hp)
                    · rename_i hw
                      rw [if_neg (by simp [Region.wanted, hg, hy, ebool]; simpa using hw)]
                      exact IH _ _ _ h M _ hS (putF_put hF denV_skip) (put_defers.trans hd)
                  · rename_i hb
                    have hy := yielded_skip hj hdst hb hF
                    rw [if_neg (by simp [Region.wanted, hg, hy])]
                    exact IH _ _ _ h M _ hS (putF_put hF denV_skip) (put_defers.trans hd)
                  · rename_i b hb
                    cases b with
                    | true =>
                      have := h.1 rfl M a hS (by rw [setN_eq]; exact FrOK.setb hF hb rfl) hd
                      have h2 : wpT X.P all.toArray (QK X k) (.take i t) a M.w := this
                      unfold wpT at h2
                      rw [ho'] at h2
                      exact h2
                    | false =>
                      have := h.2 rfl M a hS (by rw [setN_eq]; exact FrOK.setb hF hb rfl) hd
                      have h2 : wpT X.P all.toArray (QK X k) (.take i t) a M.w := this
                      unfold wpT at h2
                      rw [ho'] at h2
                      exact h2
                  · exact h.elim
                · exact h.elim
              · exact h.elim
    · rename_i c k
      show fw X.P c (QK X k) a M.w
      split at h
      · exact fw_skip (IH _ _ _ h M a hS hF hd)
      · exact fw_label (IH _ _ _ h M a hS hF hd)
      · rename_i x y
        have := IH _ _ _ h M a hS hF hd
        exact fw_seq this
      · rename_i x y z
        have hx := ev_ok hF x
        split at h
        · rename_i he
          rw [he] at hx
          exact fw_cond_true (denV_bool hx) (IH _ _ _ h M a hS hF hd)
        · rename_i he
          rw [he] at hx
          exact fw_cond_false (denV_bool hx) (IH _ _ _ h M a hS hF hd)
        · rename_i t he
          rw [he] at hx
          have hb := denV_bool hx
          cases t with
          | true => exact fw_cond_true hb (h.1 rfl M a hS hF hd)
          | false => exact fw_cond_false hb (h.2 rfl M a hS hF hd)
        · exact h.elim
      · rename_i id b
        have := IH _ _ _ h M a hS hF hd
        exact fw_block this
      · exact h M a hS hF hd
      · rename_i id
        split at h
        · rename_i k' hk
          exact fw_exit (QK_exit hk (IH _ _ _ h M a hS hF hd))
        · exact h.elim
      · split at h
        · rename_i r hr
          exact fw_ret (QK_ret (ret_ok G hr h hS hF hd))
        · exact h.elim
      · rename_i id os d
        split at h
        · have := IH _ _ _ h M a hS hF hd
          have h2 : wpList X.P os.toList.toArray (QK X k) os.toList a M.w := this
          rw [Array.toArray_toList] at h2
          exact fw_region_list h2
        · split at h
          · exact h.elim
          rename_i hkp
          rcases h with ⟨hlex, h⟩ | ⟨t, ⟨hsel, ht⟩, h⟩
          case inr =>
            obtain ⟨hS1, e1⟩ := hS.world { M.w with drawn := M.w.drawn + 1 } rfl rfl rfl rfl G.cod
            have h2 := h _ a hS1 (hF.ext G.cod e1) hd
            have e : (Code.region id os true) = Code.region id os.toList.toArray true := by rw [Array.toArray_toList]
            rw [e]
            exact fw_region_tree t G.mix hsel ht (fun i o ho v c a w hq => QK_panic_put hkp ho hq) h2
          obtain ⟨hS1, e1⟩ := hS.world { M.w with drawn := M.w.drawn + 1 } rfl rfl rfl rfl G.cod
          have h2 := IH _ _ _ h _ a hS1 (hF.ext G.cod e1) hd
          have h3 : Draw.wpHd X.P os.toList.toArray (fun w' => Old { M.w with drawn := M.w.drawn + 1 } w' ∧ M.w.heap.size ≤ w'.heap.size) (fun a' => wpList X.P os.toList.toArray (QK X k) (dropO (headOps os.toList) os.toList) a' { M.w with drawn := M.w.drawn + 1 }) (takeO (headOps os.toList) os.toList) a := h2
          rw [takeO_eq, dropO_eq] at h3
          have e : (Code.region id os true) = Code.region id os.toList.toArray true := by rw [Array.toArray_toList]
          rw [e]
          exact fw_region_drawn _ G.mix hlex (fun i o ho v c a w hq => QK_panic_put hkp ho hq) h3
      · exact h.elim

theorem QK_out {w : World} : ∀ (k : List (KI T)), ¬ QK X k .outgrown a w
  | [], h => h
  | .code _ :: k, h => QK_out k h
  | .ops _ _ :: k, h => QK_out k h
  | .still _ _ _ :: k, h => QK_out k h
  | .blk _ :: k, h => QK_out k h
  | .back _ :: k, h => QK_out k h
  | .tree _ _ :: k, h => QK_out k h
structure OK (X : Ctx T) (o : Out T) : Prop where
  h : OutOK X o
variable {P : Program} {C : Cod T} {B : Tab} {res : List ResultVar} {n0 : Nat} {Post : List (SV T) → List (Ch T) → Prop}
theorem hold (F : Fits X P C B res n0 Post) {A : Leaf} (hA : A = .std) (n : Nat) {k : List (KI T)} {fr : List (SV T)} {H : List (Ch T)} (h : OK X (run C A B res n k fr H)) : Holds X k fr H := by
  subst hA
  refine run_ok F.giv n k fr H ?_
  rw [F.C, F.B, F.res]
  exact h.h
theorem Holds.cv {k : List (KI T)} {fr fr' : List (SV T)} {H H' : List (Ch T)} (h : Cv X fr H fr' H') (hh : Holds X k fr' H') : Holds X k fr H := by
  intro M a hS hF hd
  obtain ⟨hlen, hcv⟩ := h
  obtain ⟨M', hw, hS', hv⟩ := hcv M hS
  have := hh M' a hS' ⟨Nat.le_trans hlen hF.1, fun i s hs => hv (fun i => a.tmps.getD i undef) (fun i s hs => hF.2 i s hs) i s hs⟩ hd
  rwa [hw] at this
theorem OK.moreCv {k : List (KI T)} {fr fr' : List (SV T)} {H H' : List (Ch T)} (h : Cv X fr H fr' H') (hk : Holds X k fr' H') : OK X (.more ⟨k, fr, H⟩) := ⟨Holds.cv h hk⟩
theorem OK.branch {b : Bool} {k k' : List (KI T)} {fr fr' : List (SV T)} {H H' : List (Ch T)} (h : b = true → Holds X k fr H) (h' : b = false → Holds X k' fr' H') : OK X (.branch b ⟨k, fr, H⟩ ⟨k', fr', H'⟩) := ⟨h, h'⟩
theorem OK.need {p : Prop} {o : Out T} (hp : p) (h : OK X o) : OK X (.need p o) := ⟨hp, h.h⟩
theorem OK.drawn {l : List Oper} {n : Nat} {o : Out T} {c : Cfg T} (hp : Draw.drawB l.toArray n = true) (h : OK X o) : OK X (.drawn l n o c) := ⟨.inl ⟨hp, h.h⟩⟩
theorem OK.tree (B : Tab) {l : List Oper} {n : Nat} {o : Out T} {k : List (KI T)} {fr : List (SV T)} {H : List (Ch T)} (hp : treeOK B l = true) (h : Holds X (.tree (treeOf B l) l :: k) fr H) : OK X (.drawn l n o ⟨k, fr, H⟩) := by
  unfold treeOK at hp
  rw [Bool.and_eq_true] at hp
  exact ⟨.inr ⟨_, hp, h⟩⟩
theorem OK.both {k k' : List (KI T)} {fr fr' : List (SV T)} {H H' : List (Ch T)} (h : Holds X k fr H) (h' : Holds X k' fr' H') : OK X (.both ⟨k, fr, H⟩ ⟨k', fr', H'⟩) := ⟨h, h'⟩
theorem OK.back {B : List (SV T) → List (Ch T) → Prop} {fr : List (SV T)} {H : List (Ch T)} (h : B fr H) : OK X (.back B fr H) := ⟨h⟩
/-- Code that was reckoned, in a round. -/
theorem in_round {c : Code} (hn : nd c = true) {Bk : List (SV T) → List (Ch T) → Prop} {fr : List (SV T)} {H : List (Ch T)} (h : Holds X [.code c, .back Bk] fr H) {M : Mem} {a : Act} (hS : Sat X.C X.E M H) (hF : FrOK X.C M fr a) (hd : a.defers = X.ds) (r n : Nat) :
    c.wpIn (Fence.wide.inRound r) n X.P (QK X [.back Bk]) a M.w := fw_in c (fun _ _ h => QK_out _ h) hn (h M a hS hF hd)
end
end Go.Sx.Rd

-- Sx31
namespace Go.Sx
open Go Go.RowKit
section
variable {T : Nat → Type} {C : Cod T} {E : Env} {M M' : Mem} {H H' : List (Ch T)}
theorem Den.cells (hn : M'.n = M.n) (hρ : M'.ρ = M.ρ) (hD : ∀ b, M.D b → M'.D b) (hc : ∀ b o u, M.w.cell? ⟨b, o, none⟩ = some u → M'.w.cell? ⟨b, o, none⟩ = some u) {l : List (SV T)} {vs : List Value} (h : Den C M l vs) : Den C M' l vs := by
  have hq : ∀ {b o : Nat} {us : List Value}, (∀ q, q < us.length → M.w.cell? ⟨b, o + q, none⟩ = us[q]?) → ∀ q, q < us.length → M'.w.cell? ⟨b, o + q, none⟩ = us[q]? := fun {b o us} ha q hql => by
    have := ha q hql
    rw [List.getElem?_eq_getElem hql] at this ⊢
    exact hc _ _ _ this
  induction h with
  | nil => exact .nil
  | any v h1 _ ih => exact .any v h1 ih
  | val v h1 _ ih => exact .val v h1 ih
  | int k n _ ih => exact .int k n ih
  | bool b _ ih => exact .bool b ih
  | str s _ ih => exact .str s ih
  | arr r us hu h _ ih ihl => exact .arr r us hu (fun i e he => ih i e he) ihl
  | ptr d off g hcn h _ ih => exact .ptr d off g (by omega) (by rw [hρ]; exact h) ih
  | elt d off i sz sub g hcn h _ ih => exact .elt d off i sz sub g (by omega) (by rw [hρ]; exact h) ih
  | own d hcn _ ih =>
    have := Den.own (C := C) (M := M') d (by omega) ih
    rw [hρ] at this
    exact this
  | osl d lo hi a cap hcn h0 h1 h2 ha hz _ ih => exact .osl d lo hi a cap (by omega) h0 h1 (by rw [hρ]; exact h2) (by rw [hρ]; exact ha) (by rw [hρ]; exact hz) ih
  | ro r a cap us hu hcp ha h _ ih ihl =>
    refine .ro r a cap us hu hcp (fun h0 => ?_) (fun i e he => ih i e he) ihl
    obtain ⟨b, o, rfl, hb, hq'⟩ := ha h0
    exact ⟨b, o, rfl, hD b hb, hq hq'⟩
  | roe r i sub b o us hu h0 h1 hd ha h _ ih ihl => exact .roe r i sub b o us hu h0 h1 (hD b hd) (hq ha) (fun i e he => ih i e he) ihl
  | rp m off b o us hd ha h _ ih ihl => exact .rp _ off b o us (hD b hd) (hq ha) ih ihl
  | rpe m off i sz sub b o us hd ha h _ ih ihl => exact .rpe _ off i sz sub b o us (hD b hd) (hq ha) ih ihl
  | fn f m us h _ ih ihl => exact .fn f _ us ih ihl
  | iface t s v h _ ih ihl => exact .iface t _ v ih ihl
  | ifaceA t m us h _ ih ihl => exact .ifaceA t _ us ih ihl
/-- The memory of another world, where the same cells lie. -/
def Mem.at (M : Mem) (E : Env) (H : List (Ch T)) (W : World) : Mem :=
  { n := M.n, ρ := M.ρ, D := fun b => b < W.heap.size ∧ ¬ E.X b ∧ ∀ c, live H c → (M.ρ c).blk ≠ some b, w := W }
theorem grown_cell {W W' : World} {row : Option Nat} (hg : W.grownBy W' row) (hr : ∀ r, row = some r → ∃ o : Obj, W.heap[r]? = some o ∧ o.isCells = false) {b o : Nat} {u : Value} (h : W.cell? ⟨b, o, none⟩ = some u) : W'.cell? ⟨b, o, none⟩ = some u := by
  unfold World.cell? at h ⊢
  cases hb : W.heap[b]? with
  | none => simp [hb] at h
  | some ob =>
    have hlt := (Array.getElem?_eq_some_iff.1 hb).1
    have : W'.heap[b]? = W.heap[b]? := hg.block b hlt (fun e => by
      obtain ⟨o', h1, h2⟩ := hr b e.symm
      rw [hb] at h1
      cases h1
      cases ob <;> first | (simp [Obj.isCells] at h2; done) | simp [hb] at h)
    simp only [this]
    exact h
theorem Sat.grown (hS : Sat C E M H) {W' : World} {row : Option Nat} (hg : M.w.grownBy W' row) (hr : ∀ r, row = some r → E.w0.heap.size ≤ r ∧ ∃ o : Obj, M.w.heap[r]? = some o ∧ o.isCells = false) : Sat C E (M.at E H W') H := by
  have hcl := fun {b o u} h => grown_cell hg (fun r e => (hr r e).2) (b := b) (o := o) (u := u) h
  have hblk : ∀ {g : Nat} {us : List Value} {t : TypeId}, M.w.heap[g]? = some (.cells us.toArray t (0, 0)) → W'.heap[g]? = some (.cells us.toArray t (0, 0)) := fun {g us t} h => by
    refine (hg.block g (Array.getElem?_eq_some_iff.1 h).1 (fun e => ?_)).trans h
    obtain ⟨_, o, h1, h2⟩ := hr g e.symm
    rw [h] at h1
    cases h1
    cases h2
  have hD : ∀ b, M.D b → (M.at E H W').D b := fun b hb => by
    obtain ⟨h1, h2, h3⟩ := (hS.D b).1 hb
    exact ⟨Nat.lt_of_lt_of_le h1 hg.size, h2, h3⟩
  have hden : ∀ {l : List (SV T)} {vs : List Value}, Den C M l vs → Den C (M.at E H W') l vs := fun h => Den.cells (M := M) (M' := M.at E H W') rfl rfl hD (fun b o u hu => hcl hu) h
  refine ⟨hS.n, fun c x hx => ?_, hS.inj, fun c g h1 h2 => ?_, fun b => Iff.rfl, hg.os.trans hS.os, hg.tape.trans hS.tape, hg.output.trans hS.output, Nat.le_trans hS.size hg.size, hS.anch, fun b h1 h2 => ?_⟩
  · have hch := hS.ch c x hx
    cases x with
    | gone => trivial
    | cells t l =>
      obtain ⟨g, us, h1, h2, h3⟩ := hch
      exact ⟨g, us, h1, hblk h2, hden h3⟩
    | row t r =>
      obtain ⟨h0, h | ⟨g, us, h1, h2, h3, h4, h5, h6⟩⟩ := hch
      · exact ⟨h0, .inl h⟩
      · exact ⟨h0, .inr ⟨g, us, h1, hblk h2, h3, h4, h5, fun i e he => hden (h6 i e he)⟩⟩
    | hole t r i s =>
      obtain ⟨a0, a1, a2, a3, g, us, h1, h2, h3, h4, h5, h6, h7⟩ := hch
      exact ⟨a0, a1, a2, a3, g, us, h1, hblk h2, h3, h4, h5, hden h6, fun k x hk hx => hden (h7 k x hk hx)⟩
  · obtain ⟨a1, a2, a3⟩ := hS.lt c g h1 h2
    exact ⟨Nat.lt_of_lt_of_le a1 hg.size, a2, a3⟩
  · refine (hg.block b (Nat.lt_of_lt_of_le h1 hS.size) (fun e => ?_)).trans (hS.kept b h1 h2)
    have := (hr b e.symm).1
    omega
theorem Den.grown (hS : Sat C E M H) {W' : World} {row : Option Nat} (hg : M.w.grownBy W' row) (hr : ∀ r, row = some r → E.w0.heap.size ≤ r ∧ ∃ o : Obj, M.w.heap[r]? = some o ∧ o.isCells = false) {l : List (SV T)} {vs : List Value} (h : Den C M l vs) : Den C (M.at E H W') l vs :=
  Den.cells (M := M) (M' := M.at E H W') rfl rfl (fun b hb => by
    obtain ⟨h1, h2, h3⟩ := (hS.D b).1 hb
    exact ⟨Nat.lt_of_lt_of_le h1 hg.size, h2, h3⟩) (fun b o u hu => grown_cell hg (fun r e => (hr r e).2) hu) h
/-- The same memory, told from here on. -/
def Env.from (E : Env) (M : Mem) (H : List (Ch T)) (hs : E.w0.heap.size ≤ M.w.heap.size) (A : Nat → Option Hd) : Env :=
  { w0 := M.w, S := fun b => ∃ c, live H c ∧ (M.ρ c).blk = some b, X := E.X, A := A, hX := fun b h => Nat.lt_of_lt_of_le (E.hX b h) hs }
theorem Sat.from (hS : Sat C E M H) {A : Nat → Option Hd} (hA : ∀ c h, A c = some h → c < H.length ∧ M.ρ c = h) : Sat C (E.from M H hS.size A) M H :=
  ⟨hS.n, hS.ch, hS.inj, fun c g h1 h2 => ⟨(hS.lt c g h1 h2).1, (hS.lt c g h1 h2).2.1, .inl ⟨c, h1, h2⟩⟩, hS.D, rfl, rfl, rfl, Nat.le_refl _, hA, fun _ _ _ => rfl⟩
theorem Sat.up (hS : Sat C E M H) {A : Nat → Option Hd} (hA : ∀ c h, E.A c = some h → A c = some h) (h : Sat C (E.from M H hS.size A) M' H') : Sat C E M' H' :=
  ⟨h.n, h.ch, h.inj, fun c g h1 h2 => by
      obtain ⟨a1, a2, a3⟩ := h.lt c g h1 h2
      refine ⟨a1, a2, ?_⟩
      rcases a3 with ⟨c', b1, b2⟩ | a3
      · exact (hS.lt c' g b1 b2).2.2
      · exact .inr (Nat.le_trans hS.size a3),
    h.D, h.os.trans hS.os, h.tape.trans hS.tape, h.output.trans hS.output, Nat.le_trans hS.size h.size, (fun c x e => h.anch c x (hA c x e)), fun b h1 h2 => by
      refine (h.kept b (Nat.lt_of_lt_of_le h1 hS.size) ?_).trans (hS.kept b h1 h2)
      rintro ⟨c, b1, b2⟩
      rcases (hS.lt c b b1 b2).2.2 with h3 | h3
      · exact h2 h3
      · omega⟩
theorem live_cells (hS : Sat C E M H) {c g : Nat} (h1 : live H c) (h2 : (M.ρ c).blk = some g) : ∃ o : Obj, M.w.heap[g]? = some o ∧ o.isCells = true := by
  obtain ⟨x, hx, hl⟩ := h1
  have hch := hS.ch c x hx
  cases x with
  | gone => cases hl
  | cells t l =>
    obtain ⟨g', us, h3, h4, _⟩ := hch
    rw [h2] at h3; cases h3
    exact ⟨_, h4, rfl⟩
  | row t r =>
    obtain ⟨_, ⟨h, _⟩ | ⟨g', us, h3, h4, _⟩⟩ := hch
    · rw [h2] at h; cases h
    · rw [h2] at h3; cases h3
      exact ⟨_, h4, rfl⟩
  | hole t r i s =>
    obtain ⟨_, _, _, _, g', us, h3, h4, _⟩ := hch
    rw [h2] at h3; cases h3
    exact ⟨_, h4, rfl⟩
theorem Sat.others (hS : Sat C E M H) {A : Nat → Option Hd} (h : Sat C (E.from M H hS.size A) M' H') : KeepsOthers M.w M'.w :=
  ⟨h.size, fun k o hk ho => (h.kept k (Array.getElem?_eq_some_iff.1 hk).1 (by
    rintro ⟨c, h1, h2⟩
    obtain ⟨o', h3, h4⟩ := live_cells hS h1 h2
    rw [hk] at h3; cases h3
    rw [ho] at h4; cases h4)).trans hk⟩
/-- What was read only before is so still, and lies as it lay. -/
theorem Sat.still (hS : Sat C E M H) {A : Nat → Option Hd} (h : Sat C (E.from M H hS.size A) M' H') : ∀ b, M.D b → M'.D b ∧ M'.w.heap[b]? = M.w.heap[b]? := fun b hb => by
  obtain ⟨h1, h2, h3⟩ := (hS.D b).1 hb
  refine ⟨(h.D b).2 ⟨Nat.lt_of_lt_of_le h1 h.size, h2, fun c hc hcb => ?_⟩, h.kept b h1 ?_⟩
  · rcases (h.lt c b hc hcb).2.2 with ⟨c', g1, g2⟩ | g
    · exact h3 c' g1 g2
    · exact absurd h1 (Nat.not_lt.2 g)
  · rintro ⟨c', g1, g2⟩
    exact h3 c' g1 g2
theorem Sat.stillDen (hC : CodOK C) (hS : Sat C E M H) {A : Nat → Option Hd} (h : Sat C (E.from M H hS.size A) M' H') {l : List (SV T)} {vs : List Value} (hl : ∀ c, ment.mentL c l = false) (hd : Den C M l vs) : Den C M' l vs :=
  hd.mono2 hC (fun c _ hm => by rw [hl c] at hm; cases hm) (Sat.still hS h)
/-- A chunk that nobody asks for any more. -/
theorem Sat.drop (hC : CodOK C) (hS : Sat C E M H) (c : Nat) : ∃ M', M'.w = M.w ∧ M'.ρ = M.ρ ∧ Ext M M' ∧ Sat C E M' (H.set c .gone) := by
  have hlv : ∀ d, live (H.set c .gone) d → live H d ∧ d ≠ c := by
    rintro d ⟨x, hx, hxl⟩
    by_cases hd : c = d
    · subst hd
      have hcl := (List.getElem?_eq_some_iff.1 hx).1
      rw [List.length_set] at hcl
      rw [List.getElem?_set_self hcl] at hx
      cases hx
      cases hxl
    · rw [List.getElem?_set_ne hd] at hx
      exact ⟨⟨x, hx, hxl⟩, fun h => hd h.symm⟩
  have hDD : ∀ b, M.D b → (M.at E (H.set c .gone) M.w).D b ∧ (M.at E (H.set c .gone) M.w).w.heap[b]? = M.w.heap[b]? := fun b hb => by
    obtain ⟨h1, h2, h3⟩ := (hS.D b).1 hb
    exact ⟨⟨h1, h2, fun d hd => h3 d (hlv d hd).1⟩, rfl⟩
  refine ⟨M.at E (H.set c .gone) M.w, rfl, rfl, ⟨Nat.le_refl _, fun _ _ => rfl, hDD⟩, ⟨by rw [List.length_set]; exact hS.n, fun d x hx => ?_, fun d1 d2 g h1 h2 => hS.inj d1 d2 g (hlv d1 h1).1 (hlv d2 h2).1, fun d g h1 => hS.lt d g (hlv d h1).1, fun b => Iff.rfl, hS.os, hS.tape, hS.output, hS.size, fun d h hA => ⟨by rw [List.length_set]; exact (hS.anch d h hA).1, (hS.anch d h hA).2⟩, hS.kept⟩⟩
  by_cases hd : c = d
  · subst hd
    have hcl := (List.getElem?_eq_some_iff.1 hx).1
    rw [List.length_set] at hcl
    rw [List.getElem?_set_self hcl] at hx
    cases hx
    trivial
  · rw [List.getElem?_set_ne hd] at hx
    exact ChOK.same (M := M) (M' := M.at E (H.set c .gone) M.w) hC (Nat.le_refl _) rfl hDD (hS.ch d x hx) (fun _ _ => rfl)
end
end Go.Sx
