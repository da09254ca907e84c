/- Own work of the session: part PH of a proof that the program's functions do what the statement says (a symbolic executor, contracts of the functions, plain laws). -/
import Derived.Test.YtmgmbcniamkfeaaPG
import Derived.Test.YtmgmbcniamkfeaaPC
set_option linter.all false
-- D8
namespace Go.L1
open Go Go.Sx Go.Proofs Go.Huff
set_option maxRecDepth 20000
set_option linter.unusedVariables false
set_option linter.unusedSimpArgs false
structure MulP (x y : Int) : Prop where
  x0 : 0 ≤ x
  x1 : x < 2147483648
  y0 : 0 ≤ y
  y1 : y < 2147483648
structure MulR (A : Leaf) (x y : Int) : Prop where
  h : A.ar .add .u64 (A.ar .add .u64 (A.ar .mul .u64 (A.ar .shr .u64 x 32) (A.ar .shr .u64 y 32)) (A.ar .shr .u64 (A.ar .add .u64 (A.ar .mul .u64 (A.ar .shr .u64 x 32) (A.ar .and .u64 y 4294967295)) (A.ar .shr .u64 (A.ar .mul .u64 (A.ar .and .u64 x 4294967295) (A.ar .and .u64 y 4294967295)) 32)) 32)) (A.ar .shr .u64 (A.ar .add .u64 (A.ar .and .u64 (A.ar .add .u64 (A.ar .mul .u64 (A.ar .shr .u64 x 32) (A.ar .and .u64 y 4294967295)) (A.ar .shr .u64 (A.ar .mul .u64 (A.ar .and .u64 x 4294967295) (A.ar .and .u64 y 4294967295)) 32)) 4294967295) (A.ar .mul .u64 (A.ar .and .u64 x 4294967295) (A.ar .shr .u64 y 32))) 32) = 0
  l : A.ar .mul .u64 x y = x * y
theorem mulR {A : Leaf} {x y : Int} (hA : A = .std) (hp : MulP x y) : MulR A x y := by
  obtain ⟨x0, x1, y0, y1⟩ := hp
  subst hA
  have hxy : x * y ≤ 2147483647 * 2147483647 := Int.mul_le_mul (by omega) (by omega) y0 (by omega)
  have hxy0 : 0 ≤ x * y := Int.mul_nonneg x0 y0
  have sh : ∀ a : Int, 0 ≤ a → a < 4294967296 → Leaf.std.ar .shr .u64 a 32 = 0 := fun a h0 h1 => by
    show LAr .shr .u64 a 32 = 0
    rw [l_shr_u64 (by decide) (by decide)]
    show a / 4294967296 = 0
    omega
  have ms : ∀ a : Int, 0 ≤ a → a < 4294967296 → Leaf.std.ar .and .u64 a 4294967295 = a := fun a h0 h1 => by
    have := and_mask_k .u64 a 32 (by decide)
    show LAr .and .u64 a 4294967295 = a
    have e : LAr .and .u64 a 4294967295 = a % 4294967296 := this
    rw [e]; omega
  have em : Leaf.std.ar .mul .u64 x y = x * y := mul_u64 hxy0 (by omega)
  have z1 : ∀ a : Int, Leaf.std.ar .mul .u64 0 a = 0 := fun a => by rw [mul_u64 (by rw [Int.zero_mul]; decide) (by rw [Int.zero_mul]; decide), Int.zero_mul]
  have z2 : ∀ a : Int, Leaf.std.ar .mul .u64 a 0 = 0 := fun a => by rw [mul_u64 (by rw [Int.mul_zero]; decide) (by rw [Int.mul_zero]; decide), Int.mul_zero]
  have w : Leaf.std.ar .shr .u64 (x * y) 32 = x * y / 4294967296 := by
    show LAr .shr .u64 (x * y) 32 = _
    rw [l_shr_u64 (by decide) (by decide)]; rfl
  have a0 : ∀ a : Int, 0 ≤ a → a < 4294967296 → Leaf.std.ar .add .u64 0 a = a := fun a h0 h1 => by rw [add_u64 (by omega) (by omega)]; omega
  have a1 : ∀ a : Int, 0 ≤ a → a < 4294967296 → Leaf.std.ar .add .u64 a 0 = a := fun a h0 h1 => by rw [add_u64 (by omega) (by omega)]; omega
  have hw0 : 0 ≤ x * y / 4294967296 := by omega
  have hw1 : x * y / 4294967296 < 4294967296 := by omega
  refine ⟨?_, em⟩
  rw [sh x x0 (by omega), sh y y0 (by omega), ms x x0 (by omega), ms y y0 (by omega), em, z1, z1, z2, w, a0 _ hw0 hw1, sh _ hw0 hw1, ms _ hw0 hw1, a0 0 (by decide) (by decide), a1 _ hw0 hw1, sh _ hw0 hw1, a0 0 (by decide) (by decide)]
theorem mul64_ok (x y : Int) (hp : MulP x y) : FOK Try.prog C1 77 (fun _ => true) [.int .u64 x, .int .u64 y] [] (fun rs H => ∃ h l, rs = [.int .u64 h, .int .u64 l] ∧ H = [] ∧ h = 0 ∧ l = x * y) := by
  refine fok_of (B := ⟨lookT tis, fun _ => true, []⟩) (tab1 _) (zero1 _) cod1 mix1 Try.func77 (by kernel_rfl) rfl rfl rfl fun X F => ?_
  obtain ⟨A, hA⟩ : ∃ A, A = Leaf.std := ⟨_, rfl⟩
  refine F.hold hA 2000 ?_
  cbv
  repeat' (first
    | refine OK.drawn (by decide +kernel) ?_
    | refine OK.tree ⟨lookT tis, fun _ => true, []⟩ (by decide +kernel) ?_
    | refine OK.both ?_ ?_
    | refine OK.need (by first | assumption | (rw [hA]; first | (show (_ : Int) ≠ _; decide) | (show (0 : Int) ≤ _; decide) | (show (0 : Int) ≤ _ ∧ _ < (256 : Int); decide))) ?_
    | refine OK.need ?_ ?_
    | (refine OK.branch ?_ ?_ <;> intro h)
    | (refine F.hold hA 2000 ?_; cbv))
  have hr := mulR hA hp
  exact F.ret0 ⟨_, _, rfl, rfl, hr.h, hr.l⟩
theorem mul_ok (x y : Int) (hp : MulP x y) : FOK Try.prog C1 65 (fun _ => true) [.int .u64 x, .int .u64 y] [] (fun rs H => ∃ h l, rs = [.int .u64 h, .int .u64 l] ∧ H = [] ∧ h = 0 ∧ l = x * y) := by
  refine fok_of (B := ⟨lookT tis, fun _ => true, []⟩) (tab1 _) (zero1 _) cod1 mix1 Try.func65 (by kernel_rfl) rfl rfl rfl fun X F => ?_
  obtain ⟨A, hA⟩ : ∃ A, A = Leaf.std := ⟨_, rfl⟩
  refine F.hold hA 2000 ?_
  cbv
  repeat' (first
    | refine OK.drawn (by decide +kernel) ?_
    | refine OK.tree ⟨lookT tis, fun _ => true, []⟩ (by decide +kernel) ?_
    | refine OK.both ?_ ?_
    | refine OK.need (by first | assumption | (rw [hA]; first | (show (_ : Int) ≠ _; decide) | (show (0 : Int) ≤ _; decide) | (show (0 : Int) ≤ _ ∧ _ < (256 : Int); decide))) ?_
    | refine OK.need ?_ ?_
    | (refine OK.branch ?_ ?_ <;> intro h)
    | (refine F.hold hA 2000 ?_; cbv))
  all_goals first
    | (exfalso; have h0 := ‹A.cmp .eql 64 32 = true›; subst hA; cases h0)
    | skip
  refine F.call [] (mul64_ok x y hp) rfl rfl rfl fun rs H' hq => ?_
  obtain ⟨h, l, rfl, rfl, hh, hl⟩ := hq
  refine ⟨rfl, ?_⟩
  repeat' (first
    | refine OK.drawn (by decide +kernel) ?_
    | refine OK.tree ⟨lookT tis, fun _ => true, []⟩ (by decide +kernel) ?_
    | refine OK.both ?_ ?_
    | refine OK.need (by first | assumption | (rw [hA]; first | (show (_ : Int) ≠ _; decide) | (show (0 : Int) ≤ _; decide) | (show (0 : Int) ≤ _ ∧ _ < (256 : Int); decide))) ?_
    | refine OK.need ?_ ?_
    | (refine OK.branch ?_ ?_ <;> intro h)
    | (refine F.hold hA 2000 ?_; cbv))
  exact F.ret0 ⟨_, _, rfl, rfl, hh, hl⟩
structure RepP (n : Int) : Prop where
  lo : 0 ≤ n
  hi : n ≤ 100000
structure RepA (A : Leaf) (a n : Int) : Prop where
  c1 : A.conv .u64 (A.len [a]) = 1
  c2 : A.conv .u64 n = n
  c3 : A.conv .i64 n = n
  neg : A.cmp .lss n 0 = true → False
  m : MulP (A.conv .u64 (A.len [a])) (A.conv .u64 n)
theorem repA {A : Leaf} {a n : Int} (hA : A = .std) (hp : RepP n) : RepA A a n := by
  obtain ⟨h0, h1⟩ := hp
  subst hA
  have c1 : Leaf.std.conv .u64 (Leaf.std.len [a]) = 1 := l_conv_u64 (a := 1) (by decide) (by decide)
  have c2 : Leaf.std.conv .u64 n = n := l_conv_u64 h0 (by omega)
  refine ⟨c1, c2, l_conv_i64 (by omega) (by omega), fun h => ?_, ?_⟩
  · have h : n < 0 := of_decide_eq_true h
    omega
  · rw [c1, c2]; exact ⟨by decide, by decide, h0, by omega⟩
structure RepB (A : Leaf) (n h l : Int) : Prop where
  hh : A.cmp .gtr h 0 = true → False
  hl : A.cmp .gtr l 9223372036854775807 = true → False
  e : A.conv .i64 l = n
theorem repB {A : Leaf} {a n h l : Int} (hA : A = .std) (hp : RepP n) (hh : h = 0) (hl : l = A.conv .u64 (A.len [a]) * A.conv .u64 n) : RepB A n h l := by
  have hr := repA (a := a) hA hp
  rw [hr.c1, hr.c2, Int.one_mul] at hl
  obtain ⟨h0, h1⟩ := hp
  subst hh hl
  refine ⟨fun h => ?_, fun h => ?_, hr.c3⟩
  · subst hA
    have h : (0 : Int) < 0 := of_decide_eq_true h
    omega
  · subst hA
    have h : (9223372036854775807 : Int) < l := of_decide_eq_true h
    omega
def RpInv (a n : Int) (w : Int × List Int) : Prop := ∃ k : Nat, w.1 = k ∧ k ≤ n.toNat ∧ (0 < n → 0 < k) ∧ w.2 = List.replicate k a ++ List.replicate (n.toNat - k) 0
structure RepC (A : Leaf) (a n l : Int) : Prop where
  q1 : A.small (A.conv .i64 l) 8
  q2 : A.slb 0 (A.conv .i64 l) (A.conv .i64 l)
  z : RpInv a n (A.imin (A.len [a]) (A.ar .sub .i64 (A.len (A.rep (A.conv .i64 l) (0 : Int))) 0), A.app (A.app (A.sub (A.rep (A.conv .i64 l) (0 : Int)) 0 0) (A.sub [a] 0 (A.imin (A.len [a]) (A.ar .sub .i64 (A.len (A.rep (A.conv .i64 l) (0 : Int))) 0)))) (A.sub (A.rep (A.conv .i64 l) (0 : Int)) (A.ar .add .i64 0 (A.imin (A.len [a]) (A.ar .sub .i64 (A.len (A.rep (A.conv .i64 l) (0 : Int))) 0))) (A.len (A.rep (A.conv .i64 l) (0 : Int)))))
theorem repC {A : Leaf} {a n h l : Int} (hA : A = .std) (hp : RepP n) (hb : RepB A n h l) : RepC A a n l := by
  obtain ⟨h0, h1⟩ := hp
  have e := hb.e
  refine ⟨?_, ?_, ?_⟩
  · rw [e]; subst hA
    show (0 : Int) ≤ n ∧ n ≤ (140737488355328 : Int) ∧ n * ((8 : Nat) : Int) ≤ (140737488355328 : Int)
    omega
  · rw [e]; subst hA
    show (0 : Int) ≤ 0 ∧ (0 : Int) ≤ n ∧ n ≤ n
    omega
  · rw [e]
    subst hA
    have er : Leaf.std.rep n (0 : Int) = List.replicate n.toNat 0 := rfl
    have el : Leaf.std.len (List.replicate n.toNat (0 : Int)) = n := by
      show (((List.replicate n.toNat (0 : Int)).length : Nat) : Int) = n
      rw [List.length_replicate]; omega
    have es : Leaf.std.ar .sub .i64 n 0 = n := by rw [sub_i64 (by omega) (by omega)]; omega
    have ea : Leaf.std.len [a] = 1 := rfl
    have em : Leaf.std.imin 1 n = if n < 1 then n else 1 := rfl
    rw [er, el, es, ea, em]
    split
    · have : n = 0 := by omega
      subst this
      exact ⟨0, rfl, Nat.le_refl _, fun h => absurd h (by decide), rfl⟩
    · have e2 : Leaf.std.ar .add .i64 0 1 = 1 := by rw [add_i64 (by decide) (by decide)]; rfl
      rw [e2]
      refine ⟨1, rfl, by omega, fun _ => by decide, ?_⟩
      show ((List.replicate n.toNat (0 : Int)).drop 0).take 0 ++ ([a].drop 0).take 1 ++ ((List.replicate n.toNat (0 : Int)).drop 1).take (n - 1).toNat = _
      rw [List.take_zero, List.nil_append, List.drop_replicate, List.take_replicate]
      have e3 : min (n - 1).toNat (n.toNat - 1) = n.toNat - 1 := by omega
      rw [e3]
      rfl
structure RpAt (A : Leaf) (a n k : Int) (row : List Int) : Prop where
  q1 : A.slb k (A.len row) (A.len row)
  q2 : A.slb 0 k (A.len row)
  nx : RpInv a n (A.ar .add .i64 k (A.imin (A.len (A.sub row 0 k)) (A.ar .sub .i64 (A.len row) k)), A.app (A.app (A.sub row 0 k) (A.sub (A.sub row 0 k) 0 (A.imin (A.len (A.sub row 0 k)) (A.ar .sub .i64 (A.len row) k)))) (A.sub row (A.ar .add .i64 k (A.imin (A.len (A.sub row 0 k)) (A.ar .sub .i64 (A.len row) k))) (A.len row)))
  mu : (n - A.ar .add .i64 k (A.imin (A.len (A.sub row 0 k)) (A.ar .sub .i64 (A.len row) k))).toNat < (n - k).toNat
theorem RpInv.len {a n k : Int} {row : List Int} (hp : RepP n) (h : RpInv a n (k, row)) : (row.length : Int) = n := by
  obtain ⟨j, e, h1, _, h2⟩ := h
  have := hp.lo
  simp only at h2
  rw [h2, List.length_append, List.length_replicate, List.length_replicate]
  omega
theorem rpAt {A : Leaf} {a n k : Int} {row : List Int} (hA : A = .std) (hp : RepP n) (hI : RpInv a n (k, row)) (b4 : A.cmp .lss k (A.len row) = true) : RpAt A a n k row := by
  have hl := hI.len hp
  obtain ⟨h0, h1⟩ := hp
  obtain ⟨j, e, h2, h3, h4⟩ := hI
  simp only at e h4
  subst hA e
  have b4 : (j : Int) < (row.length : Int) := of_decide_eq_true b4
  have hj0 : 0 < j := h3 (by omega)
  have es : Leaf.std.sub row 0 (j : Int) = List.replicate j a := by
    show (row.drop 0).take ((j : Int) - 0).toNat = _
    rw [List.drop_zero, Int.sub_zero, Int.toNat_natCast, h4, List.take_left' (by simp)]
  have el : Leaf.std.len (List.replicate j a) = j := by
    show (((List.replicate j a).length : Nat) : Int) = j
    rw [List.length_replicate]
  have er : Leaf.std.len row = n := hl
  have ed : Leaf.std.ar .sub .i64 n (j : Int) = n - j := sub_i64 (by omega) (by omega)
  obtain ⟨c, hc⟩ : ∃ c : Nat, Leaf.std.imin (j : Int) (n - j) = c ∧ c = min j (n.toNat - j) := by
    refine ⟨_, ?_, rfl⟩
    show (if n - (j : Int) < (j : Int) then n - (j : Int) else (j : Int)) = _
    split <;> omega
  obtain ⟨hc, hc2⟩ := hc
  have ea : Leaf.std.ar .add .i64 (j : Int) (c : Int) = ((j + c : Nat) : Int) := by rw [add_i64 (by omega) (by omega)]; omega
  refine ⟨?_, ?_, ?_, ?_⟩
  · show (0 : Int) ≤ (j : Int) ∧ (j : Int) ≤ (row.length : Int) ∧ (row.length : Int) ≤ (row.length : Int); omega
  · show (0 : Int) ≤ 0 ∧ (0 : Int) ≤ (j : Int) ∧ (j : Int) ≤ (row.length : Int); omega
  · rw [es, el, er, ed, hc, ea]
    refine ⟨j + c, rfl, by omega, fun _ => by omega, ?_⟩
    show List.replicate j a ++ ((List.replicate j a).drop 0).take ((c : Int) - 0).toNat ++ (row.drop ((j + c : Nat) : Int).toNat).take (n - ((j + c : Nat) : Int)).toNat = _
    rw [List.drop_zero, Int.sub_zero, Int.toNat_natCast, Int.toNat_natCast, List.take_replicate, Nat.min_eq_left (show c ≤ j by omega), List.replicate_append_replicate, h4, List.drop_append, List.drop_of_length_le (by simp), List.nil_append, List.length_replicate, List.drop_replicate, List.take_replicate]
    congr 2
    omega
  · rw [es, el, er, ed, hc, ea]; omega
theorem RpInv.fin {A : Leaf} {a n k : Int} {row : List Int} (hA : A = .std) (hp : RepP n) (hI : RpInv a n (k, row)) (b4 : A.cmp .lss k (A.len row) = false) : row = List.replicate n.toNat a := by
  have hl := hI.len hp
  obtain ⟨j, e, h2, h3, h4⟩ := hI
  simp only at e h4
  subst hA e
  have b4 : ¬ (j : Int) < (row.length : Int) := of_decide_eq_false b4
  have : j = n.toNat := by omega
  subst this
  rw [h4, Nat.sub_self]
  simp
theorem repeat_ok (a n : Int) (hp : RepP n) : FOK Try.prog C1 55 (fun _ => false) [.ro (.ints .i64 [a]), .int .i64 n] [] (fun rs H => rs = [.ro (.ints .i64 (List.replicate n.toNat a))] ∧ H = [.gone]) := by
  refine fok_of (B := ⟨lookT tis, fun _ => false, []⟩) (tab1 _) (zero1 _) cod1 mix1 Try.func55 (by kernel_rfl) rfl rfl rfl fun X F => ?_
  obtain ⟨A, hA⟩ : ∃ A, A = Leaf.std := ⟨_, rfl⟩
  refine F.hold hA 2000 ?_
  cbv
  have hr := repA (a := a) hA hp
  repeat (first
    | refine OK.drawn (by decide +kernel) ?_
    | refine OK.tree ⟨lookT tis, fun _ => true, []⟩ (by decide +kernel) ?_
    | refine OK.need (by first | assumption | (rw [hA]; first | (show (_ : Int) ≠ _; decide) | (show (0 : Int) ≤ _; decide) | (show (0 : Int) ≤ _ ∧ _ < (256 : Int); decide))) ?_
    | (refine F.hold hA 2000 ?_; cbv))
  refine OK.branch (fun b1 => (hr.neg b1).elim) (fun b1 => ?_)
  repeat (first
    | refine OK.drawn (by decide +kernel) ?_
    | refine OK.tree ⟨lookT tis, fun _ => true, []⟩ (by decide +kernel) ?_
    | refine OK.need (by first | assumption | (rw [hA]; first | (show (_ : Int) ≠ _; decide) | (show (0 : Int) ≤ _; decide) | (show (0 : Int) ≤ _ ∧ _ < (256 : Int); decide))) ?_
    | (refine F.hold hA 2000 ?_; cbv))
  refine F.call [] (mul_ok (A.conv .u64 (A.len [a])) (A.conv .u64 n) hr.m) rfl rfl rfl fun rs H' hq => ?_
  obtain ⟨h, l, rfl, rfl, hh, hl⟩ := hq
  refine ⟨rfl, ?_⟩
  have hb := repB hA hp hh hl
  clear hh hl
  repeat (first
    | refine OK.drawn (by decide +kernel) ?_
    | refine OK.tree ⟨lookT tis, fun _ => true, []⟩ (by decide +kernel) ?_
    | refine OK.need (by first | assumption | (rw [hA]; first | (show (_ : Int) ≠ _; decide) | (show (0 : Int) ≤ _; decide) | (show (0 : Int) ≤ _ ∧ _ < (256 : Int); decide))) ?_
    | (refine F.hold hA 2000 ?_; cbv))
  refine OK.branch (fun b2 => (hb.hh b2).elim) (fun b2 => ?_)
  repeat (first
    | refine OK.drawn (by decide +kernel) ?_
    | refine OK.tree ⟨lookT tis, fun _ => true, []⟩ (by decide +kernel) ?_
    | refine OK.need (by first | assumption | (rw [hA]; first | (show (_ : Int) ≠ _; decide) | (show (0 : Int) ≤ _; decide) | (show (0 : Int) ≤ _ ∧ _ < (256 : Int); decide))) ?_
    | (refine F.hold hA 2000 ?_; cbv))
  refine OK.branch (fun b3 => (hb.hl b3).elim) (fun b3 => ?_)
  have hc := repC (a := a) hA hp hb
  have q1 := hc.q1
  have q2 := hc.q2
  repeat (first
    | refine OK.drawn (by decide +kernel) ?_
    | refine OK.tree ⟨lookT tis, fun _ => true, []⟩ (by decide +kernel) ?_
    | refine OK.need (by first | assumption | (rw [hA]; first | (show (_ : Int) ≠ _; decide) | (show (0 : Int) ≤ _; decide) | (show (0 : Int) ≤ _ ∧ _ < (256 : Int); decide))) ?_
    | (refine F.hold hA 2000 ?_; cbv))
  refine F.loop (V := Int × List Int) [7] (RpInv a n) (fun w => (n - w.1).toNat) (fun w => [(8, .int .i64 w.1)]) (fun w => [(0, .row 3 (.ints .i64 w.2))]) (_, _) (by cbv; repeat (first | exact WkH.nil _ | apply WkH.gone | refine WkH.eq rfl ?_)) (by cbv; repeat (first | apply WkL.any | exact WkL.nil _ | refine WkL.eq rfl ?_ | refine WkL.bool rfl ?_)) (by cbv; exact ⟨rfl⟩) ?_ ?_
  · exact hc.z
  rintro ⟨k, row⟩ hI Bk hBk
  repeat (first
    | refine OK.drawn (by decide +kernel) ?_
    | refine OK.tree ⟨lookT tis, fun _ => true, []⟩ (by decide +kernel) ?_
    | refine OK.need (by first | assumption | (rw [hA]; first | (show (_ : Int) ≠ _; decide) | (show (0 : Int) ≤ _; decide) | (show (0 : Int) ≤ _ ∧ _ < (256 : Int); decide))) ?_
    | (refine F.hold hA 2000 ?_; cbv))
  refine OK.branch (fun b4 => ?_) (fun b4 => ?_)
  · have hat := rpAt hA hp hI b4
    have q1 := hat.q1
    have q2 := hat.q2
    repeat' (first
      | refine OK.drawn (by decide +kernel) ?_
      | refine OK.tree ⟨lookT tis, fun _ => true, []⟩ (by decide +kernel) ?_
      | refine OK.both ?_ ?_
      | refine OK.need (by first | assumption | (rw [hA]; first | (show (_ : Int) ≠ _; decide) | (show (0 : Int) ≤ _; decide) | (show (0 : Int) ≤ _ ∧ _ < (256 : Int); decide))) ?_
      | refine OK.need ?_ ?_
      | (refine OK.branch ?_ ?_ <;> intro h)
      | (refine F.hold hA 2000 ?_; cbv))
    all_goals
      refine OK.back (hBk _ _ (_, _) (by cbv; repeat (first | exact WkH.nil _ | apply WkH.gone | refine WkH.eq rfl ?_)) (by cbv; repeat (first | apply WkL.any | exact WkL.nil _ | refine WkL.eq rfl ?_ | refine WkL.bool rfl ?_)) (by cbv; exact ⟨rfl⟩) ?_ ?_)
      · exact hat.nx
      · exact hat.mu
  · repeat (first
      | refine OK.drawn (by decide +kernel) ?_
      | refine OK.tree ⟨lookT tis, fun _ => true, []⟩ (by decide +kernel) ?_
      | refine OK.need (by first | assumption | (rw [hA]; first | (show (_ : Int) ≠ _; decide) | (show (0 : Int) ≤ _; decide) | (show (0 : Int) ≤ _ ∧ _ < (256 : Int); decide))) ?_
      | (refine F.hold hA 2000 ?_; cbv))
    refine F.ret (rs' := [.ro (.ints .i64 row)]) (H' := [.gone]) (Cv.freeze F.cod 0 rfl) rfl ⟨?_, rfl⟩
    rw [hI.fin hA hp b4]
end Go.L1

-- D9
namespace Go.L1
open Go Go.Sx Go.Proofs Go.Huff
set_option maxRecDepth 20000
set_option linter.unusedVariables false
set_option linter.unusedSimpArgs false
structure GrP (n : Int) : Prop where
  lo : 0 < n
  hi : n ≤ 100000
structure GrA (A : Leaf) (n : Int) : Prop where
  neg : A.cmp .lss n 0 = true → False
  e : A.ar .sub .i64 n (A.ar .sub .i64 0 0) = n
  pos : A.cmp .gtr (A.ar .sub .i64 n (A.ar .sub .i64 0 0)) 0 = false → False
  q1 : A.slb 0 0 0
  q2 : A.inb 0 (A.ar .sub .i64 n (A.ar .sub .i64 0 0))
  q3 : A.small (A.ar .sub .i64 n (A.ar .sub .i64 0 0)) 8
  q4 : A.slb 0 0 (A.len (A.rep (A.ar .sub .i64 n (A.ar .sub .i64 0 0)) (0 : Int)))
  r : A.sub (A.rep (A.ar .sub .i64 n (A.ar .sub .i64 0 0)) (0 : Int)) 0 0 = []
theorem grA {A : Leaf} {n : Int} (hA : A = .std) (hp : GrP n) : GrA A n := by
  obtain ⟨h0, h1⟩ := hp
  subst hA
  have e0 : Leaf.std.ar .sub .i64 0 0 = 0 := by decide
  have e : Leaf.std.ar .sub .i64 n (Leaf.std.ar .sub .i64 0 0) = n := by rw [e0, sub_i64 (by omega) (by omega)]; omega
  refine ⟨fun h => ?_, e, fun h => ?_, ?_, ?_, ?_, ?_, ?_⟩
  · have h : n < 0 := of_decide_eq_true h
    omega
  · rw [e] at h
    have h : ¬ (0 : Int) < n := of_decide_eq_false h
    omega
  · show (0 : Int) ≤ 0 ∧ (0 : Int) ≤ 0 ∧ (0 : Int) ≤ 0; omega
  · rw [e]; show (0 : Int) ≤ 0 ∧ (0 : Int) < n; omega
  · rw [e]; show (0 : Int) ≤ n ∧ n ≤ (140737488355328 : Int) ∧ n * ((8 : Nat) : Int) ≤ (140737488355328 : Int); omega
  · rw [e]; show (0 : Int) ≤ 0 ∧ (0 : Int) ≤ 0 ∧ (0 : Int) ≤ (((List.replicate n.toNat (0 : Int)).length : Nat) : Int); omega
  · rfl
theorem _root_.Go.Sx.Fits.unpin {X : Ctx T1} {P : Program} {C : Cod T1} {B : Tab} {res : List ResultVar} {n0 : Nat} {Post : List (SV T1) → List (Ch T1) → Prop} (F : Fits X P C B res n0 Post) {c : Nat} (h : n0 ≤ c) : X.E.A c = none := by
  cases hA : X.E.A c with
  | none => rfl
  | some h2 =>
    have := F.lo c h2 hA
    rw [F.n0] at this
    omega
theorem grow_ok (n : Int) (hp : GrP n) : FOK Try.prog C1 64 (fun _ => false) [.val (.slice none 0 0), .int .i64 n] [] (fun rs H => rs = [.own 0] ∧ H = [.row 3 (.ints .i64 [])]) := by
  refine fok_of (B := ⟨lookT tis, fun _ => false, []⟩) (tab1 _) (zero1 _) cod1 mix1 Try.func64 (by kernel_rfl) rfl rfl rfl fun X F => ?_
  obtain ⟨A, hA⟩ : ∃ A, A = Leaf.std := ⟨_, rfl⟩
  refine F.hold hA 2000 ?_
  cbv
  have hg := grA hA hp
  repeat (first
    | refine OK.drawn (by decide +kernel) ?_
    | refine OK.tree ⟨lookT tis, fun _ => true, []⟩ (by decide +kernel) ?_
    | refine OK.need (by first | assumption | (rw [hA]; first | (show (_ : Int) ≠ _; decide) | (show (0 : Int) ≤ _; decide) | (show (0 : Int) ≤ _ ∧ _ < (256 : Int); decide))) ?_
    | (refine F.hold hA 2000 ?_; cbv))
  refine OK.branch (fun b1 => (hg.neg b1).elim) (fun b1 => ?_)
  repeat (first
    | refine OK.drawn (by decide +kernel) ?_
    | refine OK.tree ⟨lookT tis, fun _ => true, []⟩ (by decide +kernel) ?_
    | refine OK.need (by first | assumption | (rw [hA]; first | (show (_ : Int) ≠ _; decide) | (show (0 : Int) ≤ _; decide) | (show (0 : Int) ≤ _ ∧ _ < (256 : Int); decide))) ?_
    | (refine F.hold hA 2000 ?_; cbv))
  refine OK.branch (fun b2 => ?_) (fun b2 => (hg.pos b2).elim)
  have q1 := hg.q1
  have q2 := hg.q2
  have q3 := hg.q3
  have q4 := hg.q4
  have q5 := hg.r
  repeat (first
    | refine OK.drawn (by decide +kernel) ?_
    | refine OK.tree ⟨lookT tis, fun _ => true, []⟩ (by decide +kernel) ?_
    | refine OK.need (by first | assumption | (rw [hA]; first | (show (_ : Int) ≠ _; decide) | (show (0 : Int) ≤ _; decide) | (show (0 : Int) ≤ _ ∧ _ < (256 : Int); decide))) ?_
    | (refine F.hold hA 2000 ?_; cbv))
  refine F.ret (rs' := [.own 0]) (H' := [.row 3 (.ints .i64 (A.sub (A.rep (A.ar .sub .i64 n (A.ar .sub .i64 0 0)) (0 : Int)) 0 0))]) (Cv.cut (c := 0) (j := 0) (h := 0) (t := 3) (r := .ints .i64 (A.rep (A.ar .sub .i64 n (A.ar .sub .i64 0 0)) (0 : Int))) F.cod hA (F.unpin (Nat.le_refl 0)) rfl rfl q4) rfl ⟨rfl, ?_⟩
  rw [q5]
def sumN (ls : List (List Int)) : Nat := (ls.map List.length).sum
structure CcP (ls : List (List Int)) : Prop where
  n : ls.length ≤ 100
  lo : 0 < sumN ls
  hi : sumN ls ≤ 100000
def Cc1 (ls : List (List Int)) (w : Int × Int) : Prop := ∃ j : Nat, w.2 = j ∧ j ≤ ls.length ∧ w.1 = (sumN (ls.take j) : Nat)
def Cc2 (ls : List (List Int)) (w : List Int × Int) : Prop := ∃ j : Nat, w.2 = j ∧ j ≤ ls.length ∧ w.1 = (ls.take j).flatten
theorem sumN_take {ls : List (List Int)} {j : Nat} (h : j < ls.length) : sumN (ls.take (j + 1)) = sumN (ls.take j) + ls[j].length := by
  unfold sumN
  rw [List.take_succ_eq_append_getElem h, List.map_append, List.sum_append]
  simp
theorem sumN_le (ls : List (List Int)) (j : Nat) : sumN (ls.take j) ≤ sumN ls := by
  induction ls generalizing j with
  | nil => simp
  | cons a l ih =>
    cases j with
    | zero => simp [sumN]
    | succ j =>
      have := ih j
      simp only [List.take_succ_cons, sumN, List.map_cons, List.sum_cons] at this ⊢
      omega
structure Cc1At (A : Leaf) (ls : List (List Int)) (sz i : Int) : Prop where
  q : A.inb i (A.len ls)
  d : A.cmp .lss (A.ar .add .i64 sz (A.len (A.get [] ls i))) 0 = true → False
  nx : Cc1 ls (A.ar .add .i64 sz (A.len (A.get [] ls i)), A.ar .add .i64 i 1)
  mu : (ls.length - A.ar .add .i64 i 1).toNat < (ls.length - i).toNat
theorem cc1At {A : Leaf} {ls : List (List Int)} {sz i : Int} (hA : A = .std) (hp : CcP ls) (hI : Cc1 ls (sz, i)) (b1 : A.cmp .lss i (A.len ls) = true) : Cc1At A ls sz i := by
  obtain ⟨j, e, h2, h3⟩ := hI
  have hn := hp.n
  have hh := hp.hi
  simp only at e h3
  subst hA e
  have b1 : (j : Int) < (ls.length : Int) := of_decide_eq_true b1
  have hj : j < ls.length := by omega
  have ea : Leaf.std.ar .add .i64 (j : Int) 1 = ((j + 1 : Nat) : Int) := by rw [add_i64 (by omega) (by omega)]; omega
  have eg : Leaf.std.get [] ls (j : Int) = ls[j] := by show ls.getD _ [] = _; rw [Int.toNat_natCast]; simp [hj]
  have el : Leaf.std.len ls[j] = (ls[j].length : Int) := rfl
  have ht := sumN_take hj
  have hle := sumN_le ls (j + 1)
  have es : Leaf.std.ar .add .i64 sz (ls[j].length : Int) = ((sumN (ls.take (j + 1)) : Nat) : Int) := by rw [h3, add_i64 (by omega) (by omega)]; omega
  refine ⟨?_, ?_, ?_, by rw [ea]; omega⟩
  · show (0 : Int) ≤ (j : Int) ∧ (j : Int) < (ls.length : Int); omega
  · rw [eg, el, es]
    intro h
    have h : ((sumN (ls.take (j + 1)) : Nat) : Int) < 0 := of_decide_eq_true h
    omega
  · rw [eg, el, es, ea]
    exact ⟨j + 1, rfl, by omega, rfl⟩
theorem Cc1.fin {A : Leaf} {ls : List (List Int)} {sz i : Int} (hA : A = .std) (hp : CcP ls) (hI : Cc1 ls (sz, i)) (b1 : A.cmp .lss i (A.len ls) = false) : GrP sz := by
  obtain ⟨j, e, h2, h3⟩ := hI
  have h1 := hp.lo
  have hh := hp.hi
  simp only at e h3
  subst hA e
  have b1 : ¬ (j : Int) < (ls.length : Int) := of_decide_eq_false b1
  rw [List.take_of_length_le (by omega)] at h3
  exact ⟨by omega, by omega⟩
structure Cc2At (A : Leaf) (ls : List (List Int)) (row : List Int) (i : Int) : Prop where
  q : A.inb i (A.len ls)
  q2 : A.small (A.len (A.app row (A.get [] ls i))) 8
  nx : Cc2 ls (A.app row (A.get [] ls i), A.ar .add .i64 i 1)
  mu : (ls.length - A.ar .add .i64 i 1).toNat < (ls.length - i).toNat
theorem flat_len (ls : List (List Int)) : ls.flatten.length = sumN ls := by
  unfold sumN
  rw [List.length_flatten]
theorem cc2At {A : Leaf} {ls : List (List Int)} {row : List Int} {i : Int} (hA : A = .std) (hp : CcP ls) (hI : Cc2 ls (row, i)) (b1 : A.cmp .lss i (A.len ls) = true) : Cc2At A ls row i := by
  obtain ⟨j, e, h2, h3⟩ := hI
  have hn := hp.n
  have hh := hp.hi
  simp only at e h3
  subst hA e
  have b1 : (j : Int) < (ls.length : Int) := of_decide_eq_true b1
  have hj : j < ls.length := by omega
  have ea : Leaf.std.ar .add .i64 (j : Int) 1 = ((j + 1 : Nat) : Int) := by rw [add_i64 (by omega) (by omega)]; omega
  have eg : Leaf.std.get [] ls (j : Int) = ls[j] := by show ls.getD _ [] = _; rw [Int.toNat_natCast]; simp [hj]
  have hle := sumN_le ls (j + 1)
  have ef : row ++ ls[j] = (ls.take (j + 1)).flatten := by
    rw [h3, List.take_succ_eq_append_getElem hj, List.flatten_append]; simp
  refine ⟨?_, ?_, ?_, by rw [ea]; omega⟩
  · show (0 : Int) ≤ (j : Int) ∧ (j : Int) < (ls.length : Int); omega
  · rw [eg]
    have e2 : Leaf.std.len (Leaf.std.app row ls[j]) = ((sumN (ls.take (j + 1)) : Nat) : Int) := by
      show (((row ++ ls[j]).length : Nat) : Int) = _
      rw [ef, flat_len]
    rw [e2]
    show (0 : Int) ≤ _ ∧ _ ≤ (140737488355328 : Int) ∧ _ * ((8 : Nat) : Int) ≤ (140737488355328 : Int)
    omega
  · rw [eg, ea]
    exact ⟨j + 1, rfl, by omega, ef⟩
theorem Cc2.fin {A : Leaf} {ls : List (List Int)} {row : List Int} {i : Int} (hA : A = .std) (hI : Cc2 ls (row, i)) (b1 : A.cmp .lss i (A.len ls) = false) : row = ls.flatten := by
  obtain ⟨j, e, h2, h3⟩ := hI
  simp only at e h3
  subst hA e
  have b1 : ¬ (j : Int) < (ls.length : Int) := of_decide_eq_false b1
  rw [List.take_of_length_le (by omega)] at h3
  exact h3
theorem concat_ok (ls : List (List Int)) (hp : CcP ls) : FOK Try.prog C1 54 (fun _ => false) [.ro (.recs 5 ls)] [] (fun rs H => rs = [.ro (.ints .i64 ls.flatten)] ∧ H = [.gone]) := by
  refine fok_of (B := ⟨lookT tis, fun _ => false, []⟩) (tab1 _) (zero1 _) cod1 mix1 Try.func54 (by kernel_rfl) rfl rfl rfl fun X F => ?_
  obtain ⟨A, hA⟩ : ∃ A, A = Leaf.std := ⟨_, rfl⟩
  refine F.hold hA 2000 ?_
  cbv
  repeat (first
    | refine OK.drawn (by decide +kernel) ?_
    | refine OK.tree ⟨lookT tis, fun _ => true, []⟩ (by decide +kernel) ?_
    | refine OK.need (by first | assumption | (rw [hA]; first | (show (_ : Int) ≠ _; decide) | (show (0 : Int) ≤ _; decide) | (show (0 : Int) ≤ _ ∧ _ < (256 : Int); decide))) ?_
    | (refine F.hold hA 2000 ?_; cbv))
  refine F.loop (V := Int × Int) [0, 9, 10] (Cc1 ls) (fun w => (ls.length - w.2).toNat) (fun w => [(3, .int .i64 w.1), (11, .int .i64 w.2)]) (fun w => []) (_, _) (by cbv; repeat (first | exact WkH.nil _ | apply WkH.gone | refine WkH.eq rfl ?_)) (by cbv; repeat (first | apply WkL.any | exact WkL.nil _ | refine WkL.eq rfl ?_ | refine WkL.bool rfl ?_)) (by cbv; exact ⟨rfl⟩) ?_ ?_
  · exact ⟨0, rfl, Nat.zero_le _, rfl⟩
  rintro ⟨sz, i⟩ hI Bk hBk
  repeat (first
    | refine OK.drawn (by decide +kernel) ?_
    | refine OK.tree ⟨lookT tis, fun _ => true, []⟩ (by decide +kernel) ?_
    | refine OK.need (by first | assumption | (rw [hA]; first | (show (_ : Int) ≠ _; decide) | (show (0 : Int) ≤ _; decide) | (show (0 : Int) ≤ _ ∧ _ < (256 : Int); decide))) ?_
    | (refine F.hold hA 2000 ?_; cbv))
  refine OK.branch (fun b1 => ?_) (fun b1 => ?_)
  · have hat := cc1At hA hp hI b1
    have q := hat.q
    repeat (first
      | refine OK.drawn (by decide +kernel) ?_
      | refine OK.tree ⟨lookT tis, fun _ => true, []⟩ (by decide +kernel) ?_
      | refine OK.need (by first | assumption | (rw [hA]; first | (show (_ : Int) ≠ _; decide) | (show (0 : Int) ≤ _; decide) | (show (0 : Int) ≤ _ ∧ _ < (256 : Int); decide))) ?_
      | (refine F.hold hA 2000 ?_; cbv))
    refine OK.branch (fun b2 => (hat.d b2).elim) (fun b2 => ?_)
    repeat (first
      | refine OK.drawn (by decide +kernel) ?_
      | refine OK.tree ⟨lookT tis, fun _ => true, []⟩ (by decide +kernel) ?_
      | refine OK.need (by first | assumption | (rw [hA]; first | (show (_ : Int) ≠ _; decide) | (show (0 : Int) ≤ _; decide) | (show (0 : Int) ≤ _ ∧ _ < (256 : Int); decide))) ?_
      | (refine F.hold hA 2000 ?_; cbv))
    refine OK.back (hBk _ _ (_, _) (by cbv; repeat (first | exact WkH.nil _ | apply WkH.gone | refine WkH.eq rfl ?_)) (by cbv; repeat (first | apply WkL.any | exact WkL.nil _ | refine WkL.eq rfl ?_ | refine WkL.bool rfl ?_)) (by cbv; exact ⟨rfl⟩) ?_ ?_)
    · exact hat.nx
    · exact hat.mu
  · have hg := hI.fin hA hp b1
    repeat (first
      | refine OK.drawn (by decide +kernel) ?_
      | refine OK.tree ⟨lookT tis, fun _ => true, []⟩ (by decide +kernel) ?_
      | refine OK.need (by first | assumption | (rw [hA]; first | (show (_ : Int) ≠ _; decide) | (show (0 : Int) ≤ _; decide) | (show (0 : Int) ≤ _ ∧ _ < (256 : Int); decide))) ?_
      | (refine F.hold hA 2000 ?_; cbv))
    refine F.call [] (grow_ok sz hg) rfl rfl rfl fun rs H' hq => ?_
    obtain ⟨rfl, rfl⟩ := hq
    refine ⟨rfl, ?_⟩
    repeat (first
      | refine OK.drawn (by decide +kernel) ?_
      | refine OK.tree ⟨lookT tis, fun _ => true, []⟩ (by decide +kernel) ?_
      | refine OK.need (by first | assumption | (rw [hA]; first | (show (_ : Int) ≠ _; decide) | (show (0 : Int) ≤ _; decide) | (show (0 : Int) ≤ _ ∧ _ < (256 : Int); decide))) ?_
      | (refine F.hold hA 2000 ?_; cbv))
    refine F.loop (V := List Int × Int) [6, 25, 26] (Cc2 ls) (fun w => (ls.length - w.2).toNat) (fun w => [(27, .int .i64 w.2)]) (fun w => [(0, .row 3 (.ints .i64 w.1))]) (_, _) (by cbv; repeat (first | exact WkH.nil _ | apply WkH.gone | refine WkH.eq rfl ?_)) (by cbv; repeat (first | apply WkL.any | exact WkL.nil _ | refine WkL.eq rfl ?_ | refine WkL.bool rfl ?_)) (by cbv; exact ⟨rfl⟩) ?_ ?_
    · exact ⟨0, rfl, Nat.zero_le _, rfl⟩
    rintro ⟨row, i2⟩ hI2 Bk2 hBk2
    repeat (first
      | refine OK.drawn (by decide +kernel) ?_
      | refine OK.tree ⟨lookT tis, fun _ => true, []⟩ (by decide +kernel) ?_
      | refine OK.need (by first | assumption | (rw [hA]; first | (show (_ : Int) ≠ _; decide) | (show (0 : Int) ≤ _; decide) | (show (0 : Int) ≤ _ ∧ _ < (256 : Int); decide))) ?_
      | (refine F.hold hA 2000 ?_; cbv))
    refine OK.branch (fun b3 => ?_) (fun b3 => ?_)
    · have hat := cc2At hA hp hI2 b3
      have q := hat.q
      have q2 := hat.q2
      have hBk := hBk2
      repeat (first
        | refine OK.drawn (by decide +kernel) ?_
        | refine OK.tree ⟨lookT tis, fun _ => true, []⟩ (by decide +kernel) ?_
        | refine OK.need (by first | assumption | (rw [hA]; first | (show (_ : Int) ≠ _; decide) | (show (0 : Int) ≤ _; decide) | (show (0 : Int) ≤ _ ∧ _ < (256 : Int); decide))) ?_
        | (refine F.hold hA 2000 ?_; cbv))
      refine OK.back (hBk _ _ (_, _) (by cbv; repeat (first | exact WkH.nil _ | apply WkH.gone | refine WkH.eq rfl ?_)) (by cbv; repeat (first | apply WkL.any | exact WkL.nil _ | refine WkL.eq rfl ?_ | refine WkL.bool rfl ?_)) (by cbv; exact ⟨rfl⟩) ?_ ?_)
      · exact hat.nx
      · exact hat.mu
    · repeat (first
        | refine OK.drawn (by decide +kernel) ?_
        | refine OK.tree ⟨lookT tis, fun _ => true, []⟩ (by decide +kernel) ?_
        | refine OK.need (by first | assumption | (rw [hA]; first | (show (_ : Int) ≠ _; decide) | (show (0 : Int) ≤ _; decide) | (show (0 : Int) ≤ _ ∧ _ < (256 : Int); decide))) ?_
        | (refine F.hold hA 2000 ?_; cbv))
      refine F.ret (rs' := [.ro (.ints .i64 row)]) (H' := [.gone]) (Cv.freeze F.cod 0 rfl) rfl ⟨?_, rfl⟩
      rw [hI2.fin hA b3]
end Go.L1

-- D10
namespace Go.L1
open Go Go.Sx Go.Proofs Go.Huff
set_option maxRecDepth 20000
set_option linter.unusedVariables false
set_option linter.unusedSimpArgs false
theorem fixP (a b c d : List Int) (h1 : a.length = 144) (h2 : b.length = 112) (h3 : c.length = 24) (h4 : d.length = 8) : CcP [a, b, c, d] := by
  have e : sumN [a, b, c, d] = 288 := by simp [sumN, h1, h2, h3, h4]
  exact ⟨by show 4 ≤ 100; decide, by omega, by omega⟩
def OrdL (os : List Int) : Prop := os = [16, 17, 18, 0, 8, 7, 9, 6, 10, 5, 11, 4, 12, 3, 13, 2, 14, 1, 15]
theorem order_ok6 : FOK Try.prog C1 84 (fun _ => false) [] [] (fun rs H => ∃ os, rs = [.arr 19 (.ints .i64 os)] ∧ H = [] ∧ OrdL os) := by
  refine fok_of (B := ⟨lookT tis, fun _ => false, []⟩) (tab1 _) (zero1 _) cod1 mix1 Try.func84 (by kernel_rfl) rfl rfl rfl fun X F => ?_
  obtain ⟨A, hA⟩ : ∃ A, A = Leaf.std := ⟨_, rfl⟩
  refine F.hold hA 2000 ?_
  cbv
  repeat (first
    | refine OK.drawn (by decide +kernel) ?_
    | refine OK.tree ⟨lookT tis, fun _ => true, []⟩ (by decide +kernel) ?_
    | refine OK.need (by first | assumption | (rw [hA]; first | (show (_ : Int) ≠ _; decide) | (show (0 : Int) ≤ _; decide) | (show (0 : Int) ≤ _ ∧ _ < (256 : Int); decide))) ?_
    | (refine F.hold hA 2000 ?_; cbv))
  refine F.ret (rs' := [_]) (H' := []) (F.cv ⟨rfl⟩ (.eq rfl (.nil _)) (.nil _)) rfl ⟨_, rfl, rfl, ?_⟩
  subst hA
  rfl
def Rep1 (a : Int) (n : Nat) (l : List Int) : Prop := l = List.replicate n a
theorem repeat_ok1 (a n : Int) (m : Nat) (hm : n.toNat = m) (hp : RepP n) : FOK Try.prog C1 55 (fun _ => false) [.ro (.ints .i64 [a]), .int .i64 n] [] (fun rs H => ∃ l, rs = [.ro (.ints .i64 l)] ∧ H = [.gone] ∧ Rep1 a m l) :=
  (repeat_ok a n hp).mono fun rs H h => ⟨_, h.1, h.2, by rw [← hm]; rfl⟩
theorem Rep1.len {a : Int} {n : Nat} {l : List Int} (h : Rep1 a n l) : l.length = n := by rw [show l = _ from h]; simp
def FixIs (a b : List Int) : Prop := a = fixA ∧ b = fixB
theorem fixed_ok : FOK Try.prog C1 44 (fun _ => false) [] [] (fun rs H => ∃ a b, rs = [.ro (.ints .i64 a), .ro (.ints .i64 b)] ∧ H = [] ∧ FixIs a b) := by
  refine fok_of (B := ⟨lookT tis, fun _ => false, []⟩) (tab1 _) (zero1 _) cod1 mix1 Try.func44 (by kernel_rfl) rfl rfl rfl fun X F => ?_
  obtain ⟨A, hA⟩ : ∃ A, A = Leaf.std := ⟨_, rfl⟩
  refine F.hold hA 2000 ?_
  cbv
  repeat (first
    | refine OK.drawn (by decide +kernel) ?_
    | refine OK.tree ⟨lookT tis, fun _ => true, []⟩ (by decide +kernel) ?_
    | refine OK.need (by first | assumption | (rw [hA]; first | (show (_ : Int) ≠ _; decide) | (show (0 : Int) ≤ _; decide) | (show (0 : Int) ≤ _ ∧ _ < (256 : Int); decide))) ?_
    | (refine F.hold hA 2000 ?_; cbv))
  refine F.callFrz 0 rfl rfl rfl rfl ?_
  refine F.call [] (repeat_ok1 8 144 144 rfl ⟨by decide, by decide⟩) rfl rfl rfl fun rs H' hq => ?_
  obtain ⟨a, rfl, rfl, ha⟩ := hq
  refine ⟨rfl, ?_⟩
  repeat (first
    | refine OK.drawn (by decide +kernel) ?_
    | refine OK.tree ⟨lookT tis, fun _ => true, []⟩ (by decide +kernel) ?_
    | refine OK.need (by first | assumption | (rw [hA]; first | (show (_ : Int) ≠ _; decide) | (show (0 : Int) ≤ _; decide) | (show (0 : Int) ≤ _ ∧ _ < (256 : Int); decide))) ?_
    | (refine F.hold hA 2000 ?_; cbv))
  refine F.callFrz 2 rfl rfl rfl rfl ?_
  refine F.call [] (repeat_ok1 9 112 112 rfl ⟨by decide, by decide⟩) rfl rfl rfl fun rs H' hq => ?_
  obtain ⟨b, rfl, rfl, hb⟩ := hq
  refine ⟨rfl, ?_⟩
  repeat (first
    | refine OK.drawn (by decide +kernel) ?_
    | refine OK.tree ⟨lookT tis, fun _ => true, []⟩ (by decide +kernel) ?_
    | refine OK.need (by first | assumption | (rw [hA]; first | (show (_ : Int) ≠ _; decide) | (show (0 : Int) ≤ _; decide) | (show (0 : Int) ≤ _ ∧ _ < (256 : Int); decide))) ?_
    | (refine F.hold hA 2000 ?_; cbv))
  refine F.callFrz 4 rfl rfl rfl rfl ?_
  refine F.call [] (repeat_ok1 7 24 24 rfl ⟨by decide, by decide⟩) rfl rfl rfl fun rs H' hq => ?_
  obtain ⟨c, rfl, rfl, hc⟩ := hq
  refine ⟨rfl, ?_⟩
  repeat (first
    | refine OK.drawn (by decide +kernel) ?_
    | refine OK.tree ⟨lookT tis, fun _ => true, []⟩ (by decide +kernel) ?_
    | refine OK.need (by first | assumption | (rw [hA]; first | (show (_ : Int) ≠ _; decide) | (show (0 : Int) ≤ _; decide) | (show (0 : Int) ≤ _ ∧ _ < (256 : Int); decide))) ?_
    | (refine F.hold hA 2000 ?_; cbv))
  refine F.callFrz 6 rfl rfl rfl rfl ?_
  refine F.call [] (repeat_ok1 8 8 8 rfl ⟨by decide, by decide⟩) rfl rfl rfl fun rs H' hq => ?_
  obtain ⟨d, rfl, rfl, hd⟩ := hq
  refine ⟨rfl, ?_⟩
  repeat (first
    | refine OK.drawn (by decide +kernel) ?_
    | refine OK.tree ⟨lookT tis, fun _ => true, []⟩ (by decide +kernel) ?_
    | refine OK.need (by first | assumption | (rw [hA]; first | (show (_ : Int) ≠ _; decide) | (show (0 : Int) ≤ _; decide) | (show (0 : Int) ≤ _ ∧ _ < (256 : Int); decide))) ?_
    | (refine F.hold hA 2000 ?_; cbv))
  refine F.callFrz 8 rfl rfl rfl rfl ?_
  refine F.call [] (concat_ok [a, b, c, d] (fixP a b c d ha.len hb.len hc.len hd.len)) rfl rfl rfl fun rs H' hq => ?_
  obtain ⟨rfl, rfl⟩ := hq
  refine ⟨rfl, ?_⟩
  obtain ⟨fa, hfa⟩ : ∃ fa, fa = [a, b, c, d].flatten ∧ fa = fixA := ⟨_, rfl, by rw [show a = _ from ha, show b = _ from hb, show c = _ from hc, show d = _ from hd]; rfl⟩
  rw [← hfa.1]
  have hfa : FixIs fa fixB := ⟨hfa.2, rfl⟩
  repeat (first
    | refine OK.drawn (by decide +kernel) ?_
    | refine OK.tree ⟨lookT tis, fun _ => true, []⟩ (by decide +kernel) ?_
    | refine OK.need (by first | assumption | (rw [hA]; first | (show (_ : Int) ≠ _; decide) | (show (0 : Int) ≤ _; decide) | (show (0 : Int) ≤ _ ∧ _ < (256 : Int); decide))) ?_
    | (refine F.hold hA 2000 ?_; cbv))
  refine F.callFrz 10 rfl rfl rfl rfl ?_
  refine F.call [] (repeat_ok1 5 32 32 rfl ⟨by decide, by decide⟩) rfl rfl rfl fun rs H' hq => ?_
  obtain ⟨g, rfl, rfl, hg⟩ := hq
  refine ⟨rfl, ?_⟩
  repeat (first
    | refine OK.drawn (by decide +kernel) ?_
    | refine OK.tree ⟨lookT tis, fun _ => true, []⟩ (by decide +kernel) ?_
    | refine OK.need (by first | assumption | (rw [hA]; first | (show (_ : Int) ≠ _; decide) | (show (0 : Int) ≤ _; decide) | (show (0 : Int) ≤ _ ∧ _ < (256 : Int); decide))) ?_
    | (refine F.hold hA 2000 ?_; cbv))
  refine F.ret (rs' := [_, _]) (H' := []) (F.cv ⟨rfl⟩ (.eq rfl (.eq rfl (.nil _))) (.nil _)) rfl ⟨_, _, rfl, rfl, ?_⟩
  rw [show g = fixB from hg]
  exact hfa
end Go.L1

-- D11
namespace Go.L1
open Go Go.Sx Go.Proofs Go.Huff
set_option maxRecDepth 20000
set_option linter.unusedVariables false
set_option linter.unusedSimpArgs false
theorem span_ok (s x m : Int) : FOK Try.prog C1 91 (fun _ => true) [.int .i64 m, .ptr 0 0] [.cells 137 [.int .i64 s, .int .i64 x]]
    (fun rs H => ∃ b, rs = [.bool (.e b)] ∧ H = [.cells 137 [.int .i64 s, .int .i64 x]] ∧ (b = true ↔ 0 ≤ x ∧ x ≤ m)) := by
  refine fok_of (B := ⟨lookT tis, fun _ => true, []⟩) (tab1 _) (zero1 _) cod1 mix1 Try.func91 (by kernel_rfl) rfl rfl rfl fun X F => ?_
  obtain ⟨A, hA⟩ : ∃ A, A = Leaf.std := ⟨_, rfl⟩
  refine F.hold hA 2000 ?_
  cbv
  repeat (first
    | refine OK.drawn (by decide +kernel) ?_
    | refine OK.tree ⟨lookT tis, fun _ => true, []⟩ (by decide +kernel) ?_
    | refine OK.need (by first | assumption | (rw [hA]; first | (show (_ : Int) ≠ _; decide) | (show (0 : Int) ≤ _; decide) | (show (0 : Int) ≤ _ ∧ _ < (256 : Int); decide))) ?_
    | (refine F.hold hA 2000 ?_; cbv))
  refine OK.branch (fun h => ?_) (fun h => ?_)
  · repeat (first
      | refine OK.drawn (by decide +kernel) ?_
      | refine OK.tree ⟨lookT tis, fun _ => true, []⟩ (by decide +kernel) ?_
      | refine OK.need (by first | assumption | (rw [hA]; first | (show (_ : Int) ≠ _; decide) | (show (0 : Int) ≤ _; decide) | (show (0 : Int) ≤ _ ∧ _ < (256 : Int); decide))) ?_
      | (refine F.hold hA 2000 ?_; cbv))
    refine F.retE rfl ⟨_, rfl, rfl, ?_⟩
    subst hA
    have h : (0 : Int) ≤ x := of_decide_eq_true h
    show decide (x ≤ m) = true ↔ _
    rw [decide_eq_true_iff]
    omega
  · repeat (first
      | refine OK.drawn (by decide +kernel) ?_
      | refine OK.tree ⟨lookT tis, fun _ => true, []⟩ (by decide +kernel) ?_
      | refine OK.need (by first | assumption | (rw [hA]; first | (show (_ : Int) ≠ _; decide) | (show (0 : Int) ≤ _; decide) | (show (0 : Int) ≤ _ ∧ _ < (256 : Int); decide))) ?_
      | (refine F.hold hA 2000 ?_; cbv))
    refine F.retE rfl ⟨_, rfl, rfl, ?_⟩
    subst hA
    have h : ¬ (0 : Int) ≤ x := of_decide_eq_false h
    show false = true ↔ _
    simp; omega
def ItRes (s x : Int) (l : List Int) (v n : Int) (ok : Bool) : Prop := (ok = true ∧ 1 ≤ n ∧ n ≤ 138 ∧ rowR (s, x) l = some (List.replicate n.toNat v)) ∨ (ok = false ∧ rowR (s, x) l = none)
structure ItP (l : List Int) : Prop where
  le : l.length ≤ 320
theorem it_neg {s x : Int} {l : List Int} {v n : Int} (h : s < 0 ∨ 19 ≤ s) : ItRes s x l v n false := by
  refine .inr ⟨rfl, ?_⟩
  unfold rowR
  rw [if_neg (by simp only; omega), if_neg (by simp only; omega), if_neg (by simp only; omega), if_neg (by simp only; omega)]
theorem it_one {A : Leaf} {s x : Int} {l : List Int} (hA : A = .std) (h1 : 0 ≤ s) (h2 : s ≤ 15) : ItRes s x l s 1 (A.cmp .eql x 0) := by
  subst hA
  show ItRes s x l s 1 (x == 0)
  by_cases h : x = 0
  · subst h
    refine .inl ⟨rfl, by decide, by decide, ?_⟩
    unfold rowR
    rw [if_pos ⟨h1, h2⟩, if_pos rfl]; rfl
  · refine .inr ⟨by simpa using h, ?_⟩
    unfold rowR
    rw [if_pos ⟨h1, h2⟩, if_neg h]
theorem it_16e {s x : Int} {l : List Int} {v n : Int} (hs : s = 16) (h : l = [] ∨ ¬ (0 ≤ x ∧ x ≤ 3)) : ItRes s x l v n false := by
  subst hs
  refine .inr ⟨rfl, ?_⟩
  unfold rowR
  rw [if_neg (by simp only; omega), if_pos rfl, if_pos h]
theorem it_16 {A : Leaf} {s x : Int} {l : List Int} (hA : A = .std) (hp : ItP l) (hs : s = 16) (h : l ≠ []) (h2 : 0 ≤ x ∧ x ≤ 3) : ItRes s x l (A.get 0 l (A.ar .sub .i64 (A.len l) 1)) (A.ar .add .i64 3 x) true := by
  have := hp.le
  subst hA hs
  have hl : 0 < l.length := List.length_pos_iff.2 h
  have e1 : Leaf.std.ar .add .i64 3 x = 3 + x := add_i64 (by omega) (by omega)
  have e2 : Leaf.std.ar .sub .i64 (Leaf.std.len l) 1 = ((l.length - 1 : Nat) : Int) := by
    have := sub_i64 (a := (l.length : Int)) (b := 1) (by omega) (by omega)
    show Leaf.std.ar .sub .i64 (l.length : Int) 1 = _
    rw [this]; omega
  have e3 : Leaf.std.get 0 l ((l.length - 1 : Nat) : Int) = l.getD (l.length - 1) 0 := by show l.getD _ 0 = _; rw [Int.toNat_natCast]
  rw [e1, e2, e3]
  refine .inl ⟨rfl, by omega, by omega, ?_⟩
  unfold rowR
  rw [if_neg (by simp only; omega), if_pos rfl, if_neg (fun hh => hh.elim h (fun h3 => h3 h2))]
theorem it_17 {A : Leaf} {s x : Int} {l : List Int} {b : Bool} (hA : A = .std) (hs : s = 17) (hb : b = true ↔ 0 ≤ x ∧ x ≤ 7) : ItRes s x l 0 (A.ar .add .i64 3 x) b := by
  subst hA hs
  cases b with
  | true =>
    have h := hb.1 rfl
    have e1 : Leaf.std.ar .add .i64 3 x = 3 + x := add_i64 (by omega) (by omega)
    rw [e1]
    refine .inl ⟨rfl, by omega, by omega, ?_⟩
    unfold rowR
    rw [if_neg (by simp only; omega), if_neg (by simp only; omega), if_pos rfl, if_pos h]
  | false =>
    refine .inr ⟨rfl, ?_⟩
    unfold rowR
    rw [if_neg (by simp only; omega), if_neg (by simp only; omega), if_pos rfl, if_neg (fun h => by cases hb.2 h)]
theorem it_18 {A : Leaf} {s x : Int} {l : List Int} {b : Bool} (hA : A = .std) (hs : s = 18) (hb : b = true ↔ 0 ≤ x ∧ x ≤ 127) : ItRes s x l 0 (A.ar .add .i64 11 x) b := by
  subst hA hs
  cases b with
  | true =>
    have h := hb.1 rfl
    have e1 : Leaf.std.ar .add .i64 11 x = 11 + x := add_i64 (by omega) (by omega)
    rw [e1]
    refine .inl ⟨rfl, by omega, by omega, ?_⟩
    unfold rowR
    rw [if_neg (by simp only; omega), if_neg (by simp only; omega), if_neg (by simp only; omega), if_pos rfl, if_pos h]
  | false =>
    refine .inr ⟨rfl, ?_⟩
    unfold rowR
    rw [if_neg (by simp only; omega), if_neg (by simp only; omega), if_neg (by simp only; omega), if_pos rfl, if_neg (fun h => by cases hb.2 h)]
theorem lenT {A : Leaf} {l : List Int} (hA : A = .std) (h : A.cmp .eql (A.len l) 0 = true) : l = [] := by
  have := eqT hA h
  subst hA
  have : (l.length : Int) = 0 := this
  exact List.eq_nil_of_length_eq_zero (by omega)
theorem lenF {A : Leaf} {l : List Int} (hA : A = .std) (h : A.cmp .eql (A.len l) 0 = false) : l ≠ [] ∧ A.inb (A.ar .sub .i64 (A.len l) 1) (A.len l) ∨ 9223372036854775808 < l.length := by
  have := eqF hA h
  subst hA
  have : (l.length : Int) ≠ 0 := this
  rcases Nat.lt_or_ge 9223372036854775808 l.length with h | h
  · exact .inr h
  · left
    have e2 : Leaf.std.ar .sub .i64 (Leaf.std.len l) 1 = (l.length : Int) - 1 := by
      have := sub_i64 (a := (l.length : Int)) (b := 1) (by omega) (by omega)
      exact this
    rw [e2]
    refine ⟨fun hl => by subst hl; exact this rfl, ?_⟩
    show (0 : Int) ≤ (l.length : Int) - 1 ∧ (l.length : Int) - 1 < (l.length : Int)
    omega
theorem row_ok6 (s x : Int) (l : List Int) (hp : ItP l) : FOK Try.prog C1 90 (fun _ => true) [.agg [.int .i64 s, .int .i64 x], .own 0] [.row 3 (.ints .i64 l)]
    (fun rs H => ∃ v n ok, rs = [.int .i64 v, .int .i64 n, .bool (.e ok)] ∧ H = [.row 3 (.ints .i64 l)] ∧ ItRes s x l v n ok) := by
  refine fok_of (B := ⟨lookT tis, fun _ => true, []⟩) (tab1 _) (zero1 _) cod1 mix1 Try.func90 (by kernel_rfl) rfl rfl rfl fun X F => ?_
  obtain ⟨A, hA⟩ : ∃ A, A = Leaf.std := ⟨_, rfl⟩
  refine F.hold hA 2000 ?_
  cbv
  repeat (first
    | refine OK.drawn (by decide +kernel) ?_
    | refine OK.tree ⟨lookT tis, fun _ => true, []⟩ (by decide +kernel) ?_
    | refine OK.need (by first | assumption | (rw [hA]; first | (show (_ : Int) ≠ _; decide) | (show (0 : Int) ≤ _; decide) | (show (0 : Int) ≤ _ ∧ _ < (256 : Int); decide))) ?_
    | (refine F.hold hA 2000 ?_; cbv))
  refine OK.branch (fun b1 => ?_) (fun b1 => ?_)
  · repeat (first
      | refine OK.drawn (by decide +kernel) ?_
      | refine OK.tree ⟨lookT tis, fun _ => true, []⟩ (by decide +kernel) ?_
      | refine OK.need (by first | assumption | (rw [hA]; first | (show (_ : Int) ≠ _; decide) | (show (0 : Int) ≤ _; decide) | (show (0 : Int) ≤ _ ∧ _ < (256 : Int); decide))) ?_
      | (refine F.hold hA 2000 ?_; cbv))
    refine F.ret (rs' := [_, _, .bool (.e _)]) (H' := [_]) ((Cv.unlit _ _).trans (F.cv ⟨rfl⟩ (.eq rfl (.eq rfl (.eq rfl (.nil _)))) (.eq rfl (.nil _)))) rfl ⟨_, _, _, rfl, rfl, ?_⟩
    subst hA
    exact it_neg (.inl (of_decide_eq_true (p := s < 0) b1))
  repeat (first
    | refine OK.drawn (by decide +kernel) ?_
    | refine OK.tree ⟨lookT tis, fun _ => true, []⟩ (by decide +kernel) ?_
    | refine OK.need (by first | assumption | (rw [hA]; first | (show (_ : Int) ≠ _; decide) | (show (0 : Int) ≤ _; decide) | (show (0 : Int) ≤ _ ∧ _ < (256 : Int); decide))) ?_
    | (refine F.hold hA 2000 ?_; cbv))
  refine OK.branch (fun b2 => ?_) (fun b2 => ?_)
  · repeat (first
      | refine OK.drawn (by decide +kernel) ?_
      | refine OK.tree ⟨lookT tis, fun _ => true, []⟩ (by decide +kernel) ?_
      | refine OK.need (by first | assumption | (rw [hA]; first | (show (_ : Int) ≠ _; decide) | (show (0 : Int) ≤ _; decide) | (show (0 : Int) ≤ _ ∧ _ < (256 : Int); decide))) ?_
      | (refine F.hold hA 2000 ?_; cbv))
    refine F.ret (rs' := [_, _, .bool (.e _)]) (H' := [_]) ((Cv.unlit _ _).trans (F.cv ⟨rfl⟩ (.eq rfl (.eq rfl (.eq rfl (.nil _)))) (.eq rfl (.nil _)))) rfl ⟨_, _, _, rfl, rfl, ?_⟩
    subst hA
    exact it_neg (.inr (of_decide_eq_true (p := (19 : Int) ≤ s) b2))
  repeat (first
    | refine OK.drawn (by decide +kernel) ?_
    | refine OK.tree ⟨lookT tis, fun _ => true, []⟩ (by decide +kernel) ?_
    | refine OK.need (by first | assumption | (rw [hA]; first | (show (_ : Int) ≠ _; decide) | (show (0 : Int) ≤ _; decide) | (show (0 : Int) ≤ _ ∧ _ < (256 : Int); decide))) ?_
    | (refine F.hold hA 2000 ?_; cbv))
  refine OK.branch (fun b3 => ?_) (fun b3 => ?_)
  · repeat' (first
      | refine OK.drawn (by decide +kernel) ?_
      | refine OK.tree ⟨lookT tis, fun _ => true, []⟩ (by decide +kernel) ?_
      | refine OK.both ?_ ?_
      | refine OK.need (by first | assumption | (rw [hA]; first | (show (_ : Int) ≠ _; decide) | (show (0 : Int) ≤ _; decide) | (show (0 : Int) ≤ _ ∧ _ < (256 : Int); decide))) ?_
      | refine OK.need ?_ ?_
      | (refine OK.branch ?_ ?_ <;> intro h)
      | (refine F.hold hA 2000 ?_; cbv))
    all_goals
      refine F.ret (rs' := [_, _, .bool (.e _)]) (H' := [_]) ((Cv.unlit _ _).trans (F.cv ⟨rfl⟩ (.eq rfl (.eq rfl (.eq rfl (.nil _)))) (.eq rfl (.nil _)))) rfl ⟨_, _, _, rfl, rfl, ?_⟩
      have h1 : ¬ s < 0 := by subst hA; exact of_decide_eq_false b1
      have h3 : s ≤ 15 := by subst hA; exact of_decide_eq_true b3
      exact it_one hA (by omega) h3
  repeat (first
    | refine OK.drawn (by decide +kernel) ?_
    | refine OK.tree ⟨lookT tis, fun _ => true, []⟩ (by decide +kernel) ?_
    | refine OK.need (by first | assumption | (rw [hA]; first | (show (_ : Int) ≠ _; decide) | (show (0 : Int) ≤ _; decide) | (show (0 : Int) ≤ _ ∧ _ < (256 : Int); decide))) ?_
    | (refine F.hold hA 2000 ?_; cbv))
  refine OK.branch (fun b4 => ?_) (fun b4 => ?_)
  · have hs := eqT hA b4
    repeat (first
      | refine OK.drawn (by decide +kernel) ?_
      | refine OK.tree ⟨lookT tis, fun _ => true, []⟩ (by decide +kernel) ?_
      | refine OK.need (by first | assumption | (rw [hA]; first | (show (_ : Int) ≠ _; decide) | (show (0 : Int) ≤ _; decide) | (show (0 : Int) ≤ _ ∧ _ < (256 : Int); decide))) ?_
      | (refine F.hold hA 2000 ?_; cbv))
    refine OK.branch (fun b5 => ?_) (fun b5 => ?_)
    · repeat (first
        | refine OK.drawn (by decide +kernel) ?_
        | refine OK.tree ⟨lookT tis, fun _ => true, []⟩ (by decide +kernel) ?_
        | refine OK.need (by first | assumption | (rw [hA]; first | (show (_ : Int) ≠ _; decide) | (show (0 : Int) ≤ _; decide) | (show (0 : Int) ≤ _ ∧ _ < (256 : Int); decide))) ?_
        | (refine F.hold hA 2000 ?_; cbv))
      refine F.ret (rs' := [_, _, .bool (.e _)]) (H' := [_]) ((Cv.unlit _ _).trans (F.cv ⟨rfl⟩ (.eq rfl (.eq rfl (.eq rfl (.nil _)))) (.eq rfl (.nil _)))) rfl ⟨_, _, _, rfl, rfl, ?_⟩
      exact it_16e hs (.inl (lenT hA b5))
    · repeat (first
        | refine OK.drawn (by decide +kernel) ?_
        | refine OK.tree ⟨lookT tis, fun _ => true, []⟩ (by decide +kernel) ?_
        | refine OK.need (by first | assumption | (rw [hA]; first | (show (_ : Int) ≠ _; decide) | (show (0 : Int) ≤ _; decide) | (show (0 : Int) ≤ _ ∧ _ < (256 : Int); decide))) ?_
        | (refine F.hold hA 2000 ?_; cbv))
      refine F.call [1] (span_ok s x 3) rfl rfl rfl fun rs H' hq => ?_
      obtain ⟨b, rfl, rfl, hb⟩ := hq
      refine ⟨rfl, ?_⟩
      repeat (first
        | refine OK.drawn (by decide +kernel) ?_
        | refine OK.tree ⟨lookT tis, fun _ => true, []⟩ (by decide +kernel) ?_
        | refine OK.need (by first | assumption | (rw [hA]; first | (show (_ : Int) ≠ _; decide) | (show (0 : Int) ≤ _; decide) | (show (0 : Int) ≤ _ ∧ _ < (256 : Int); decide))) ?_
        | (refine F.hold hA 2000 ?_; cbv))
      refine OK.branch (fun b6 => ?_) (fun b6 => ?_)
      · repeat (first
          | refine OK.drawn (by decide +kernel) ?_
          | refine OK.tree ⟨lookT tis, fun _ => true, []⟩ (by decide +kernel) ?_
          | refine OK.need (by first | assumption | (rw [hA]; first | (show (_ : Int) ≠ _; decide) | (show (0 : Int) ≤ _; decide) | (show (0 : Int) ≤ _ ∧ _ < (256 : Int); decide))) ?_
          | (refine F.hold hA 2000 ?_; cbv))
        refine F.ret (rs' := [_, _, .bool (.e _)]) (H' := [_]) ((Cv.unlit _ _).trans (F.cv ⟨rfl⟩ (.eq rfl (.eq rfl (.eq rfl (.nil _)))) (.eq rfl (.nil _)))) rfl ⟨_, _, _, rfl, rfl, ?_⟩
        refine it_16e hs (.inr fun h => ?_)
        have := hb.2 h
        subst this hA
        cases b6
      · have hbt : b = true := by subst hA; cases b; cases b6; rfl
        have hl : l ≠ [] ∧ A.inb (A.ar .sub .i64 (A.len l) 1) (A.len l) := (lenF hA b5).elim id (fun h => by have := hp.le; omega)
        have q1 := hl.2
        repeat' (first
          | refine OK.drawn (by decide +kernel) ?_
          | refine OK.tree ⟨lookT tis, fun _ => true, []⟩ (by decide +kernel) ?_
          | refine OK.both ?_ ?_
          | refine OK.need (by first | assumption | (rw [hA]; first | (show (_ : Int) ≠ _; decide) | (show (0 : Int) ≤ _; decide) | (show (0 : Int) ≤ _ ∧ _ < (256 : Int); decide))) ?_
          | refine OK.need ?_ ?_
          | (refine OK.branch ?_ ?_ <;> intro h)
          | (refine F.hold hA 2000 ?_; cbv))
        all_goals
          refine F.ret (rs' := [_, _, .bool (.e _)]) (H' := [_]) ((Cv.unlit _ _).trans (F.cv ⟨rfl⟩ (.eq rfl (.eq rfl (.eq rfl (.nil _)))) (.eq rfl (.nil _)))) rfl ⟨_, _, _, rfl, rfl, ?_⟩
          exact it_16 hA hp hs hl.1 (hb.1 hbt)
  repeat (first
    | refine OK.drawn (by decide +kernel) ?_
    | refine OK.tree ⟨lookT tis, fun _ => true, []⟩ (by decide +kernel) ?_
    | refine OK.need (by first | assumption | (rw [hA]; first | (show (_ : Int) ≠ _; decide) | (show (0 : Int) ≤ _; decide) | (show (0 : Int) ≤ _ ∧ _ < (256 : Int); decide))) ?_
    | (refine F.hold hA 2000 ?_; cbv))
  refine OK.branch (fun b5 => ?_) (fun b5 => ?_)
  · have hs := eqT hA b5
    repeat' (first
      | refine OK.drawn (by decide +kernel) ?_
      | refine OK.tree ⟨lookT tis, fun _ => true, []⟩ (by decide +kernel) ?_
      | refine OK.both ?_ ?_
      | refine OK.need (by first | assumption | (rw [hA]; first | (show (_ : Int) ≠ _; decide) | (show (0 : Int) ≤ _; decide) | (show (0 : Int) ≤ _ ∧ _ < (256 : Int); decide))) ?_
      | refine OK.need ?_ ?_
      | (refine OK.branch ?_ ?_ <;> intro h)
      | (refine F.hold hA 2000 ?_; cbv))
    all_goals
      refine F.call [1] (span_ok s x 7) rfl rfl rfl fun rs H' hq => ?_
      obtain ⟨b, rfl, rfl, hb⟩ := hq
      refine ⟨rfl, ?_⟩
      repeat' (first
        | refine OK.drawn (by decide +kernel) ?_
        | refine OK.tree ⟨lookT tis, fun _ => true, []⟩ (by decide +kernel) ?_
        | refine OK.both ?_ ?_
        | refine OK.need (by first | assumption | (rw [hA]; first | (show (_ : Int) ≠ _; decide) | (show (0 : Int) ≤ _; decide) | (show (0 : Int) ≤ _ ∧ _ < (256 : Int); decide))) ?_
        | refine OK.need ?_ ?_
        | (refine OK.branch ?_ ?_ <;> intro h)
        | (refine F.hold hA 2000 ?_; cbv))
      all_goals
        refine F.ret (rs' := [_, _, .bool (.e _)]) (H' := [_]) ((Cv.unlit _ _).trans (F.cv ⟨rfl⟩ (.eq rfl (.eq rfl (.eq rfl (.nil _)))) (.eq rfl (.nil _)))) rfl ⟨_, _, _, rfl, rfl, ?_⟩
        exact it_17 hA hs hb
  · have hs : s = 18 := by
      have h5 := eqF hA b5
      have h4 := eqF hA b4
      subst hA
      have h1 : ¬ s < 0 := of_decide_eq_false b1
      have h2 : ¬ (19 : Int) ≤ s := of_decide_eq_false b2
      have h3 : ¬ s ≤ 15 := of_decide_eq_false b3
      omega
    repeat' (first
      | refine OK.drawn (by decide +kernel) ?_
      | refine OK.tree ⟨lookT tis, fun _ => true, []⟩ (by decide +kernel) ?_
      | refine OK.both ?_ ?_
      | refine OK.need (by first | assumption | (rw [hA]; first | (show (_ : Int) ≠ _; decide) | (show (0 : Int) ≤ _; decide) | (show (0 : Int) ≤ _ ∧ _ < (256 : Int); decide))) ?_
      | refine OK.need ?_ ?_
      | (refine OK.branch ?_ ?_ <;> intro h)
      | (refine F.hold hA 2000 ?_; cbv))
    all_goals
      refine F.call [1] (span_ok s x 127) rfl rfl rfl fun rs H' hq => ?_
      obtain ⟨b, rfl, rfl, hb⟩ := hq
      refine ⟨rfl, ?_⟩
      repeat' (first
        | refine OK.drawn (by decide +kernel) ?_
        | refine OK.tree ⟨lookT tis, fun _ => true, []⟩ (by decide +kernel) ?_
        | refine OK.both ?_ ?_
        | refine OK.need (by first | assumption | (rw [hA]; first | (show (_ : Int) ≠ _; decide) | (show (0 : Int) ≤ _; decide) | (show (0 : Int) ≤ _ ∧ _ < (256 : Int); decide))) ?_
        | refine OK.need ?_ ?_
        | (refine OK.branch ?_ ?_ <;> intro h)
        | (refine F.hold hA 2000 ?_; cbv))
      all_goals
        refine F.ret (rs' := [_, _, .bool (.e _)]) (H' := [_]) ((Cv.unlit _ _).trans (F.cv ⟨rfl⟩ (.eq rfl (.eq rfl (.eq rfl (.nil _)))) (.eq rfl (.nil _)))) rfl ⟨_, _, _, rfl, rfl, ?_⟩
        exact it_18 hA hs hb
end Go.L1

-- D12
namespace Go.L1
open Go Go.Sx Go.Proofs Go.Huff
set_option maxRecDepth 20000
set_option linter.unusedVariables false
set_option linter.unusedSimpArgs false
def prs (items : List Pr) : List (Int × Int) := items.map fun x => (x.a, x.b)
structure UnP (items : List Pr) : Prop where
  n : items.length ≤ 100000
def UnInv (items : List Pr) (w : List Int × Int) : Prop := ∃ j : Nat, w.2 = j ∧ j ≤ items.length ∧ w.1.length ≤ 320 ∧ unpackR (prs items) [] = unpackR (prs (items.drop j)) w.1
def UnIs (items : List Pr) (rs : List (SV T1)) (H : List (Ch T1)) : Prop :=
  (∃ l, rs = [.ro (.ints .i64 l), .bool (.lit true)] ∧ H = [] ∧ unpackR (prs items) [] = some l ∧ l.length ≤ 320) ∨ (rs = [.val (.slice none 0 0), .bool (.lit false)] ∧ H = [] ∧ unpackR (prs items) [] = none)
structure UnAt (A : Leaf) (items : List Pr) (o : List Int) (i : Int) (x : Pr) : Prop where
  q : A.inb i (A.len items)
  ip : ItP o
  xe : A.get ⟨0, 0⟩ items i = x
  e : unpackR (prs items) [] = match rowR (x.a, x.b) o with
    | some m => if o.length + m.length ≤ 320 then unpackR (prs (items.drop (i.toNat + 1))) (o ++ m) else none
    | none => none
  i0 : 0 ≤ i
  i1 : i < items.length
  nn : items.length ≤ 100000
theorem unAt {A : Leaf} {items : List Pr} {o : List Int} {i : Int} (hA : A = .std) (hp : UnP items) (hI : UnInv items (o, i)) (b1 : A.cmp .lss i (A.len items) = true) : UnAt A items o i (A.get ⟨0, 0⟩ items i) := by
  obtain ⟨j, e, h1, h2, h3⟩ := hI
  have hn := hp.n
  simp only at e h2 h3
  subst hA e
  have b1 : (j : Int) < (items.length : Int) := of_decide_eq_true b1
  have hj : j < items.length := by omega
  have eg : Leaf.std.get ⟨0, 0⟩ items (j : Int) = items[j] := by show items.getD _ _ = _; rw [Int.toNat_natCast]; simp [hj]
  refine ⟨?_, ⟨h2⟩, rfl, ?_, by omega, by omega, hn⟩
  · show (0 : Int) ≤ (j : Int) ∧ (j : Int) < (items.length : Int); omega
  · rw [h3, eg, Int.toNat_natCast, List.drop_eq_getElem_cons hj]
    show unpackR ((items[j].a, items[j].b) :: prs (items.drop (j + 1))) o = _
    rw [unpackR]
    cases rowR (items[j].a, items[j].b) o <;> rfl
structure UnB (A : Leaf) (items : List Pr) (o : List Int) (i v n : Int) (ok : Bool) : Prop where
  e1 : A.bnot ok = true → unpackR (prs items) [] = none
  e2 : A.bnot ok = false → A.cmp .gtr (A.ar .add .i64 (A.len o) n) 320 = true → unpackR (prs items) [] = none
  p : A.bnot ok = false → RepP n
  q : A.bnot ok = false → A.cmp .gtr (A.ar .add .i64 (A.len o) n) 320 = false → ∀ l, Rep1 v n.toNat l → A.small (A.len (A.app o l)) 8 ∧ UnInv items (A.app o l, A.ar .add .i64 i 1) ∧ (items.length - A.ar .add .i64 i 1).toNat < (items.length - i).toNat
theorem unB {A : Leaf} {items : List Pr} {o : List Int} {i v n : Int} {ok : Bool} {x : Pr} (hA : A = .std) (h : UnAt A items o i x) (hr : ItRes x.a x.b o v n ok) : UnB A items o i v n ok := by
  have hip := h.ip.le
  have he := h.e
  have i0 := h.i0
  have i1 := h.i1
  have nn := h.nn
  subst hA
  rcases hr with ⟨rfl, n1, n2, hr⟩ | ⟨rfl, hr⟩
  · have ea : Leaf.std.ar .add .i64 (Leaf.std.len o) n = (o.length : Int) + n := add_i64 (a := (o.length : Int)) (b := n) (by omega) (by omega)
    have ei : Leaf.std.ar .add .i64 i 1 = i + 1 := add_i64 (by omega) (by omega)
    rw [hr] at he
    dsimp only at he
    refine ⟨fun h => (by cases h), fun _ h => ?_, fun _ => ⟨by omega, by omega⟩, fun _ h l hl => ?_⟩
    · rw [ea] at h
      have h : (320 : Int) < (o.length : Int) + n := of_decide_eq_true h
      rw [he, if_neg (by rw [List.length_replicate]; omega)]
    · rw [ea] at h
      have h : ¬ (320 : Int) < (o.length : Int) + n := of_decide_eq_false h
      rw [show l = _ from hl, ei]
      have el : (o ++ List.replicate n.toNat v).length = o.length + n.toNat := by rw [List.length_append, List.length_replicate]
      refine ⟨?_, ⟨i.toNat + 1, by simp only; omega, by omega, ?_, ?_⟩, by omega⟩
      · have e2 : Leaf.std.len (Leaf.std.app o (List.replicate n.toNat v)) = ((o.length + n.toNat : Nat) : Int) := by
          show (((o ++ List.replicate n.toNat v).length : Nat) : Int) = _
          rw [el]
        rw [e2]
        show (0 : Int) ≤ _ ∧ _ ≤ (140737488355328 : Int) ∧ _ * ((8 : Nat) : Int) ≤ (140737488355328 : Int)
        omega
      · show (o ++ List.replicate n.toNat v).length ≤ 320
        omega
      · rw [he, if_pos (by rw [List.length_replicate]; omega)]; rfl
  · rw [hr] at he
    exact ⟨fun _ => he, fun h => (by cases h), fun h => (by cases h), fun h => (by cases h)⟩
theorem UnInv.fin {A : Leaf} {items : List Pr} {o : List Int} {i : Int} (hA : A = .std) (hI : UnInv items (o, i)) (b1 : A.cmp .lss i (A.len items) = false) : unpackR (prs items) [] = some o ∧ o.length ≤ 320 := by
  obtain ⟨j, e, h1, h2, h3⟩ := hI
  simp only at e h2 h3
  subst hA e
  have b1 : ¬ (j : Int) < (items.length : Int) := of_decide_eq_false b1
  rw [List.drop_of_length_le (by omega)] at h3
  exact ⟨h3, h2⟩
theorem unpack_ok6 (items : List Pr) (hp : UnP items) : FOK Try.prog C1 88 (fun _ => false) [.ro (.recs 1 items)] [] (UnIs items) := by
  refine fok_of (B := ⟨lookT tis, fun _ => false, []⟩) (tab1 _) (zero1 _) cod1 mix1 Try.func88 (by kernel_rfl) rfl rfl rfl fun X F => ?_
  obtain ⟨A, hA⟩ : ∃ A, A = Leaf.std := ⟨_, rfl⟩
  refine F.hold hA 2000 ?_
  cbv
  repeat (first
    | refine OK.drawn (by decide +kernel) ?_
    | refine OK.tree ⟨lookT tis, fun _ => true, []⟩ (by decide +kernel) ?_
    | refine OK.need (by first | assumption | (rw [hA]; first | (show (_ : Int) ≠ _; decide) | (show (0 : Int) ≤ _; decide) | (show (0 : Int) ≤ _ ∧ _ < (256 : Int); decide))) ?_
    | (refine F.hold hA 2000 ?_; cbv))
  refine OK.loopCv (Cv.adopt F.cod 4 3 (ek := .int .i64) rfl rfl) ?_
  refine F.loop (V := List Int × Int) [0, 2, 4, 10, 11] (UnInv items) (fun w => (items.length - w.2).toNat) (fun w => [(12, .int .i64 w.2)]) (fun w => [(0, .row 3 (.ints .i64 w.1))]) (_, _) (by cbv; repeat (first | exact WkH.nil _ | apply WkH.gone | refine WkH.eq rfl ?_)) (by cbv; repeat (first | apply WkL.any | exact WkL.nil _ | refine WkL.eq rfl ?_ | refine WkL.bool rfl ?_)) (by cbv; exact ⟨rfl⟩) ?_ ?_
  · exact ⟨0, rfl, Nat.zero_le _, Nat.zero_le _, rfl⟩
  rintro ⟨o, i⟩ hI Bk hBk
  repeat (first
    | refine OK.drawn (by decide +kernel) ?_
    | refine OK.tree ⟨lookT tis, fun _ => true, []⟩ (by decide +kernel) ?_
    | refine OK.need (by first | assumption | (rw [hA]; first | (show (_ : Int) ≠ _; decide) | (show (0 : Int) ≤ _; decide) | (show (0 : Int) ≤ _ ∧ _ < (256 : Int); decide))) ?_
    | (refine F.hold hA 2000 ?_; cbv))
  refine OK.branch (fun b1 => ?_) (fun b1 => ?_)
  · have hat := unAt hA hp hI b1
    have q := hat.q
    have hip := hat.ip
    repeat (first
      | refine OK.drawn (by decide +kernel) ?_
      | refine OK.tree ⟨lookT tis, fun _ => true, []⟩ (by decide +kernel) ?_
      | refine OK.need (by first | assumption | (rw [hA]; first | (show (_ : Int) ≠ _; decide) | (show (0 : Int) ≤ _; decide) | (show (0 : Int) ≤ _ ∧ _ < (256 : Int); decide))) ?_
      | (refine F.hold hA 2000 ?_; cbv))
    refine F.call [0] (row_ok6 _ _ o hip) rfl rfl rfl fun rs H' hq => ?_
    obtain ⟨v, n, ok, rfl, rfl, hr⟩ := hq
    refine ⟨rfl, ?_⟩
    have hB := unB hA hat hr
    clear hr
    repeat (first
      | refine OK.drawn (by decide +kernel) ?_
      | refine OK.tree ⟨lookT tis, fun _ => true, []⟩ (by decide +kernel) ?_
      | refine OK.need (by first | assumption | (rw [hA]; first | (show (_ : Int) ≠ _; decide) | (show (0 : Int) ≤ _; decide) | (show (0 : Int) ≤ _ ∧ _ < (256 : Int); decide))) ?_
      | (refine F.hold hA 2000 ?_; cbv))
    refine OK.branch (fun b2 => ?_) (fun b2 => ?_)
    · repeat (first
        | refine OK.drawn (by decide +kernel) ?_
        | refine OK.tree ⟨lookT tis, fun _ => true, []⟩ (by decide +kernel) ?_
        | refine OK.need (by first | assumption | (rw [hA]; first | (show (_ : Int) ≠ _; decide) | (show (0 : Int) ≤ _; decide) | (show (0 : Int) ≤ _ ∧ _ < (256 : Int); decide))) ?_
        | (refine F.hold hA 2000 ?_; cbv))
      exact F.ret (H' := []) (F.cv ⟨rfl⟩ (.eq rfl (.eq rfl (.nil _))) (.nil _)) rfl (.inr ⟨rfl, rfl, hB.e1 b2⟩)
    repeat (first
      | refine OK.drawn (by decide +kernel) ?_
      | refine OK.tree ⟨lookT tis, fun _ => true, []⟩ (by decide +kernel) ?_
      | refine OK.need (by first | assumption | (rw [hA]; first | (show (_ : Int) ≠ _; decide) | (show (0 : Int) ≤ _; decide) | (show (0 : Int) ≤ _ ∧ _ < (256 : Int); decide))) ?_
      | (refine F.hold hA 2000 ?_; cbv))
    refine OK.branch (fun b3 => ?_) (fun b3 => ?_)
    · repeat (first
        | refine OK.drawn (by decide +kernel) ?_
        | refine OK.tree ⟨lookT tis, fun _ => true, []⟩ (by decide +kernel) ?_
        | refine OK.need (by first | assumption | (rw [hA]; first | (show (_ : Int) ≠ _; decide) | (show (0 : Int) ≤ _; decide) | (show (0 : Int) ≤ _ ∧ _ < (256 : Int); decide))) ?_
        | (refine F.hold hA 2000 ?_; cbv))
      exact F.ret (H' := []) (F.cv ⟨rfl⟩ (.eq rfl (.eq rfl (.nil _))) (.nil _)) rfl (.inr ⟨rfl, rfl, hB.e2 b2 b3⟩)
    have hrp := hB.p b2
    repeat (first
      | refine OK.drawn (by decide +kernel) ?_
      | refine OK.tree ⟨lookT tis, fun _ => true, []⟩ (by decide +kernel) ?_
      | refine OK.need (by first | assumption | (rw [hA]; first | (show (_ : Int) ≠ _; decide) | (show (0 : Int) ≤ _; decide) | (show (0 : Int) ≤ _ ∧ _ < (256 : Int); decide))) ?_
      | (refine F.hold hA 2000 ?_; cbv))
    refine F.callFrz 2 rfl rfl rfl rfl ?_
    refine F.call [] (repeat_ok1 v n n.toNat rfl hrp) rfl rfl rfl fun rs H' hq => ?_
    obtain ⟨l, rfl, rfl, hl⟩ := hq
    refine ⟨rfl, ?_⟩
    have hC := hB.q b2 b3 l hl
    have q2 := hC.1
    repeat (first
      | refine OK.drawn (by decide +kernel) ?_
      | refine OK.tree ⟨lookT tis, fun _ => true, []⟩ (by decide +kernel) ?_
      | refine OK.need (by first | assumption | (rw [hA]; first | (show (_ : Int) ≠ _; decide) | (show (0 : Int) ≤ _; decide) | (show (0 : Int) ≤ _ ∧ _ < (256 : Int); decide))) ?_
      | (refine F.hold hA 2000 ?_; cbv))
    refine OK.back (hBk _ _ (_, _) (by cbv; repeat (first | exact WkH.nil _ | apply WkH.gone | refine WkH.eq rfl ?_)) (by cbv; repeat (first | apply WkL.any | exact WkL.nil _ | refine WkL.eq rfl ?_ | refine WkL.bool rfl ?_)) (by cbv; exact ⟨rfl⟩) ?_ ?_)
    · exact hC.2.1
    · exact hC.2.2
  · have hf := hI.fin hA b1
    repeat (first
      | refine OK.drawn (by decide +kernel) ?_
      | refine OK.tree ⟨lookT tis, fun _ => true, []⟩ (by decide +kernel) ?_
      | refine OK.need (by first | assumption | (rw [hA]; first | (show (_ : Int) ≠ _; decide) | (show (0 : Int) ≤ _; decide) | (show (0 : Int) ≤ _ ∧ _ < (256 : Int); decide))) ?_
      | (refine F.hold hA 2000 ?_; cbv))
    refine F.ret (rs' := [.ro (.ints .i64 o), .bool (.lit true)]) (H' := []) ((Cv.freeze F.cod 0 rfl).trans (F.cv ⟨rfl⟩ (.eq rfl (.eq rfl (.nil _))) (.nil _))) rfl (.inl ⟨_, rfl, rfl, hf.1, hf.2⟩)
end Go.L1

-- D13
namespace Go.L1
open Go Go.Sx Go.Proofs Go.Huff
set_option maxRecDepth 20000
set_option linter.unusedVariables false
set_option linter.unusedSimpArgs false
structure RwP (xs : List UInt8) (p n : Int) : Prop where
  s : InS xs p
  n0 : 0 ≤ n
  n1 : n ≤ 400
def cnt1 (x : Int × Int) : Int := if x.1 = 16 ∨ x.1 = 17 then 3 + x.2 else if x.1 = 18 then 11 + x.2 else 1
def cntS : List (Int × Int) → Int
  | [] => 0
  | x :: l => cnt1 x + cntS l
theorem cntS_app (l : List (Int × Int)) (x : Int × Int) : cntS (l ++ [x]) = cntS l + cnt1 x := by
  induction l with
  | nil => simp [cntS]
  | cons y l ih => simp only [List.cons_append, cntS, ih]; omega
theorem rowR_len {x : Int × Int} {l m : List Int} (h : rowR x l = some m) : (m.length : Int) = cnt1 x := by
  obtain ⟨s, y⟩ := x
  unfold rowR at h
  unfold cnt1
  simp only at h ⊢
  split at h
  · split at h
    · cases h
      rw [if_neg (by omega), if_neg (by omega)]; rfl
    · cases h
  · split at h
    · rename_i h1
      split at h
      · cases h
      · rename_i h2
        cases h
        rw [if_pos (.inl h1), List.length_replicate]
        have : 0 ≤ y ∧ y ≤ 3 := Classical.byContradiction fun hh => h2 (.inr hh)
        omega
    · split at h
      · rename_i h1
        split at h
        · cases h
          rw [if_pos (.inr h1), List.length_replicate]; omega
        · cases h
      · split at h
        · rename_i h1
          split at h
          · cases h
            rw [if_neg (by omega), if_pos h1, List.length_replicate]; omega
          · cases h
        · cases h
theorem unpack_len : ∀ {items : List (Int × Int)} {l l' : List Int}, unpackR items l = some l' → (l'.length : Int) = l.length + cntS items
  | [], l, l', h => by cases h; simp [cntS]
  | x :: items, l, l', h => by
    rw [unpackR] at h
    cases hr : rowR x l with
    | none => rw [hr] at h; cases h
    | some m =>
      rw [hr] at h
      dsimp only at h
      split at h
      · have h1 := unpack_len h
        have h2 := rowR_len hr
        rw [List.length_append] at h1
        rw [cntS]; omega
      · cases h
def RwI (ls : List Int) (xs : List UInt8) (n p0 : Int) (w : Int × List Pr × Int) : Prop :=
  InS xs w.1 ∧ p0 ≤ w.1 ∧ (w.2.1.length : Int) ≤ w.2.2 ∧ 0 ≤ w.2.2 ∧ w.2.2 ≤ n + 138 ∧ w.2.2 = cntS (prs w.2.1) ∧ ∃ f : Nat, (fuel : Int) ≤ f + w.1 ∧ itemsR ls xs n fuel p0 [] 0 = itemsR ls xs n f w.1 (prs w.2.1) w.2.2
def RowsIs6 (ls : List Int) (xs : List UInt8) (n p p' : Int) (all : List Int) : Prop := rowsR ls xs n p = .ok (p', all) ∧ InS xs p' ∧ p ≤ p' ∧ all.length ≤ 320 ∧ (all.length : Int) = n
structure ItmAt (A : Leaf) (ls : List Int) (xs : List UInt8) (n p p1 : Int) (items : List Pr) (h : Int) : Prop where
  s1 : InS xs p1
  h0 : 0 ≤ h
  h1 : h ≤ 400
  er : ∀ e, itemR ls xs p1 h = .error e → rowsR ls xs n p = .error e
  nx : ∀ p' s x h', itemR ls xs p1 h = .ok (p', (s, x), h') → InS xs p' → p1 < p' → h + 1 ≤ h' → h' ≤ h + 138 → h' = h + cnt1 (s, x) →
    A.small (A.len (A.app items [(⟨s, x⟩ : Pr)])) 16 ∧ RwI ls xs n p (p', A.app items [(⟨s, x⟩ : Pr)], h') ∧ (8 * xs.length - p').toNat < (8 * xs.length - p1).toNat
theorem prs_app (items : List Pr) (x : Pr) : prs (items ++ [x]) = prs items ++ [(x.a, x.b)] := by simp [prs]
theorem itmAt {A : Leaf} {ls : List Int} {xs : List UInt8} {n p p1 : Int} {items : List Pr} {h : Int} (hA : A = .std) (hp : RwP xs p n) (hI : RwI ls xs n p (p1, items, h)) (b1 : A.cmp .lss h n = true) : ItmAt A ls xs n p p1 items h := by
  obtain ⟨i1, i2, i3, i4, i5, ic, f, i6, i7⟩ := hI
  simp only at i1 i2 i3 i4 i5 ic i6 i7
  have n1 := hp.n1
  have hl := i1.rd.hi
  have hxl := i1.l
  subst hA
  have b1 : h < n := of_decide_eq_true b1
  obtain ⟨g, rfl⟩ : ∃ g, f = g + 1 := ⟨f - 1, by unfold fuel at i6; omega⟩
  refine ⟨i1, i4, by omega, fun e he => ?_, fun p' s x h' he q1 q2 q3 q4 q5 => ⟨?_, ⟨q1, by simp only; omega, ?_, by simp only; omega, by simp only; omega, ?_, g, by simp only; omega, ?_⟩, ?_⟩⟩
  · unfold rowsR
    rw [i7]
    simp only [itemsR, if_pos b1, bind, Except.bind, he]
  · have e2 : Leaf.std.len (Leaf.std.app items [(⟨s, x⟩ : Pr)]) = ((items.length + 1 : Nat) : Int) := by
      show (((items ++ [_]).length : Nat) : Int) = _
      rw [List.length_append]; rfl
    rw [e2]
    show (0 : Int) ≤ _ ∧ _ ≤ (140737488355328 : Int) ∧ _ * ((16 : Nat) : Int) ≤ (140737488355328 : Int)
    omega
  · show (((items ++ [_]).length : Nat) : Int) ≤ h'
    rw [List.length_append]
    simp only [List.length_singleton]
    omega
  · show h' = cntS (prs (items ++ [_]))
    rw [prs_app, cntS_app, ← ic]
    exact q5
  · rw [i7]
    show _ = itemsR ls xs n g p' (prs (items ++ [_])) h'
    rw [prs_app]
    simp only [itemsR, if_pos b1, bind, Except.bind, he]
  · have := q1.rd.hi; omega
structure ItmFin (ls : List Int) (xs : List UInt8) (n p p1 : Int) (items : List Pr) (h : Int) : Prop where
  s : InS xs p1
  pp : p ≤ p1
  un : UnP items
  ne : h ≠ n → rowsR ls xs n p = .error 10
  ok : h = n → ∀ l, unpackR (prs items) [] = some l → rowsR ls xs n p = .ok (p1, l)
  ln : h = n → ∀ l, unpackR (prs items) [] = some l → (l.length : Int) = n
  no : h = n → unpackR (prs items) [] = none → rowsR ls xs n p = .error 10
theorem itmFin {A : Leaf} {ls : List Int} {xs : List UInt8} {n p p1 : Int} {items : List Pr} {h : Int} (hA : A = .std) (hp : RwP xs p n) (hI : RwI ls xs n p (p1, items, h)) (b1 : A.cmp .lss h n = false) : ItmFin ls xs n p p1 items h := by
  obtain ⟨i1, i2, i3, i4, i5, ic, f, i6, i7⟩ := hI
  simp only at i1 i2 i3 i4 i5 ic i6 i7
  have n1 := hp.n1
  have hl := i1.rd.hi
  have hxl := i1.l
  subst hA
  have b1 : ¬ h < n := of_decide_eq_false b1
  obtain ⟨g, rfl⟩ : ∃ g, f = g + 1 := ⟨f - 1, by unfold fuel at i6; omega⟩
  have hit : itemsR ls xs n fuel p [] 0 = .ok (p1, prs items, h) := by
    rw [i7]
    simp only [itemsR, if_neg b1]
  refine ⟨i1, i2, ⟨by omega⟩, fun hh => ?_, fun hh l hl => ?_, fun hh l hl => ?_, fun hh hl => ?_⟩
  · unfold rowsR
    simp only [bind, Except.bind, hit, if_neg hh]
  · unfold rowsR
    simp only [bind, Except.bind, hit, if_pos hh, hl]
  · have := unpack_len hl
    rw [← ic] at this
    simp at this
    omega
  · unfold rowsR
    simp only [bind, Except.bind, hit, if_pos hh, hl]
theorem item16 {ls : List Int} {xs : List UInt8} {p1 h s p2 : Int} (h1 : SymIs ls xs p1 s p2) (hs : s = 16) :
    (∀ e, numR xs p2 2 = .error e → itemR ls xs p1 h = .error e) ∧ (∀ x p3, NumIs xs p2 2 x p3 → itemR ls xs p1 h = if 0 < h then .ok (p3, (s, x), h + 3 + x) else .error 10) := by
  subst hs
  unfold SymIs at h1
  refine ⟨fun e he => ?_, fun x p3 hx => ?_⟩
  · simp only [itemR, bind, Except.bind, h1, he, if_pos]
  · unfold NumIs at hx
    simp only [itemR, bind, Except.bind, h1, hx, if_pos]
theorem item17 {ls : List Int} {xs : List UInt8} {p1 h s p2 : Int} (h1 : SymIs ls xs p1 s p2) (hs : s = 17) :
    (∀ e, numR xs p2 3 = .error e → itemR ls xs p1 h = .error e) ∧ (∀ x p3, NumIs xs p2 3 x p3 → itemR ls xs p1 h = .ok (p3, (s, x), h + 3 + x)) := by
  subst hs
  unfold SymIs at h1
  refine ⟨fun e he => ?_, fun x p3 hx => ?_⟩
  · simp only [itemR, bind, Except.bind, h1, he, if_neg (show ¬ (17 : Int) = 16 by decide), if_pos]
  · unfold NumIs at hx
    simp only [itemR, bind, Except.bind, h1, hx, if_neg (show ¬ (17 : Int) = 16 by decide), if_pos]
theorem item18 {ls : List Int} {xs : List UInt8} {p1 h s p2 : Int} (h1 : SymIs ls xs p1 s p2) (hs : s = 18) :
    (∀ e, numR xs p2 7 = .error e → itemR ls xs p1 h = .error e) ∧ (∀ x p3, NumIs xs p2 7 x p3 → itemR ls xs p1 h = .ok (p3, (s, x), h + 11 + x)) := by
  subst hs
  unfold SymIs at h1
  refine ⟨fun e he => ?_, fun x p3 hx => ?_⟩
  · simp only [itemR, bind, Except.bind, h1, he, if_neg (show ¬ (18 : Int) = 16 by decide), if_neg (show ¬ (18 : Int) = 17 by decide), if_pos]
  · unfold NumIs at hx
    simp only [itemR, bind, Except.bind, h1, hx, if_neg (show ¬ (18 : Int) = 16 by decide), if_neg (show ¬ (18 : Int) = 17 by decide), if_pos]
theorem itemO {ls : List Int} {xs : List UInt8} {p1 h s p2 : Int} (h1 : SymIs ls xs p1 s p2) (hs : s ≠ 16 ∧ s ≠ 17 ∧ s ≠ 18) : itemR ls xs p1 h = .ok (p2, (s, 0), h + 1) := by
  unfold SymIs at h1
  simp only [itemR, bind, Except.bind, h1, if_neg hs.1, if_neg hs.2.1, if_neg hs.2.2]
theorem itemE {ls : List Int} {xs : List UInt8} {p1 h e : Int} (h1 : symR ls xs p1 = .error e) : itemR ls xs p1 h = .error e := by
  simp only [itemR, bind, Except.bind, h1]
theorem addH {A : Leaf} {h c x : Int} (hA : A = .std) (h0 : 0 ≤ h) (h1 : h ≤ 400) (c0 : 0 ≤ c) (c1 : c ≤ 11) (x0 : 0 ≤ x) (x1 : x < 128) : A.ar .add .i64 h (A.ar .add .i64 c x) = h + c + x := by
  subst hA
  have e1 : Leaf.std.ar .add .i64 c x = c + x := add_i64 (by omega) (by omega)
  rw [e1, add_i64 (by omega) (by omega)]; omega
theorem rows_ok6 (xs out : List UInt8) (lim u k b p n : Int) (ls : List Int) (ws : List Pr) (fs cs ss os : List Int) (r : Int) (hc : CodeOK ls ws fs cs ss os r) (hp : RwP xs p n) :
    FOKp Try.prog C1 85 (fun c => Nat.ble c 3) [.ptr 0 0, .ptr 3 0, .int .i64 n] [.cells 98 [.ptr 1 0, .int .i64 lim, .own 2, .int .i64 u, .int .i64 k, .int .i64 b], .cells 82 [.ro (.bytes xs), .int .i64 p], .row 5 (.bytes out), .cells 78 [.ro (.recs 0 ws), .arr 16 (.ints .i64 fs), .arr 16 (.ints .i64 cs), .arr 16 (.ints .i64 ss), .ro (.ints .i64 os), .int .i64 r]]
    (fun rs H => ∃ all p', rs = [.ro (.ints .i64 all)] ∧ H = [.cells 98 [.ptr 1 0, .int .i64 lim, .own 2, .int .i64 u, .int .i64 k, .int .i64 b], .cells 82 [.ro (.bytes xs), .int .i64 p'], .row 5 (.bytes out), .cells 78 [.ro (.recs 0 ws), .arr 16 (.ints .i64 fs), .arr 16 (.ints .i64 cs), .arr 16 (.ints .i64 ss), .ro (.ints .i64 os), .int .i64 r]] ∧ RowsIs6 ls xs n p p' all)
    (fun ch => ∃ e, rowsR ls xs n p = .error e ∧ Flt e ch) := by
  refine fokp_of (B := ⟨lookT tis, fun c => Nat.ble c 3, []⟩) (tab1 _) (zero1 _) cod1 mix1 Try.func85 (by kernel_rfl) rfl rfl rfl fun X F hX => ?_
  obtain ⟨A, hA⟩ : ∃ A, A = Leaf.std := ⟨_, rfl⟩
  refine F.hold hA 2000 ?_
  cbv
  repeat (first
    | refine OK.drawn (by decide +kernel) ?_
    | refine OK.tree ⟨lookT tis, fun _ => true, []⟩ (by decide +kernel) ?_
    | refine OK.need (by first | assumption | (rw [hA]; first | (show (_ : Int) ≠ _; decide) | (show (0 : Int) ≤ _; decide) | (show (0 : Int) ≤ _ ∧ _ < (256 : Int); decide))) ?_
    | (refine F.hold hA 2000 ?_; cbv))
  refine OK.loopCv (Cv.adopt F.cod 7 137 (ek := .st 1) rfl rfl) ?_
  refine F.loop (V := Int × List Pr × Int) [0, 1, 2, 7] (RwI ls xs n p) (fun w => (8 * xs.length - w.1).toNat) (fun w => [(8, .int .i64 w.2.2)]) (fun w => [(1, .cells 82 [.ro (.bytes xs), .int .i64 w.1]), (4, .row 137 (.recs 1 w.2.1))]) (_, _, _) (by cbv; repeat (first | exact WkH.nil _ | apply WkH.gone | refine WkH.eq rfl ?_)) (by cbv; repeat (first | apply WkL.any | exact WkL.nil _ | refine WkL.eq rfl ?_ | refine WkL.bool rfl ?_)) (by cbv; exact ⟨rfl⟩) ?_ ?_
  · exact ⟨hp.s, Int.le_refl _, Int.le_refl 0, Int.le_refl 0, by have := hp.n0; simp only; omega, rfl, fuel, by have := hp.s.rd.rd.lo; simp only; omega, rfl⟩
  rintro ⟨p1, items, have_⟩ hI Bk hBk
  repeat (first
    | refine OK.drawn (by decide +kernel) ?_
    | refine OK.tree ⟨lookT tis, fun _ => true, []⟩ (by decide +kernel) ?_
    | refine OK.need (by first | assumption | (rw [hA]; first | (show (_ : Int) ≠ _; decide) | (show (0 : Int) ≤ _; decide) | (show (0 : Int) ≤ _ ∧ _ < (256 : Int); decide))) ?_
    | (refine F.hold hA 2000 ?_; cbv))
  refine OK.branch (fun b1 => ?_) (fun b1 => ?_)
  · have hat := itmAt hA hp hI b1
    repeat (first
      | refine OK.drawn (by decide +kernel) ?_
      | refine OK.tree ⟨lookT tis, fun _ => true, []⟩ (by decide +kernel) ?_
      | refine OK.need (by first | assumption | (rw [hA]; first | (show (_ : Int) ≠ _; decide) | (show (0 : Int) ≤ _; decide) | (show (0 : Int) ≤ _ ∧ _ < (256 : Int); decide))) ?_
      | (refine F.hold hA 2000 ?_; cbv))
    refine F.callp [0, 1, 2, 3] (symbol_ok xs out lim u k b p1 ls ws fs cs ss os r hc hat.s1) rfl rfl rfl (fun ch hch => ?_) (fun rs H' hq => ?_)
    · rw [hX]; obtain ⟨e, he, hf⟩ := hch
      exact ⟨e, hat.er e (itemE he), hf⟩
    obtain ⟨s, p2, rfl, rfl, h1⟩ := hq
    have hs2 := h1.ins hat.s1
    refine ⟨rfl, ?_⟩
    repeat (first
      | refine OK.drawn (by decide +kernel) ?_
      | refine OK.tree ⟨lookT tis, fun _ => true, []⟩ (by decide +kernel) ?_
      | refine OK.need (by first | assumption | (rw [hA]; first | (show (_ : Int) ≠ _; decide) | (show (0 : Int) ≤ _; decide) | (show (0 : Int) ≤ _ ∧ _ < (256 : Int); decide))) ?_
      | (refine F.hold hA 2000 ?_; cbv))
    refine OK.branch (fun b2 => ?_) (fun b2 => ?_)
    · have hs := eqT hA b2
      have hit := item16 (h := have_) h1 hs
      clear hs
      repeat (first
        | refine OK.drawn (by decide +kernel) ?_
        | refine OK.tree ⟨lookT tis, fun _ => true, []⟩ (by decide +kernel) ?_
        | refine OK.need (by first | assumption | (rw [hA]; first | (show (_ : Int) ≠ _; decide) | (show (0 : Int) ≤ _; decide) | (show (0 : Int) ≤ _ ∧ _ < (256 : Int); decide))) ?_
        | (refine F.hold hA 2000 ?_; cbv))
      refine F.callp [0, 1, 2] (number_ok xs out lim u k b p2 2 rfl hs2) rfl rfl rfl (fun ch hch => ?_) (fun rs H' hq => ?_)
      · rw [hX]; obtain ⟨e, he, hf⟩ := hch
        exact ⟨e, hat.er e (hit.1 e he), hf⟩
      obtain ⟨x, p3, rfl, rfl, h2⟩ := hq
      refine ⟨rfl, ?_⟩
      repeat (first
        | refine OK.drawn (by decide +kernel) ?_
        | refine OK.tree ⟨lookT tis, fun _ => true, []⟩ (by decide +kernel) ?_
        | refine OK.need (by first | assumption | (rw [hA]; first | (show (_ : Int) ≠ _; decide) | (show (0 : Int) ≤ _; decide) | (show (0 : Int) ≤ _ ∧ _ < (256 : Int); decide))) ?_
        | (refine F.hold hA 2000 ?_; cbv))
      refine F.callp [] (need_ok _ _) rfl rfl rfl (fun ch hch => ?_) (fun rs H' hq => ?_)
      · rw [hX]
        refine ⟨10, hat.er 10 ?_, hch.2⟩
        rw [hit.2 x p3 h2, if_neg]
        have h3 : A.cmp .gtr have_ 0 = false := hch.1
        subst hA
        exact of_decide_eq_false h3
      obtain ⟨rfl, rfl, hr⟩ := hq
      have hpos : 0 < have_ := by
        have h3 : A.cmp .gtr have_ 0 = true := hr
        subst hA
        exact of_decide_eq_true h3
      have hval := h2.val
      have hx : x < 4 := hval.2.1
      have hnx := hat.nx p3 s x _ ((hit.2 x p3 h2).trans (if_pos hpos)) (h2.ins hs2) (by have := (h1.val hat.s1).2.2.1; omega) (by omega) (by omega) (by unfold cnt1; rw [if_pos (.inl (eqT hA b2))]; simp only; omega)
      rw [← addH hA hat.h0 hat.h1 (by decide) (by decide) hval.1 (by omega)] at hnx
      clear hval hr hpos hx
      have q1 := hnx.1
      refine ⟨rfl, ?_⟩
      repeat' (first
        | refine OK.drawn (by decide +kernel) ?_
        | refine OK.tree ⟨lookT tis, fun _ => true, []⟩ (by decide +kernel) ?_
        | refine OK.both ?_ ?_
        | refine OK.need (by first | assumption | (rw [hA]; first | (show (_ : Int) ≠ _; decide) | (show (0 : Int) ≤ _; decide) | (show (0 : Int) ≤ _ ∧ _ < (256 : Int); decide))) ?_
        | refine OK.need ?_ ?_
        | (refine OK.branch ?_ ?_ <;> intro h)
        | (refine F.hold hA 2000 ?_; cbv))
      all_goals
        refine OK.back (hBk _ _ (_, _, _) (by cbv; repeat (first | exact WkH.nil _ | apply WkH.gone | refine WkH.eq rfl ?_)) (by cbv; repeat (first | apply WkL.any | exact WkL.nil _ | refine WkL.eq rfl ?_ | refine WkL.bool rfl ?_)) (by cbv; exact ⟨rfl⟩) ?_ ?_)
        · exact hnx.2.1
        · exact hnx.2.2
    repeat (first
      | refine OK.drawn (by decide +kernel) ?_
      | refine OK.tree ⟨lookT tis, fun _ => true, []⟩ (by decide +kernel) ?_
      | refine OK.need (by first | assumption | (rw [hA]; first | (show (_ : Int) ≠ _; decide) | (show (0 : Int) ≤ _; decide) | (show (0 : Int) ≤ _ ∧ _ < (256 : Int); decide))) ?_
      | (refine F.hold hA 2000 ?_; cbv))
    refine OK.branch (fun b3 => ?_) (fun b3 => ?_)
    · have hs := eqT hA b3
      have hit := item17 (h := have_) h1 hs
      clear hs
      repeat (first
        | refine OK.drawn (by decide +kernel) ?_
        | refine OK.tree ⟨lookT tis, fun _ => true, []⟩ (by decide +kernel) ?_
        | refine OK.need (by first | assumption | (rw [hA]; first | (show (_ : Int) ≠ _; decide) | (show (0 : Int) ≤ _; decide) | (show (0 : Int) ≤ _ ∧ _ < (256 : Int); decide))) ?_
        | (refine F.hold hA 2000 ?_; cbv))
      refine F.callp [0, 1, 2] (number_ok xs out lim u k b p2 3 rfl hs2) rfl rfl rfl (fun ch hch => ?_) (fun rs H' hq => ?_)
      · rw [hX]; obtain ⟨e, he, hf⟩ := hch
        exact ⟨e, hat.er e (hit.1 e he), hf⟩
      obtain ⟨x, p3, rfl, rfl, h2⟩ := hq
      have hval := h2.val
      have hx : x < 8 := hval.2.1
      have hnx := hat.nx p3 s x _ (hit.2 x p3 h2) (h2.ins hs2) (by have := (h1.val hat.s1).2.2.1; omega) (by omega) (by omega) (by unfold cnt1; rw [if_pos (.inr (eqT hA b3))]; simp only; omega)
      rw [← addH hA hat.h0 hat.h1 (by decide) (by decide) hval.1 (by omega)] at hnx
      clear hval hx
      have q1 := hnx.1
      refine ⟨rfl, ?_⟩
      repeat' (first
        | refine OK.drawn (by decide +kernel) ?_
        | refine OK.tree ⟨lookT tis, fun _ => true, []⟩ (by decide +kernel) ?_
        | refine OK.both ?_ ?_
        | refine OK.need (by first | assumption | (rw [hA]; first | (show (_ : Int) ≠ _; decide) | (show (0 : Int) ≤ _; decide) | (show (0 : Int) ≤ _ ∧ _ < (256 : Int); decide))) ?_
        | refine OK.need ?_ ?_
        | (refine OK.branch ?_ ?_ <;> intro h)
        | (refine F.hold hA 2000 ?_; cbv))
      all_goals
        refine OK.back (hBk _ _ (_, _, _) (by cbv; repeat (first | exact WkH.nil _ | apply WkH.gone | refine WkH.eq rfl ?_)) (by cbv; repeat (first | apply WkL.any | exact WkL.nil _ | refine WkL.eq rfl ?_ | refine WkL.bool rfl ?_)) (by cbv; exact ⟨rfl⟩) ?_ ?_)
        · exact hnx.2.1
        · exact hnx.2.2
    repeat (first
      | refine OK.drawn (by decide +kernel) ?_
      | refine OK.tree ⟨lookT tis, fun _ => true, []⟩ (by decide +kernel) ?_
      | refine OK.need (by first | assumption | (rw [hA]; first | (show (_ : Int) ≠ _; decide) | (show (0 : Int) ≤ _; decide) | (show (0 : Int) ≤ _ ∧ _ < (256 : Int); decide))) ?_
      | (refine F.hold hA 2000 ?_; cbv))
    refine OK.branch (fun b4 => ?_) (fun b4 => ?_)
    · have hs := eqT hA b4
      have hit := item18 (h := have_) h1 hs
      clear hs
      repeat (first
        | refine OK.drawn (by decide +kernel) ?_
        | refine OK.tree ⟨lookT tis, fun _ => true, []⟩ (by decide +kernel) ?_
        | refine OK.need (by first | assumption | (rw [hA]; first | (show (_ : Int) ≠ _; decide) | (show (0 : Int) ≤ _; decide) | (show (0 : Int) ≤ _ ∧ _ < (256 : Int); decide))) ?_
        | (refine F.hold hA 2000 ?_; cbv))
      refine F.callp [0, 1, 2] (number_ok xs out lim u k b p2 7 rfl hs2) rfl rfl rfl (fun ch hch => ?_) (fun rs H' hq => ?_)
      · rw [hX]; obtain ⟨e, he, hf⟩ := hch
        exact ⟨e, hat.er e (hit.1 e he), hf⟩
      obtain ⟨x, p3, rfl, rfl, h2⟩ := hq
      have hval := h2.val
      have hx : x < 128 := hval.2.1
      have hnx := hat.nx p3 s x _ (hit.2 x p3 h2) (h2.ins hs2) (by have := (h1.val hat.s1).2.2.1; omega) (by omega) (by omega) (by have := eqT hA b4; unfold cnt1; rw [if_neg (by simp only; omega), if_pos this]; simp only; omega)
      rw [← addH hA hat.h0 hat.h1 (by decide) (by decide) hval.1 (by omega)] at hnx
      clear hval hx
      have q1 := hnx.1
      refine ⟨rfl, ?_⟩
      repeat' (first
        | refine OK.drawn (by decide +kernel) ?_
        | refine OK.tree ⟨lookT tis, fun _ => true, []⟩ (by decide +kernel) ?_
        | refine OK.both ?_ ?_
        | refine OK.need (by first | assumption | (rw [hA]; first | (show (_ : Int) ≠ _; decide) | (show (0 : Int) ≤ _; decide) | (show (0 : Int) ≤ _ ∧ _ < (256 : Int); decide))) ?_
        | refine OK.need ?_ ?_
        | (refine OK.branch ?_ ?_ <;> intro h)
        | (refine F.hold hA 2000 ?_; cbv))
      all_goals
        refine OK.back (hBk _ _ (_, _, _) (by cbv; repeat (first | exact WkH.nil _ | apply WkH.gone | refine WkH.eq rfl ?_)) (by cbv; repeat (first | apply WkL.any | exact WkL.nil _ | refine WkL.eq rfl ?_ | refine WkL.bool rfl ?_)) (by cbv; exact ⟨rfl⟩) ?_ ?_)
        · exact hnx.2.1
        · exact hnx.2.2
    · have hnx := hat.nx p2 s 0 _ (itemO h1 ⟨eqF hA b2, eqF hA b3, eqF hA b4⟩) hs2 (by have := (h1.val hat.s1).2.2.1; omega) (by omega) (by omega) (by have h2 := eqF hA b2; have h3 := eqF hA b3; have h4 := eqF hA b4; unfold cnt1; rw [if_neg (by simp only; omega), if_neg h4])
      have e1 : A.ar .add .i64 have_ 1 = have_ + 1 := by
        have := hat.h0
        have := hat.h1
        subst hA
        exact add_i64 (by omega) (by omega)
      rw [← e1] at hnx
      have q1 := hnx.1
      repeat' (first
        | refine OK.drawn (by decide +kernel) ?_
        | refine OK.tree ⟨lookT tis, fun _ => true, []⟩ (by decide +kernel) ?_
        | refine OK.both ?_ ?_
        | refine OK.need (by first | assumption | (rw [hA]; first | (show (_ : Int) ≠ _; decide) | (show (0 : Int) ≤ _; decide) | (show (0 : Int) ≤ _ ∧ _ < (256 : Int); decide))) ?_
        | refine OK.need ?_ ?_
        | (refine OK.branch ?_ ?_ <;> intro h)
        | (refine F.hold hA 2000 ?_; cbv))
      all_goals
        refine OK.back (hBk _ _ (_, _, _) (by cbv; repeat (first | exact WkH.nil _ | apply WkH.gone | refine WkH.eq rfl ?_)) (by cbv; repeat (first | apply WkL.any | exact WkL.nil _ | refine WkL.eq rfl ?_ | refine WkL.bool rfl ?_)) (by cbv; exact ⟨rfl⟩) ?_ ?_)
        · exact hnx.2.1
        · exact hnx.2.2
  · have hfin := itmFin hA hp hI b1
    repeat (first
      | refine OK.drawn (by decide +kernel) ?_
      | refine OK.tree ⟨lookT tis, fun _ => true, []⟩ (by decide +kernel) ?_
      | refine OK.need (by first | assumption | (rw [hA]; first | (show (_ : Int) ≠ _; decide) | (show (0 : Int) ≤ _; decide) | (show (0 : Int) ≤ _ ∧ _ < (256 : Int); decide))) ?_
      | (refine F.hold hA 2000 ?_; cbv))
    refine F.callp [] (need_ok _ _) rfl rfl rfl (fun ch hch => ?_) (fun rs H' hq => ?_)
    · rw [hX]
      refine ⟨10, hfin.ne ?_, hch.2⟩
      have h3 : A.cmp .eql have_ n = false := hch.1
      exact eqF hA h3
    obtain ⟨rfl, rfl, hr⟩ := hq
    have heq : have_ = n := eqT hA hr
    have hun := hfin.un
    refine ⟨rfl, ?_⟩
    repeat (first
      | refine OK.drawn (by decide +kernel) ?_
      | refine OK.tree ⟨lookT tis, fun _ => true, []⟩ (by decide +kernel) ?_
      | refine OK.need (by first | assumption | (rw [hA]; first | (show (_ : Int) ≠ _; decide) | (show (0 : Int) ≤ _; decide) | (show (0 : Int) ≤ _ ∧ _ < (256 : Int); decide))) ?_
      | (refine F.hold hA 2000 ?_; cbv))
    refine F.callFrz 4 rfl rfl rfl rfl ?_
    refine F.call [] (unpack_ok6 items hun) rfl rfl rfl fun rs H' hq => ?_
    rcases hq with ⟨l, rfl, rfl, hl, hl2⟩ | ⟨rfl, rfl, hl⟩
    · refine ⟨rfl, ?_⟩
      repeat (first
        | refine OK.drawn (by decide +kernel) ?_
        | refine OK.tree ⟨lookT tis, fun _ => true, []⟩ (by decide +kernel) ?_
        | refine OK.need (by first | assumption | (rw [hA]; first | (show (_ : Int) ≠ _; decide) | (show (0 : Int) ≤ _; decide) | (show (0 : Int) ≤ _ ∧ _ < (256 : Int); decide))) ?_
        | (refine F.hold hA 2000 ?_; cbv))
      refine F.callp [] (need_ok _ _) rfl rfl rfl (fun ch hch => by cases hch.1) (fun rs H' hq => ?_)
      obtain ⟨rfl, rfl, hr⟩ := hq
      refine ⟨rfl, ?_⟩
      repeat (first
        | refine OK.drawn (by decide +kernel) ?_
        | refine OK.tree ⟨lookT tis, fun _ => true, []⟩ (by decide +kernel) ?_
        | refine OK.need (by first | assumption | (rw [hA]; first | (show (_ : Int) ≠ _; decide) | (show (0 : Int) ≤ _; decide) | (show (0 : Int) ≤ _ ∧ _ < (256 : Int); decide))) ?_
        | (refine F.hold hA 2000 ?_; cbv))
      exact F.ret (rs' := [_]) (H' := [_, _, _, _]) (F.cv ⟨rfl⟩ (.eq rfl (.nil _)) (.eq rfl (.eq rfl (.eq rfl (.eq rfl (.nil _)))))) rfl ⟨_, _, rfl, rfl, hfin.ok heq l hl, hfin.s, hfin.pp, hl2, hfin.ln heq l hl⟩
    · refine ⟨rfl, ?_⟩
      repeat (first
        | refine OK.drawn (by decide +kernel) ?_
        | refine OK.tree ⟨lookT tis, fun _ => true, []⟩ (by decide +kernel) ?_
        | refine OK.need (by first | assumption | (rw [hA]; first | (show (_ : Int) ≠ _; decide) | (show (0 : Int) ≤ _; decide) | (show (0 : Int) ≤ _ ∧ _ < (256 : Int); decide))) ?_
        | (refine F.hold hA 2000 ?_; cbv))
      refine F.callp [] (need_ok _ _) rfl rfl rfl (fun ch hch => ?_) (fun rs H' hq => by cases hq.2.2)
      rw [hX]
      exact ⟨10, hfin.no heq hl, hch.2⟩
end Go.L1

-- D14
namespace Go.L1
open Go Go.Sx Go.Proofs Go.Huff
set_option maxRecDepth 20000
set_option linter.unusedVariables false
set_option linter.unusedSimpArgs false
def zer19 : List Int := List.replicate 19 0
theorem orderN_lt : ∀ x ∈ orderN, x < 19 := by decide
def CoI (xs : List UInt8) (L : List Nat) (p3 : Int) (w : Int × List Int × Int) : Prop :=
  ∃ j : Nat, w.2.2 = j ∧ j ≤ L.length ∧ InS xs w.1 ∧ p3 ≤ w.1 ∧ w.2.1.length = 19 ∧ ownR xs L p3 zer19 = ownR xs (L.drop j) w.1 w.2.1
structure CoAt (A : Leaf) (xs : List UInt8) (os : List Int) (L : List Nat) (n p3 p4 : Int) (own : List Int) (i : Int) : Prop where
  s : InS xs p4
  z4 : A.inb i (A.len (A.sub os 0 (A.ar .add .i64 n 4)))
  z5 : A.inb (A.get 0 (A.sub os 0 (A.ar .add .i64 n 4)) i) (A.len own)
  er : ∀ e, numR xs p4 3 = .error e → ownR xs L p3 zer19 = .error e
  nx : ∀ x p5, NumIs xs p4 3 x p5 → CoI xs L p3 (p5, A.set own (A.get 0 (A.sub os 0 (A.ar .add .i64 n 4)) i) x, A.ar .add .i64 i 1) ∧ (40 - A.ar .add .i64 i 1).toNat < (40 - i).toNat
def ordI (os : List Int) (n : Int) (L : List Nat) : Prop := 0 ≤ n ∧ n < 16 ∧ L = orderN.take (n + 4).toNat ∧ os = orderN.map fun (x : Nat) => (x : Int)
theorem ordI_of {os : List Int} {n : Int} (h : OrdL os) (h1 : 0 ≤ n) (h2 : n < 16) : ordI os n (orderN.take (n + 4).toNat) := ⟨h1, h2, rfl, h⟩
theorem ordI.sub {os : List Int} {n : Int} {L : List Nat} (h : ordI os n L) : Leaf.std.ar .add .i64 n 4 = n + 4 ∧ Leaf.std.sub os 0 (Leaf.std.ar .add .i64 n 4) = L.map (fun (x : Nat) => (x : Int)) ∧ L.length = (n + 4).toNat := by
  obtain ⟨h1, h2, rfl, rfl⟩ := h
  have e : Leaf.std.ar .add .i64 n 4 = n + 4 := add_i64 (by omega) (by omega)
  refine ⟨e, ?_, ?_⟩
  · rw [e]
    show ((orderN.map _).drop 0).take (n + 4 - 0).toNat = _
    rw [List.drop_zero, List.map_take, Int.sub_zero]
  · rw [List.length_take]
    have : orderN.length = 19 := rfl
    omega
theorem coAt {A : Leaf} {xs : List UInt8} {os : List Int} {L : List Nat} {n p3 p4 : Int} {own : List Int} {i : Int} (hA : A = .std) (ho : ordI os n L) (hI : CoI xs L p3 (p4, own, i)) (b1 : A.cmp .lss i (A.len (A.sub os 0 (A.ar .add .i64 n 4))) = true) : CoAt A xs os L n p3 p4 own i := by
  subst hA
  obtain ⟨j, hj, jl, hs, hp, hl, he⟩ := hI
  obtain ⟨e1, e2, e3⟩ := ho.sub
  simp only at hj hs hp hl he
  subst hj
  have elen : Leaf.std.len (Leaf.std.sub os 0 (Leaf.std.ar .add .i64 n 4)) = L.length := by
    rw [e2]; show ((L.map _).length : Int) = _
    rw [List.length_map]
  rw [elen] at b1
  have b1 : (j : Int) < L.length := of_decide_eq_true b1
  have jl : j < L.length := by omega
  have hL : L.length ≤ 19 := by rw [e3]; have := ho.1; have := ho.2.1; omega
  have hget : Leaf.std.get 0 (Leaf.std.sub os 0 (Leaf.std.ar .add .i64 n 4)) (j : Int) = (L[j] : Nat) := by
    rw [e2]
    show (L.map _).getD (j : Int).toNat 0 = _
    rw [Int.toNat_natCast]
    simp [List.getD, jl]
  have hlt : L[j] < 19 := by
    have : L[j] ∈ orderN := by
      have h2 : L[j] ∈ L := List.getElem_mem jl
      exact (by have h3 := ho.2.2.1; generalize L[j] = x at h2; rw [h3] at h2; exact List.mem_of_mem_take h2)
    exact orderN_lt _ this
  have einc : Leaf.std.ar .add .i64 (j : Int) 1 = ((j + 1 : Nat) : Int) := by
    rw [add_i64 (by omega) (by omega)]; omega
  have hd : L.drop j = L[j] :: L.drop (j + 1) := List.drop_eq_getElem_cons jl
  refine ⟨hs, ?_, ?_, fun e hn => ?_, fun x p5 hx => ⟨⟨j + 1, einc, jl, hx.ins hs, by have := hx.val; simp only; omega, ?_, ?_⟩, ?_⟩⟩
  · rw [elen]; show (0 : Int) ≤ j ∧ (j : Int) < L.length; omega
  · rw [hget]
    show (0 : Int) ≤ (L[j] : Nat) ∧ ((L[j] : Nat) : Int) < (own.length : Nat)
    omega
  · rw [he, hd]
    simp only [ownR, bind, Except.bind, hn]
  · rw [hget]
    show (own.set _ _).length = 19
    rw [List.length_set]; exact hl
  · rw [he, hd, hget]
    unfold NumIs at hx
    simp only [ownR, bind, Except.bind, hx]
    show _ = ownR xs _ p5 (own.set (L[j] : Int).toNat x)
    rw [Int.toNat_natCast]
  · rw [einc]; omega
structure CoFin (xs : List UInt8) (L : List Nat) (p3 p4 : Int) (own : List Int) : Prop where
  s : InS xs p4
  pp : p3 ≤ p4
  ok : ownR xs L p3 zer19 = .ok (p4, own)
theorem coFin {A : Leaf} {xs : List UInt8} {os : List Int} {L : List Nat} {n p3 p4 : Int} {own : List Int} {i : Int} (hA : A = .std) (ho : ordI os n L) (hI : CoI xs L p3 (p4, own, i)) (b1 : A.cmp .lss i (A.len (A.sub os 0 (A.ar .add .i64 n 4))) = false) : CoFin xs L p3 p4 own := by
  subst hA
  obtain ⟨j, hj, jl, hs, hp, hl, he⟩ := hI
  obtain ⟨e1, e2, e3⟩ := ho.sub
  simp only at hj hs hp hl he
  subst hj
  have elen : Leaf.std.len (Leaf.std.sub os 0 (Leaf.std.ar .add .i64 n 4)) = L.length := by
    rw [e2]; show ((L.map _).length : Int) = _
    rw [List.length_map]
  rw [elen] at b1
  have b1 : ¬ (j : Int) < L.length := of_decide_eq_false b1
  have : j = L.length := by omega
  subst this
  refine ⟨hs, hp, ?_⟩
  rw [he, List.drop_length]
  rfl
theorem coSt {A : Leaf} {xs : List UInt8} {L : List Nat} {p3 : Int} (hA : A = .std) (hs : InS xs p3) : CoI xs L p3 (p3, A.rep 19 (0 : Int), 0) := by
  subst hA
  exact ⟨0, rfl, Nat.zero_le _, hs, Int.le_refl _, rfl, rfl⟩
structure CoNum (xs : List UInt8) (p l d n p3 : Int) : Prop where
  l0 : 0 ≤ l
  l1 : l < 32
  d0 : 0 ≤ d
  d1 : d < 32
  n0 : 0 ≤ n
  n1 : n < 16
  pp : p ≤ p3
  no : ¬ (l ≤ 29 ∧ d ≤ 29) → codesR xs p = .error 10
  ow : (l ≤ 29 ∧ d ≤ 29) → ∀ e, ownR xs (orderN.take (n + 4).toNat) p3 zer19 = .error e → codesR xs p = .error e
  c1 : (l ≤ 29 ∧ d ≤ 29) → ∀ p4 own, ownR xs (orderN.take (n + 4).toNat) p3 zer19 = .ok (p4, own) → ∀ e, codeR own false false = .error e → codesR xs p = .error e
  rw : (l ≤ 29 ∧ d ≤ 29) → ∀ p4 own, ownR xs (orderN.take (n + 4).toNat) p3 zer19 = .ok (p4, own) → codeR own false false = .ok () → ∀ e, rowsR own xs (l + 257 + d + 1) p4 = .error e → codesR xs p = .error e
  al : (l ≤ 29 ∧ d ≤ 29) → ∀ p4 own, ownR xs (orderN.take (n + 4).toNat) p3 zer19 = .ok (p4, own) → codeR own false false = .ok () → ∀ p5 all, rowsR own xs (l + 257 + d + 1) p4 = .ok (p5, all) →
    codesR xs p = (if 0 < all.getD 256 0 then do
      codeR (all.take (l + 257).toNat) true false
      codeR (all.drop (l + 257).toNat) true true
      .ok (p5, all.take (l + 257).toNat, all.drop (l + 257).toNat)
    else .error 10)
theorem coNum {xs : List UInt8} {p l p1 d p2 n p3 : Int} (h1 : NumIs xs p 5 l p1) (h2 : NumIs xs p1 5 d p2) (h3 : NumIs xs p2 4 n p3) : CoNum xs p l d n p3 := by
  have v1 := h1.val
  have v2 := h2.val
  have v3 := h3.val
  unfold NumIs at h1 h2 h3
  refine ⟨v1.1, v1.2.1, v2.1, v2.2.1, v3.1, v3.2.1, by omega, fun hn => ?_, fun hy e he => ?_, fun hy p4 own ho e he => ?_, fun hy p4 own ho hc e he => ?_, fun hy p4 own ho hc p5 all ha => ?_⟩
  · unfold codesR
    simp only [bind, Except.bind, h1, h2, h3, if_neg hn]
  · unfold zer19 at *
    unfold codesR
    simp only [bind, Except.bind, h1, h2, h3, if_pos hy, he]
  · unfold zer19 at *
    unfold codesR
    simp only [bind, Except.bind, h1, h2, h3, if_pos hy, ho, he]
  · unfold zer19 at *
    unfold codesR
    simp only [bind, Except.bind, h1, h2, h3, if_pos hy, ho, hc, he]
  · unfold zer19 at *
    unfold codesR
    simp only [bind, Except.bind, h1, h2, h3, if_pos hy, ho, hc, ha]
/-- The sums of counts, as leaves tell them. -/
theorem coSum {A : Leaf} {l d : Int} (hA : A = .std) (l0 : 0 ≤ l) (l1 : l < 32) (d0 : 0 ≤ d) (d1 : d < 32) : A.ar .add .i64 l 257 = l + 257 ∧ A.ar .add .i64 (A.ar .add .i64 (A.ar .add .i64 l 257) d) 1 = l + 257 + d + 1 := by
  subst hA
  have e : Leaf.std.ar .add .i64 l 257 = l + 257 := add_i64 (by omega) (by omega)
  refine ⟨e, ?_⟩
  have e2 : Leaf.std.ar .add .i64 (l + 257) d = l + 257 + d := add_i64 (by omega) (by omega)
  rw [e, e2, add_i64 (by omega) (by omega)]
structure CoAll (A : Leaf) (all : List Int) (l : Int) : Prop where
  q1 : A.inb 256 (A.len all)
  q2 : A.slb 0 (A.ar .add .i64 l 257) (A.len all)
  q3 : A.slb (A.ar .add .i64 l 257) (A.len all) (A.len all)
  g : A.get 0 all 256 = all.getD 256 0
  t : A.sub all 0 (A.ar .add .i64 l 257) = all.take (l + 257).toNat
  d : A.sub all (A.ar .add .i64 l 257) (A.len all) = all.drop (l + 257).toNat
theorem coAll {A : Leaf} {all : List Int} {l d : Int} (hA : A = .std) (l0 : 0 ≤ l) (l1 : l < 32) (d0 : 0 ≤ d) (d1 : d < 32) (h : (all.length : Int) = l + 257 + d + 1) : CoAll A all l := by
  have e := (coSum hA l0 l1 d0 d1).1
  subst hA
  refine ⟨?_, ?_, ?_, ?_, ?_, ?_⟩
  · show (0 : Int) ≤ 256 ∧ (256 : Int) < (all.length : Nat); omega
  · rw [e]; show (0 : Int) ≤ 0 ∧ (0 : Int) ≤ l + 257 ∧ l + 257 ≤ (all.length : Nat); omega
  · rw [e]; show (0 : Int) ≤ l + 257 ∧ l + 257 ≤ (all.length : Nat) ∧ ((all.length : Nat) : Int) ≤ (all.length : Nat); omega
  · rfl
  · rw [e]; show (all.drop 0).take (l + 257 - 0).toNat = _
    rw [List.drop_zero, Int.sub_zero]
  · rw [e]; show (all.drop (l + 257).toNat).take (((all.length : Nat) : Int) - (l + 257)).toNat = _
    exact List.take_of_length_le (by rw [List.length_drop]; omega)
theorem coRw {xs : List UInt8} {p l d : Int} (hs : InS xs p) (l0 : 0 ≤ l) (l1 : l < 32) (d0 : 0 ≤ d) (d1 : d < 32) : RwP xs p (l + 257 + d + 1) := ⟨hs, by omega, by omega⟩
theorem coErr1 {a b : List Int} {e : Int} {r : Int × List Int × List Int} (h : codeR a true false = .error e) : (do codeR a true false; codeR b true true; .ok r : Er _) = .error e := by
  simp only [bind, Except.bind, h]
theorem coErr2 {a b : List Int} {e : Int} {r : Int × List Int × List Int} (h : codeR a true false = .ok ()) (h2 : codeR b true true = .error e) : (do codeR a true false; codeR b true true; .ok r : Er _) = .error e := by
  simp only [bind, Except.bind, h, h2]
theorem coOk {a b : List Int} {r : Int × List Int × List Int} (h : codeR a true false = .ok ()) (h2 : codeR b true true = .ok ()) : (do codeR a true false; codeR b true true; .ok r : Er _) = .ok r := by
  simp only [bind, Except.bind, h, h2]
def CodsIs6 (xs : List UInt8) (p p' : Int) (l1 l2 : List Int) : Prop := codesR xs p = .ok (p', l1, l2) ∧ InS xs p' ∧ p ≤ p'
theorem codes_ok6 (xs out : List UInt8) (lim u k b p : Int) (hs : InS xs p) :
    FOKp Try.prog C1 69 (fun c => Nat.ble c 2) [.ptr 0 0] [.cells 98 [.ptr 1 0, .int .i64 lim, .own 2, .int .i64 u, .int .i64 k, .int .i64 b], .cells 82 [.ro (.bytes xs), .int .i64 p], .row 5 (.bytes out)]
    (fun rs H => ∃ p' l1 l2, ∃ (ws1 : List Pr) (fs1 cs1 ss1 os1 : List Int) (r1 : Int) (ws2 : List Pr) (fs2 cs2 ss2 os2 : List Int) (r2 : Int), rs = [.ptr 8 0, .ptr 10 0] ∧ H = [.cells 98 [.ptr 1 0, .int .i64 lim, .own 2, .int .i64 u, .int .i64 k, .int .i64 b], .cells 82 [.ro (.bytes xs), .int .i64 p'], .row 5 (.bytes out), .gone, .gone, .gone, .gone, .gone, .cells 78 [.ro (.recs 0 ws1), .arr 16 (.ints .i64 fs1), .arr 16 (.ints .i64 cs1), .arr 16 (.ints .i64 ss1), .ro (.ints .i64 os1), .int .i64 r1], .gone, .cells 78 [.ro (.recs 0 ws2), .arr 16 (.ints .i64 fs2), .arr 16 (.ints .i64 cs2), .arr 16 (.ints .i64 ss2), .ro (.ints .i64 os2), .int .i64 r2]] ∧ CodsIs6 xs p p' l1 l2 ∧ CodeOK l1 ws1 fs1 cs1 ss1 os1 r1 ∧ CodeOK l2 ws2 fs2 cs2 ss2 os2 r2)
    (fun ch => ∃ e, codesR xs p = .error e ∧ Flt e ch) := by
  refine fokp_of (B := ⟨lookT tis, fun c => Nat.ble c 2, []⟩) (tab1 _) (zero1 _) cod1 mix1 Try.func69 (by kernel_rfl) rfl rfl rfl fun X F hX => ?_
  obtain ⟨A, hA⟩ : ∃ A, A = Leaf.std := ⟨_, rfl⟩
  refine F.hold hA 2000 ?_
  cbv
  repeat (first
    | refine OK.drawn (by decide +kernel) ?_
    | refine OK.tree ⟨lookT tis, fun _ => true, []⟩ (by decide +kernel) ?_
    | refine OK.need (by first | assumption | (rw [hA]; first | (show (_ : Int) ≠ _; decide) | (show (0 : Int) ≤ _; decide) | (show (0 : Int) ≤ _ ∧ _ < (256 : Int); decide))) ?_
    | (refine F.hold hA 2000 ?_; cbv))
  refine F.callp [0, 1, 2] (number_ok xs out lim u k b p 5 rfl hs) rfl rfl rfl (fun ch hch => ?_) (fun rs H' hq => ?_)
  · rw [hX]; obtain ⟨e, he, hf⟩ := hch
    exact ⟨e, by unfold codesR; simp only [bind, Except.bind, he], hf⟩
  obtain ⟨l, p1, rfl, rfl, h1⟩ := hq
  have hs1 := h1.ins hs
  refine ⟨rfl, ?_⟩
  repeat (first
    | refine OK.drawn (by decide +kernel) ?_
    | refine OK.tree ⟨lookT tis, fun _ => true, []⟩ (by decide +kernel) ?_
    | refine OK.need (by first | assumption | (rw [hA]; first | (show (_ : Int) ≠ _; decide) | (show (0 : Int) ≤ _; decide) | (show (0 : Int) ≤ _ ∧ _ < (256 : Int); decide))) ?_
    | (refine F.hold hA 2000 ?_; cbv))
  refine F.callp [0, 1, 2] (number_ok xs out lim u k b p1 5 rfl hs1) rfl rfl rfl (fun ch hch => ?_) (fun rs H' hq => ?_)
  · rw [hX]; obtain ⟨e, he, hf⟩ := hch
    unfold NumIs at h1
    exact ⟨e, by unfold codesR; simp only [bind, Except.bind, h1, he], hf⟩
  obtain ⟨d, p2, rfl, rfl, h2⟩ := hq
  have hs2 := h2.ins hs1
  refine ⟨rfl, ?_⟩
  repeat (first
    | refine OK.drawn (by decide +kernel) ?_
    | refine OK.tree ⟨lookT tis, fun _ => true, []⟩ (by decide +kernel) ?_
    | refine OK.need (by first | assumption | (rw [hA]; first | (show (_ : Int) ≠ _; decide) | (show (0 : Int) ≤ _; decide) | (show (0 : Int) ≤ _ ∧ _ < (256 : Int); decide))) ?_
    | (refine F.hold hA 2000 ?_; cbv))
  refine F.callp [0, 1, 2] (number_ok xs out lim u k b p2 4 rfl hs2) rfl rfl rfl (fun ch hch => ?_) (fun rs H' hq => ?_)
  · rw [hX]; obtain ⟨e, he, hf⟩ := hch
    unfold NumIs at h1 h2
    exact ⟨e, by unfold codesR; simp only [bind, Except.bind, h1, h2, he], hf⟩
  obtain ⟨n, p3, rfl, rfl, h3⟩ := hq
  have hs3 := h3.ins hs2
  have hC := coNum h1 h2 h3
  clear h1 h2 h3
  refine ⟨rfl, ?_⟩
  repeat (first
    | refine OK.drawn (by decide +kernel) ?_
    | refine OK.tree ⟨lookT tis, fun _ => true, []⟩ (by decide +kernel) ?_
    | refine OK.need (by first | assumption | (rw [hA]; first | (show (_ : Int) ≠ _; decide) | (show (0 : Int) ≤ _; decide) | (show (0 : Int) ≤ _ ∧ _ < (256 : Int); decide))) ?_
    | (refine F.hold hA 2000 ?_; cbv))
  refine OK.branch (fun b1 => ?_) (fun b1 => ?_)
  · repeat (first
      | refine OK.drawn (by decide +kernel) ?_
      | refine OK.tree ⟨lookT tis, fun _ => true, []⟩ (by decide +kernel) ?_
      | refine OK.need (by first | assumption | (rw [hA]; first | (show (_ : Int) ≠ _; decide) | (show (0 : Int) ≤ _; decide) | (show (0 : Int) ≤ _ ∧ _ < (256 : Int); decide))) ?_
      | (refine F.hold hA 2000 ?_; cbv))
    refine F.callp [] (need_ok _ _) rfl rfl rfl (fun ch hch => ?_) (fun rs H' hq => ?_)
    · rw [hX]
      refine ⟨10, hC.no ?_, hch.2⟩
      have h3 : A.cmp .leq d 29 = false := hch.1
      subst hA
      have h3 : ¬ d ≤ 29 := of_decide_eq_false h3
      omega
    obtain ⟨rfl, rfl, hr⟩ := hq
    have hr : A.cmp .leq d 29 = true := hr
    have hy : l ≤ 29 ∧ d ≤ 29 := by
      subst hA
      exact ⟨of_decide_eq_true b1, of_decide_eq_true hr⟩
    have z1 : A.small 19 8 := by subst hA; show (0 : Int) ≤ 19 ∧ (19 : Int) ≤ (140737488355328 : Int) ∧ (19 : Int) * ((8 : Nat) : Int) ≤ (140737488355328 : Int); decide
    have z2 : A.slb 0 19 19 := by subst hA; show (0 : Int) ≤ 0 ∧ (0 : Int) ≤ 19 ∧ (19 : Int) ≤ 19; decide
    refine ⟨rfl, ?_⟩
    repeat (first
      | refine OK.drawn (by decide +kernel) ?_
      | refine OK.tree ⟨lookT tis, fun _ => true, []⟩ (by decide +kernel) ?_
      | refine OK.need (by first | assumption | (rw [hA]; first | (show (_ : Int) ≠ _; decide) | (show (0 : Int) ≤ _; decide) | (show (0 : Int) ≤ _ ∧ _ < (256 : Int); decide))) ?_
      | (refine F.hold hA 2000 ?_; cbv))
    refine F.call [] (order_ok6) rfl rfl rfl fun rs H' hq => ?_
    obtain ⟨os, rfl, rfl, hos⟩ := hq
    refine ⟨rfl, ?_⟩
    refine F.hold hA 8 ?_
    cbv
    refine OK.more (Holds.cv (Cv.freezeCells F.cod 4 rfl) ?_)
    have hO := ordI_of hos hC.n0 hC.n1
    have z3 : A.slb 0 (A.ar .add .i64 n 4) 19 := by
      have := hO.1
      have := hO.2.1
      subst hA
      rw [hO.sub.1]
      show (0 : Int) ≤ 0 ∧ (0 : Int) ≤ n + 4 ∧ n + 4 ≤ 19
      omega
    have hst := coSt (L := orderN.take (n + 4).toNat) hA hs3
    repeat (first
      | refine OK.drawn (by decide +kernel) ?_
      | refine OK.tree ⟨lookT tis, fun _ => true, []⟩ (by decide +kernel) ?_
      | refine OK.need (by first | assumption | (rw [hA]; first | (show (_ : Int) ≠ _; decide) | (show (0 : Int) ≤ _; decide) | (show (0 : Int) ≤ _ ∧ _ < (256 : Int); decide))) ?_
      | (refine F.hold hA 2000 ?_; cbv))
    refine F.loop (V := Int × List Int × Int) [0, 4, 5, 6, 7, 29, 30] (CoI xs (orderN.take (n + 4).toNat) p3) (fun w => (40 - w.2.2).toNat) (fun w => [(31, .int .i64 w.2.2)]) (fun w => [(1, .cells 82 [.ro (.bytes xs), .int .i64 w.1]), (3, .row 3 (.ints .i64 w.2.1))]) (_, _, _) (by cbv; repeat (first | exact WkH.nil _ | apply WkH.gone | refine WkH.eq rfl ?_)) (by cbv; repeat (first | apply WkL.any | exact WkL.nil _ | refine WkL.eq rfl ?_ | refine WkL.bool rfl ?_)) (by cbv; exact ⟨rfl⟩) ?_ ?_
    · exact hst
    rintro ⟨p4, own, i⟩ hI Bk hBk
    repeat (first
      | refine OK.drawn (by decide +kernel) ?_
      | refine OK.tree ⟨lookT tis, fun _ => true, []⟩ (by decide +kernel) ?_
      | refine OK.need (by first | assumption | (rw [hA]; first | (show (_ : Int) ≠ _; decide) | (show (0 : Int) ≤ _; decide) | (show (0 : Int) ≤ _ ∧ _ < (256 : Int); decide))) ?_
      | (refine F.hold hA 2000 ?_; cbv))
    refine OK.branch (fun b1 => ?_) (fun b1 => ?_)
    · have hat := coAt hA hO hI b1
      have z4 := hat.z4
      have z5 := hat.z5
      repeat (first
        | refine OK.drawn (by decide +kernel) ?_
        | refine OK.tree ⟨lookT tis, fun _ => true, []⟩ (by decide +kernel) ?_
        | refine OK.need (by first | assumption | (rw [hA]; first | (show (_ : Int) ≠ _; decide) | (show (0 : Int) ≤ _; decide) | (show (0 : Int) ≤ _ ∧ _ < (256 : Int); decide))) ?_
        | (refine F.hold hA 2000 ?_; cbv))
      refine F.callp [0, 1, 2] (number_ok xs out lim u k b p4 3 rfl hat.s) rfl rfl rfl (fun ch hch => ?_) (fun rs H' hq => ?_)
      · rw [hX]; obtain ⟨e, he, hf⟩ := hch
        exact ⟨e, hC.ow hy e (hat.er e he), hf⟩
      obtain ⟨x, p5, rfl, rfl, h4⟩ := hq
      have hnx := hat.nx x p5 h4
      refine ⟨rfl, ?_⟩
      repeat' (first
        | refine OK.drawn (by decide +kernel) ?_
        | refine OK.tree ⟨lookT tis, fun _ => true, []⟩ (by decide +kernel) ?_
        | refine OK.both ?_ ?_
        | refine OK.need (by first | assumption | (rw [hA]; first | (show (_ : Int) ≠ _; decide) | (show (0 : Int) ≤ _; decide) | (show (0 : Int) ≤ _ ∧ _ < (256 : Int); decide))) ?_
        | refine OK.need ?_ ?_
        | (refine OK.branch ?_ ?_ <;> intro h)
        | (refine F.hold hA 2000 ?_; cbv))
      all_goals
        refine OK.back (hBk _ _ (_, _, _) (by cbv; repeat (first | exact WkH.nil _ | apply WkH.gone | refine WkH.eq rfl ?_)) (by cbv; repeat (first | apply WkL.any | exact WkL.nil _ | refine WkL.eq rfl ?_ | refine WkL.bool rfl ?_)) (by cbv; exact ⟨rfl⟩) ?_ ?_)
        · exact hnx.1
        · exact hnx.2
    · have hfin := coFin hA hO hI b1
      have c1 := hC.c1 hy p4 own hfin.ok
      have c2 := hC.rw hy p4 own hfin.ok
      have c3 := hC.al hy p4 own hfin.ok
      have hsum := coSum hA hC.l0 hC.l1 hC.d0 hC.d1
      repeat (first
        | refine OK.drawn (by decide +kernel) ?_
        | refine OK.tree ⟨lookT tis, fun _ => true, []⟩ (by decide +kernel) ?_
        | refine OK.need (by first | assumption | (rw [hA]; first | (show (_ : Int) ≠ _; decide) | (show (0 : Int) ≤ _; decide) | (show (0 : Int) ≤ _ ∧ _ < (256 : Int); decide))) ?_
        | (refine F.hold hA 2000 ?_; cbv))
      refine F.callFrz 3 rfl rfl rfl rfl ?_
      refine F.callp [] (code_ok own false false (by decide)) rfl rfl rfl (fun ch hch => ?_) (fun rs H' hq => ?_)
      · rw [hX]
        exact ⟨10, c1 10 hch.1, hch.2⟩
      obtain ⟨ws, fs, cs, ss, os, r, rfl, rfl, hco, hcr⟩ := hq
      have c2 := c2 hcr
      have c3 := c3 hcr
      have hp := coRw hfin.s hC.l0 hC.l1 hC.d0 hC.d1
      rw [← hsum.2] at hp c2 c3
      refine ⟨rfl, ?_⟩
      repeat (first
        | refine OK.drawn (by decide +kernel) ?_
        | refine OK.tree ⟨lookT tis, fun _ => true, []⟩ (by decide +kernel) ?_
        | refine OK.need (by first | assumption | (rw [hA]; first | (show (_ : Int) ≠ _; decide) | (show (0 : Int) ≤ _; decide) | (show (0 : Int) ≤ _ ∧ _ < (256 : Int); decide))) ?_
        | (refine F.hold hA 2000 ?_; cbv))
      refine F.callp [0, 1, 2, 6] (rows_ok6 xs out lim u k b p4 _ own ws fs cs ss os r hco hp) rfl rfl rfl (fun ch hch => ?_) (fun rs H' hq => ?_)
      · rw [hX]
        obtain ⟨e, he, hf⟩ := hch
        exact ⟨e, c2 e he, hf⟩
      obtain ⟨all, p5, rfl, rfl, hro⟩ := hq
      have c3 := c3 p5 all hro.1
      have hln := hro.2.2.2.2
      rw [hsum.2] at hln
      have hal := coAll hA hC.l0 hC.l1 hC.d0 hC.d1 hln
      rw [← hal.g, ← hal.t, ← hal.d] at c3
      have s5 := hro.2.1
      have pp5 := hro.2.2.1
      clear hln hro
      have q1 := hal.q1
      refine ⟨rfl, ?_⟩
      repeat (first
        | refine OK.drawn (by decide +kernel) ?_
        | refine OK.tree ⟨lookT tis, fun _ => true, []⟩ (by decide +kernel) ?_
        | refine OK.need (by first | assumption | (rw [hA]; first | (show (_ : Int) ≠ _; decide) | (show (0 : Int) ≤ _; decide) | (show (0 : Int) ≤ _ ∧ _ < (256 : Int); decide))) ?_
        | (refine F.hold hA 2000 ?_; cbv))
      refine F.callp [] (need_ok _ _) rfl rfl rfl (fun ch hch => ?_) (fun rs H' hq => ?_)
      · rw [hX]
        refine ⟨10, c3.trans (if_neg ?_), hch.2⟩
        have h3 : A.cmp .gtr (A.get 0 all 256) 0 = false := hch.1
        subst hA
        exact of_decide_eq_false h3
      obtain ⟨rfl, rfl, hr⟩ := hq
      have hr : A.cmp .gtr (A.get 0 all 256) 0 = true := hr
      have c4 := c3.trans (if_pos (by subst hA; exact of_decide_eq_true hr))
      have q2 := hal.q2
      have q3 := hal.q3
      refine ⟨rfl, ?_⟩
      repeat (first
        | refine OK.drawn (by decide +kernel) ?_
        | refine OK.tree ⟨lookT tis, fun _ => true, []⟩ (by decide +kernel) ?_
        | refine OK.need (by first | assumption | (rw [hA]; first | (show (_ : Int) ≠ _; decide) | (show (0 : Int) ≤ _; decide) | (show (0 : Int) ≤ _ ∧ _ < (256 : Int); decide))) ?_
        | (refine F.hold hA 2000 ?_; cbv))
      refine F.callp [] (code_ok (A.sub all 0 (A.ar .add .i64 l 257)) true false (by decide)) rfl rfl rfl (fun ch hch => ?_) (fun rs H' hq => ?_)
      · rw [hX]
        exact ⟨10, c4.trans (coErr1 hch.1), hch.2⟩
      obtain ⟨ws1, fs1, cs1, ss1, os1, r1, rfl, rfl, hco1, hcr1⟩ := hq
      refine ⟨rfl, ?_⟩
      repeat (first
        | refine OK.drawn (by decide +kernel) ?_
        | refine OK.tree ⟨lookT tis, fun _ => true, []⟩ (by decide +kernel) ?_
        | refine OK.need (by first | assumption | (rw [hA]; first | (show (_ : Int) ≠ _; decide) | (show (0 : Int) ≤ _; decide) | (show (0 : Int) ≤ _ ∧ _ < (256 : Int); decide))) ?_
        | (refine F.hold hA 2000 ?_; cbv))
      refine F.callp [] (code_ok (A.sub all (A.ar .add .i64 l 257) (A.len all)) true true (by decide)) rfl rfl rfl (fun ch hch => ?_) (fun rs H' hq => ?_)
      · rw [hX]
        exact ⟨10, c4.trans (coErr2 hcr1 hch.1), hch.2⟩
      obtain ⟨ws2, fs2, cs2, ss2, os2, r2, rfl, rfl, hco2, hcr2⟩ := hq
      have c5 := c4.trans (coOk hcr1 hcr2)
      refine ⟨rfl, ?_⟩
      repeat (first
        | refine OK.drawn (by decide +kernel) ?_
        | refine OK.tree ⟨lookT tis, fun _ => true, []⟩ (by decide +kernel) ?_
        | refine OK.need (by first | assumption | (rw [hA]; first | (show (_ : Int) ≠ _; decide) | (show (0 : Int) ≤ _; decide) | (show (0 : Int) ≤ _ ∧ _ < (256 : Int); decide))) ?_
        | (refine F.hold hA 2000 ?_; cbv))
      exact F.ret (rs' := [_, _]) (H' := [_, _, _, _, _, _, _, _, _, _, _]) (F.cv ⟨rfl⟩ (.eq rfl (.eq rfl (.nil _))) (.eq rfl (.eq rfl (.eq rfl (.eq rfl (.eq rfl (.eq rfl (.gone (.eq rfl (.eq rfl (.eq rfl (.eq rfl (.nil _))))))))))))) rfl ⟨p5, _, _, ws1, fs1, cs1, ss1, os1, r1, ws2, fs2, cs2, ss2, os2, r2, rfl, rfl, ⟨c5, s5, by have := hC.pp; have := hfin.pp; omega⟩, hco1, hco2⟩
  · repeat (first
      | refine OK.drawn (by decide +kernel) ?_
      | refine OK.tree ⟨lookT tis, fun _ => true, []⟩ (by decide +kernel) ?_
      | refine OK.need (by first | assumption | (rw [hA]; first | (show (_ : Int) ≠ _; decide) | (show (0 : Int) ≤ _; decide) | (show (0 : Int) ≤ _ ∧ _ < (256 : Int); decide))) ?_
      | (refine F.hold hA 2000 ?_; cbv))
    refine F.callp [] (need_ok _ _) rfl rfl rfl (fun ch hch => ?_) (fun rs H' hq => by cases hq.2.2)
    rw [hX]
    refine ⟨10, hC.no ?_, hch.2⟩
    subst hA
    have b1 : ¬ l ≤ 29 := of_decide_eq_false b1
    omega
end Go.L1

-- D15
namespace Go.L1
open Go Go.Sx Go.Proofs Go.Huff
set_option maxRecDepth 20000
set_option linter.unusedVariables false
set_option linter.unusedSimpArgs false
theorem fixA_fine : (fixA.length ≤ 320 ∧ InB fixA) ∧ roomN fixA ≤ 32768 := by
  refine ⟨⟨by decide, ?_⟩, by decide⟩
  unfold InB
  decide
theorem fixB_fine : (fixB.length ≤ 320 ∧ InB fixB) ∧ roomN fixB ≤ 32768 := by
  refine ⟨⟨by decide, ?_⟩, by decide⟩
  unfold InB
  decide
theorem new_fix (a : List Int) (h : a = fixA ∨ a = fixB) : FOK Try.prog C1 19 (fun _ => false) [.ro (.ints .i64 a)] []
    (fun rs H => ∃ ws fs cs ss os r, rs = [.ptr 1 0, .int .i64 0] ∧ H = [.gone, .cells 78 [.ro (.recs 0 ws), .arr 16 (.ints .i64 fs), .arr 16 (.ints .i64 cs), .arr 16 (.ints .i64 ss), .ro (.ints .i64 os), .int .i64 r]] ∧ CodeOK a ws fs cs ss os r) :=
  (new_ok a).mono fun rs H hq => by
    rcases hq with ⟨e, _, _, hbad⟩ | h
    · exfalso
      have hf : (a.length ≤ 320 ∧ InB a) ∧ roomN a ≤ 32768 := by
        rcases h with rfl | rfl
        · exact fixA_fine
        · exact fixB_fine
      rcases hbad with ⟨_, h⟩ | ⟨_, _, h⟩
      · exact h hf.1
      · have := hf.2; omega
    · exact h
structure BlkP (p b : Int) : Prop where
  lo : 0 ≤ b
  hi : b ≤ p
theorem addB {A : Leaf} {xs : List UInt8} {p b : Int} (hA : A = .std) (hs : InS xs p) (hb : BlkP p b) : A.ar .add .i64 b 1 = b + 1 := by
  have := hb.lo
  have := hb.hi
  have := hs.rd.hi
  have := hs.l
  subst hA
  exact add_i64 (by omega) (by omega)
theorem storP {xs out out' : List UInt8} {lim p p' k k' : Int} (hs : SySt xs lim p out k) (h : StorIs xs lim p out k p' out' k') : SySt xs lim p' out' k' ∧ p < p' := by
  obtain ⟨n, h, rfl⟩ := h
  obtain ⟨⟨n', p1⟩, h1, h⟩ := er_bind.1 h
  obtain ⟨⟨t, p2⟩, h2, h⟩ := er_bind.1 h
  have v1 := NumIs.val h1
  have v2 := NumIs.val h2
  have hi := hs.s.rd.hi
  have hk0 := hs.k.lo
  have hk1 := hs.k.hi
  have hlo := hs.s.rd.rd.lo
  have hxl := hs.s.l
  simp only at h
  split at h
  · split at h
    · rename_i hh
      obtain ⟨⟨⟩, h3, h⟩ := er_bind.1 h
      have hr := room_val h3
      injection h with h
      injection h with ha h
      injection h with hb hc
      subst ha hb hc
      obtain ⟨v11, v12, v13, v14⟩ := v1
      obtain ⟨v21, v22, v23, v24⟩ := v2
      have hl := hs.l
      refine ⟨⟨⟨⟨⟨hs.s.rd.rd.xs, by omega, by omega⟩, by omega⟩, hxl⟩, ⟨hl.lo, hl.hi, ?_⟩, ⟨by omega, by omega⟩⟩, by omega⟩
      rw [List.length_append, List.length_take]; omega
    · cases h
  · cases h
structure BlkIs (xs : List UInt8) (lim p : Int) (out : List UInt8) (k : Int) (last : Bool) (p' : Int) (out' : List UInt8) (k' : Int) : Prop where
  e : blockR xs lim p out k = .ok (last, p', out', k')
  s : SySt xs lim p' out' k'
  lt : p < p'
structure BlkN (A : Leaf) (xs : List UInt8) (lim p : Int) (out : List UInt8) (k v kind p2 : Int) : Prop where
  lt : p + 3 = p2
  s : InS xs p2
  st : SySt xs lim p2 out k
  eno : kind ≠ 0 → kind ≠ 1 → kind ≠ 2 → blockR xs lim p out k = .error 10
  e0 : kind = 0 → ∀ e, storedR xs lim p2 out = .error e → blockR xs lim p out k = .error e
  n0 : kind = 0 → ∀ p' out' k', StorIs xs lim p2 out k p' out' k' → BlkIs xs lim p out k (A.cmp .eql v 1) p' out' k'
  e1 : kind = 1 → ∀ e, symsR fixA fixB xs lim fuel p2 out k = .error e → blockR xs lim p out k = .error e
  n1 : kind = 1 → ∀ p' out' k', SymsIs6 fixA fixB xs lim p2 out k p' out' k' → SySt xs lim p' out' k' → p2 < p' → BlkIs xs lim p out k (A.cmp .eql v 1) p' out' k'
  e2 : kind = 2 → ∀ e, codesR xs p2 = .error e → blockR xs lim p out k = .error e
  e3 : kind = 2 → ∀ p3 l1 l2, CodsIs6 xs p2 p3 l1 l2 → ∀ e, symsR l1 l2 xs lim fuel p3 out k = .error e → blockR xs lim p out k = .error e
  n3 : kind = 2 → ∀ p3 l1 l2, CodsIs6 xs p2 p3 l1 l2 → ∀ p' out' k', SymsIs6 l1 l2 xs lim p3 out k p' out' k' → SySt xs lim p' out' k' → p3 < p' → BlkIs xs lim p out k (A.cmp .eql v 1) p' out' k'
theorem blkN {A : Leaf} {xs : List UInt8} {lim p : Int} {out : List UInt8} {k v p1 kind p2 : Int} (hA : A = .std) (hs : SySt xs lim p out k) (h1 : NumIs xs p 1 v p1) (h2 : NumIs xs p1 2 kind p2) : BlkN A xs lim p out k v kind p2 := by
  have v1 := h1.val
  have v2 := h2.val
  have s2 := h2.ins (h1.ins hs.s)
  have st : SySt xs lim p2 out k := ⟨s2, hs.l, ⟨hs.k.lo, by have := hs.k.hi; omega⟩⟩
  unfold NumIs at h1 h2
  subst hA
  refine ⟨by omega, s2, st, fun a b c => ?_, fun a e he => ?_, fun a p' out' k' hq => ?_, fun a e he => ?_, fun a p' out' k' hq hst hp => ⟨?_, hst, by omega⟩, fun a e he => ?_, fun a p3 l1 l2 hc e he => ?_, fun a p3 l1 l2 hc p' out' k' hq hst hp => ⟨?_, hst, ?_⟩⟩
  · unfold blockR
    simp only [bind, Except.bind, h1, h2, if_neg a, if_neg b, if_neg c]
  · subst a
    unfold blockR
    simp only [bind, Except.bind, h1, h2, if_pos, he]
  · have hq2 := storP st hq
    obtain ⟨n, hq, rfl⟩ := hq
    subst a
    refine ⟨?_, hq2.1, by omega⟩
    unfold blockR
    simp only [bind, Except.bind, h1, h2, if_pos, hq]
    rfl
  · subst a
    unfold blockR
    simp only [bind, Except.bind, h1, h2, if_neg (show ¬ (1 : Int) = 0 by decide), if_pos, he]
  · subst a
    unfold SymsIs6 at hq
    unfold blockR
    simp only [bind, Except.bind, h1, h2, if_neg (show ¬ (1 : Int) = 0 by decide), if_pos, hq]
    rfl
  · subst a
    unfold blockR
    simp only [bind, Except.bind, h1, h2, if_neg (show ¬ (2 : Int) = 0 by decide), if_neg (show ¬ (2 : Int) = 1 by decide), if_pos, he]
  · subst a
    have hc := hc.1
    unfold blockR
    simp only [bind, Except.bind, h1, h2, if_neg (show ¬ (2 : Int) = 0 by decide), if_neg (show ¬ (2 : Int) = 1 by decide), if_pos, hc, he]
  · subst a
    have hc := hc.1
    unfold SymsIs6 at hq
    unfold blockR
    simp only [bind, Except.bind, h1, h2, if_neg (show ¬ (2 : Int) = 0 by decide), if_neg (show ¬ (2 : Int) = 1 by decide), if_pos, hc, hq]
    rfl
  · have := hc.2.2
    omega
theorem block_ok6 (xs out : List UInt8) (lim u k b p : Int) (hs : SySt xs lim p out k) (hb : BlkP p b) :
    FOKp Try.prog C1 57 (fun c => Nat.ble c 1) [.ptr 0 0] [.cells 98 [.ptr 1 0, .int .i64 lim, .own 2, .int .i64 u, .int .i64 k, .int .i64 b], .cells 82 [.ro (.bytes xs), .int .i64 p], .row 5 (.bytes out)]
    (fun rs H => ∃ last p' out' k' b', rs = [.bool (.e last)] ∧ H = [.cells 98 [.ptr 1 0, .int .i64 lim, .own 2, .int .i64 u, .int .i64 k', .int .i64 b'], .cells 82 [.ro (.bytes xs), .int .i64 p'], .row 5 (.bytes out')] ∧ BlkIs xs lim p out k last p' out' k' ∧ b' = b + 1)
    (fun ch => ∃ e, blockR xs lim p out k = .error e ∧ Flt e ch) := by
  refine fokp_of (B := ⟨lookT tis, fun c => Nat.ble c 1, []⟩) (tab1 _) (zero1 _) cod1 mix1 Try.func57 (by kernel_rfl) rfl rfl rfl fun X F hX => ?_
  obtain ⟨A, hA⟩ : ∃ A, A = Leaf.std := ⟨_, rfl⟩
  refine F.hold hA 2000 ?_
  cbv
  have eb := addB hA hs.s hb
  repeat (first
    | refine OK.drawn (by decide +kernel) ?_
    | refine OK.tree ⟨lookT tis, fun _ => true, []⟩ (by decide +kernel) ?_
    | refine OK.need (by first | assumption | (rw [hA]; first | (show (_ : Int) ≠ _; decide) | (show (0 : Int) ≤ _; decide) | (show (0 : Int) ≤ _ ∧ _ < (256 : Int); decide))) ?_
    | (refine F.hold hA 2000 ?_; cbv))
  refine F.callp [0, 1, 2] (number_ok xs out lim u k b p 1 rfl hs.s) rfl rfl rfl (fun ch hch => ?_) (fun rs H' hq => ?_)
  · rw [hX]; obtain ⟨e, he, hf⟩ := hch
    exact ⟨e, by unfold blockR; simp only [bind, Except.bind, he], hf⟩
  obtain ⟨v, p1, rfl, rfl, h1⟩ := hq
  refine ⟨rfl, ?_⟩
  repeat (first
    | refine OK.drawn (by decide +kernel) ?_
    | refine OK.tree ⟨lookT tis, fun _ => true, []⟩ (by decide +kernel) ?_
    | refine OK.need (by first | assumption | (rw [hA]; first | (show (_ : Int) ≠ _; decide) | (show (0 : Int) ≤ _; decide) | (show (0 : Int) ≤ _ ∧ _ < (256 : Int); decide))) ?_
    | (refine F.hold hA 2000 ?_; cbv))
  refine F.callp [0, 1, 2] (number_ok xs out lim u k b p1 2 rfl (h1.ins hs.s)) rfl rfl rfl (fun ch hch => ?_) (fun rs H' hq => ?_)
  · rw [hX]; obtain ⟨e, he, hf⟩ := hch
    unfold NumIs at h1
    exact ⟨e, by unfold blockR; simp only [bind, Except.bind, h1, he], hf⟩
  obtain ⟨kind, p2, rfl, rfl, h2⟩ := hq
  have hN := blkN hA hs h1 h2
  clear h1 h2
  refine ⟨rfl, ?_⟩
  repeat (first
    | refine OK.drawn (by decide +kernel) ?_
    | refine OK.tree ⟨lookT tis, fun _ => true, []⟩ (by decide +kernel) ?_
    | refine OK.need (by first | assumption | (rw [hA]; first | (show (_ : Int) ≠ _; decide) | (show (0 : Int) ≤ _; decide) | (show (0 : Int) ≤ _ ∧ _ < (256 : Int); decide))) ?_
    | (refine F.hold hA 2000 ?_; cbv))
  refine OK.branch (fun b1 => ?_) (fun b1 => ?_)
  · repeat (first
      | refine OK.drawn (by decide +kernel) ?_
      | refine OK.tree ⟨lookT tis, fun _ => true, []⟩ (by decide +kernel) ?_
      | refine OK.need (by first | assumption | (rw [hA]; first | (show (_ : Int) ≠ _; decide) | (show (0 : Int) ≤ _; decide) | (show (0 : Int) ≤ _ ∧ _ < (256 : Int); decide))) ?_
      | (refine F.hold hA 2000 ?_; cbv))
    refine F.callp [0, 1, 2] (storedI_ok xs out lim u k _ p2 hN.s hN.st.l hN.st.k) rfl rfl rfl (fun ch hch => ?_) (fun rs H' hq => ?_)
    · rw [hX]; obtain ⟨e, he, hf⟩ := hch
      exact ⟨e, hN.e0 (eqT hA b1) e he, hf⟩
    obtain ⟨p', out', k', rfl, rfl, h3⟩ := hq
    have h4 := hN.n0 (eqT hA b1) p' out' k' h3
    refine ⟨rfl, ?_⟩
    repeat (first
      | refine OK.drawn (by decide +kernel) ?_
      | refine OK.tree ⟨lookT tis, fun _ => true, []⟩ (by decide +kernel) ?_
      | refine OK.need (by first | assumption | (rw [hA]; first | (show (_ : Int) ≠ _; decide) | (show (0 : Int) ≤ _; decide) | (show (0 : Int) ≤ _ ∧ _ < (256 : Int); decide))) ?_
      | (refine F.hold hA 2000 ?_; cbv))
    exact F.retE rfl ⟨_, _, _, _, _, rfl, rfl, h4, eb⟩
  · repeat (first
      | refine OK.drawn (by decide +kernel) ?_
      | refine OK.tree ⟨lookT tis, fun _ => true, []⟩ (by decide +kernel) ?_
      | refine OK.need (by first | assumption | (rw [hA]; first | (show (_ : Int) ≠ _; decide) | (show (0 : Int) ≤ _; decide) | (show (0 : Int) ≤ _ ∧ _ < (256 : Int); decide))) ?_
      | (refine F.hold hA 2000 ?_; cbv))
    refine OK.branch (fun b2 => ?_) (fun b2 => ?_)
    · repeat (first
        | refine OK.drawn (by decide +kernel) ?_
        | refine OK.tree ⟨lookT tis, fun _ => true, []⟩ (by decide +kernel) ?_
        | refine OK.need (by first | assumption | (rw [hA]; first | (show (_ : Int) ≠ _; decide) | (show (0 : Int) ≤ _; decide) | (show (0 : Int) ≤ _ ∧ _ < (256 : Int); decide))) ?_
        | (refine F.hold hA 2000 ?_; cbv))
      refine F.call [] (fixed_ok) rfl rfl rfl fun rs H' hq => ?_
      obtain ⟨fa, fb, rfl, rfl, hf⟩ := hq
      refine ⟨rfl, ?_⟩
      repeat (first
        | refine OK.drawn (by decide +kernel) ?_
        | refine OK.tree ⟨lookT tis, fun _ => true, []⟩ (by decide +kernel) ?_
        | refine OK.need (by first | assumption | (rw [hA]; first | (show (_ : Int) ≠ _; decide) | (show (0 : Int) ≤ _; decide) | (show (0 : Int) ≤ _ ∧ _ < (256 : Int); decide))) ?_
        | (refine F.hold hA 2000 ?_; cbv))
      refine F.call [] (new_fix fa (.inl hf.1)) rfl rfl rfl fun rs H' hq => ?_
      obtain ⟨ws, fs, cs, ss, os, r, rfl, rfl, hc⟩ := hq
      refine ⟨rfl, ?_⟩
      repeat (first
        | refine OK.drawn (by decide +kernel) ?_
        | refine OK.tree ⟨lookT tis, fun _ => true, []⟩ (by decide +kernel) ?_
        | refine OK.need (by first | assumption | (rw [hA]; first | (show (_ : Int) ≠ _; decide) | (show (0 : Int) ≤ _; decide) | (show (0 : Int) ≤ _ ∧ _ < (256 : Int); decide))) ?_
        | (refine F.hold hA 2000 ?_; cbv))
      refine F.call [] (new_fix fb (.inr hf.2)) rfl rfl rfl fun rs H' hq => ?_
      obtain ⟨ws2, fs2, cs2, ss2, os2, r2, rfl, rfl, hc2⟩ := hq
      refine ⟨rfl, ?_⟩
      repeat (first
        | refine OK.drawn (by decide +kernel) ?_
        | refine OK.tree ⟨lookT tis, fun _ => true, []⟩ (by decide +kernel) ?_
        | refine OK.need (by first | assumption | (rw [hA]; first | (show (_ : Int) ≠ _; decide) | (show (0 : Int) ≤ _; decide) | (show (0 : Int) ≤ _ ∧ _ < (256 : Int); decide))) ?_
        | (refine F.hold hA 2000 ?_; cbv))
      refine F.callp [0, 1, 2, 4, 6] (symbols_ok6 xs out lim u k _ p2 fa ws fs cs ss os r hc fb ws2 fs2 cs2 ss2 os2 r2 hc2 hN.st) rfl rfl rfl (fun ch hch => ?_) (fun rs H' hq => ?_)
      · rw [hX]; obtain ⟨e, he, hfl⟩ := hch
        obtain ⟨rfl, rfl⟩ := hf
        exact ⟨e, hN.e1 (eqT hA b2) e he, hfl⟩
      obtain ⟨p', out', k', rfl, rfl, h3, h4, h5⟩ := hq
      have h6 : BlkIs xs lim p out k (A.cmp .eql v 1) p' out' k' := by
        obtain ⟨rfl, rfl⟩ := hf
        exact hN.n1 (eqT hA b2) p' out' k' h3 h4 h5
      refine ⟨rfl, ?_⟩
      repeat (first
        | refine OK.drawn (by decide +kernel) ?_
        | refine OK.tree ⟨lookT tis, fun _ => true, []⟩ (by decide +kernel) ?_
        | refine OK.need (by first | assumption | (rw [hA]; first | (show (_ : Int) ≠ _; decide) | (show (0 : Int) ≤ _; decide) | (show (0 : Int) ≤ _ ∧ _ < (256 : Int); decide))) ?_
        | (refine F.hold hA 2000 ?_; cbv))
      exact F.ret (rs' := [_]) (H' := [_, _, _]) (F.cv ⟨rfl⟩ (.eq rfl (.nil _)) (.eq rfl (.eq rfl (.eq rfl (.nil _))))) rfl ⟨_, _, _, _, _, rfl, rfl, h6, eb⟩
    · repeat (first
        | refine OK.drawn (by decide +kernel) ?_
        | refine OK.tree ⟨lookT tis, fun _ => true, []⟩ (by decide +kernel) ?_
        | refine OK.need (by first | assumption | (rw [hA]; first | (show (_ : Int) ≠ _; decide) | (show (0 : Int) ≤ _; decide) | (show (0 : Int) ≤ _ ∧ _ < (256 : Int); decide))) ?_
        | (refine F.hold hA 2000 ?_; cbv))
      refine OK.branch (fun b3 => ?_) (fun b3 => ?_)
      · repeat (first
          | refine OK.drawn (by decide +kernel) ?_
          | refine OK.tree ⟨lookT tis, fun _ => true, []⟩ (by decide +kernel) ?_
          | refine OK.need (by first | assumption | (rw [hA]; first | (show (_ : Int) ≠ _; decide) | (show (0 : Int) ≤ _; decide) | (show (0 : Int) ≤ _ ∧ _ < (256 : Int); decide))) ?_
          | (refine F.hold hA 2000 ?_; cbv))
        refine F.callp [0, 1, 2] (codes_ok6 xs out lim u k _ p2 hN.s) rfl rfl rfl (fun ch hch => ?_) (fun rs H' hq => ?_)
        · rw [hX]; obtain ⟨e, he, hf⟩ := hch
          exact ⟨e, hN.e2 (eqT hA b3) e he, hf⟩
        obtain ⟨p3, l1, l2, ws, fs, cs, ss, os, r, ws2, fs2, cs2, ss2, os2, r2, rfl, rfl, hcd, hc, hc2⟩ := hq
        have st3 : SySt xs lim p3 out k := ⟨hcd.2.1, hN.st.l, ⟨hN.st.k.lo, by have := hN.st.k.hi; have := hcd.2.2; omega⟩⟩
        refine ⟨rfl, ?_⟩
        repeat (first
          | refine OK.drawn (by decide +kernel) ?_
          | refine OK.tree ⟨lookT tis, fun _ => true, []⟩ (by decide +kernel) ?_
          | refine OK.need (by first | assumption | (rw [hA]; first | (show (_ : Int) ≠ _; decide) | (show (0 : Int) ≤ _; decide) | (show (0 : Int) ≤ _ ∧ _ < (256 : Int); decide))) ?_
          | (refine F.hold hA 2000 ?_; cbv))
        refine F.callp [0, 1, 2, 8, 10] (symbols_ok6 xs out lim u k _ p3 l1 ws fs cs ss os r hc l2 ws2 fs2 cs2 ss2 os2 r2 hc2 st3) rfl rfl rfl (fun ch hch => ?_) (fun rs H' hq => ?_)
        · rw [hX]; obtain ⟨e, he, hf⟩ := hch
          exact ⟨e, hN.e3 (eqT hA b3) p3 l1 l2 hcd e he, hf⟩
        obtain ⟨p', out', k', rfl, rfl, h3, h4, h5⟩ := hq
        have h6 := hN.n3 (eqT hA b3) p3 l1 l2 hcd p' out' k' h3 h4 h5
        refine ⟨rfl, ?_⟩
        repeat (first
          | refine OK.drawn (by decide +kernel) ?_
          | refine OK.tree ⟨lookT tis, fun _ => true, []⟩ (by decide +kernel) ?_
          | refine OK.need (by first | assumption | (rw [hA]; first | (show (_ : Int) ≠ _; decide) | (show (0 : Int) ≤ _; decide) | (show (0 : Int) ≤ _ ∧ _ < (256 : Int); decide))) ?_
          | (refine F.hold hA 2000 ?_; cbv))
        exact F.ret (rs' := [_]) (H' := [_, _, _]) (F.cv ⟨rfl⟩ (.eq rfl (.nil _)) (.eq rfl (.eq rfl (.eq rfl (.nil _))))) rfl ⟨_, _, _, _, _, rfl, rfl, h6, eb⟩
      · repeat (first
          | refine OK.drawn (by decide +kernel) ?_
          | refine OK.tree ⟨lookT tis, fun _ => true, []⟩ (by decide +kernel) ?_
          | refine OK.need (by first | assumption | (rw [hA]; first | (show (_ : Int) ≠ _; decide) | (show (0 : Int) ≤ _; decide) | (show (0 : Int) ≤ _ ∧ _ < (256 : Int); decide))) ?_
          | (refine F.hold hA 2000 ?_; cbv))
        refine F.callp [] (need_ok _ _) rfl rfl rfl (fun ch hch => ?_) (fun rs H' hq => by cases hq.2.2)
        rw [hX]
        exact ⟨10, hN.eno (eqF hA b1) (eqF hA b2) (eqF hA b3), hch.2⟩
end Go.L1
