/- Own work of the session: part LL of a proof that the program's functions do what the statement says (a symbolic executor, contracts of the functions, plain laws). -/
import Derived.Test.YtmgmbcniamkfeaaLH
import Derived.Test.YtmgmbcniamkfeaaLJ
set_option linter.all false
-- H12
namespace Go.L1
open Go Go.Sx Go.Proofs Go.Huff
set_option linter.unusedVariables false
set_option linter.unusedSimpArgs false
set_option maxRecDepth 4000
def hdB (last n : Nat) : List UInt8 := [UInt8.ofNat last, UInt8.ofNat (n % 256), UInt8.ofNat (n / 256), UInt8.ofNat (255 - n % 256), UInt8.ofNat (255 - n / 256)]
def blkB (last : Nat) (l : List UInt8) : List UInt8 := hdB last l.length ++ l
def pkB : List (List UInt8) → List UInt8
  | [] => []
  | l :: r => blkB (if r.length = 0 then 1 else 0) l ++ pkB r
theorem num_at {xs ys : List UInt8} {j : Nat} (hj : j ≤ xs.length) (hd : xs.drop j = ys) {p : Int} {q n : Nat} (hp : p = 8 * j + q) (hq : q + n ≤ 8 * ys.length) :
    numR xs p n = .ok ((valBytes ys / 2 ^ q % 2 ^ n : Nat), p + n) := by
  have hl : ys.length = xs.length - j := by rw [← hd, List.length_drop]
  unfold numR
  rw [if_pos (by omega)]
  have e : bitsV xs p = valBytes ys / 2 ^ q := by
    unfold bitsV
    rw [← hd, valBytes_drop, Nat.div_div_eq_div_mul, show p.toNat = 8 * j + q from by omega, Nat.pow_add, Nat.pow_mul]
  rw [e]
theorem block_stored {xs rest l out : List UInt8} {j last : Nat} {lim k : Int} (hj : j ≤ xs.length) (hd : xs.drop j = blkB last l ++ rest) (h1 : last ≤ 1) (hl : l.length ≤ 3000) (hr : (out.length : Int) + l.length ≤ lim) :
    blockR xs lim (8 * j) out k = .ok (last == 1, 8 * (j + 5 + l.length : Nat), out ++ l, k + l.length) := by
  generalize hW : valBytes (l ++ rest) = W
  have hV : valBytes (blkB last l ++ rest) = last + 256 * (l.length % 256 + 256 * (l.length / 256 + 256 * (255 - l.length % 256 + 256 * (255 - l.length / 256 + 256 * W)))) := by
    unfold blkB hdB
    simp only [List.cons_append, List.nil_append, valBytes_cons, hW]
    have e : ∀ x : Nat, x < 256 → (UInt8.ofNat x).toNat = x := fun x hx => by simp; omega
    rw [e _ (by omega), e _ (by omega), e _ (by omega), e _ (by omega), e _ (by omega)]
  have hyl : (blkB last l ++ rest).length = 5 + l.length + rest.length := by simp [blkB, hdB]; omega
  have hxl : xs.length = j + 5 + l.length + rest.length := by
    have := congrArg List.length hd
    rw [List.length_drop, hyl] at this
    omega
  generalize hn : l.length = n at *
  have n1 : numR xs (8 * j) 1 = .ok ((last : Nat), 8 * j + 1) := by
    rw [num_at hj hd (q := 0) (by omega) (by omega), hV]
    have : (last + 256 * (n % 256 + 256 * (n / 256 + 256 * (255 - n % 256 + 256 * (255 - n / 256 + 256 * W))))) / 2 ^ 0 % 2 ^ 1 = last := by
      rw [Nat.pow_zero, Nat.div_one, Nat.pow_one]; omega
    rw [this]; rfl
  have n2 : numR xs (8 * j + 1) 2 = .ok (0, 8 * j + 3) := by
    rw [num_at hj hd (q := 1) (by omega) (by omega), hV]
    have : (last + 256 * (n % 256 + 256 * (n / 256 + 256 * (255 - n % 256 + 256 * (255 - n / 256 + 256 * W))))) / 2 ^ 1 % 2 ^ 2 = 0 := by
      rw [Nat.pow_one, show (2 : Nat) ^ 2 = 4 from rfl]; omega
    rw [this]; exact congrArg Except.ok (Prod.ext rfl (by simp only; omega))
  have n3 : numR xs (8 * ((8 * j + 3 + 7) / 8)) 16 = .ok ((n : Nat), 8 * j + 24) := by
    rw [num_at hj hd (q := 8) (by omega) (by omega), hV]
    have : (last + 256 * (n % 256 + 256 * (n / 256 + 256 * (255 - n % 256 + 256 * (255 - n / 256 + 256 * W))))) / 2 ^ 8 % 2 ^ 16 = n := by
      rw [show (2 : Nat) ^ 8 = 256 from rfl, show (2 : Nat) ^ 16 = 65536 from rfl]; omega
    rw [this]; exact congrArg Except.ok (Prod.ext rfl (by simp only; omega))
  have n4 : numR xs (8 * j + 24) 16 = .ok ((65535 - n : Nat), 8 * j + 40) := by
    rw [num_at hj hd (q := 24) (by omega) (by omega), hV]
    have : (last + 256 * (n % 256 + 256 * (n / 256 + 256 * (255 - n % 256 + 256 * (255 - n / 256 + 256 * W))))) / 2 ^ 24 % 2 ^ 16 = 65535 - n := by
      rw [show (2 : Nat) ^ 24 = 256 * 256 * 256 from rfl, show (2 : Nat) ^ 16 = 65536 from rfl, ← Nat.div_div_eq_div_mul, ← Nat.div_div_eq_div_mul]
      have f1 : (last + 256 * (n % 256 + 256 * (n / 256 + 256 * (255 - n % 256 + 256 * (255 - n / 256 + 256 * W))))) / 256 = n % 256 + 256 * (n / 256 + 256 * (255 - n % 256 + 256 * (255 - n / 256 + 256 * W))) := by omega
      have f2 : (n % 256 + 256 * (n / 256 + 256 * (255 - n % 256 + 256 * (255 - n / 256 + 256 * W)))) / 256 = n / 256 + 256 * (255 - n % 256 + 256 * (255 - n / 256 + 256 * W)) := by omega
      have f3 : (n / 256 + 256 * (255 - n % 256 + 256 * (255 - n / 256 + 256 * W))) / 256 = 255 - n % 256 + 256 * (255 - n / 256 + 256 * W) := by omega
      rw [f1, f2, f3]
      omega
    rw [this]; exact congrArg Except.ok (Prod.ext rfl (by simp only; omega))
  have hs : storedR xs lim (8 * j + 3) out = .ok (8 * ((j + 5 + n : Nat) : Int), out ++ l, (n : Int)) := by
    unfold storedR
    simp only [bind, Except.bind, n3, n4]
    rw [if_pos (by omega), if_pos (by omega)]
    have e1 : roomR lim out n = .ok () := by unfold roomR; rw [if_pos (by omega)]
    rw [e1]
    have e2 : ((8 * (j : Int) + 40 + 7) / 8).toNat = j + 5 := by omega
    have e3 : xs.drop (j + 5) = l ++ rest := by
      have := congrArg (List.drop 5) hd
      rw [List.drop_drop] at this
      rw [this]
      rfl
    simp only [e2, e3]
    have e4 : (l ++ rest).take (n : Int).toNat = l := by
      rw [Int.toNat_natCast, List.take_append_of_le_length (by omega), List.take_of_length_le (by omega)]
    rw [e4]
    refine congrArg Except.ok (Prod.ext ?_ rfl)
    simp only
    omega
  unfold blockR
  simp only [bind, Except.bind, n1, n2]
  rw [if_pos trivial, hs]
  refine congrArg Except.ok (Prod.ext ?_ rfl)
  simp only
  rcases Nat.le_one_iff_eq_zero_or_eq_one.1 h1 with rfl | rfl <;> rfl
theorem blocks_stored {xs : List UInt8} {lim : Int} : ∀ (ls : List (List UInt8)) (f j : Nat) (out : List UInt8) (k b : Int), ls ≠ [] → ls.length ≤ f → j ≤ xs.length → xs.drop j = pkB ls → (∀ l ∈ ls, l.length ≤ 3000) → (out.length : Int) + ls.flatten.length ≤ lim →
    blocksR xs lim f (8 * j) out k b = .ok (8 * (j + (pkB ls).length : Nat), out ++ ls.flatten, k + ls.flatten.length, b + ls.length)
  | [], f, j, out, k, b, h, _, _, _, _, _ => absurd rfl h
  | l :: r, 0, j, out, k, b, _, hf, _, _, _, _ => by simp at hf
  | l :: r, f + 1, j, out, k, b, _, hf, hj, hd, hl, hr => by
    have hd' := hd
    unfold pkB at hd'
    simp only [List.flatten_cons, List.length_append, List.length_cons] at hr hf
    have h1 := block_stored (k := k) (lim := lim) (out := out) hj hd' (by split <;> omega) (hl l (by simp)) (by omega)
    unfold blocksR
    simp only [bind, Except.bind, h1]
    have hyl : (blkB (if r.length = 0 then 1 else 0) l).length = 5 + l.length := by simp [blkB, hdB]; omega
    have hxl : xs.length = j + 5 + l.length + (pkB r).length := by
      have := congrArg List.length hd'
      rw [List.length_drop, List.length_append, hyl] at this
      omega
    have hpl : (pkB (l :: r)).length = 5 + l.length + (pkB r).length := by
      rw [show pkB (l :: r) = blkB (if r.length = 0 then 1 else 0) l ++ pkB r from rfl, List.length_append, hyl]
    by_cases hr0 : r = []
    · subst hr0
      rw [if_pos (show ((if ([] : List (List UInt8)).length = 0 then 1 else 0 : Nat) == 1) = true from rfl), hpl]
      simp only [List.flatten_cons, List.flatten_nil, List.append_nil, List.length_cons, List.length_nil, pkB]
      refine congrArg Except.ok (Prod.ext ?_ rfl)
      simp only
      omega
    · have hr1 : r.length ≠ 0 := by simpa using hr0
      rw [if_neg (show ¬ ((if r.length = 0 then 1 else 0 : Nat) == 1) = true by rw [if_neg hr1]; decide)]
      have h2 := blocks_stored (xs := xs) (lim := lim) r f (j + 5 + l.length) (out ++ l) (k + l.length) (b + 1) hr0 (by omega) (by omega) (by
        have := congrArg (List.drop (5 + l.length)) hd'
        rw [List.drop_drop] at this
        rw [show j + 5 + l.length = j + (5 + l.length) from by omega, this, ← hyl, List.drop_left]) (fun x hx => hl x (by simp [hx])) (by rw [List.length_append]; omega)
      rw [h2, hpl]
      simp only [List.flatten_cons, List.length_append, List.append_assoc, List.length_cons]
      refine congrArg Except.ok (Prod.ext ?_ (Prod.ext rfl (Prod.ext ?_ ?_)))
      · simp only; omega
      · simp only; omega
      · simp only; omega
theorem infl_stored {ls : List (List UInt8)} (h0 : ls ≠ []) (h1 : ls.length ≤ 100) (hl : ∀ l ∈ ls, l.length ≤ 3000) :
    inflR (pkB ls) (ls.flatten.length : Nat) = .ok (ls.flatten, ((pkB ls).length : Nat), (ls.flatten.length : Nat), (ls.length : Nat)) := by
  unfold inflR
  have h2 := blocks_stored (xs := pkB ls) (lim := max ((ls.flatten.length : Nat) : Int) 0) ls fuel 0 [] 0 0 h0 (by unfold fuel; omega) (by omega) rfl hl (by simp only [List.length_nil]; omega)
  simp only [Nat.zero_add, List.nil_append, Int.zero_add] at h2
  have e : ((8 : Int) * (0 : Nat)) = 0 := rfl
  rw [e] at h2
  simp only [bind, Except.bind, h2]
  refine congrArg Except.ok (Prod.ext rfl (Prod.ext ?_ rfl))
  simp only
  omega
end Go.L1

-- D23
namespace Go.L1
open Go Go.Sx Go.Proofs Go.Huff
set_option maxRecDepth 20000
set_option linter.unusedVariables false
set_option linter.unusedSimpArgs false
structure SlOK (ls : List (List UInt8)) : Prop where
  l : ls.length ≤ 20
  n : ls ≠ []
theorem slOK {A : Leaf} {ls : List (List UInt8)} (hA : A = .std) (h1 : A.cmp .gtr (A.len ls) 20 = false) (h2 : A.cmp .eql (A.len ls) 0 = false) : SlOK ls := by
  subst hA
  have h1 : ¬ (20 : Int) < ls.length := of_decide_eq_false h1
  have h2 : (((ls.length : Nat) : Int) == 0) = false := h2
  refine ⟨by omega, fun h => ?_⟩
  subst h
  cases h2
def SlInv (ls : List (List UInt8)) (w : Int × List UInt8 × List UInt8) : Prop :=
  ∃ j : Nat, w.1 = j ∧ j ≤ ls.length ∧ w.2.1 ++ pkB (ls.drop j) = pkB ls ∧ w.2.2 = (ls.take j).flatten ∧ w.2.1.length ≤ 3005 * j ∧ w.2.2.length ≤ 3000 * j ∧ ∀ x ∈ ls.take j, x.length ≤ 3000
theorem slStart (ls : List (List UInt8)) : SlInv ls (0, [], []) := ⟨0, rfl, Nat.zero_le _, rfl, rfl, Nat.le_refl _, Nat.le_refl _, fun x h => by simp at h⟩
def hdE (A : Leaf) (last : Int) (e : List UInt8) : List UInt8 := [A.i2b last, A.i2b (A.conv .u8 (A.len e)), A.i2b (A.conv .u8 (A.ar .shr .i64 (A.len e) 8)), A.i2b (A.cpl .u8 (A.conv .u8 (A.len e))), A.i2b (A.cpl .u8 (A.conv .u8 (A.ar .shr .i64 (A.len e) 8)))]
structure SlB (A : Leaf) (ls : List (List UInt8)) (i : Int) (row all : List UInt8) (last : Int) : Prop where
  qb : (((A.isB (A.cpl .u8 (A.conv .u8 (A.ar .shr .i64 (A.len (A.get [] ls i)) 8))) ∧ A.isB (A.cpl .u8 (A.conv .u8 (A.len (A.get [] ls i))))) ∧ A.isB (A.conv .u8 (A.ar .shr .i64 (A.len (A.get [] ls i)) 8))) ∧ A.isB (A.conv .u8 (A.len (A.get [] ls i)))) ∧ A.isB last
  q1 : A.small (A.len (A.app row (hdE A last (A.get [] ls i)))) 1
  q2 : A.small (A.len (A.app (A.app row (hdE A last (A.get [] ls i))) (A.get [] ls i))) 1
  q3 : A.small (A.len (A.app all (A.get [] ls i))) 1
  nx : SlInv ls (A.ar .add .i64 i 1, A.app (A.app row (hdE A last (A.get [] ls i))) (A.get [] ls i), A.app all (A.get [] ls i)) ∧ (ls.length - (A.ar .add .i64 i 1)).toNat < (ls.length - i).toNat
theorem cpl_u8 {n : Nat} (h : n < 256) : Leaf.std.cpl .u8 (n : Int) = ((255 - n : Nat) : Int) := by
  have : ∀ i : Fin 256, Leaf.std.cpl .u8 (i.1 : Int) = ((255 - i.1 : Nat) : Int) := by decide +kernel
  exact this ⟨n, h⟩
theorem slSmall {n m : Nat} (h : n ≤ 100000) (hm : m = n) : Leaf.std.small ((m : Nat) : Int) 1 := by
  show (0 : Int) ≤ (m : Nat) ∧ ((m : Nat) : Int) ≤ 140737488355328 ∧ ((m : Nat) : Int) * (1 : Nat) ≤ 140737488355328
  omega
theorem slGet {A : Leaf} {ls : List (List UInt8)} {i : Int} (hA : A = .std) (h0 : SlOK ls) {row all : List UInt8} (hI : SlInv ls (i, row, all)) (h : A.cmp .lss i (A.len ls) = true) : A.inb i (A.len ls) := by
  subst hA
  obtain ⟨j, h1, h2, _⟩ := hI
  have h : i < ls.length := of_decide_eq_true h
  simp only at h1
  exact ⟨by omega, h⟩
theorem slB {A : Leaf} {ls : List (List UInt8)} {i : Int} {row all : List UInt8} (hA : A = .std) (h0 : SlOK ls) (hI : SlInv ls (i, row, all)) (h : A.cmp .lss i (A.len ls) = true) (h3 : A.cmp .gtr (A.len (A.get [] ls i)) 3000 = false)
    {last : Int} {c : Bool} (h4 : A.cmp .eql i (A.ar .sub .i64 (A.len ls) 1) = c) (h5 : last = if c = true then 1 else 0) : SlB A ls i row all last := by
  subst hA
  obtain ⟨j, h1, h2, k1, k2, k3, k4, k5⟩ := hI
  simp only at h1 k1 k2 k3 k4
  have h : i < ls.length := of_decide_eq_true h
  have hl := h0.l
  have hj : j < ls.length := by omega
  obtain ⟨e, he⟩ : ∃ e, e = ls[j] := ⟨_, rfl⟩
  have ge : Leaf.std.get [] ls i = e := by
    show ls.getD i.toNat [] = e
    rw [h1, Int.toNat_natCast, List.getD_eq_getElem?_getD, List.getElem?_eq_getElem hj, he]; rfl
  have h3 : ¬ (3000 : Int) < (Leaf.std.get [] ls i).length := of_decide_eq_false h3
  rw [ge] at h3
  have hsub : Leaf.std.ar .sub .i64 (ls.length : Int) 1 = ls.length - 1 := sub_i64 (by omega) (by omega)
  have hc : c = decide (j + 1 = ls.length) := by
    rw [← h4]
    show (i == Leaf.std.ar .sub .i64 (ls.length : Int) 1) = _
    rw [hsub, h1]
    rcases Nat.lt_or_ge (j + 1) ls.length with hh | hh
    · rw [decide_eq_false (by omega)]
      simp
      omega
    · rw [decide_eq_true (by omega)]
      simp
      omega
  obtain ⟨lt, hlt⟩ : ∃ lt : Nat, lt = if (ls.drop (j + 1)).length = 0 then 1 else 0 := ⟨_, rfl⟩
  have hlast : last = lt := by
    rw [h5, hc, hlt, List.length_drop]
    by_cases hh : j + 1 = ls.length
    · rw [if_pos (by simpa using hh), if_pos (by omega)]; rfl
    · rw [if_neg (by simpa using hh), if_neg (by omega)]; rfl
  have ltl : lt ≤ 1 := by rw [hlt]; split <;> omega
  have e1 : Leaf.std.conv .u8 (e.length : Int) = ((e.length % 256 : Nat) : Int) := by
    show LConv .u8 _ = _
    rw [l_wrap8]; omega
  have e2 : Leaf.std.ar .shr .i64 (e.length : Int) 8 = ((e.length / 256 : Nat) : Int) := by
    show LAr .shr .i64 _ 8 = _
    rw [l_shr_i64 (by omega) (by omega), show ((2 : Int) ^ (8 : Int).toNat) = 256 from rfl]; omega
  have e3 : Leaf.std.conv .u8 ((e.length / 256 : Nat) : Int) = ((e.length / 256 : Nat) : Int) := conv_u8 (by omega) (by omega)
  have e4 := cpl_u8 (n := e.length % 256) (by omega)
  have e5 := cpl_u8 (n := e.length / 256) (by omega)
  have eh : hdE Leaf.std last e = hdB lt e.length := by
    unfold hdE hdB
    show [UInt8.ofNat last.toNat, UInt8.ofNat (Leaf.std.conv .u8 (e.length : Int)).toNat, UInt8.ofNat (Leaf.std.conv .u8 (Leaf.std.ar .shr .i64 (e.length : Int) 8)).toNat, UInt8.ofNat (Leaf.std.cpl .u8 (Leaf.std.conv .u8 (e.length : Int))).toNat, UInt8.ofNat (Leaf.std.cpl .u8 (Leaf.std.conv .u8 (Leaf.std.ar .shr .i64 (e.length : Int) 8))).toNat] = _
    rw [e1, e2, e3, e4, e5, hlast]
    simp only [Int.toNat_natCast]
  have ea : Leaf.std.ar .add .i64 i 1 = ((j + 1 : Nat) : Int) := by rw [h1]; exact add_i64 (by omega) (by omega)
  have ehl : (hdB lt e.length).length = 5 := rfl
  have hB : ∀ n : Nat, n < 256 → Leaf.std.isB (n : Int) := fun n hn => by show (0 : Int) ≤ n ∧ (n : Int) < 256; omega
  refine ⟨?_, ?_, ?_, ?_, ?_, ?_⟩
  · rw [ge]
    show (((Leaf.std.isB (Leaf.std.cpl .u8 (Leaf.std.conv .u8 (Leaf.std.ar .shr .i64 (e.length : Int) 8))) ∧ Leaf.std.isB (Leaf.std.cpl .u8 (Leaf.std.conv .u8 (e.length : Int)))) ∧ Leaf.std.isB (Leaf.std.conv .u8 (Leaf.std.ar .shr .i64 (e.length : Int) 8))) ∧ Leaf.std.isB (Leaf.std.conv .u8 (e.length : Int))) ∧ Leaf.std.isB last
    rw [e1, e2, e3, e4, e5, hlast]
    exact ⟨⟨⟨⟨hB _ (by omega), hB _ (by omega)⟩, hB _ (by omega)⟩, hB _ (by omega)⟩, hB _ (by omega)⟩
  · rw [ge, eh]
    exact slSmall (n := row.length + 5) (by omega) (by rw [show Leaf.std.app row (hdB lt e.length) = row ++ hdB lt e.length from rfl, List.length_append, ehl])
  · rw [ge, eh]
    exact slSmall (n := row.length + 5 + e.length) (by omega) (by rw [show Leaf.std.app (Leaf.std.app row (hdB lt e.length)) e = row ++ hdB lt e.length ++ e from rfl, List.length_append, List.length_append, ehl])
  · rw [ge]
    exact slSmall (n := all.length + e.length) (by omega) (by rw [show Leaf.std.app all e = all ++ e from rfl, List.length_append])
  · rw [ge, eh, ea]
    have hdr : ls.drop j = e :: ls.drop (j + 1) := by rw [he, List.drop_eq_getElem_cons hj]
    have htk : ls.take (j + 1) = ls.take j ++ [e] := by rw [List.take_add_one, List.getElem?_eq_getElem hj, he]; rfl
    refine ⟨j + 1, rfl, by omega, ?_, ?_, ?_, ?_, ?_⟩
    · show row ++ hdB lt e.length ++ e ++ pkB (ls.drop (j + 1)) = pkB ls
      rw [← k1, hdr]
      show _ = row ++ (blkB (if (ls.drop (j + 1)).length = 0 then 1 else 0) e ++ pkB (ls.drop (j + 1)))
      rw [← hlt]
      unfold blkB
      simp only [List.append_assoc]
    · show all ++ e = _
      rw [htk, List.flatten_append, k2]
      simp
    · show (row ++ hdB lt e.length ++ e).length ≤ _
      rw [List.length_append, List.length_append, ehl]; omega
    · show (all ++ e).length ≤ _
      rw [List.length_append]; omega
    · rw [htk]
      intro x hx
      rcases List.mem_append.1 hx with hx | hx
      · exact k5 x hx
      · simp at hx; subst hx; omega
  · rw [ea, h1]; omega
structure SlF (A : Leaf) (ls : List (List UInt8)) (row all : List UInt8) : Prop where
  p : InfP row (A.len all)
  e : inflR row (A.len all) = .ok (all, A.len row, A.len all, A.len ls)
  ol : all.length ≤ 100000000000
theorem slF {A : Leaf} {ls : List (List UInt8)} {i : Int} {row all : List UInt8} (hA : A = .std) (h0 : SlOK ls) (hI : SlInv ls (i, row, all)) (h : A.cmp .lss i (A.len ls) = false) : SlF A ls row all := by
  subst hA
  obtain ⟨j, h1, h2, k1, k2, k3, k4, k5⟩ := hI
  simp only at h1 k1 k2 k3 k4
  have h : ¬ i < ls.length := of_decide_eq_false h
  have hl := h0.l
  obtain rfl : j = ls.length := by omega
  rw [List.drop_length] at k1
  rw [List.take_length] at k2 k5
  have k1 : row = pkB ls := by rw [← k1]; simp [pkB]
  have he := infl_stored h0.n (by omega) k5
  rw [← k1, ← k2] at he
  exact ⟨⟨by omega, by show (all.length : Int) ≤ _; omega⟩, he, by omega⟩
theorem stored_law (ls : List (List UInt8)) : FOK Try.prog C1 12 (fun _ => false) [.ro (.recs 4 ls)] [] Yes := by
  refine fok_of (B := ⟨lookT tis, fun _ => false, []⟩) (tab1 _) (zero1 _) cod1 mix1 Try.func12 (by kernel_rfl) rfl rfl rfl fun X F => ?_
  obtain ⟨A, hA⟩ : ∃ A, A = Leaf.std := ⟨_, rfl⟩
  refine F.hold hA 2000 ?_
  cbv
  repeat' (first
    | refine OK.drawn (by decide +kernel) ?_
    | refine OK.tree ⟨lookT tis, fun _ => true, []⟩ (by decide +kernel) ?_
    | refine OK.both ?_ ?_
    | refine OK.need (by first | assumption | (rw [hA]; first | (show (_ : Int) ≠ _; decide) | (show (0 : Int) ≤ _; decide) | (show (0 : Int) ≤ _ ∧ _ < (256 : Int); decide))) ?_
    | refine OK.need ?_ ?_
    | (refine OK.branch ?_ ?_ <;> intro h)
    | (refine F.hold hA 2000 ?_; cbv))
  refine F.call [] (alive6_ok) rfl rfl rfl fun rs H' hq => ?_
  obtain ⟨b, rfl, rfl, rfl⟩ := hq
  refine ⟨rfl, ?_⟩
  repeat' (first
    | contradiction
    | exact (bnot_t hA (by assumption)).elim
    | refine OK.drawn (by decide +kernel) ?_
    | refine OK.tree ⟨lookT tis, fun _ => true, []⟩ (by decide +kernel) ?_
    | refine OK.both ?_ ?_
    | refine OK.need (by first | assumption | (rw [hA]; first | (show (_ : Int) ≠ _; decide) | (show (0 : Int) ≤ _; decide) | (show (0 : Int) ≤ _ ∧ _ < (256 : Int); decide))) ?_
    | refine OK.need ?_ ?_
    | (refine OK.branch ?_ ?_ <;> intro h)
    | (refine F.hold hA 2000 ?_; cbv))
  · exact F.ret0 ⟨_, rfl, rfl⟩
  · exact F.ret0 ⟨_, rfl, rfl⟩
  have h0 := slOK hA (by assumption) (by assumption)
  refine F.loop (V := Int × List UInt8 × List UInt8) [0, 1] (SlInv ls) (fun w => (ls.length - w.1).toNat) (fun w => [(3, .own 0), (4, .own 1), (5, .int .i64 w.1)]) (fun w => [(0, .row 5 (.bytes w.2.1)), (1, .row 5 (.bytes w.2.2))]) (_, _, _) (by cbv; repeat (first | exact WkH.nil _ | apply WkH.gone | refine WkH.eq rfl ?_)) (by cbv; repeat (first | apply WkL.any | exact WkL.nil _ | refine WkL.eq rfl ?_ | refine WkL.bool rfl ?_)) (by cbv; exact ⟨rfl⟩) ?_ ?_
  · exact slStart ls
  rintro ⟨i, row, all⟩ hI Bk hBk
  repeat (first
    | refine OK.drawn (by decide +kernel) ?_
    | refine OK.tree ⟨lookT tis, fun _ => true, []⟩ (by decide +kernel) ?_
    | refine OK.need (by first | assumption | (rw [hA]; first | (show (_ : Int) ≠ _; decide) | (show (0 : Int) ≤ _; decide) | (show (0 : Int) ≤ _ ∧ _ < (256 : Int); decide))) ?_
    | (refine F.hold hA 2000 ?_; cbv))
  refine OK.branch (fun b1 => ?_) (fun b1 => ?_)
  · have q0 := slGet hA h0 hI b1
    repeat (first
      | refine OK.drawn (by decide +kernel) ?_
      | refine OK.tree ⟨lookT tis, fun _ => true, []⟩ (by decide +kernel) ?_
      | refine OK.need (by first | assumption | (rw [hA]; first | (show (_ : Int) ≠ _; decide) | (show (0 : Int) ≤ _; decide) | (show (0 : Int) ≤ _ ∧ _ < (256 : Int); decide))) ?_
      | (refine F.hold hA 2000 ?_; cbv))
    refine OK.branch (fun b2 => ?_) (fun b2 => ?_)
    · repeat (first
        | refine OK.drawn (by decide +kernel) ?_
        | refine OK.tree ⟨lookT tis, fun _ => true, []⟩ (by decide +kernel) ?_
        | refine OK.need (by first | assumption | (rw [hA]; first | (show (_ : Int) ≠ _; decide) | (show (0 : Int) ≤ _; decide) | (show (0 : Int) ≤ _ ∧ _ < (256 : Int); decide))) ?_
        | (refine F.hold hA 2000 ?_; cbv))
      exact F.ret0 ⟨_, rfl, rfl⟩
    repeat (first
      | refine OK.drawn (by decide +kernel) ?_
      | refine OK.tree ⟨lookT tis, fun _ => true, []⟩ (by decide +kernel) ?_
      | refine OK.need (by first | assumption | (rw [hA]; first | (show (_ : Int) ≠ _; decide) | (show (0 : Int) ≤ _; decide) | (show (0 : Int) ≤ _ ∧ _ < (256 : Int); decide))) ?_
      | (refine F.hold hA 2000 ?_; cbv))
    refine OK.branch (fun b3 => ?_) (fun b3 => ?_)
    · have hB := slB hA h0 hI b1 b2 (last := 1) b3 rfl
      have qb := hB.qb
      have q1 := hB.q1
      have q2 := hB.q2
      have q3 := hB.q3
      repeat' (first
        | refine OK.drawn (by decide +kernel) ?_
        | refine OK.tree ⟨lookT tis, fun _ => true, []⟩ (by decide +kernel) ?_
        | refine OK.both ?_ ?_
        | refine OK.need (by first | assumption | (rw [hA]; first | (show (_ : Int) ≠ _; decide) | (show (0 : Int) ≤ _; decide) | (show (0 : Int) ≤ _ ∧ _ < (256 : Int); decide))) ?_
        | refine OK.need ?_ ?_
        | (refine OK.branch ?_ ?_ <;> intro h)
        | (refine F.hold hA 2000 ?_; cbv))
      any_goals refine OK.back (hBk _ _ (_, _, _) (by cbv; repeat (first | exact WkH.nil _ | apply WkH.gone | refine WkH.eq rfl ?_)) (by cbv; repeat (first | apply WkL.any | exact WkL.nil _ | refine WkL.eq rfl ?_ | refine WkL.bool rfl ?_)) (by cbv; exact ⟨rfl⟩) ?_ ?_)
      all_goals first | exact hB.qb | exact hB.q1 | exact hB.q2 | exact hB.q3 | exact hB.nx.1 | exact hB.nx.2
    · have hB := slB hA h0 hI b1 b2 (last := 0) b3 rfl
      have qb := hB.qb
      have q1 := hB.q1
      have q2 := hB.q2
      have q3 := hB.q3
      repeat' (first
        | refine OK.drawn (by decide +kernel) ?_
        | refine OK.tree ⟨lookT tis, fun _ => true, []⟩ (by decide +kernel) ?_
        | refine OK.both ?_ ?_
        | refine OK.need (by first | assumption | (rw [hA]; first | (show (_ : Int) ≠ _; decide) | (show (0 : Int) ≤ _; decide) | (show (0 : Int) ≤ _ ∧ _ < (256 : Int); decide))) ?_
        | refine OK.need ?_ ?_
        | (refine OK.branch ?_ ?_ <;> intro h)
        | (refine F.hold hA 2000 ?_; cbv))
      any_goals refine OK.back (hBk _ _ (_, _, _) (by cbv; repeat (first | exact WkH.nil _ | apply WkH.gone | refine WkH.eq rfl ?_)) (by cbv; repeat (first | apply WkL.any | exact WkL.nil _ | refine WkL.eq rfl ?_ | refine WkL.bool rfl ?_)) (by cbv; exact ⟨rfl⟩) ?_ ?_)
      all_goals first | exact hB.qb | exact hB.q1 | exact hB.q2 | exact hB.q3 | exact hB.nx.1 | exact hB.nx.2
  have hF := slF hA h0 hI b1
  clear hBk
  repeat (first
    | refine OK.drawn (by decide +kernel) ?_
    | refine OK.tree ⟨lookT tis, fun _ => true, []⟩ (by decide +kernel) ?_
    | refine OK.need (by first | assumption | (rw [hA]; first | (show (_ : Int) ≠ _; decide) | (show (0 : Int) ≤ _; decide) | (show (0 : Int) ≤ _ ∧ _ < (256 : Int); decide))) ?_
    | (refine F.hold hA 2000 ?_; cbv))
  refine F.callFrz 0 rfl rfl rfl rfl ?_
  refine F.call [] (inflate_ok _ _ hF.p) rfl rfl rfl fun rs H' hq => ?_
  obtain ⟨rfl, rfl⟩ := hq.isOk hF.e
  refine ⟨rfl, ?_⟩
  clear hq
  repeat' (first
    | contradiction
    | exact (eql_self hA (by assumption)).elim
    | refine OK.drawn (by decide +kernel) ?_
    | refine OK.tree ⟨lookT tis, fun _ => true, []⟩ (by decide +kernel) ?_
    | refine OK.both ?_ ?_
    | refine OK.need (by first | assumption | (rw [hA]; first | (show (_ : Int) ≠ _; decide) | (show (0 : Int) ≤ _; decide) | (show (0 : Int) ≤ _ ∧ _ < (256 : Int); decide))) ?_
    | refine OK.need ?_ ?_
    | (refine OK.branch ?_ ?_ <;> intro h)
    | (refine F.hold hA 2000 ?_; cbv))
  refine F.callFrz 1 rfl rfl rfl rfl ?_
  refine F.callFrz 7 rfl rfl rfl rfl ?_
  refine F.call [] (same_ok all all hF.ol) rfl rfl rfl fun rs H' hq => ?_
  obtain ⟨r, rfl, rfl, hr⟩ := hq
  obtain rfl : r = true := hr.2 rfl
  refine ⟨rfl, ?_⟩
  clear hr
  repeat' (first
    | contradiction
    | exact (eql_self hA (by assumption)).elim
    | refine OK.drawn (by decide +kernel) ?_
    | refine OK.tree ⟨lookT tis, fun _ => true, []⟩ (by decide +kernel) ?_
    | refine OK.both ?_ ?_
    | refine OK.need (by first | assumption | (rw [hA]; first | (show (_ : Int) ≠ _; decide) | (show (0 : Int) ≤ _; decide) | (show (0 : Int) ≤ _ ∧ _ < (256 : Int); decide))) ?_
    | refine OK.need ?_ ?_
    | (refine OK.branch ?_ ?_ <;> intro h)
    | (refine F.hold hA 2000 ?_; cbv))
  exact F.ret0 ⟨_, rfl, by subst hA; simp [ebool, Leaf.std]⟩
end Go.L1
