/- Own work of the session: part LE of a proof that the program's functions do what the statement says (a symbolic executor, contracts of the functions, plain laws). -/
import Derived.Test.YtmgmbcniamkfeaaLD
set_option linter.all false
-- B10
namespace Go.L1
open Go Go.Sx Go.Proofs Go.Huff
set_option maxRecDepth 20000
set_option linter.unusedVariables false
set_option linter.unusedSimpArgs false
def hasB (ls : List Int) (s : Int) : Bool := decide (0 ≤ s ∧ s < ls.length ∧ 0 < len ls s.toNat)
theorem hasB_iff (ls : List Int) (s : Int) : hasB ls s = true ↔ Has ls s := by
  unfold hasB Has
  rw [decide_eq_true_iff]
  constructor
  · rintro ⟨h1, h2, h3⟩; exact ⟨s.toNat, by omega, by omega, h3⟩
  · rintro ⟨t, rfl, h2, h3⟩; exact ⟨by omega, by omega, by rw [Int.toNat_natCast]; exact h3⟩
def sentF (ls syms : List Int) (j : Nat) : List Int := (syms.take j).filter (hasB ls)
theorem sentF_succ {ls syms : List Int} {j : Nat} (h : j < syms.length) : sentF ls syms (j + 1) = sentF ls syms j ++ (if hasB ls (syms.getD j 0) then [syms.getD j 0] else []) := by
  unfold sentF
  rw [List.take_succ_eq_append_getElem h, List.filter_append]
  congr 1
  have e : syms.getD j 0 = syms[j] := by simp [h]
  rw [e, List.filter_cons, List.filter_nil]
theorem sentF_has {ls syms : List Int} {j : Nat} : ∀ x ∈ sentF ls syms j, Has ls x := by
  intro x hx
  exact (hasB_iff ls x).1 (List.mem_filter.1 hx).2
theorem sentF_len (ls syms : List Int) (j : Nat) : (sentF ls syms j).length ≤ j := by
  unfold sentF
  have h1 := List.length_filter_le (hasB ls) (syms.take j)
  rw [List.length_take] at h1
  omega
def hbits (ls sent : List Int) : List UInt8 := sent.flatMap (cput ls)
theorem hbits_app (ls a b : List Int) : hbits ls (a ++ b) = hbits ls a ++ hbits ls b := by unfold hbits; rw [List.flatMap_append]
theorem cput_len {ls : List Int} (h : InB ls) (s : Int) : (cput ls s).length ≤ 15 := by
  unfold cput
  split
  · rw [bitsOf_length]; exact len_le h _
  · simp
theorem hbits_len {ls : List Int} (h : InB ls) (sent : List Int) : (hbits ls sent).length ≤ 15 * sent.length := by
  induction sent with
  | nil => simp [hbits]
  | cons a l ih =>
    have h1 := cput_len h a
    unfold hbits at ih ⊢
    rw [List.flatMap_cons, List.length_append, List.length_cons]
    omega
def cnts (ls sent : List Int) : List Int := (List.range ls.length).map fun (s : Nat) => ((sent.count (s : Int) : Nat) : Int)
theorem cnts_len (ls sent : List Int) : (cnts ls sent).length = ls.length := by simp [cnts]
theorem cnts_get {ls : List Int} (sent : List Int) {s : Nat} (h : s < ls.length) : (cnts ls sent).getD s 0 = (sent.count (s : Int) : Nat) := by
  unfold cnts
  simp [h]
theorem cnts_nil (ls : List Int) : cnts ls [] = List.replicate ls.length 0 := by
  unfold cnts
  apply List.ext_getElem
  · simp
  · intro i h1 h2; simp
theorem cnts_set {ls sent : List Int} {s : Nat} (h : s < ls.length) : (cnts ls sent).set s ((sent.count (s : Int) : Nat) + 1) = cnts ls (sent ++ [(s : Int)]) := by
  apply List.ext_getElem
  · simp [cnts]
  · intro i h1 h2
    have hi : i < ls.length := by simpa [cnts] using h1
    rw [List.getElem_set]
    unfold cnts
    simp only [List.getElem_map, List.getElem_range, List.count_append, List.count_singleton]
    by_cases e : s = i
    · subst e; simp
    · have : ¬ ((s : Int) = (i : Int)) := by omega
      simp [e, this]
structure HbI (ls syms : List Int) (j : Nat) (last m : Int) (xs : List UInt8) (counts sent : List Int) : Prop where
  le : j ≤ syms.length
  c : counts = cnts ls (sentF ls syms j)
  s : sent = sentF ls syms j
  w : WR (hbits ls sent) last m xs
def HbInv (ls syms : List Int) (w : Int × Int × Int × List UInt8 × List Int × List Int) : Prop := ∃ j : Nat, w.1 = j ∧ HbI ls syms j w.2.1 w.2.2.1 w.2.2.2.1 w.2.2.2.2.1 w.2.2.2.2.2
structure HbAt (A : Leaf) (ls syms : List Int) (i last m : Int) (xs : List UInt8) (counts sent : List Int) (j : Nat) : Prop where
  q1 : A.inb i (A.len syms)
  ei : i = j
  lt : j < syms.length
  eg : A.get 0 syms i = syms.getD j 0
  w : WR (hbits ls sent) last m xs
  l : InB ls → LenOK (hbits ls sent)
  h : HbI ls syms j last m xs counts sent
theorem hbAt {A : Leaf} {ls syms : List Int} {i last m : Int} {xs : List UInt8} {counts sent : List Int} (hA : A = .std) (h : HbInv ls syms (i, last, m, xs, counts, sent)) (h1 : A.cmp .lss i (A.len syms) = true) (hl : A.cmp .gtr (A.len syms) 200 = false) : ∃ j, HbAt A ls syms i last m xs counts sent j := by
  obtain ⟨j, hi, h⟩ := h
  simp only at hi h
  subst hA
  have h1 : i < (syms.length : Int) := of_decide_eq_true h1
  have hl : ¬ (200 : Int) < (syms.length : Int) := of_decide_eq_false hl
  refine ⟨j, ?_, hi, by omega, ?_, h.w, fun hin => ⟨?_⟩, h⟩
  · show (0 : Int) ≤ i ∧ i < (syms.length : Int); omega
  · show syms.getD i.toNat 0 = _; rw [hi, Int.toNat_natCast]
  · have h2 := hbits_len hin sent
    have h3 := sentF_len ls syms j
    rw [← h.s] at h3
    omega
theorem BitIs.has {ls : List Int} {sym v n : Int} {ok : Bool} (h : BitIs ls sym v n ok) : ok = true ↔ Has ls sym := by
  rcases h with ⟨rfl, s, h1, h2, h3, _⟩ | ⟨rfl, _, _, h⟩
  · exact ⟨fun _ => ⟨s, h1, h2, h3⟩, fun _ => rfl⟩
  · exact ⟨fun h => (by cases h), fun ⟨s, h1, h2, h3⟩ => by have := h s h1 h2; omega⟩
theorem hb_same {A : Leaf} {ls : List Int} {sym v n : Int} {ok ok2 : Bool} (hA : A = .std) (hv : BitIs ls sym v n ok) (hp : PutIs ls sym ok2) (h : A.bnot (A.beq ok2 ok) = true) : False := by
  subst hA
  have e : ok2 = ok := by
    have h1 := hv.has
    have h2 : ok2 = true ↔ Has ls sym := hp
    cases ok <;> cases ok2 <;> simp_all
  subst e
  have h : (!(ok2 == ok2)) = true := h
  simp at h
structure HbYes (A : Leaf) (ls syms : List Int) (i l1 m1 : Int) (ys : List UInt8) (counts sent : List Int) : Prop where
  sm : A.small (A.len (A.app sent [A.get 0 syms i])) 8
  ib : A.inb (A.get 0 syms i) (A.len counts)
  nx : HbInv ls syms (A.ar .add .i64 i 1, l1, m1, ys, A.set counts (A.get 0 syms i) (A.ar .add .i64 (A.get 0 counts (A.get 0 syms i)) 1), A.app sent [A.get 0 syms i])
  mu : (syms.length - A.ar .add .i64 i 1).toNat < (syms.length - i).toNat
structure HbNo (A : Leaf) (ls syms : List Int) (i l1 m1 : Int) (ys : List UInt8) (counts sent : List Int) : Prop where
  nx : HbInv ls syms (A.ar .add .i64 i 1, l1, m1, ys, counts, sent)
  mu : (syms.length - A.ar .add .i64 i 1).toNat < (syms.length - i).toNat
theorem hbYes {A : Leaf} {ls syms : List Int} {i last m l1 m1 : Int} {xs ys : List UInt8} {counts sent : List Int} {v n : Int} {ok : Bool} {j : Nat} (hA : A = .std) (hf : Fine ls) (hlen : A.cmp .gtr (A.len syms) 200 = false) (h : HbAt A ls syms i last m xs counts sent j) (hv : BitIs ls (A.get 0 syms i) v n ok) (hok : ok = true) (hw : WR (hbits ls sent ++ cput ls (A.get 0 syms i)) l1 m1 ys) : HbYes A ls syms i l1 m1 ys counts sent := by
  have hh := hv.has.1 hok
  subst hA
  have hlen : ¬ (200 : Int) < (syms.length : Int) := of_decide_eq_false hlen
  have hj := h.lt
  have e1 : Leaf.std.ar .add .i64 i 1 = ((j + 1 : Nat) : Int) := by rw [h.ei, add_i64 (by omega) (by omega)]; omega
  have eg := h.eg
  have hs2 := sentF_len ls syms j
  rw [← h.h.s] at hs2
  have hB := (hasB_iff ls (syms.getD j 0)).2 (eg ▸ hh)
  have es := sentF_succ (ls := ls) hj
  rw [if_pos hB, ← h.h.s] at es
  obtain ⟨s, k1, k2, k3⟩ := hh
  have hcl : counts.length = ls.length := by rw [h.h.c, cnts_len]
  have hcg : Leaf.std.get 0 counts (Leaf.std.get 0 syms i) = (sent.count (s : Int) : Nat) := by
    rw [k1]
    show counts.getD (s : Int).toNat 0 = _
    rw [Int.toNat_natCast, h.h.c, cnts_get _ k2, ← h.h.s]
  have hcc : sent.count (s : Int) ≤ sent.length := List.count_le_length
  refine ⟨?_, ?_, ⟨j + 1, e1, ⟨by omega, ?_, ?_, ?_⟩⟩, by rw [e1, h.ei]; omega⟩
  · have e : Leaf.std.len (Leaf.std.app sent [Leaf.std.get 0 syms i]) = ((sent.length + 1 : Nat) : Int) := by
      show (((sent ++ [Leaf.std.get 0 syms i]).length : Nat) : Int) = _
      rw [List.length_append, List.length_singleton]
    rw [e]
    show (0 : Int) ≤ _ ∧ _ ≤ (140737488355328 : Int) ∧ _ * ((8 : Nat) : Int) ≤ (140737488355328 : Int)
    omega
  · rw [k1]; show (0 : Int) ≤ _ ∧ _ < (counts.length : Int); omega
  · have e2 : Leaf.std.ar .add .i64 ((sent.count (s : Int) : Nat) : Int) 1 = ((sent.count (s : Int) : Nat) : Int) + 1 := add_i64 (by omega) (by omega)
    rw [hcg, k1, e2]
    show counts.set (s : Int).toNat _ = _
    rw [Int.toNat_natCast, es, ← eg, k1, ← cnts_set k2, h.h.c, ← h.h.s]
  · show sent ++ [Leaf.std.get 0 syms i] = _
    rw [es, eg]
  · show WR (hbits ls (sent ++ [Leaf.std.get 0 syms i])) _ _ _
    rw [hbits_app]
    have : hbits ls [Leaf.std.get 0 syms i] = cput ls (Leaf.std.get 0 syms i) := by simp [hbits]
    rw [this]
    exact hw
theorem hbNo {A : Leaf} {ls syms : List Int} {i last m l1 m1 : Int} {xs ys : List UInt8} {counts sent : List Int} {v n : Int} {ok : Bool} {j : Nat} (hA : A = .std) (hlen : A.cmp .gtr (A.len syms) 200 = false) (h : HbAt A ls syms i last m xs counts sent j) (hv : BitIs ls (A.get 0 syms i) v n ok) (hok : ok = false) (hw : WR (hbits ls sent ++ cput ls (A.get 0 syms i)) l1 m1 ys) : HbNo A ls syms i l1 m1 ys counts sent := by
  have hh : ¬ Has ls (A.get 0 syms i) := fun hh => by rw [hv.has.2 hh] at hok; cases hok
  subst hA
  have hlen : ¬ (200 : Int) < (syms.length : Int) := of_decide_eq_false hlen
  have hj := h.lt
  have e1 : Leaf.std.ar .add .i64 i 1 = ((j + 1 : Nat) : Int) := by rw [h.ei, add_i64 (by omega) (by omega)]; omega
  have eg := h.eg
  have hB : ¬ hasB ls (syms.getD j 0) = true := fun hb => hh (eg ▸ (hasB_iff ls _).1 hb)
  have es := sentF_succ (ls := ls) hj
  rw [if_neg hB, List.append_nil] at es
  have hn : cput ls (Leaf.std.get 0 syms i) = [] := cput_none fun s h1 h2 => Classical.byContradiction fun h3 => hh ⟨s, h1, h2, by omega⟩
  rw [hn, List.append_nil] at hw
  exact ⟨⟨j + 1, e1, ⟨by omega, by rw [es]; exact h.h.c, by rw [es]; exact h.h.s, hw⟩⟩, by rw [e1, h.ei]; omega⟩
structure HbFin (ls syms : List Int) (last m : Int) (xs : List UInt8) (counts sent : List Int) : Prop where
  w : WR (hbits ls sent) last m xs
  zs : ∀ {zs : List UInt8}, OutIs (hbits ls sent) zs → zs.length ≤ 100000000000
  c : counts = cnts ls sent
  has : ∀ x ∈ sent, Has ls x
  le : sent.length ≤ 200
theorem hbFin {A : Leaf} {ls syms : List Int} {i last m : Int} {xs : List UInt8} {counts sent : List Int} (hA : A = .std) (hf : Fine ls) (hlen : A.cmp .gtr (A.len syms) 200 = false) (h : HbInv ls syms (i, last, m, xs, counts, sent)) (h1 : A.cmp .lss i (A.len syms) = false) : HbFin ls syms last m xs counts sent := by
  obtain ⟨j, hi, h⟩ := h
  simp only at hi h
  subst hA
  have hlen : ¬ (200 : Int) < (syms.length : Int) := of_decide_eq_false hlen
  have hs := h.s
  have hl := h.le
  have h3 := sentF_len ls syms j
  rw [← hs] at h3
  refine ⟨h.w, fun {zs} ho => ?_, by rw [h.c, ← hs], by rw [hs]; exact sentF_has, by omega⟩
  unfold OutIs at ho
  have h2 := hbits_len hf.inb sent
  rw [ho, bytesOf_length]
  omega
def Hb2Inv (ls sent : List Int) (w : Int × Int) : Prop := ∃ j : Nat, w.1 = j ∧ j ≤ sent.length ∧ w.2 = (hbits ls (sent.take j)).length
structure Hb2Nx (A : Leaf) (ls sent : List Int) (i sym e p' : Int) : Prop where
  e1 : A.cmp .neq e 0 = true → False
  e2 : A.cmp .neq sym (A.get 0 sent i) = true → False
  nx : Hb2Inv ls sent (A.ar .add .i64 i 1, p')
  mu : (sent.length - A.ar .add .i64 i 1).toNat < (sent.length - i).toNat
structure Hb2At (A : Leaf) (ls sent : List Int) (zs : List UInt8) (i p : Int) (j : Nat) : Prop where
  rd : RdOK zs p
  q1 : A.inb i (A.len sent)
  nx : ∀ {sym e p' : Int}, NextRes ls zs p sym e p' → Hb2Nx A ls sent i sym e p'
theorem hb2At {A : Leaf} {ls syms : List Int} {i p last m : Int} {xs zs : List UInt8} {counts sent : List Int} (hA : A = .std) (hf : Fine ls) (hfin : HbFin ls syms last m xs counts sent) (hos : OutIs (hbits ls sent) zs) (h : Hb2Inv ls sent (i, p)) (h1 : A.cmp .lss i (A.len sent) = true) : ∃ j, Hb2At A ls sent zs i p j := by
  obtain ⟨j, hi, hj, hp⟩ := h
  simp only at hi hp
  subst hA
  have h1 : i < (sent.length : Int) := of_decide_eq_true h1
  have hj : j < sent.length := by omega
  have hle := hfin.le
  have hbl := hbits_len hf.inb sent
  have hb01 : Bits01 (hbits ls sent) := by obtain ⟨⟨a, b, _, _, h⟩, _⟩ := hfin.w; exact h.b
  have e1 : Leaf.std.ar .add .i64 i 1 = ((j + 1 : Nat) : Int) := by rw [hi, add_i64 (by omega) (by omega)]; omega
  have eg : Leaf.std.get 0 sent i = sent[j] := by
    show sent.getD i.toNat 0 = _
    rw [hi, Int.toNat_natCast]; simp [hj]
  obtain ⟨s, k1, k2, k3⟩ := hfin.has _ (List.getElem_mem hj)
  have split : hbits ls sent = hbits ls (sent.take j) ++ cput ls sent[j] ++ hbits ls (sent.drop (j + 1)) := by
    have h2 : sent = sent.take j ++ [sent[j]] ++ sent.drop (j + 1) := by simp
    have h3 := congrArg (hbits ls) h2
    rw [hbits_app, hbits_app] at h3
    have h4 : hbits ls [sent[j]] = cput ls sent[j] := by simp [hbits]
    rw [h4] at h3
    exact h3
  have hcp : cput ls sent[j] = bitsOf (len ls s) (revN (len ls s) (code ls s)) := by
    rw [k1]; unfold cput; rw [if_pos (by omega), Int.toNat_natCast]
  have hnx : hbits ls (sent.take (j + 1)) = hbits ls (sent.take j) ++ cput ls sent[j] := by
    rw [List.take_succ_eq_append_getElem hj, hbits_app]
    congr 1
    simp [hbits]
  have hlen := congrArg List.length split
  rw [List.length_append, List.length_append, hcp, bitsOf_length] at hlen
  have hzl : zs.length = ((hbits ls sent).length + 7) / 8 := by
    have ho := hos
    unfold OutIs at ho; rw [ho, bytesOf_length]
  have hval := OutIs.val hos hb01
  have hcode := code_lt hf.inb hf.room k2 k3
  refine ⟨j, ⟨⟨by omega, by omega, by omega⟩, by omega⟩, ?_, fun {sym e p'} hn => ?_⟩
  · show (0 : Int) ≤ i ∧ i < (sent.length : Int); omega
  have hit : Hit ls (bitsV zs p) (leftN zs p) s := by
    refine ⟨k2, k3, by unfold leftN; omega, ?_⟩
    have hmid := valBits_mid (hbits ls (sent.take j)) (cput ls sent[j]) (hbits ls (sent.drop (j + 1))) (fun b hb => hb01 b (by rw [split]; simp [hb]))
    rw [← split] at hmid
    rcases hmid with hmid | hmid
    · rw [hcp, bitsOf_length, valBits_bitsOf, Nat.mod_eq_of_lt (revN_lt _ _), ← hval] at hmid
      have e3 : p.toNat = (hbits ls (sent.take j)).length := by omega
      unfold bitsV
      rw [e3, ← revN_mod, hmid, revN_rev, Nat.mod_eq_of_lt hcode]
    · exact (hmid fun b hb => hb01 b (by rw [split]; simp [hb])).elim
  obtain ⟨n, hn, hp'⟩ := hn
  obtain ⟨u1, u2, u3⟩ := hn.uniq hf.inb (.inl ⟨rfl, s, hit, rfl, rfl⟩)
  subst u1 u2 u3
  refine ⟨fun h => (by cases h), fun h => ?_, ⟨j + 1, e1, by omega, ?_⟩, by rw [e1, hi]; omega⟩
  · rw [eg, k1] at h
    have h : (!((s : Int) == (s : Int))) = true := h
    simp at h
  · show p' = _
    rw [hp', hp, hnx, List.length_append, hcp, bitsOf_length]
    omega
def costM (ls sent : List Int) : Nat → Nat
  | 0 => 0
  | j + 1 => costM ls sent j + sent.count (j : Int) * len ls j
theorem costN_cnts {ls sent : List Int} (hs : sent.length ≤ 200) : ∀ j, j ≤ ls.length → costN ls (cnts ls sent) j = (costM ls sent j : Nat)
  | 0, _ => rfl
  | j + 1, h => by
    rw [costN, costM, costN_cnts hs j (by omega)]
    unfold cost1
    rw [cnts_get _ (by omega)]
    have hc : sent.count (j : Int) ≤ sent.length := List.count_le_length
    split
    · push_cast; rfl
    · have : sent.count (j : Int) = 0 := by omega
      rw [this]; simp
theorem costM_nil (ls : List Int) : ∀ j, costM ls [] j = 0
  | 0 => rfl
  | j + 1 => by rw [costM, costM_nil ls j]; simp
theorem costM_cons (ls sent : List Int) (s : Nat) : ∀ j, costM ls ((s : Int) :: sent) j = costM ls sent j + (if s < j then len ls s else 0)
  | 0 => by simp [costM]
  | j + 1 => by
    rw [costM, costM, costM_cons ls sent s j, List.count_cons]
    by_cases e : s = j
    · subst e
      rw [if_neg (Nat.lt_irrefl s), if_pos (Nat.lt_succ_self s)]
      simp [Nat.add_mul]
      try omega
    · have e2 : ((s : Int) == (j : Int)) = false := by rw [beq_eq_false_iff_ne]; omega
      rw [e2]
      by_cases h : s < j
      · rw [if_pos h, if_pos (show s < j + 1 by omega)]; simp; omega
      · rw [if_neg h, if_neg (show ¬ s < j + 1 by omega)]; simp
theorem costM_all {ls : List Int} : ∀ {sent : List Int}, (∀ x ∈ sent, Has ls x) → costM ls sent ls.length = (hbits ls sent).length
  | [], _ => costM_nil ls _
  | x :: sent, h => by
    obtain ⟨s, k1, k2, k3⟩ := h x (by simp)
    have ih := costM_all (ls := ls) (sent := sent) fun y hy => h y (by simp [hy])
    subst k1
    rw [costM_cons, ih, if_pos k2]
    unfold hbits cput
    rw [List.flatMap_cons, List.length_append, if_pos (by omega), bitsOf_length, Int.toNat_natCast, Nat.add_comm]
theorem HbFin.cost {A : Leaf} {ls syms : List Int} {last m : Int} {xs : List UInt8} {counts sent : List Int} (h : HbFin ls syms last m xs counts sent) (hA : A = .std) (hf : Fine ls) {n2 n3 : Int} (h2 : CostIs ls counts n2) (h3 : LenIs (hbits ls sent) n3) : A.cmp .eql n2 n3 = true := by
  subst hA
  have e : n2 = n3 := by
    unfold CostIs at h2
    unfold LenIs at h3
    rw [h2, h3, h.c, cnts_len, Nat.min_self, costN_cnts h.le _ (Nat.le_refl _), costM_all h.has]
  subst e
  show (n2 == n2) = true
  simp
structure Hb2Fin (ls sent : List Int) (p : Int) : Prop where
  p : p = (hbits ls sent).length
theorem hb2Fin {A : Leaf} {ls syms : List Int} {i p last m : Int} {xs : List UInt8} {counts sent : List Int} (hA : A = .std) (hfin : HbFin ls syms last m xs counts sent) (h : Hb2Inv ls sent (i, p)) (h1 : A.cmp .lss i (A.len sent) = false) : Hb2Fin ls sent p := by
  obtain ⟨j, hi, hj, hp⟩ := h
  simp only at hi hp
  subst hA
  have h1 : ¬ i < (sent.length : Int) := of_decide_eq_false h1
  have : j = sent.length := by omega
  subst this
  rw [List.take_length] at hp
  exact ⟨hp⟩
set_option maxHeartbeats 4000000 in
theorem hback_ok (ls syms : List Int) : FOK Try.prog C1 7 (fun _ => false) [.ro (.ints .i64 ls), .ro (.ints .i64 syms)] [] Yes := by
  refine fok_of (B := ⟨lookT tis, fun _ => false⟩) (tab1 _) (zero1 _) cod1 mix1 Try.func7 (by kernel_rfl) rfl rfl rfl fun X F => ?_
  obtain ⟨A, hA⟩ : ∃ A, A = Leaf.std := ⟨_, rfl⟩
  refine F.hold hA 2000 ?_
  cbv
  repeat' (first
    | refine OK.drawn (by decide +kernel) ?_
    | refine OK.tree ⟨fun _ => ⟨.other, 0, 0, .no⟩, fun _ => true⟩ (by decide +kernel) ?_
    | refine OK.both ?_ ?_
    | refine OK.need (by first | assumption | (rw [hA]; first | (show (_ : Int) ≠ _; decide) | (show (0 : Int) ≤ _; decide) | (show (0 : Int) ≤ _ ∧ _ < (256 : Int); decide))) ?_
    | refine OK.need ?_ ?_
    | (refine OK.branch ?_ ?_ <;> intro h)
    | (refine F.hold hA 2000 ?_; cbv))
  refine F.call [] (alive_ok) rfl rfl rfl fun rs H' hq => ?_
  obtain ⟨b, rfl, rfl, rfl⟩ := hq
  refine ⟨rfl, ?_⟩
  repeat' (first
    | refine OK.drawn (by decide +kernel) ?_
    | refine OK.tree ⟨fun _ => ⟨.other, 0, 0, .no⟩, fun _ => true⟩ (by decide +kernel) ?_
    | refine OK.both ?_ ?_
    | refine OK.need (by first | assumption | (rw [hA]; first | (show (_ : Int) ≠ _; decide) | (show (0 : Int) ≤ _; decide) | (show (0 : Int) ≤ _ ∧ _ < (256 : Int); decide))) ?_
    | refine OK.need ?_ ?_
    | (refine OK.branch ?_ ?_ <;> intro h)
    | (refine F.hold hA 2000 ?_; cbv))
  · exfalso; subst hA; cases h
  · exact F.ret0 ⟨_, rfl, rfl⟩
  · exact F.ret0 ⟨_, rfl, rfl⟩
  refine F.call [] (new_ok ls) rfl rfl rfl fun rs H' hq => ?_
  rcases hq with ⟨e, rfl, rfl, hbad⟩ | ⟨ws, fs, cs, ss, os, r, rfl, rfl, hc⟩
  · refine ⟨rfl, ?_⟩
    repeat' (first
      | refine OK.drawn (by decide +kernel) ?_
      | refine OK.tree ⟨fun _ => ⟨.other, 0, 0, .no⟩, fun _ => true⟩ (by decide +kernel) ?_
      | refine OK.both ?_ ?_
      | refine OK.need (by first | assumption | (rw [hA]; first | (show (_ : Int) ≠ _; decide) | (show (0 : Int) ≤ _; decide) | (show (0 : Int) ≤ _ ∧ _ < (256 : Int); decide))) ?_
      | refine OK.need ?_ ?_
      | (refine OK.branch ?_ ?_ <;> intro h)
      | (refine F.hold hA 2000 ?_; cbv))
    all_goals exact F.ret0 ⟨_, rfl, rfl⟩
  refine ⟨rfl, ?_⟩
  repeat' (first
    | refine OK.drawn (by decide +kernel) ?_
    | refine OK.tree ⟨fun _ => ⟨.other, 0, 0, .no⟩, fun _ => true⟩ (by decide +kernel) ?_
    | refine OK.both ?_ ?_
    | refine OK.need (by first | assumption | (rw [hA]; first | (show (_ : Int) ≠ _; decide) | (show (0 : Int) ≤ _; decide) | (show (0 : Int) ≤ _ ∧ _ < (256 : Int); decide))) ?_
    | refine OK.need ?_ ?_
    | (refine OK.branch ?_ ?_ <;> intro h)
    | (refine F.hold hA 2000 ?_; cbv))
  · exact F.ret (H' := []) (F.cv ⟨rfl⟩ (.eq rfl (.nil _)) (.nil _)) rfl ⟨_, rfl, rfl⟩
  refine F.call [] (newWriter_ok) rfl rfl rfl fun rs H' hq => ?_
  obtain ⟨rfl, rfl⟩ := hq
  refine ⟨rfl, ?_⟩
  repeat' (first
    | refine OK.drawn (by decide +kernel) ?_
    | refine OK.tree ⟨fun _ => ⟨.other, 0, 0, .no⟩, fun _ => true⟩ (by decide +kernel) ?_
    | refine OK.both ?_ ?_
    | refine OK.need (by first | assumption | (rw [hA]; first | (show (_ : Int) ≠ _; decide) | (show (0 : Int) ≤ _; decide) | (show (0 : Int) ≤ _ ∧ _ < (256 : Int); decide))) ?_
    | refine OK.need ?_ ?_
    | (refine OK.branch ?_ ?_ <;> intro h)
    | (refine F.hold hA 2000 ?_; cbv))
  · subst hA
    have := hc.fine.le
    show (0 : Int) ≤ (ls.length : Int) ∧ (ls.length : Int) ≤ (140737488355328 : Int) ∧ (ls.length : Int) * ((8 : Nat) : Int) ≤ (140737488355328 : Int)
    omega
  · subst hA
    show (0 : Int) ≤ 0 ∧ (0 : Int) ≤ (ls.length : Int) ∧ (ls.length : Int) ≤ (ls.length : Int)
    omega
  · subst hA
    show (0 : Int) ≤ 0 ∧ (0 : Int) ≤ (ls.length : Int) ∧ (ls.length : Int) ≤ (ls.length : Int)
    omega
  refine F.loop (V := Int × Int × Int × List UInt8 × List Int × List Int) [0, 1, 5, 7, 8, 9] (HbInv ls syms) (fun w => (syms.length - w.1).toNat) (fun w => [(10, .int .i64 w.1)]) (fun w => [(2, .cells 88 [.own 3, .int .u64 w.2.1, .int .i64 w.2.2.1]), (3, .row 5 (.bytes w.2.2.2.1)), (4, .row 3 (.ints .i64 w.2.2.2.2.1)), (5, .row 3 (.ints .i64 w.2.2.2.2.2))]) (_, _, _, _, _, _) (by cbv; repeat (first | exact WkH.nil _ | apply WkH.gone | refine WkH.eq rfl ?_)) (by cbv; repeat (first | apply WkL.any | exact WkL.nil _ | refine WkL.eq rfl ?_)) (by cbv; exact ⟨rfl⟩) ?_ ?_
  · subst hA
    exact ⟨0, rfl, Nat.zero_le _, (cnts_nil ls).symm, rfl, WR.nil⟩
  rintro ⟨i, last, m, xs, counts, sent⟩ hI Bk hBk
  repeat (first
    | refine OK.drawn (by decide +kernel) ?_
    | refine OK.tree ⟨fun _ => ⟨.other, 0, 0, .no⟩, fun _ => true⟩ (by decide +kernel) ?_
    | refine OK.need (by first | assumption | (rw [hA]; first | (show (_ : Int) ≠ _; decide) | (show (0 : Int) ≤ _; decide) | (show (0 : Int) ≤ _ ∧ _ < (256 : Int); decide))) ?_
    | (refine F.hold hA 2000 ?_; cbv))
  refine OK.branch (fun b1 => ?_) (fun b1 => ?_)
  · obtain ⟨j, hat⟩ := hbAt hA hI b1 ‹A.cmp .gtr (A.len syms) 200 = false›
    have q1 := hat.q1
    have hl := hat.l hc.fine.inb
    have hw0 := hat.w
    repeat (first
      | refine OK.drawn (by decide +kernel) ?_
      | refine OK.tree ⟨fun _ => ⟨.other, 0, 0, .no⟩, fun _ => true⟩ (by decide +kernel) ?_
      | refine OK.need (by first | assumption | (rw [hA]; first | (show (_ : Int) ≠ _; decide) | (show (0 : Int) ≤ _; decide) | (show (0 : Int) ≤ _ ∧ _ < (256 : Int); decide))) ?_
      | (refine F.hold hA 2000 ?_; cbv))
    refine F.call [1] (cbits_ok ls ws fs cs ss os r _ hc) rfl rfl rfl fun rs H' hq => ?_
    obtain ⟨v, n, ok, rfl, rfl, hv⟩ := hq
    refine ⟨rfl, ?_⟩
    repeat (first
      | refine OK.drawn (by decide +kernel) ?_
      | refine OK.tree ⟨fun _ => ⟨.other, 0, 0, .no⟩, fun _ => true⟩ (by decide +kernel) ?_
      | refine OK.need (by first | assumption | (rw [hA]; first | (show (_ : Int) ≠ _; decide) | (show (0 : Int) ≤ _; decide) | (show (0 : Int) ≤ _ ∧ _ < (256 : Int); decide))) ?_
      | (refine F.hold hA 2000 ?_; cbv))
    refine F.call [1, 2, 3] (cputW_ok ls ws fs cs ss os r _ _ _ _ _ hc hw0 hl) rfl rfl rfl fun rs H' hq => ?_
    obtain ⟨ok2, l1, m1, ys, rfl, rfl, hp, hw1⟩ := hq
    refine ⟨rfl, ?_⟩
    have hlen := ‹A.cmp .gtr (A.len syms) 200 = false›
    repeat (first
      | refine OK.drawn (by decide +kernel) ?_
      | refine OK.tree ⟨fun _ => ⟨.other, 0, 0, .no⟩, fun _ => true⟩ (by decide +kernel) ?_
      | refine OK.need (by first | assumption | (rw [hA]; first | (show (_ : Int) ≠ _; decide) | (show (0 : Int) ≤ _; decide) | (show (0 : Int) ≤ _ ∧ _ < (256 : Int); decide))) ?_
      | (refine F.hold hA 2000 ?_; cbv))
    refine OK.branch (fun b2 => (hb_same hA hv hp b2).elim) (fun b2 => ?_)
    repeat (first
      | refine OK.drawn (by decide +kernel) ?_
      | refine OK.tree ⟨fun _ => ⟨.other, 0, 0, .no⟩, fun _ => true⟩ (by decide +kernel) ?_
      | refine OK.need (by first | assumption | (rw [hA]; first | (show (_ : Int) ≠ _; decide) | (show (0 : Int) ≤ _; decide) | (show (0 : Int) ≤ _ ∧ _ < (256 : Int); decide))) ?_
      | (refine F.hold hA 2000 ?_; cbv))
    refine OK.branch (fun b3 => ?_) (fun b3 => ?_)
    · have hy := hbYes hA hc.fine hlen hat hv b3 hw1
      have q2 := hy.sm
      have q3 := hy.ib
      repeat' (first
        | refine OK.drawn (by decide +kernel) ?_
        | refine OK.tree ⟨fun _ => ⟨.other, 0, 0, .no⟩, fun _ => true⟩ (by decide +kernel) ?_
        | refine OK.both ?_ ?_
        | refine OK.need (by first | assumption | (rw [hA]; first | (show (_ : Int) ≠ _; decide) | (show (0 : Int) ≤ _; decide) | (show (0 : Int) ≤ _ ∧ _ < (256 : Int); decide))) ?_
        | refine OK.need ?_ ?_
        | (refine OK.branch ?_ ?_ <;> intro h)
        | (refine F.hold hA 2000 ?_; cbv))
      refine OK.back (hBk _ _ (_, _, _, _, _, _) (by cbv; repeat (first | exact WkH.nil _ | apply WkH.gone | refine WkH.eq rfl ?_)) (by cbv; repeat (first | apply WkL.any | exact WkL.nil _ | refine WkL.eq rfl ?_)) (by cbv; exact ⟨rfl⟩) ?_ ?_)
      · exact hy.nx
      · exact hy.mu
    · have hy := hbNo hA hlen hat hv b3 hw1
      repeat' (first
        | refine OK.drawn (by decide +kernel) ?_
        | refine OK.tree ⟨fun _ => ⟨.other, 0, 0, .no⟩, fun _ => true⟩ (by decide +kernel) ?_
        | refine OK.both ?_ ?_
        | refine OK.need (by first | assumption | (rw [hA]; first | (show (_ : Int) ≠ _; decide) | (show (0 : Int) ≤ _; decide) | (show (0 : Int) ≤ _ ∧ _ < (256 : Int); decide))) ?_
        | refine OK.need ?_ ?_
        | (refine OK.branch ?_ ?_ <;> intro h)
        | (refine F.hold hA 2000 ?_; cbv))
      refine OK.back (hBk _ _ (_, _, _, _, _, _) (by cbv; repeat (first | exact WkH.nil _ | apply WkH.gone | refine WkH.eq rfl ?_)) (by cbv; repeat (first | apply WkL.any | exact WkL.nil _ | refine WkL.eq rfl ?_)) (by cbv; exact ⟨rfl⟩) ?_ ?_)
      · exact hy.nx
      · exact hy.mu
  · clear hBk
    have hlen := ‹A.cmp .gtr (A.len syms) 200 = false›
    have hfin := hbFin hA hc.fine hlen hI b1
    have hw0 := hfin.w
    repeat (first
      | refine OK.drawn (by decide +kernel) ?_
      | refine OK.tree ⟨fun _ => ⟨.other, 0, 0, .no⟩, fun _ => true⟩ (by decide +kernel) ?_
      | refine OK.need (by first | assumption | (rw [hA]; first | (show (_ : Int) ≠ _; decide) | (show (0 : Int) ≤ _; decide) | (show (0 : Int) ≤ _ ∧ _ < (256 : Int); decide))) ?_
      | (refine F.hold hA 2000 ?_; cbv))
    refine F.call [2, 3] (outW _ _ _ _ hw0) rfl rfl rfl fun rs H' hq => ?_
    obtain ⟨zs, rfl, rfl, hos⟩ := hq
    refine ⟨rfl, ?_⟩
    repeat (first
      | refine OK.drawn (by decide +kernel) ?_
      | refine OK.tree ⟨fun _ => ⟨.other, 0, 0, .no⟩, fun _ => true⟩ (by decide +kernel) ?_
      | refine OK.need (by first | assumption | (rw [hA]; first | (show (_ : Int) ≠ _; decide) | (show (0 : Int) ≤ _; decide) | (show (0 : Int) ≤ _ ∧ _ < (256 : Int); decide))) ?_
      | (refine F.hold hA 2000 ?_; cbv))
    refine F.callFrz 6 rfl rfl rfl rfl ?_
    refine F.call [] (newReader_ok zs (hfin.zs hos)) rfl rfl rfl fun rs H' hq => ?_
    obtain ⟨rfl, rfl⟩ := hq
    refine ⟨rfl, ?_⟩
    repeat (first
      | refine OK.drawn (by decide +kernel) ?_
      | refine OK.tree ⟨fun _ => ⟨.other, 0, 0, .no⟩, fun _ => true⟩ (by decide +kernel) ?_
      | refine OK.need (by first | assumption | (rw [hA]; first | (show (_ : Int) ≠ _; decide) | (show (0 : Int) ≤ _; decide) | (show (0 : Int) ≤ _ ∧ _ < (256 : Int); decide))) ?_
      | (refine F.hold hA 2000 ?_; cbv))
    refine F.loop (V := Int × Int) [0, 1, 5, 7, 8, 9, 15] (Hb2Inv ls sent) (fun w => (sent.length - w.1).toNat) (fun w => [(16, .int .i64 w.1)]) (fun w => [(8, .cells 82 [.ro (.bytes zs), .int .i64 w.2])]) (_, _) (by cbv; repeat (first | exact WkH.nil _ | apply WkH.gone | refine WkH.eq rfl ?_)) (by cbv; repeat (first | apply WkL.any | exact WkL.nil _ | refine WkL.eq rfl ?_)) (by cbv; exact ⟨rfl⟩) ?_ ?_
    · exact ⟨0, rfl, Nat.zero_le _, rfl⟩
    rintro ⟨i2, p⟩ hI2 Bk hBk
    repeat (first
      | refine OK.drawn (by decide +kernel) ?_
      | refine OK.tree ⟨fun _ => ⟨.other, 0, 0, .no⟩, fun _ => true⟩ (by decide +kernel) ?_
      | refine OK.need (by first | assumption | (rw [hA]; first | (show (_ : Int) ≠ _; decide) | (show (0 : Int) ≤ _; decide) | (show (0 : Int) ≤ _ ∧ _ < (256 : Int); decide))) ?_
      | (refine F.hold hA 2000 ?_; cbv))
    refine OK.branch (fun b2 => ?_) (fun b2 => ?_)
    · obtain ⟨j, h2⟩ := hb2At hA hc.fine hfin hos hI2 b2
      have hrd := h2.rd
      have q1 := h2.q1
      repeat (first
        | refine OK.drawn (by decide +kernel) ?_
        | refine OK.tree ⟨fun _ => ⟨.other, 0, 0, .no⟩, fun _ => true⟩ (by decide +kernel) ?_
        | refine OK.need (by first | assumption | (rw [hA]; first | (show (_ : Int) ≠ _; decide) | (show (0 : Int) ≤ _; decide) | (show (0 : Int) ≤ _ ∧ _ < (256 : Int); decide))) ?_
        | (refine F.hold hA 2000 ?_; cbv))
      refine F.call [1, 8] (next_ok ls ws fs cs ss os r zs p hc hrd) rfl rfl rfl fun rs H' hq => ?_
      obtain ⟨sym, e, p', rfl, rfl, hn⟩ := hq
      refine ⟨rfl, ?_⟩
      have h3 := h2.nx hn
      repeat' (first
        | refine OK.drawn (by decide +kernel) ?_
        | refine OK.tree ⟨fun _ => ⟨.other, 0, 0, .no⟩, fun _ => true⟩ (by decide +kernel) ?_
        | refine OK.both ?_ ?_
        | refine OK.need (by first | assumption | (rw [hA]; first | (show (_ : Int) ≠ _; decide) | (show (0 : Int) ≤ _; decide) | (show (0 : Int) ≤ _ ∧ _ < (256 : Int); decide))) ?_
        | refine OK.need ?_ ?_
        | (refine OK.branch ?_ ?_ <;> intro h)
        | (refine F.hold hA 2000 ?_; cbv))
      · exact (h3.e1 h).elim
      · exact (h3.e2 h).elim
      · refine OK.back (hBk _ _ (_, _) (by cbv; repeat (first | exact WkH.nil _ | apply WkH.gone | refine WkH.eq rfl ?_)) (by cbv; repeat (first | apply WkL.any | exact WkL.nil _ | refine WkL.eq rfl ?_)) (by cbv; exact ⟨rfl⟩) ?_ ?_)
        · exact h3.nx
        · exact h3.mu
    · clear hBk
      have h4 := hb2Fin hA hfin hI2 b2
      repeat (first
        | refine OK.drawn (by decide +kernel) ?_
        | refine OK.tree ⟨fun _ => ⟨.other, 0, 0, .no⟩, fun _ => true⟩ (by decide +kernel) ?_
        | refine OK.need (by first | assumption | (rw [hA]; first | (show (_ : Int) ≠ _; decide) | (show (0 : Int) ≤ _; decide) | (show (0 : Int) ≤ _ ∧ _ < (256 : Int); decide))) ?_
        | (refine F.hold hA 2000 ?_; cbv))
      refine F.call [8] (at_ok zs p) rfl rfl rfl fun rs H' hq => ?_
      obtain ⟨rfl, rfl⟩ := hq
      refine ⟨rfl, ?_⟩
      repeat (first
        | refine OK.drawn (by decide +kernel) ?_
        | refine OK.tree ⟨fun _ => ⟨.other, 0, 0, .no⟩, fun _ => true⟩ (by decide +kernel) ?_
        | refine OK.need (by first | assumption | (rw [hA]; first | (show (_ : Int) ≠ _; decide) | (show (0 : Int) ≤ _; decide) | (show (0 : Int) ≤ _ ∧ _ < (256 : Int); decide))) ?_
        | (refine F.hold hA 2000 ?_; cbv))
      refine F.call [2, 3] (lenW _ _ _ _ hw0) rfl rfl rfl fun rs H' hq => ?_
      obtain ⟨n1, rfl, rfl, hn1⟩ := hq
      refine ⟨rfl, ?_⟩
      repeat (first
        | refine OK.drawn (by decide +kernel) ?_
        | refine OK.tree ⟨fun _ => ⟨.other, 0, 0, .no⟩, fun _ => true⟩ (by decide +kernel) ?_
        | refine OK.need (by first | assumption | (rw [hA]; first | (show (_ : Int) ≠ _; decide) | (show (0 : Int) ≤ _; decide) | (show (0 : Int) ≤ _ ∧ _ < (256 : Int); decide))) ?_
        | (refine F.hold hA 2000 ?_; cbv))
      refine OK.branch (fun b3 => ?_) (fun b3 => ?_)
      · repeat (first
          | refine OK.drawn (by decide +kernel) ?_
          | refine OK.tree ⟨fun _ => ⟨.other, 0, 0, .no⟩, fun _ => true⟩ (by decide +kernel) ?_
          | refine OK.need (by first | assumption | (rw [hA]; first | (show (_ : Int) ≠ _; decide) | (show (0 : Int) ≤ _; decide) | (show (0 : Int) ≤ _ ∧ _ < (256 : Int); decide))) ?_
          | (refine F.hold hA 2000 ?_; cbv))
        refine F.callFrz 4 rfl rfl rfl rfl ?_
        refine F.call [1] (cost_ok ls ws fs cs ss os r _ hc) rfl rfl rfl fun rs H' hq => ?_
        obtain ⟨n2, rfl, rfl, hn2⟩ := hq
        refine ⟨rfl, ?_⟩
        repeat (first
          | refine OK.drawn (by decide +kernel) ?_
          | refine OK.tree ⟨fun _ => ⟨.other, 0, 0, .no⟩, fun _ => true⟩ (by decide +kernel) ?_
          | refine OK.need (by first | assumption | (rw [hA]; first | (show (_ : Int) ≠ _; decide) | (show (0 : Int) ≤ _; decide) | (show (0 : Int) ≤ _ ∧ _ < (256 : Int); decide))) ?_
          | (refine F.hold hA 2000 ?_; cbv))
        refine F.call [2, 3] (lenW _ _ _ _ hw0) rfl rfl rfl fun rs H' hq => ?_
        obtain ⟨n3, rfl, rfl, hn3⟩ := hq
        refine ⟨rfl, ?_⟩
        repeat (first
          | refine OK.drawn (by decide +kernel) ?_
          | refine OK.tree ⟨fun _ => ⟨.other, 0, 0, .no⟩, fun _ => true⟩ (by decide +kernel) ?_
          | refine OK.need (by first | assumption | (rw [hA]; first | (show (_ : Int) ≠ _; decide) | (show (0 : Int) ≤ _; decide) | (show (0 : Int) ≤ _ ∧ _ < (256 : Int); decide))) ?_
          | (refine F.hold hA 2000 ?_; cbv))
        exact F.ret (H' := []) (F.cv ⟨rfl⟩ (.eq rfl (.nil _)) (.nil _)) rfl ⟨_, rfl, hfin.cost hA hc.fine hn2 hn3⟩
      · exfalso
        subst hA
        have b3 : (p == n1) = false := b3
        have h5 : n1 = (hbits ls sent).length := hn1
        rw [h5, h4.p] at b3
        simp at b3
end Go.L1
