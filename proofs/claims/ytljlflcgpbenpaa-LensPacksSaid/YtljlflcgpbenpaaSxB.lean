/- Own work of the session: part SxB of a proof that the program's functions do what the statement says (a symbolic executor, contracts of the functions, plain laws). -/
import Derived.Test.YtljlflcgpbenpaaSxA
import Derived.Tactics
import Derived.OrdersHeld
import Derived.Deep.RegionHeld3
import Derived.StillTail
import Derived.Laws.Bits64
import Derived.Laws.BitsLemmas
import Derived.Laws.Closers25b
import Derived.ChangeArms
import Derived.SizedLaws
import Derived.Below
set_option linter.all false
-- Sx11
namespace Go.Sx
open Go
section
variable {T : Nat → Type} {C : Cod T} {M M' : Mem} {P : Program} {B : Tab} {E : Env} {H : List (Ch T)} {fr : List (SV T)} {a : Act}

theorem denV_of_P {s : SV T} {v : Value} (h : DenP C M s v) : DenV C M s v := by
  cases s
  case tup => exact h.elim
  all_goals exact h

theorem does_extract (hF : FrOK C M fr a) {o : Oper} {t : Operand} {i : Nat} (ho : o.op = .extract t i) :
    Does P C E M (opE C .std B H (ev fr) o) (fun w => (execOp a.eval o).run P w) := by
  have ht := ev_ok hF t
  unfold opE execOp
  rw [ho]
  simp only []
  split
  · rename_i l he
    rw [he] at ht
    obtain ⟨us, hv, hl, hd⟩ := ht
    split
    · rename_i s hs
      rw [nth_eq] at hs
      have hi : i < us.size := by rw [← hl]; exact (List.getElem?_eq_some_iff.1 hs).1
      refine ⟨us[i], ?_, denV_of_P (hd i s us[i] hs (Array.getElem?_eq_getElem hi))⟩
      simp [hv, Instr.extract, hi]
    · trivial
  · trivial

theorem ones_den : ∀ {xs : List Operand}, FrOK C M fr a → allOne (xs.map (ev fr)) = true → Den C M (xs.map (ev fr)) (xs.map a.eval)
  | [], _, _ => .nil
  | x :: xs, hF, h => by
    simp only [List.map_cons, allOne] at h
    split at h
    · rename_i h1
      have hx := ev_ok hF x
      have h2 := ones_den hF h
      have : Den C M [ev fr x] [a.eval x] := by
        generalize ev fr x = s at h1 hx
        cases s <;> simp only [isOne] at h1 <;> first | (cases h1; done) | exact hx
      exact this.append h2
    · cases h

theorem does_boxI (hP : TabOK P C B) {t : TypeId} {sx : SV T} {x : Value} (hx : DenV C M sx x) :
    Does P C E M (boxE B t sx) (fun w => (do pure (Next.value (← Instr.makeInterface t x))).run P w) := by
  unfold boxE
  split
  · rename_i fs hk
    split
    · rename_i l
      obtain ⟨us, rfl, hd⟩ := hx
      have hu := hP.kind t
      simp only [hk, kindOK] at hu
      have h2 := Den.ifaceA t l _ hd .nil
      rw [Array.toArray_toList] at h2
      refine ⟨.iface t (.agg us), ?_, h2⟩
      cases hun : P.underlying t with
      | none => simp [hun] at hu
      | some d => cases d <;> simp [hun] at hu <;> simp [Instr.makeInterface, run_underlying hun]
    · trivial
  · rename_i k hk
    split
    · rename_i k' n
      rw [denV_int hx]
      have hu := hP.int hk
      exact ⟨.iface t (.int k' n), by simp [Instr.makeInterface, run_underlying hu], .iface t _ _ (.int _ _ .nil) .nil⟩
    · trivial
  · trivial
theorem does_panic {sx : SV T} {x : Value} (hx : DenV C M sx x) :
    Does P C E M (panicE sx) (fun w => (do pure (Next.value (← Instr.panic x))).run P w) := by
  unfold panicE
  split
  · rename_i t s
    have hx0 := hx
    simp only [DenV, DenP] at hx
    cases hx with
    | iface _ _ v _ _ => exact ⟨_, by simp [Instr.panic, goPanic], hx0⟩
    | ifaceA _ m us _ _ => exact ⟨_, by simp [Instr.panic, goPanic], hx0⟩
  · trivial
theorem does_assert2 (hP : TabOK P C B) {t xt : TypeId} {ok : Bool} {sx : SV T} {x : Value} (hx : DenV C M sx x) :
    Does P C E M (assert2E B sx t ok) (fun w => (do pure (Next.value (← Instr.typeAssert x xt t ok))).run P w) := by
  unfold assert2E
  split
  · rename_i fs hk
    have hu := hP.kind t
    simp only [hk, kindOK] at hu
    split
    · rename_i t' l
      split
      · rename_i h1
        rw [Nat.beq_eq] at h1
        subst h1
        simp only [DenV, DenP] at hx
        cases hx with
        | iface _ _ v h _ => cases h
        | ifaceA _ m us h _ =>
          refine ⟨.tuple #[.agg us.toArray, .bool true], ?_, ⟨_, rfl, rfl, fun i s u hs hu => ?_⟩⟩
          · cases hun : P.underlying t with
            | none => simp [hun] at hu
            | some d => cases d <;> simp [hun] at hu <;> simp [Instr.typeAssert, run_underlying hun]
          · match i with
            | 0 =>
              simp at hs hu
              subst hs; subst hu
              exact ⟨_, rfl, by simpa using h⟩
            | 1 =>
              simp at hs hu
              subst hs; subst hu
              exact Den.bool (.lit true) .nil
            | i + 2 => simp at hs
      · trivial
    · trivial
  · trivial
theorem does_makeFunc (hF : FrOK C M fr a) {o : Oper} {fn : Fn} {first cap : Array Operand} (ho : o.op = .makeFunc fn first cap) :
    Does P C E M (opE C .std B H (ev fr) o) (fun w => (execOp a.eval o).run P w) := by
  unfold opE execOp
  rw [ho]
  simp only []
  split
  · rename_i f
    split
    · rename_i hfirst
      split
      · rename_i hone
        have h0 : first = #[] := by simpa using hfirst
        subst h0
        refine ⟨.func (.func f) #[] (cap.map a.eval), by simp [Instr.makeFunc], ?_⟩
        have := ones_den hF hone
        have h2 := Den.fn f _ _ this .nil
        have e : (cap.toList.map a.eval).toArray = cap.map a.eval := by rw [← Array.toList_map, Array.toArray_toList]
        rw [e] at h2
        exact h2
      · trivial
    · trivial
  · trivial

theorem denV_fn {f : FuncId} {cap : List (SV T)} {v : Value} (h : DenV C M (.fn f cap) v) : ∃ us, v = .func (.func f) #[] us.toArray ∧ Den C M cap us := by
  simp only [DenV, DenP] at h; cases h; exact ⟨_, rfl, ‹_›⟩

theorem den_get : ∀ {l : List (SV T)} {us : List Value}, Den C M l us → allOne l = true → l.length = us.length ∧ ∀ (i : Nat) s u, l[i]? = some s → us[i]? = some u → DenV C M s u
  | [], us, h, _ => by cases h; exact ⟨rfl, fun i s u h => by simp at h⟩
  | s :: l, us, h, h1 => by
    simp only [allOne] at h1
    split at h1
    · rename_i hs
      obtain ⟨vs, us', rfl, hl, hd, h'⟩ := h.split
      obtain ⟨h2, h3⟩ := den_get h' h1
      have hw : wd C s = 1 := by cases s <;> first | rfl | (simp [isOne] at hs)
      rw [hw] at hl
      match vs, hl with
      | [v], _ =>
        refine ⟨by simp [h2], fun i x u hx hu => ?_⟩
        cases i with
        | zero =>
          simp only [List.getElem?_cons_zero, Option.some.injEq, List.cons_append, List.nil_append] at hx hu
          subst hx; subst hu
          cases s <;> simp only [isOne] at hs <;> first | (cases hs; done) | exact hd
        | succ i => exact h3 i x u (by simpa using hx) (by simpa using hu)
    · cases h1

theorem does_callValue (hF : FrOK C M fr a) {o : Oper} {c : Call} {f : Operand} (ho : o.op = .call c) (hc : c.callee = .value f) :
    Does P C E M (match ev fr f with | .fn f cap => (match allOne cap with | true => .call f (app' (c.args.toList.map (ev fr)) cap) | false => .stuck "call: captured") | _ => .stuck "call: value") (fun w => (execOp a.eval o).run P w) := by
  have hf := ev_ok hF f
  unfold execOp
  rw [ho]
  simp only []
  split
  · rename_i g cap he
    rw [he] at hf
    split
    · rename_i hone
      obtain ⟨us, hv, hd⟩ := denV_fn hf
      obtain ⟨h1, h2⟩ := den_get hd hone
      refine ⟨c.args.map a.eval ++ us.toArray, by simp [resolve, hc, hv, Deferred.ofValue, invoke], by rw [app'_eq]; simp [h1], fun i s u hs hu => ?_⟩
      rw [app'_eq] at hs
      rcases Nat.lt_or_ge i c.args.size with hi | hi
      · rw [List.getElem?_append_left (by simpa using hi)] at hs
        rw [Array.getElem?_append_left (by simpa using hi)] at hu
        simp only [List.getElem?_map, Option.map_eq_some_iff] at hs
        simp only [Array.getElem?_map, Option.map_eq_some_iff] at hu
        obtain ⟨x, hx, rfl⟩ := hs
        obtain ⟨y, hy, rfl⟩ := hu
        rw [Array.getElem?_toList, hy] at hx
        cases hx
        exact ev_ok hF _
      · rw [List.getElem?_append_right (by simpa using hi)] at hs
        rw [Array.getElem?_append_right (by simpa using hi)] at hu
        exact h2 (i - c.args.size) s u (by simpa using hs) (by simpa using hu)
    · trivial
  · trivial

theorem map_two {α β : Type _} {f : α → β} {xs : List α} {x y : β} (h : xs.map f = [x, y]) : ∃ p q, xs = [p, q] ∧ f p = x ∧ f q = y := by
  match xs, h with
  | [p, q], h => simp at h; exact ⟨p, q, rfl, h.1, h.2⟩
theorem map_one {α β : Type _} {f : α → β} {xs : List α} {x : β} (h : xs.map f = [x]) : ∃ p, xs = [p] ∧ f p = x := by
  match xs, h with
  | [p], h => simp at h; exact ⟨p, rfl, h⟩
theorem arr_of {α : Type _} {xs : Array α} {l : List α} (h : xs.toList = l) : xs = l.toArray := by rw [← h]

theorem drop_take1 {α : Type _} (l : List α) (i : Nat) : (l.drop i).take 1 = l[i]?.toList := by
  rcases Nat.lt_or_ge i l.length with h | h
  · rw [List.drop_eq_getElem_cons h, List.take_succ_cons, List.take_zero, List.getElem?_eq_getElem h]; rfl
  · rw [List.drop_of_length_le h, List.getElem?_eq_none h]; rfl
theorem srcOf_ok (hS : Sat C E M H) {s : SV T} {r : Row T} {v : Value} (h : srcOf .std H s = some r) (hz : r.elemSz C = 1) (hv : DenV C M s v) :
    ∃ ad cap us, v = .slice ad r.length cap ∧ us.length = r.length ∧ RowOK C M r us ∧ (0 < r.length → ∃ b o, ad = some ⟨b, o, none⟩ ∧ ∀ q, q < us.length → M.w.cell? ⟨b, o + q, none⟩ = us[q]?) := by
  unfold srcOf at h
  split at h
  · rename_i c lo hi
    split at h
    · rename_i t r0 hH
      cases h
      rw [nth_eq] at hH
      obtain ⟨hl, hr⟩ := hS.ch c _ hH
      simp only [DenV, DenP] at hv
      cases hv with
      | osl _ _ _ a cap hc h0 h1 h2 ha _ _ =>
        obtain ⟨s1, s2, s3⟩ := Row.sub_ok (C := C) r0 h0 h1 (by rw [hl]; exact h2)
        rw [s2] at hz
        have e1 : (hi - lo).toNat = (r0.sub .std lo hi).length := by rw [s1]; omega
        rw [e1]
        rcases hr with ⟨hb, h3, _⟩ | ⟨g, us, hg, hh, hle, hcm, hus, hrow⟩
        · refine ⟨a, cap, [], rfl, by rw [s1]; simp; omega, fun i e he => ?_, fun h => by rw [s1] at h; omega⟩
          have := (s3 i e he).1
          omega
        · refine ⟨a, cap, (us.drop lo.toNat).take (hi.toNat - lo.toNat), rfl, ?_, fun i e he => ?_, fun h => ?_⟩
          · rw [s1, List.length_take, List.length_drop, hus, hz]; omega
          · obtain ⟨h4, h5⟩ := s3 i e he
            have h6 := hrow _ e h5
            rw [hz, Nat.mul_one, drop_take1] at h6
            rw [s2, hz, Nat.mul_one, drop_take1, List.getElem?_take, if_pos h4, List.getElem?_drop]
            exact h6
          · rw [s1] at h
            refine ⟨g, lo.toNat, by rw [ha (by omega), hg]; rfl, fun q hq => ?_⟩
            simp only [List.length_take, List.length_drop] at hq
            rw [cell_blk hh, List.getElem?_take, if_pos (by omega), List.getElem?_drop]
    · cases h
  · obtain ⟨ad, cap, us, rfl, hus, hrow, hn, hsm⟩ := rowOf_ok hS h hv
    rw [hz, Nat.mul_one] at hus
    refine ⟨ad, cap, us, rfl, hus, hrow, fun h0 => ?_⟩
    cases ad with
    | none => have := hn rfl; omega
    | some x =>
      obtain ⟨b, o, h1 | h1⟩ := hsm x rfl
      · exact ⟨b, o, by rw [h1.1], h1.2⟩
      · omega
theorem dstOf_ok (hS : Sat C E M H) {s : SV T} {c : Nat} {lo hi : Int} {t : TypeId} {r : Row T} {v : Value} (h : dstOf .std H s = some (c, lo, hi, t, r)) (hv : DenV C M s v) :
    ∃ a cap, v = .slice a (hi - lo).toNat cap ∧ 0 ≤ lo ∧ lo ≤ hi ∧ hi ≤ r.length ∧ (lo < hi → a = (M.ρ c).blk.map fun g => ⟨g, lo.toNat, none⟩) ∧ H[c]? = some (.row t r) := by
  unfold dstOf at h
  split at h
  · rename_i c'
    split at h
    · rename_i t' r' hH
      cases h
      rw [nth_eq] at hH
      obtain ⟨hl, hr⟩ := hS.ch c _ hH
      simp only [DenV, DenP] at hv
      cases hv with
      | own _ hc _ =>
        rw [Row.len_std]
        exact ⟨(M.ρ c).blk.map (fun g => ⟨g, 0, none⟩), (M.ρ c).cap, by rw [Int.sub_zero, Int.toNat_natCast, hl], Int.le_refl _, by omega, Int.le_refl _, fun _ => rfl, hH⟩
    · cases h
  · rename_i c' lo' hi'
    split at h
    · rename_i t' r' hH
      cases h
      rw [nth_eq] at hH
      obtain ⟨hl, hr⟩ := hS.ch c _ hH
      simp only [DenV, DenP] at hv
      cases hv with
      | osl _ _ _ a cap hc h0 h1 h2 ha _ _ => exact ⟨a, cap, rfl, h0, h1, by rw [hl]; exact h2, ha, hH⟩
    · cases h
  · cases h
theorem spliceR_ok {r s r' : Row T} {lo n : Int} (h : spliceR .std r s lo n = some r') (h0 : 0 ≤ lo) (h1 : 0 ≤ n) (h2 : n ≤ s.length) (h3 : lo + n ≤ r.length) (h4 : (r.length : Int) ≤ 9223372036854775807) :
    r'.length = r.length ∧ r'.elemSz C = r.elemSz C ∧ s.elemSz C = r.elemSz C ∧ ∀ i e, r'.cells C i = some e → (i < lo.toNat ∧ r.cells C i = some e) ∨ (lo.toNat ≤ i ∧ i < lo.toNat + n.toNat ∧ s.cells C (i - lo.toNat) = some e) ∨ (lo.toNat + n.toNat ≤ i ∧ r.cells C i = some e) := by
  unfold spliceR at h
  have ha : Leaf.std.ar .add .i64 lo n = lo + n := by
    show IntKind.i64.wrap (lo + n) = _
    rw [IntKind.wrap_i64]; omega
  rw [ha, Row.len_std] at h
  split at h
  · rename_i x hx
    obtain ⟨p1, p2, p3⟩ := Row.sub_ok (C := C) r (Int.le_refl 0) h0 (show lo ≤ r.length by omega)
    obtain ⟨q1, q2, q3⟩ := Row.sub_ok (C := C) s (Int.le_refl 0) h1 h2
    obtain ⟨u1, u2, u3⟩ := Row.sub_ok (C := C) r (show 0 ≤ lo + n by omega) h3 (Int.le_refl _)
    obtain ⟨a1, a2, a3, a4, a5⟩ := Row.app_ok (C := C) hx
    obtain ⟨b1, b2, b3, b4, b5⟩ := Row.app_ok (C := C) h
    rw [p1, q1] at a1
    rw [p1] at a4 a5
    rw [a1, u1] at b1
    rw [a1] at b4 b5
    refine ⟨by rw [b1]; omega, by rw [b2, a2, p2], by rw [← q2, a3, p2], fun i e he => ?_⟩
    rcases Nat.lt_or_ge i (lo.toNat - 0 + (n.toNat - 0)) with hi | hi
    · rw [b4 i (by simpa using hi)] at he
      rcases Nat.lt_or_ge i lo.toNat with hj | hj
      · rw [a4 i (by simpa using hj)] at he
        have := (p3 i e he).2
        exact .inl ⟨hj, by simpa using this⟩
      · rw [a5 i (by simpa using hj)] at he
        have := (q3 _ e he).2
        exact .inr (.inl ⟨hj, by omega, by simpa using this⟩)
    · rw [b5 i (by simpa using hi)] at he
      have := (u3 _ e he).2
      refine .inr (.inr ⟨by omega, ?_⟩)
      have e2 : (lo + n).toNat + (i - ((lo.toNat - (0 : Int).toNat) + (n.toNat - (0 : Int).toNat))) = i := by simp; omega
      rwa [e2] at this
  · cases h
theorem setRow_put {w : World} {g : Nat} {cur : Array Value} {t : TypeId} (us : List Value) (hg : w.heap[g]? = some (.cells cur t (0, 0))) : w.setRow g us.toArray = World.put w g us t := by
  unfold World.setRow World.put
  congr 1
  have hlt : g < w.heap.size := (Array.getElem?_eq_some_iff.1 hg).1
  have hv : w.heap[g] = .cells cur t (0, 0) := (Array.getElem?_eq_some_iff.1 hg).2
  apply Array.ext
  · simp
  · intro i h1 h2
    rw [Array.getElem_modify, Array.getElem_setIfInBounds]
    split
    · rename_i h; subst h; simp [hv]
    · rfl
theorem put_at {w : World} {g : Nat} {cur : Array Value} {t t' : TypeId} (hg : w.heap[g]? = some (.cells cur t (0, 0))) (us : List Value) : (World.put w g us t').heap[g]? = some (.cells us.toArray t' (0, 0)) := by
  have hlt : g < w.heap.size := (Array.getElem?_eq_some_iff.1 hg).1
  simp [World.put, hlt]
theorem Sat.same (hS : Sat C E M H) {c : Nat} {x y : Ch T} (hx : H[c]? = some x) (hlx : x.lv = true) (hly : y.lv = true) (hy : ChOK C M c y) : Sat C E M (H.set c y) := by
  have hlv : ∀ c', live (H.set c y) c' ↔ live H c' := fun c' => live_set hx hlx hly
  refine ⟨by simpa using hS.n, fun c' z hz => ?_, fun c1 c2 g' h1 h2 => hS.inj c1 c2 g' ((hlv _).1 h1) ((hlv _).1 h2), fun c' g' h1 h2 => hS.lt c' g' ((hlv _).1 h1) h2, fun b => ?_, hS.os, hS.tape, hS.output, hS.size, fun c h hc => by simpa using hS.anch c h hc, hS.kept⟩
  · by_cases hcc : c = c'
    · subst hcc
      rw [List.getElem?_set_self ((List.getElem?_eq_some_iff.1 hx).1)] at hz
      cases hz
      exact hy
    · rw [List.getElem?_set_ne hcc] at hz
      exact hS.ch c' z hz
  · rw [hS.D b]
    simp only [hlv]
theorem does_copy (hP : TabOK P C B) (hC : CodOK C) (hS : Sat C E M H) {t t2 ty : TypeId} {sd sx : SV T} {d x : Value} (hd : DenV C M sd d) (hx : DenV C M sx x) :
    Does P C E M (copyE .std B C H t sd sx) (fun w => (do pure (Next.value (← Builtin.copy_ #[t, t2] ty #[d, x]))).run P w) := by
  unfold copyE
  split
  · rename_i el hk
    have hu := hP.slice hk
    split
    · rename_i hsz ho
      rw [Nat.beq_eq] at hsz
      have hso := hP.sizeOf ho
      simp only [hsz] at hso
      split
      · rename_i c lo hi t' r hdst
        split
        · rename_i s hsrc
          split
          · rename_i r' hr' hz
            rw [Nat.beq_eq] at hz
            obtain ⟨a, cap, rfl, d0, d1, d2, da, hH⟩ := dstOf_ok hS hdst hd
            obtain ⟨hl, hr⟩ := hS.ch c _ hH
            have hrl : (r.length : Int) ≤ 9223372036854775807 := by
              rcases hr with ⟨_, h0, _⟩ | ⟨_, _, _, _, hle, hcm, _⟩
              · omega
              · unfold maxLen at hcm; omega
            have es : Leaf.std.ar .sub .i64 hi lo = hi - lo := by
              show IntKind.i64.wrap (hi - lo) = _
              rw [IntKind.wrap_i64]; omega
            obtain ⟨n, hn⟩ : ∃ n : Nat, Leaf.std.imin (s.len .std) (Leaf.std.ar .sub .i64 hi lo) = n ∧ n = Nat.min s.length (hi - lo).toNat := by
              rw [es, Row.len_std]
              refine ⟨_, ?_, rfl⟩
              show (if hi - lo < (s.length : Int) then hi - lo else (s.length : Int)) = _
              have e : Nat.min s.length (hi - lo).toNat = min s.length (hi - lo).toNat := rfl
              rw [e]
              split <;> omega
            obtain ⟨hn1, hn2⟩ := hn
            have e : Nat.min s.length (hi - lo).toNat = min s.length (hi - lo).toNat := rfl
            rw [hn1] at hr' ⊢
            rw [setN_eq]
            obtain ⟨f1, f2, f3, f4⟩ := spliceR_ok (C := C) hr' d0 (by omega) (by omega) (by omega) (by omega)
            obtain ⟨ad, cap2, us2, rfl, hus2, hrow2, hsm⟩ := srcOf_ok hS hsrc (by rw [f3]; exact hz) hx
            obtain ⟨j, hj, hjs, _⟩ := hP.info el ho
            have hs1 : (P.info? el).map (·.size) = some 1 := by rw [hj]; simp [hjs, hsz]
            have hint : goInt n = .int .i64 n := rfl
            have hsz2 : s.elemSz C = 1 := by rw [f3]; exact hz
            have hone : ∀ us : List Value, us.length = s.length → RowOK C M s us → ∀ u ∈ us, u.oneCell' = true := fun us hl hw u hu => by
              rw [← one_eq]
              exact rows_ones hC (r := s) (by rw [hsz2, Nat.mul_one]; exact hl) (fun i e he => Den.ones hC (hw i e he)) u hu
            rcases Nat.eq_zero_or_pos n with h0 | h0
            · subst h0
              have hrow' : ∀ us : List Value, RowOK C M r us → RowOK C M r' us := fun us hw i e he => by
                rw [f2]
                rcases f4 i e he with ⟨_, h⟩ | ⟨h1, h2, _⟩ | ⟨_, h⟩
                · exact hw i e h
                · simp at h2; omega
                · exact hw i e h
              have hch : ChOK C M c (.row t' r') := by
                refine ⟨by rw [f1]; exact hl, ?_⟩
                rcases hr with h | ⟨g, us, hg, hh, hle, hcm, hus, hrow⟩
                · exact .inl h
                · exact .inr ⟨g, us, hg, hh, hle, hcm, by rw [f2]; exact hus, hrow' us hrow⟩
              refine ⟨.value (goInt 0), M, ?_, .inl ⟨_, rfl, .int _ _ .nil⟩, Sat.same hS hH rfl rfl hch, Ext.refl M⟩
              have := run_copy_none (P := P) M.w t t2 ty el a ad (hi - lo).toNat cap s.length cap2 hu hs1 hn2.symm
              simp only [Sem.run_bind, this, Result.andThen_ok, Sem.run_pure]
            · obtain ⟨b, o, rfl, hcell⟩ := hsm (by omega)
              rcases hr with ⟨_, h1, _⟩ | ⟨g, us, hg, hh, hle, hcm, hus, hrow⟩
              · omega
              have ha2 := da (by omega)
              rw [hg] at ha2
              subst ha2
              rw [hz, Nat.mul_one] at hus
              have hlen2 : (us2.take n).length = n := by rw [List.length_take]; omega
              have hrun := run_copy_row (P := P) M.w t t2 ty el g lo.toNat (hi - lo).toNat cap ⟨b, o, none⟩ s.length cap2 us.toArray t' (us2.take n) hu hs1 hh (by rw [hlen2]; exact hn2)
                (fun j v hj => by
                  rw [add_mk]
                  have hjn : j < n := by have := (List.getElem?_eq_some_iff.1 hj).1; omega
                  rw [List.getElem?_take, if_pos hjn] at hj
                  rw [hcell j (by omega)]; exact hj)
                (by rw [hlen2]; simp; omega)
                (fun v hv => hone us2 hus2 hrow2 v (List.mem_of_mem_take hv))
              rw [hlen2] at hrun
              have hput := setRow_put (us.take lo.toNat ++ us2.take n ++ us.drop (lo.toNat + n)) hh
              simp only at hrun
              rw [hput] at hrun
              have hup := Sat.upd (y := .row t' r') hC hS hH rfl rfl hg (us := us.take lo.toNat ++ us2.take n ++ us.drop (lo.toNat + n)) (t := t') (by
                refine ⟨by rw [f1]; exact hl, .inr ⟨g, _, hg, put_at hh _, hle, hcm, ?_, ?_⟩⟩
                · rw [f2, hz, Nat.mul_one]
                  simp only [List.length_append, List.length_take, List.length_drop]
                  show _ = (M.ρ c).cap
                  omega
                · have e2 : Ext M { M with w := World.put M.w g (us.take lo.toNat ++ us2.take n ++ us.drop (lo.toNat + n)) t' } := ⟨Nat.le_refl _, fun _ _ => rfl, fun b hb => ⟨hb, put_heap _ _ _ _ _ (fun hbg => by subst hbg; exact ((hS.D b).1 hb).2.2 c ⟨_, hH, rfl⟩ hg)⟩⟩
                  intro i e he
                  refine Den.ext hC ?_ e2
                  rw [f2, hz, Nat.mul_one, drop_take1]
                  have hil : i < r.length := by rw [← f1]; exact Row.cells_lt he
                  have k1 : (us.take lo.toNat).length = lo.toNat := by rw [List.length_take]; omega
                  rcases f4 i e he with ⟨h1, h⟩ | ⟨h1, h2, h⟩ | ⟨h1, h⟩
                  · have := hrow i e h
                    rw [hz, Nat.mul_one, drop_take1] at this
                    rw [List.append_assoc, List.getElem?_append_left (by omega), List.getElem?_take, if_pos h1]
                    exact this
                  · have := hrow2 _ e h
                    rw [hsz2, Nat.mul_one, drop_take1] at this
                    simp only [Int.toNat_natCast] at h2
                    rw [List.append_assoc, List.getElem?_append_right (by omega), k1, List.getElem?_append_left (by omega), List.getElem?_take, if_pos (by omega)]
                    exact this
                  · have := hrow i e h
                    rw [hz, Nat.mul_one, drop_take1] at this
                    simp only [Int.toNat_natCast] at h1
                    rw [List.append_assoc, List.getElem?_append_right (by omega), k1, List.getElem?_append_right (by omega), hlen2, List.getElem?_drop]
                    rwa [show lo.toNat + n + (i - lo.toNat - n) = i from by omega])
              refine ⟨.value (goInt n), _, ?_, .inl ⟨_, rfl, .int _ _ .nil⟩, hup.1, hup.2⟩
              simp only [Sem.run_bind, Option.map_some, hrun, Result.andThen_ok, Sem.run_pure]
          · trivial
        · trivial
      · trivial
    · trivial
  · trivial
theorem does_appendZ (hP : TabOK P C B) (hZ : ZeroOK P C B) (hC : CodOK C) (hS : Sat C E M H) {t t2 ty : TypeId} {ss sx : SV T} {vs vx : Value} (hs : DenV C M ss vs) (hx : DenV C M sx vx) :
    Does P C E M (appendZE .std B C H t t2 ss sx) (fun w => (do pure (Next.value (← Builtin.append_ #[t, t2] ty #[vs, vx]))).run P w) := by
  unfold appendZE
  split
  · rename_i e kn hk hk2
    have hu := hP.slice hk
    have hu2 := hP.int hk2
    split
    · rw [denV_val hs]
      split
      · rename_i k n
        rw [denV_int hx]
        split
        · rename_i r hr
          rw [len'_eq, app'_eq]
          intro hin hsm
          have hin : (0 : Int) ≤ 0 ∧ (0 : Int) < n := hin
          obtain ⟨q, rfl⟩ := Int.eq_ofNat_of_zero_le (show 0 ≤ n by omega)
          have hs2 := small_nat hsm
          have hrl : r.length = q := by simpa using rep_ok hr
          obtain ⟨i, z, hi, hz, hzs, his, hib, hzd⟩ := hZ.zel e q r hr
          have hpos := Row.elemSz_pos hC r
          have hrun := Lib.run_append_nil_zeros (P := P) M.w t t2 ty e i z k kn hu hu2 hi hz q (by omega) (by omega) (by have := hs2.1; unfold maxLen at this; omega) (by rw [hib]; omega)
          have hge := grownCap_ge M.w q 0 e
          have hcm := grownCap_le_maxLen M.w q 0 e hs2.1
          have hzl : ∀ n, (Builtin.zeroCells z.cells n).size = n * r.elemSz C := fun n => by simp [Builtin.zeroCells, hzs]
          have hrow : RowOK C M r (Builtin.zeroCells z.cells q).toList := fun j x hx => by
            have hj := Row.cells_lt hx
            rw [hrl] at hj
            have := madeCells_take (z := z.cells) hj
            rw [hzs] at this
            have e2 : (Builtin.zeroCells z.cells q).toList = ((Array.range (q * z.cells.size)).map (z.cells[· % z.cells.size]!)).toList := rfl
            rw [e2, hzs, this]
            exact hzd j x hx M
          obtain ⟨M', hw', hρ', hn', ee, hS'⟩ := Sat.newG (x := .row e r) (hd := ⟨some M.w.heap.size, q, grownCap M.w q 0 e⟩)
            (w' := M.w.drew.alloc (.cells (Builtin.zeroCells z.cells q ++ Builtin.zeroCells z.cells (grownCap M.w q 0 e - q)) e)) hC hS rfl rfl rfl rfl (by show M.w.heap.size ≤ (M.w.heap.push _).size; rw [Array.size_push]; omega)
            (fun b hb => heap_alloc_old M.w.drew _ hb) (fun g hg => by cases hg; exact ⟨by show _ < (M.w.heap.push _).size; rw [Array.size_push]; omega, Nat.le_refl _⟩)
            (fun M'' e2 hρ hw => by
              refine ⟨by rw [hρ, hrl], .inr ⟨M.w.heap.size, (Builtin.zeroCells z.cells q ++ Builtin.zeroCells z.cells (grownCap M.w q 0 e - q)).toList, by rw [hρ], ?_, by rw [hρ]; exact hge, by rw [hρ]; exact hcm, ?_, ?_⟩⟩
              · rw [hw, Array.toArray_toList]
                exact heap_alloc_new M.w.drew _
              · rw [hρ]
                simp only [Array.length_toList, Array.size_append, hzl]
                rw [← Nat.add_mul]
                congr 1
                show q + (grownCap M.w q 0 e - q) = grownCap M.w q 0 e
                omega
              · refine RowOK.front (hrow.ext hC e2) ?_
                rw [hrl, Array.toList_append, List.take_append_of_le_length (by rw [Array.length_toList, hzl]; exact Nat.le_refl _)])
          refine ⟨.value (.slice (some ⟨M.w.heap.size, 0, none⟩) q (grownCap M.w q 0 e)), M', ?_, .inl ⟨_, rfl, ?_⟩, hS', ee⟩
          · simp only [Sem.run_bind]
            erw [hrun]
            simp only [Result.andThen_ok, Sem.run_pure, hw']
          · have := Den.own (C := C) (M := M') H.length (by rw [hn', hS.n]; omega) .nil
            rw [hρ'] at this
            exact this
        · trivial
      · trivial
    · trivial
  · trivial
theorem does_builtin (hA : ∀ c, B.pin c = false → E.A c = none) (hP : TabOK P C B) (hZ : ZeroOK P C B) (hC : CodOK C) (hS : Sat C E M H) (hF : FrOK C M fr a) {o : Oper} {c : Call} {b : Builtin} (ho : o.op = .call c) (hc : c.callee = .builtin b) :
    Does P C E M (builtinE .std B C H b (c.args.toList.map (ev fr)) c.argTypes.toList) (fun w => (execOp a.eval o).run P w) := by
  have h1 : ∃ cs, resolve a.eval c o.type = pure { target := .builtin b c.argTypes o.type cs, args := c.args.map a.eval } := by
    unfold resolve
    rw [hc]
    exact ⟨_, rfl⟩
  obtain ⟨cs, h1⟩ := h1
  have hrun : (fun w => (execOp a.eval o).run P w) = fun w => (builtin b c.argTypes o.type cs (c.args.map a.eval)).run P w := by
    funext w
    unfold execOp
    rw [ho]
    simp only [h1, Sem.run_bind, Sem.run_pure, Result.andThen_ok, invoke]
  rw [hrun]
  unfold builtinE
  split
  · split
    · rename_i x hx
      split
      · rename_i t ht
        obtain ⟨p, hp, rfl⟩ := map_one hx
        have ha : c.args = #[p] := arr_of hp
        have hat : c.argTypes = #[t] := arr_of ht
        rw [ha, hat]
        have := does_len (E := E) (ty := o.type) hP hS (t := t) (ev_ok hF p)
        simp only [builtin, List.map_toArray, List.map_cons, List.map_nil]
        exact this
      · trivial
    · trivial
  · split
    · rename_i s x hx
      split
      · rename_i t t2 ht
        split
        rotate_left 1
        · rename_i htt
          obtain ⟨p, q, hp, rfl, rfl⟩ := map_two hx
          have ha : c.args = #[p, q] := arr_of hp
          have hat : c.argTypes = #[t, t2] := arr_of ht
          rw [ha, hat]
          have := does_appendZ (E := E) (ty := o.type) (t2 := t2) hP hZ hC hS (t := t) (ev_ok hF p) (ev_ok hF q)
          simp only [builtin, List.map_toArray, List.map_cons, List.map_nil]
          exact this
        · rename_i htt
          rw [Nat.beq_eq] at htt
          subst htt
          obtain ⟨p, q, hp, rfl, rfl⟩ := map_two hx
          have ha : c.args = #[p, q] := arr_of hp
          have hat : c.argTypes = #[t, t] := arr_of ht
          rw [ha, hat]
          have := does_append (E := E) (ty := o.type) hA hP hZ hC hS (t := t) (ev_ok hF p) (ev_ok hF q)
          simp only [builtin, List.map_toArray, List.map_cons, List.map_nil]
          exact this
      · trivial
    · trivial
  · split
    · rename_i x hx
      split
      · rename_i t ht
        split
        · rename_i e hk
          have hu := hP.slice hk
          obtain ⟨p, hp, hv⟩ := map_one hx
          have ha : c.args = #[p] := arr_of hp
          have hat : c.argTypes = #[t] := arr_of ht
          rw [ha, hat]
          have e1 := ev_ok hF p
          rw [hv] at e1
          refine ⟨.int .i64 0, ?_, .int _ _ .nil⟩
          simp [builtin, Builtin.cap_, denV_val e1, run_underlying hu, goInt]
        · trivial
      · trivial
    · trivial
  · split
    · rename_i d x hx
      split
      · rename_i t t2 ht
        obtain ⟨p, q, hp, rfl, rfl⟩ := map_two hx
        have ha : c.args = #[p, q] := arr_of hp
        have hat : c.argTypes = #[t, t2] := arr_of ht
        rw [ha, hat]
        have := does_copy (E := E) (ty := o.type) (t2 := t2) hP hC hS (t := t) (ev_ok hF p) (ev_ok hF q)
        simp only [builtin, List.map_toArray, List.map_cons, List.map_nil]
        exact this
      · trivial
    · trivial
  · split
    · rename_i k x k' y hx
      split
      · rename_i hk
        cases iprop_eq hk
        obtain ⟨p, q, hp, h1, h2⟩ := map_two hx
        have ha : c.args = #[p, q] := arr_of hp
        have e1 := ev_ok hF p
        have e2 := ev_ok hF q
        rw [h1] at e1
        rw [h2] at e2
        rw [ha]
        refine ⟨.int k (Leaf.std.imin x y), ?_, .int _ _ .nil⟩
        simp [builtin, Builtin.min_, Builtin.min2, denV_int e1, denV_int e2, Leaf.std]
      · trivial
    · trivial
  · split
    · rename_i k x k' y hx
      split
      · rename_i hk
        cases iprop_eq hk
        obtain ⟨p, q, hp, h1, h2⟩ := map_two hx
        have ha : c.args = #[p, q] := arr_of hp
        have e1 := ev_ok hF p
        have e2 := ev_ok hF q
        rw [h1] at e1
        rw [h2] at e2
        rw [ha]
        refine ⟨.int k (Leaf.std.imax x y), ?_, .int _ _ .nil⟩
        simp [builtin, Builtin.max_, Builtin.max2, denV_int e1, denV_int e2, Leaf.std]
      · trivial
    · trivial
  · trivial

/-- What is given. -/
structure Giv (P : Program) (C : Cod T) (B : Tab) (E : Env) : Prop where
  tab : TabOK P C B
  zero : ZeroOK P C B
  cod : CodOK C
  pin : ∀ c, B.pin c = false → E.A c = none
  mix : P.follows .mixedOrders = true

theorem does_op (G : Giv P C B E) (hS : Sat C E M H) (hF : FrOK C M fr a) (o : Oper) :
    Does P C E M (opE C .std B H (ev fr) o) (fun w => (execOp a.eval o).run P w) := by
  have hP := G.tab
  have hZ := G.zero
  have hC := G.cod
  cases ho : o.op
  case move x => unfold opE execOp; rw [ho]; exact ⟨_, by simp, ev_ok hF x⟩
  case assign x => unfold opE execOp; rw [ho]; exact ⟨_, by simp, ev_ok hF x⟩
  case pick c x y => have := does_pick (E := E) (P := P) ho (ev_ok hF c) (ev_ok hF x) (ev_ok hF y); unfold opE; rw [ho]; exact this
  case alloc t =>
    unfold opE execOp; rw [ho]; simp only []
    split
    · rename_i z hz
      rw [len'_eq, app'_eq]
      exact does_alloc hZ hC hS hz
    · trivial
  case box t x =>
    unfold opE execOp; rw [ho]; simp only []
    split
    · rename_i h1 h2
      rw [len'_eq, app'_eq]
      exact does_box hC hS (ev_ok hF x) h2
    · trivial
  case build t ps =>
    unfold opE execOp; rw [ho]; simp only []
    split
    · rename_i h; exact does_build hP hZ hC hF h
    · trivial
  case buildSlice t n ps =>
    unfold opE execOp; rw [ho]; simp only []
    split
    · rename_i e hk
      split
      · rename_i z hz
        split
        · rename_i h1 h2 h3 h4
          rw [len'_eq]
          simp only [app'_eq]
          exact does_buildSlice hP hZ hC hS hF hk hz h1 h2 h3 h4
        · trivial
      · trivial
    · trivial
  case load t x => unfold opE execOp; rw [ho]; exact does_load hP hS (ev_ok hF x)
  case store t x v => unfold opE execOp; rw [ho]; exact does_store hP hC hS (ev_ok hF x) (ev_ok hF v)
  case nilCheck x => have := does_nil (E := E) (P := P) ho (ev_ok hF x); unfold opE; rw [ho]; exact this
  case binOp op t x y z =>
    have := does_bin (E := E) (H := H) hP hS op t x y _ _ (ev_ok hF x) (ev_ok hF y)
    have e : (fun w => (execOp a.eval o).run P w) = fun w => (do eqGuard op t x y (a.eval x) (a.eval y); pure (Next.value (← binOp op t (a.eval x) (a.eval y)))).run P w := by
      funext w
      unfold execOp; rw [ho]; simp only [Sem.run_bind]
      cases (eqGuard op t x y (a.eval x) (a.eval y)).run P w <;> simp
    rw [e]; unfold opE; rw [ho]; exact this
  case unOp op t x => have := does_un (E := E) (P := P) ho (ev_ok hF x); unfold opE; rw [ho]; exact this
  case convert s d x => unfold opE execOp; rw [ho]; exact does_conv hP hC hS (ev_ok hF x)
  case makeFunc fn first cap => exact does_makeFunc hF ho
  case makeSlice t l c => unfold opE execOp; rw [ho]; exact does_make hP hZ hC hS (ev_ok hF l) (ev_ok hF c)
  case slice t x lo hi mx => unfold opE execOp; rw [ho]; exact does_slice hP hS hF
  case fieldAddr t x f => unfold opE execOp; rw [ho]; exact does_fieldAddr hP (ev_ok hF x)
  case field t x f => unfold opE execOp; rw [ho]; exact does_field hP (ev_ok hF x)
  case indexAddr t x i => unfold opE execOp; rw [ho]; exact does_indexAddr hP hS (ev_ok hF x) (ev_ok hF i)
  case index t x i => unfold opE execOp; rw [ho]; exact does_index hP (ev_ok hF x) (ev_ok hF i)
  case makeInterface t x => unfold opE execOp; rw [ho]; exact does_boxI hP (ev_ok hF x)
  case panic x => unfold opE execOp; rw [ho]; exact does_panic (ev_ok hF x)
  case typeAssert x xt t ok => unfold opE execOp; rw [ho]; exact does_assert2 hP (ev_ok hF x)
  case extract t i => exact does_extract hF ho
  case call c =>
    unfold opE
    rw [ho]
    simp only []
    split
    · rename_i f hc
      have := does_callValue (E := E) (P := P) hF ho hc
      exact this
    · rename_i b hc
      exact does_builtin G.pin hP hZ hC hS hF ho hc
    · trivial
  all_goals (unfold opE; rw [ho]; trivial)
end
end Go.Sx

-- SxDraw
namespace Go.Sx.Draw
open Go
section
variable {P : Program} {ops : Array Oper} {Q : Exit → Act → World → Prop} {md : Region.Mode} {S : World → Prop} {ds : List Nat}

/-- Operation d waits for operation i, by a chain of at most 'fuel' edges. -/
def Region.reachB (md : Region.Mode) (ops : Array Oper) (i : Nat) : Nat → Nat → Bool
  | 0, _ => false
  | fuel + 1, d => match ops[d]? with
    | some o => o.after.any fun e => Region.binds md e && (e.on == i || Region.reachB md ops i fuel e.on)
    | none => false

/-- What is listed is closed under the edges. -/
def Region.closedB (md : Region.Mode) (ops : Array Oper) (listed : Array Bool) : Bool :=
  (List.range ops.size).all fun j => !listed.getD j false || match ops[j]? with
    | some o => o.after.all fun e => !Region.binds md e || listed.getD e.on false
    | none => true

/-- Each of ds that has not come up yet waits for number i. -/
def Region.lastB (md : Region.Mode) (ops : Array Oper) (listed : Array Bool) (ds : List Nat) (i : Nat) : Bool :=
  ds.all fun d => listed.getD d true || Region.reachB md ops i ops.size d

def ListedClosed (md : Region.Mode) (ops : Array Oper) (listed : Array Bool) : Prop :=
  ∀ j oj, ops[j]? = some oj → listed.getD j false = true → ∀ e ∈ oj.after, Region.binds md e = true → listed.getD e.on false = true

theorem Region.closedB_spec {listed : Array Bool} (h : Region.closedB md ops listed = true) : ListedClosed md ops listed := by
  intro j oj hj hl e he hb
  have hlt : j < ops.size := (Array.getElem?_eq_some_iff.1 hj).1
  have h1 := List.all_eq_true.1 h j (List.mem_range.2 hlt)
  simp only [hl, hj, Bool.not_true, Bool.false_or] at h1
  have h2 := Array.all_eq_true_iff_forall_mem.1 h1 e he
  simpa [hb] using h2

theorem ListedClosed.set {listed : Array Bool} {i : Nat} (h : ListedClosed md ops listed) (hi : i ∈ Region.ready md ops listed) : ListedClosed md ops (listed.setIfInBounds i true) := by
  obtain ⟨_, oi, hoi, hall⟩ := mem_ready.1 hi
  intro j oj hj hl e he hb
  by_cases hij : i = j
  · subst hij
    have : oj = oi := Option.some.inj (hj.symm.trans hoi)
    subst this
    exact getD_set_true (hall e he hb)
  · rw [getD_set_ne false hij] at hl
    exact getD_set_true (h j oj hj hl e he hb)

theorem Region.reach_listed {listed : Array Bool} {i : Nat} (hc : ListedClosed md ops listed) : ∀ (fuel d : Nat), Region.reachB md ops i fuel d = true → listed.getD d false = true → listed.getD i false = true
  | 0, _, h, _ => by simp [Region.reachB] at h
  | fuel + 1, d, h, hl => by
    unfold Region.reachB at h
    cases ho : ops[d]? with
    | none => rw [ho] at h; simp at h
    | some o =>
      rw [ho] at h
      obtain ⟨e, he, h1⟩ := Array.any_eq_true'.1 h
      simp only [Bool.and_eq_true, Bool.or_eq_true, beq_iff_eq] at h1
      have hle := hc d o ho hl e he h1.1
      rcases h1.2 with h2 | h2
      · rw [← h2]; exact hle
      · exact Region.reach_listed hc fuel e.on h2 hle

/-- What waits for i cannot come up before i is listed. -/
theorem Region.reach_not_ready {listed : Array Bool} {i d fuel : Nat} (hc : ListedClosed md ops listed) (hr : Region.reachB md ops i fuel d = true) (hun : listed.getD i true = false) : d ∉ Region.ready md ops listed := by
  intro hd
  obtain ⟨_, o, ho, hall⟩ := mem_ready.1 hd
  have hi : listed.getD i false = true := by
    cases fuel with
    | zero => simp [Region.reachB] at hr
    | succ n =>
      unfold Region.reachB at hr
      rw [ho] at hr
      obtain ⟨e, he, h1⟩ := Array.any_eq_true'.1 hr
      simp only [Bool.and_eq_true, Bool.or_eq_true, beq_iff_eq] at h1
      have hle := hall e he h1.1
      rcases h1.2 with h2 | h2
      · rw [← h2]; exact hle
      · exact Region.reach_listed hc n e.on h2 hle
  rcases Nat.lt_or_ge i listed.size with h' | h'
  · simp [h'] at hun hi
    rw [hun] at hi
    cases hi
  · simp [Array.getElem?_eq_none h'] at hun

/-- Whatever order is picked from here on, AND 'S' HOLDS BEHIND EVERY OPERATION THAT IS CARRIED OUT, those of ds apart. -/
def wpAnyLast (P : Program) (md : Region.Mode) (ops : Array Oper) (Q : Exit → Act → World → Prop) (S : World → Prop) (ds : List Nat) : Nat → Array Bool → Act → World → Prop
  | 0, listed, a, w => Region.ready md ops listed = [] ∧ Q .normal a w
  | fuel + 1, listed, a, w =>
    (Region.ready md ops listed = [] → Q .normal a w) ∧
    ∀ i ∈ Region.ready md ops listed, wpOp P ops Q i (fun a' w' => (i ∉ ds → S w → S w') ∧ wpAnyLast P md ops Q S ds fuel (listed.setIfInBounds i true) a' w') a w

theorem wpAny_of_last : ∀ (fuel : Nat) (listed : Array Bool) (a : Act) (w : World), wpAnyLast P md ops Q S ds fuel listed a w → wpAny P md ops Q fuel listed a w
  | 0, _, _, _, h => h
  | fuel + 1, _, _, _, h => ⟨h.1, fun i hi => wpOp_mono (fun a' w' h' => wpAny_of_last fuel _ a' w' h'.2) (h.2 i hi)⟩

theorem wpAnyLast_first {i : Nat} {oi : Oper} {v : Value} (hi : ops[i]? = some oi) (hsel : ∀ (j : Nat) (o : Oper) cs b, ops[j]? = some o → o.op ≠ .select cs b)
    (hQ : ∀ c a w, Q (.panic c) (a.put oi.dst v) w → Q (.panic c) a w) (n : Nat) :
    ∀ (fuel : Nat) (listed : Array Bool) (a : Act) (w : World),
      (∀ j oj, ops[j]? = some oj → j ≠ i → listed.getD j true = false → (∀ e ∈ oj.after, Region.binds md e = true → e.on ≠ i) → oi.apart ops oj = true) →
      ListedClosed md ops listed → (∀ d ∈ ds, listed.getD d true = false → Region.reachB md ops i n d = true) →
      i ∈ Region.ready md ops listed → YieldsIf P ops S oi v a → S w →
      wpAnyLast P md ops Q S ds fuel (listed.setIfInBounds i true) (a.put oi.dst v) w → wpAnyLast P md ops Q S ds (fuel + 1) listed a w := by
  intro fuel
  induction fuel with
  | zero =>
    intro listed a w _ _ _ hr hy hS H
    refine ⟨fun h => (by rw [h] at hr; cases hr), fun j hj => ?_⟩
    by_cases hji : j = i
    · subst hji; exact hy.wpOp hi hS ⟨fun _ h => h, H⟩
    · have := ready_mono hj hji
      rw [H.1] at this
      cases this
  | succ fuel ih =>
    intro listed a w hfree hc hd hr hy hS H
    refine ⟨fun h => (by rw [h] at hr; cases hr), fun j hj => ?_⟩
    by_cases hji : j = i
    · subst hji; exact hy.wpOp hi hS ⟨fun _ h => h, H⟩
    · have h1 := H.2 j (ready_mono hj hji)
      obtain ⟨hjun, oj, hoj, hall⟩ := mem_ready.1 hj
      have hiun := (mem_ready.1 hr).1
      have hnot : ∀ e ∈ oj.after, Region.binds md e = true → e.on ≠ i := fun e he hb heq => by
        have h1 := hall e he hb
        rw [heq] at h1
        rcases Nat.lt_or_ge i listed.size with h' | h'
        · simp [h'] at hiun h1; rw [hiun] at h1; cases h1
        · simp [Array.getElem?_eq_none h'] at h1
      have hjd : j ∉ ds := fun hm => Region.reach_not_ready hc (hd j hm hjun) hiun hj
      have h2 := wpOp_putIf hoj (hfree j oj hoj hji hjun hnot) (fun cs b => hsel i oi cs b hi) (fun cs b => hsel j oj cs b hoj) hQ hy h1
      have hfree' : ∀ k ok, ops[k]? = some ok → k ≠ i → (listed.setIfInBounds j true).getD k true = false →
          (∀ e ∈ ok.after, Region.binds md e = true → e.on ≠ i) → oi.apart ops ok = true := fun k ok hk hki hun hno => by
        refine hfree k ok hk hki ?_ hno
        by_cases hjk : j = k
        · subst hjk; exact hjun
        · rw [getD_set_ne true hjk] at hun; exact hun
      have hd' : ∀ d ∈ ds, (listed.setIfInBounds j true).getD d true = false → Region.reachB md ops i n d = true := fun d hm hun => by
        refine hd d hm ?_
        by_cases hjk : j = d
        · subst hjk; exact hjun
        · rw [getD_set_ne true hjk] at hun; exact hun
      refine wpOp_mono (fun a' w' h3 => ⟨h3.2.1, ih (listed.setIfInBounds j true) a' w' hfree' (hc.set hj) hd' (ready_mono hr (Ne.symm hji)) h3.1 (h3.2.1 hjd hS) ?_⟩) h2
      rw [Array.setIfInBounds_comm _ _ hji]
      exact h3.2.2


/-- Take number 'i' first, which yields whatever the world: no S is asked for, nor that anything waits for it. -/
theorem wpAnyLast_any {i : Nat} {oi : Oper} {v : Value} (hi : ops[i]? = some oi) (hsel : ∀ (j : Nat) (o : Oper) cs b, ops[j]? = some o → o.op ≠ .select cs b)
    (hQ : ∀ c a w, Q (.panic c) (a.put oi.dst v) w → Q (.panic c) a w) :
    ∀ (fuel : Nat) (listed : Array Bool) (a : Act) (w : World),
      (∀ j oj, ops[j]? = some oj → j ≠ i → listed.getD j true = false → (∀ e ∈ oj.after, Region.binds md e = true → e.on ≠ i) → oi.apart ops oj = true) →
      i ∈ Region.ready md ops listed → Yields P ops oi v a →
      wpAnyLast P md ops Q S ds fuel (listed.setIfInBounds i true) (a.put oi.dst v) w → wpAnyLast P md ops Q S ds (fuel + 1) listed a w := by
  intro fuel
  induction fuel with
  | zero =>
    intro listed a w _ hr hy H
    refine ⟨fun h => (by rw [h] at hr; cases hr), fun j hj => ?_⟩
    by_cases hji : j = i
    · subst hji; exact (hy.yieldsIf (S := fun _ => True)).wpOp hi trivial ⟨fun _ h => h, H⟩
    · have := ready_mono hj hji
      rw [H.1] at this
      cases this
  | succ fuel ih =>
    intro listed a w hfree hr hy H
    refine ⟨fun h => (by rw [h] at hr; cases hr), fun j hj => ?_⟩
    by_cases hji : j = i
    · subst hji; exact (hy.yieldsIf (S := fun _ => True)).wpOp hi trivial ⟨fun _ h => h, H⟩
    · have h1 := H.2 j (ready_mono hj hji)
      obtain ⟨hjun, oj, hoj, hall⟩ := mem_ready.1 hj
      have hiun := (mem_ready.1 hr).1
      have hnot : ∀ e ∈ oj.after, Region.binds md e = true → e.on ≠ i := fun e he hb heq => by
        have h1 := hall e he hb
        rw [heq] at h1
        rcases Nat.lt_or_ge i listed.size with h' | h'
        · simp [h'] at hiun h1; rw [hiun] at h1; cases h1
        · simp [Array.getElem?_eq_none h'] at h1
      have h2 := wpOp_put hoj (hfree j oj hoj hji hjun hnot) (fun cs b => hsel i oi cs b hi) (fun cs b => hsel j oj cs b hoj) hQ hy h1
      have hfree' : ∀ k ok, ops[k]? = some ok → k ≠ i → (listed.setIfInBounds j true).getD k true = false →
          (∀ e ∈ ok.after, Region.binds md e = true → e.on ≠ i) → oi.apart ops ok = true := fun k ok hk hki hun hno => by
        refine hfree k ok hk hki ?_ hno
        by_cases hjk : j = k
        · subst hjk; exact hjun
        · rw [getD_set_ne true hjk] at hun; exact hun
      refine wpOp_mono (fun a' w' h3 => ⟨h3.2.1, ih (listed.setIfInBounds j true) a' w' hfree' (ready_mono hr (Ne.symm hji)) h3.1 ?_⟩) h2
      rw [Array.setIfInBounds_comm _ _ hji]
      exact h3.2.2


end

def allocLike (o : Oper) : Bool := match o.op with
  | .alloc _ => true
  | .box _ _ => true
  | .buildSlice _ _ _ => true
  | _ => false

/-- What runs so, if it ends well, has only made new memory. -/
def Gr {α : Type} (P : Program) (s : Sem α) : Prop := ∀ w x w', s.run P w = .ok x w' → Old w w' ∧ w.heap.size ≤ w'.heap.size
theorem Gr.bind {P : Program} {α β : Type} {s : Sem α} {f : α → Sem β} (h : Gr P s) (k : ∀ x, Gr P (f x)) : Gr P (s >>= f) := by
  intro w x w' hr
  rw [Sem.run_bind] at hr
  cases hs : s.run P w with
  | ok y w1 =>
    rw [hs] at hr
    obtain ⟨h1, h2⟩ := h w y w1 hs
    obtain ⟨h3, h4⟩ := k y w1 x w' hr
    exact ⟨h1.trans h3 h2, Nat.le_trans h2 h4⟩
  | halt y w1 => rw [hs] at hr; cases hr
theorem Gr.pure {P : Program} {α : Type} (x : α) : Gr P (Pure.pure x : Sem α) := by
  intro w y w' h
  rw [Sem.run_pure] at h
  cases h
  exact ⟨.refl _, Nat.le_refl _⟩
theorem Gr.stuck {P : Program} {α : Type} (s : String) : Gr P (Go.stuck s : Sem α) := by
  intro w y w' h
  simp at h
theorem Gr.unsup {P : Program} {α : Type} (u : Unsupported) : Gr P (unsupported u : Sem α) := by
  intro w y w' h
  simp at h
theorem Gr.info {P : Program} (t : TypeId) : Gr P (typeInfo t) := by
  intro w y w' h
  unfold typeInfo at h
  simp only [Sem.run_bind, run_program, Result.andThen_ok] at h
  split at h
  · simp at h; rw [h.2]; exact ⟨.refl _, Nat.le_refl _⟩
  · simp at h
theorem Gr.under {P : Program} (t : TypeId) : Gr P (underlying t) := by
  intro w y w' h
  cases hu : P.underlying t with
  | none =>
    unfold underlying at h
    simp [hu] at h
  | some d =>
    rw [run_underlying hu] at h
    cases h
    exact ⟨.refl _, Nat.le_refl _⟩
theorem Gr.size {P : Program} (t : TypeId) : Gr P (sizeOf t) := by
  unfold sizeOf
  exact Gr.bind (Gr.info t) fun _ => Gr.pure _
theorem Gr.zero {P : Program} (t : TypeId) : Gr P (zeroValue t) := by
  unfold zeroValue
  refine Gr.bind (Gr.info t) fun i => ?_
  split <;> first | exact Gr.pure _ | exact Gr.stuck _ | (intro w y w' h; simp at h)
theorem Gr.row {P : Program} (t : TypeId) (cs : Array Value) : Gr P (newRow t cs) := by
  intro w y w' h
  simp [newRow] at h
  rw [← h.2]
  exact ⟨⟨fun b hb => Go.RowKit.Below.heap_alloc _ _ _ hb⟩, by simp⟩

theorem alloc_grows {P : Program} {o : Oper} {a : Act} (h : allocLike o = true) : Gr P (execOp a.eval o) := by
  unfold execOp
  cases ho : o.op <;> simp only [allocLike, ho] at h <;> try (cases h; done)
  case alloc t =>
    simp only []
    refine Gr.bind ?_ fun _ => Gr.pure _
    unfold Instr.alloc
    refine Gr.bind (Gr.zero t) fun z => ?_
    exact Gr.bind (Gr.row _ _) fun _ => Gr.pure _
  case box t x =>
    simp only []
    refine Gr.bind ?_ fun _ => Gr.pure _
    unfold Instr.box
    exact Gr.bind (Gr.row _ _) fun _ => Gr.pure _
  case buildSlice t n ps =>
    simp only []
    refine Gr.bind ?_ fun _ => Gr.pure _
    unfold Instr.buildSlice
    refine Gr.bind (Gr.under t) fun d => ?_
    split
    · refine Gr.bind (Gr.size _) fun sz => ?_
      dsimp only
      repeat' first
        | exact Gr.pure _
        | exact Gr.stuck _
        | exact Gr.unsup _
        | exact Gr.row _ _
        | exact Gr.zero _
        | refine Gr.bind ?_ fun _ => ?_
        | split
    · exact Gr.stuck _

theorem wp_alloc {P : Program} {o : Oper} {a : Act} {w w1 : World} {K : Act → World → Prop} {Q : Exit → Act → World → Prop} (ha : allocLike o = true) (h : o.wp P a w K Q) :
    o.wp P a w (fun a' w' => (Old w1 w ∧ w1.heap.size ≤ w.heap.size → Old w1 w' ∧ w1.heap.size ≤ w'.heap.size) ∧ K a' w') Q := by
  have hg := alloc_grows (P := P) (a := a) ha
  have key : ∀ x w', (execOp a.eval o).run P w = .ok x w' → (Old w1 w ∧ w1.heap.size ≤ w.heap.size → Old w1 w' ∧ w1.heap.size ≤ w'.heap.size) := fun x w' hr ⟨h1, h2⟩ => by
    obtain ⟨h3, h4⟩ := hg w x w' hr
    exact ⟨h1.trans h3 h2, Nat.le_trans h2 h4⟩
  have hne : ∀ x w', (execOp a.eval o).run P w = .ok x w' → ∃ v, x = .value v := by
    intro x w' hr
    have gen : ∀ s : Sem Value, (do pure (Next.value (← s))).run P w = .ok x w' → ∃ v, x = .value v := by
      intro s hs
      rw [Sem.run_bind] at hs
      cases hx : s.run P w with
      | ok y w2 => rw [hx] at hs; simp at hs; exact ⟨y, hs.1.symm⟩
      | halt y w2 => rw [hx] at hs; cases hs
    unfold execOp at hr
    cases ho : o.op <;> simp only [allocLike, ho] at ha <;> try (cases ha; done)
    all_goals (rw [ho] at hr; exact gen _ hr)
  unfold Oper.wp at h ⊢
  cases hr : (execOp a.eval o).run P w with
  | halt x w' => rw [hr] at h; cases x <;> exact h
  | ok x w' =>
    obtain ⟨v, rfl⟩ := hne x w' hr
    rw [hr] at h
    exact ⟨key _ _ hr, h⟩

/-- Operations that yield the same in every world. -/
def pureOp (o : Oper) : Bool := match o.op with
  | .move _ => true
  | .assign _ => true
  | .nilCheck _ => true
  | .fieldAddr _ _ _ => true
  | _ => false
def pureAt (ops : Array Oper) (k : Nat) : Bool := match ops[k]? with | some o => pureOp o | none => false

def dsOf (ops : Array Oper) : List Nat := (List.range ops.size).filter fun d => match ops[d]? with | some o => !allocLike o | none => false
def dsFrom (ops : Array Oper) (n : Nat) : List Nat := (dsOf ops).filter fun d => decide (n ≤ d)
/-- The first so many one by one, the others in their order. -/
def headB (md : Region.Mode) (ops : Array Oper) (ds : List Nat) (g : Nat) : Nat → Nat → Array Bool → Bool
  | 0, k, listed => Region.seqB md ops g k listed
  | f + 1, k, listed => (Region.ready md ops listed).contains k && Region.free md ops listed k && (pureAt ops k || (Region.closedB md ops listed && Region.lastB md ops listed ds k)) && headB md ops ds g f (k + 1) (listed.setIfInBounds k true)
def drawB (ops : Array Oper) (n : Nat) : Bool := Region.noSelect ops && decide (n ≤ ops.size) && headB .any ops (dsFrom ops n) (ops.size - n) n 0 (Array.replicate ops.size false)

/-- The first operations yield, whatever has been made anew. -/
def wpHd (P : Program) (ops : Array Oper) (S : World → Prop) (Q : Act → Prop) : List Oper → Act → Prop
  | [], a => Q a
  | o :: rest, a => if Region.wanted o (yielded ops a.tmps) then ∃ v, (∀ w, pureOp o = true ∨ S w → (execOp a.eval o).run P w = .ok (.value v) w) ∧ wpHd P ops S Q rest (a.put o.dst v) else wpHd P ops S Q rest (a.put o.dst undef)

section
variable {P : Program} {ops : Array Oper} {Q : Exit → Act → World → Prop} {w1 : World} {n : Nat}

theorem last_seq : ∀ (l : List Oper) (k : Nat) (listed : Array Bool) (a : Act) (w : World), n ≤ k → (∀ j, l[j]? = ops[k + j]?) →
    Region.seqB .any ops l.length k listed = true → wpList P ops Q l a w → wpAnyLast P .any ops Q (fun w => Old w1 w ∧ w1.heap.size ≤ w.heap.size) (dsFrom ops n) l.length listed a w
  | [], _, _, _, _, _, _, hB, h => ⟨by simpa [Region.seqB] using hB, h⟩
  | o :: l, k, listed, a, w, hk, hl, hB, h => by
    have h0 : ops[k]? = some o := by simpa using (hl 0).symm
    simp only [List.length_cons, Region.seqB, Bool.and_eq_true, decide_eq_true_eq] at hB
    refine ⟨fun h1 => (by rw [hB.1] at h1; cases h1), fun i hi => ?_⟩
    rw [hB.1] at hi
    have hik : i = k := by simpa using hi
    subst hik
    have hrec := fun a' w' h' => last_seq l (i + 1) (listed.setIfInBounds i true) a' w' (by omega) (fun j => by have := hl (j + 1); simpa [Nat.add_assoc, Nat.add_comm 1 j] using this) hB.2 h'
    unfold wpOp
    simp only [h0]
    unfold wpList at h
    have hds : i ∉ dsFrom ops n → allocLike o = true := by
      intro hn
      cases ha : allocLike o with
      | true => rfl
      | false =>
        exfalso
        refine hn ?_
        have hlt := (Array.getElem?_eq_some_iff.1 h0).1
        have he : ops[i] = o := (Array.getElem?_eq_some_iff.1 h0).2
        simp [dsFrom, dsOf, hk, hlt, he, ha]
    split
    · rename_i hw
      rw [if_pos hw] at h
      rcases h with h | h
      · left
        by_cases hd : i ∈ dsFrom ops n
        · exact Oper.wp_mono (fun a' w' h' => ⟨fun hn => absurd hd hn, hrec a' w' h'⟩) h
        · exact Oper.wp_mono (fun a' w' h' => ⟨fun _ => h'.1, hrec a' w' h'.2⟩) (wp_alloc (hds hd) h)
      · exact .inr h
    · rename_i hw
      rw [if_neg hw] at h
      exact ⟨fun _ h => h, hrec _ _ h⟩

theorem last_head (hQ : ∀ (i : Nat) o, ops[i]? = some o → ∀ v c a w, Q (.panic c) (a.put o.dst v) w → Q (.panic c) a w) (hsel : Region.noSelect ops = true) (hn : n ≤ ops.size) : ∀ (l : List Oper) (k : Nat) (listed : Array Bool) (a : Act) (w : World), k + l.length = n → (∀ j, j < l.length → l[j]? = ops[k + j]?) →
    headB .any ops (dsFrom ops n) (ops.size - n) l.length k listed = true → (Old w1 w ∧ w1.heap.size ≤ w.heap.size) →
    wpHd P ops (fun w => Old w1 w ∧ w1.heap.size ≤ w.heap.size) (fun a' => wpList P ops Q (ops.toList.drop n) a' w) l a →
    wpAnyLast P .any ops Q (fun w => Old w1 w ∧ w1.heap.size ≤ w.heap.size) (dsFrom ops n) (l.length + (ops.size - n)) listed a w
  | [], k, listed, a, w, hk, _, hB, _, h => by
    simp only [List.length_nil, Nat.zero_add, Nat.add_zero] at hk ⊢
    subst hk
    have hlen : (ops.toList.drop k).length = ops.size - k := by simp
    rw [← hlen]
    refine last_seq (ops.toList.drop k) k listed a w (Nat.le_refl _) (fun j => by simp [List.getElem?_drop]) (by rw [hlen]; exact hB) h
  | o :: l, k, listed, a, w, hk, hl, hB, hS, h => by
    have h0 : ops[k]? = some o := by simpa using (hl 0 (by simp)).symm
    simp only [List.length_cons, headB, Bool.and_eq_true, Bool.or_eq_true] at hB
    obtain ⟨⟨⟨hr, hf⟩, hcase⟩, hB⟩ := hB
    have hrest := fun a' => last_head hQ hsel hn l (k + 1) (listed.setIfInBounds k true) a' w (by simp at hk; omega) (fun j hj => by
      have := hl (j + 1) (by simp; omega)
      simpa [Nat.add_assoc, Nat.add_comm 1 j] using this) hB hS
    have go : ∀ v, YieldsIf P ops (fun w => pureOp o = true ∨ Old w1 w ∧ w1.heap.size ≤ w.heap.size) o v a → wpHd P ops (fun w => Old w1 w ∧ w1.heap.size ≤ w.heap.size) (fun a' => wpList P ops Q (ops.toList.drop n) a' w) l (a.put o.dst v) →
        wpAnyLast P .any ops Q (fun w => Old w1 w ∧ w1.heap.size ≤ w.heap.size) (dsFrom ops n) ((o :: l).length + (ops.size - n)) listed a w := fun v hy hh => by
      rw [show (o :: l).length + (ops.size - n) = (l.length + (ops.size - n)) + 1 from by simp; omega]
      cases hp : pureOp o with
      | true =>
        refine wpAnyLast_any h0 (Region.noSelect_spec hsel) (fun c a' w' hq => hQ _ _ h0 _ c a' w' hq) _ listed a w (Region.free_spec h0 hf) (by simpa using hr) ?_ (hrest _ hh)
        rcases hy with ⟨h1, h2⟩ | h1
        · exact .inl ⟨h1, fun w => h2 w (.inl hp)⟩
        · exact .inr h1
      | false =>
        have hcl : Region.closedB .any ops listed = true ∧ Region.lastB .any ops listed (dsFrom ops n) k = true := by
          rcases hcase with h | h
          · simp [pureAt, h0, hp] at h
          · exact h
        have hy' : YieldsIf P ops (fun w => Old w1 w ∧ w1.heap.size ≤ w.heap.size) o v a := by
          rcases hy with ⟨h1, h2⟩ | h1
          · exact .inl ⟨h1, fun w hw => h2 w (.inr hw)⟩
          · exact .inr h1
        exact wpAnyLast_first h0 (Region.noSelect_spec hsel) (fun c a' w' hq => hQ _ _ h0 _ c a' w' hq) ops.size _ listed a w (Region.free_spec h0 hf) (Region.closedB_spec hcl.1)
          (fun d hm hun => by have := List.all_eq_true.1 hcl.2 d hm; rw [hun] at this; simpa using this) (by simpa using hr) hy' hS (hrest _ hh)
    unfold wpHd at h
    split at h
    · rename_i hw
      obtain ⟨v, hv, hh⟩ := h
      exact go v (.inl ⟨hw, hv⟩) hh
    · rename_i hw
      exact go undef (.inr ⟨by simpa using hw, rfl⟩) h

theorem wp_region_drawn {id : Nat} {l : List Oper} {a : Act} {w : World} (n : Nat) (hm : P.follows .mixedOrders = true) (hB : drawB l.toArray n = true) (hQ : ∀ (i : Nat) o, l.toArray[i]? = some o → ∀ v c a w, Q (.panic c) (a.put o.dst v) w → Q (.panic c) a w)
    (h : wpHd P l.toArray (fun w' => Old { w with drawn := w.drawn + 1 } w' ∧ w.heap.size ≤ w'.heap.size) (fun a' => wpList P l.toArray Q (l.drop n) a' { w with drawn := w.drawn + 1 }) (l.take n) a) : (Code.region id l.toArray true).wp P Q a w := by
  simp only [drawB, Bool.and_eq_true, decide_eq_true_eq] at hB
  obtain ⟨⟨hsel, hn⟩, hB⟩ := hB
  have hn' : n ≤ l.length := by simpa using hn
  have htl : (l.take n).length = n := by simp; omega
  refine wp_region_any hm (wpAny_of_last (S := fun w' => Old { w with drawn := w.drawn + 1 } w' ∧ w.heap.size ≤ w'.heap.size) (ds := dsFrom l.toArray n) _ _ _ _ ?_)
  have := last_head (P := P) (Q := Q) (w1 := { w with drawn := w.drawn + 1 }) (n := n) hQ hsel hn (l.take n) 0 (Array.replicate l.toArray.size false) a { w with drawn := w.drawn + 1 } (by omega) (fun j hj => by
    rw [htl] at hj
    simp [hj]) (by rw [htl]; exact hB) ⟨.refl _, Nat.le_refl _⟩ h
  rwa [htl, show n + (l.toArray.size - n) = l.toArray.size from by omega] at this
end
end Go.Sx.Draw
namespace Go.Sx
open Go
section
variable {T : Nat → Type} {C : Cod T} {M M' : Mem} {P : Program} {B : Tab} {E : Env} {H : List (Ch T)} {fr : List (SV T)} {a : Act}
/-- What a first operation comes to. -/
def DoesS (C : Cod T) (M : Mem) (p : Bool) : Ef T → (World → Result Next) → Prop
  | .val s, r => ∃ v, (∀ w, p = true ∨ Old M.w w → r w = .ok (.value v) w) ∧ DenV C M s v
  | .need q e, r => q → DoesS C M p e r
  | .know q e, r => q ∧ DoesS C M p e r
  | .fork f, r => ∃ b, DoesS C M p (f b) r
  | _, _ => True

theorem DoesS.of {r : World → Result Next} : ∀ {ef : Ef T}, Does P C E M ef r → DoesS C M false ef r
  | .val s, h => let ⟨v, h1, h2⟩ := h; ⟨v, fun w hw => hw.elim (fun h => by cases h) (h1 w), h2⟩
  | .need p e, h => fun hp => DoesS.of (h hp)
  | .know p e, h => ⟨h.1, DoesS.of h.2⟩
  | .fork f, h => let ⟨b, hb⟩ := h; ⟨b, DoesS.of hb⟩
  | .mem .., _ => trivial
  | .app .., _ => trivial
  | .call .., _ => trivial
  | .panic .., _ => trivial
  | .stuck .., _ => trivial

theorem pure_fieldAddr (hP : TabOK P C B) {t : TypeId} {f : Nat} {sx : SV T} {v : Value} (hx : DenV C M sx v) :
    DoesS C M true (fieldAddrE B t f sx) (fun w => (do pure (Next.value (← Instr.fieldAt t v f))).run P w) := by
  unfold fieldAddrE
  split
  · trivial
  · rename_i p hp
    obtain ⟨ft, off⟩ := p
    obtain ⟨gs, g, j, hu, hg, h1, h2, h3, h4⟩ := fieldOff_ok hP hp
    have key : ∀ b o : Nat, ∀ w, true = true ∨ Old M.w w → (do pure (Next.value (← Instr.fieldAt t (.pointer (some ⟨b, o, none⟩)) f))).run P w = .ok (.value (.pointer (some ⟨b, o + off, none⟩))) w := by
      intro b o w _
      simp [Instr.fieldAt, run_underlying hu, hg, Instr.sureAddr, fieldPlace, sizeOf, typeInfo, h1, h3, h4, h2, add_mk]
    split
    · obtain ⟨g, rfl, hc, hg⟩ := denV_ptr hx
      exact ⟨_, key _ _, .ptr _ _ _ hc hg .nil⟩
    · simp only [DenV, DenP] at hx
      cases hx with
      | elt _ _ _ _ _ g hc hg _ =>
        refine ⟨_, key _ _, ?_⟩
        rw [Nat.add_assoc]
        exact .elt _ _ _ _ _ _ hc hg .nil
    · simp only [DenV, DenP] at hx
      cases hx with
      | roe _ _ _ b o us hu h0 h1 hd ha hrow _ =>
        refine ⟨_, key _ _, ?_⟩
        rw [Nat.add_assoc]
        exact .roe _ _ _ _ _ _ hu h0 h1 hd ha hrow .nil
    · obtain ⟨b, o', us, rfl, hb, ha, hd⟩ := denV_rp hx
      refine ⟨_, key _ _, ?_⟩
      rw [Nat.add_assoc]
      exact .rp _ _ _ _ _ hb ha hd .nil
    · simp only [DenV, DenP] at hx
      cases hx with
      | rpe _ _ _ _ _ b o us hd ha hden _ =>
        refine ⟨_, key _ _, ?_⟩
        rw [Nat.add_assoc]
        exact .rpe _ _ _ _ _ _ _ _ hd ha hden .nil
    · trivial

theorem pure_nil {o : Oper} {x : Operand} (ho : o.op = .nilCheck x) {sx : SV T} (hx : DenV C M sx (a.eval x)) :
    DoesS C M true (nilE sx) (fun w => (execOp a.eval o).run P w) := by
  unfold nilE execOp
  rw [ho]
  simp only []
  generalize a.eval x = v at *
  split
  case h_7 => trivial
  all_goals
    refine ⟨v, fun w _ => ?_, hx⟩
    simp only [DenV, DenP] at hx
    cases hx
    rfl


theorem does_opS (G : Giv P C B E) (hS : Sat C E M H) (hF : FrOK C M fr a) (o : Oper) : DoesS C M (Draw.pureOp o) (opE C .std B H (ev fr) o) (fun w => (execOp a.eval o).run P w) := by
  cases hp : Draw.pureOp o with
  | false => exact DoesS.of (does_op G hS hF o)
  | true =>
    cases ho : o.op <;> simp only [Draw.pureOp, ho] at hp <;> try (cases hp; done)
    case move x => unfold opE execOp; rw [ho]; exact ⟨_, fun w _ => by simp, ev_ok hF x⟩
    case assign x => unfold opE execOp; rw [ho]; exact ⟨_, fun w _ => by simp, ev_ok hF x⟩
    case nilCheck x => have := pure_nil (P := P) ho (ev_ok hF x); unfold opE; rw [ho]; exact this
    case fieldAddr t x f => unfold opE execOp; rw [ho]; exact pure_fieldAddr G.tab (ev_ok hF x)
end
end Go.Sx

-- SxTree
namespace Go.Sx
open Go
section
variable {T : Nat → Type} {C : Cod T} {M M' : Mem} {P : Program} {B : Tab} {E : Env} {H : List (Ch T)} {fr : List (SV T)} {a : Act}

theorem pureS_bin (hP : TabOK P C B) (hS : Sat C E M H) (op : BinOp) (t : TypeId) (x y : Operand) (sx sy : SV T) (hx : DenV C M sx (a.eval x)) (hy : DenV C M sy (a.eval y)) :
    DoesS C M true (binE .std (B.info t).kind H op sx sy) (fun w => (do eqGuard op t x y (a.eval x) (a.eval y); pure (Next.value (← binOp op t (a.eval x) (a.eval y)))).run P w) := by
  unfold binE
  split
  · rename_i k n k' m
    rw [denV_int hx, denV_int hy]
    split
    case h_1 | h_2 =>
      intro hb
      refine ⟨_, fun w _ => ?_, .int _ _ .nil⟩
      simp only [Leaf.std] at hb
      have : ¬ m < 0 := by omega
      simp [eqGuard, binOp, Op.shift, this, Leaf.std, go_sem]
    case h_3 | h_4 =>
      split
      · rename_i hk
        cases iprop_eq hk
        intro hb
        refine ⟨_, fun w _ => ?_, .int _ _ .nil⟩
        simp only [Leaf.std] at hb
        simp [eqGuard, binOp, Op.intDiv, hb, Leaf.std, go_sem]
      · trivial
    case h_5 | h_6 | h_7 | h_8 | h_9 | h_10 | h_11 =>
      split
      · rename_i hk
        cases iprop_eq hk
        refine ⟨_, fun w _ => ?_, .int _ _ .nil⟩
        simp [eqGuard, binOp, Op.intArith, Op.intBits, Leaf.std, go_sem]
      · trivial
    case h_12 =>
      split
      · rename_i hk
        cases iprop_eq hk
        refine ⟨_, fun w _ => ?_, .bool _ .nil⟩
        cases op <;> first | (exfalso; simp_all; done) | simp [eqGuard, binOp, Op.intCmp, Leaf.std, ebool, go_sem]
      · trivial
  · rename_i s t
    rw [denV_str hx, denV_str hy]
    split
    · intro hb
      refine ⟨_, fun w _ => ?_, .str _ .nil⟩
      simp only [Leaf.std, List.length_append] at hb
      have : ¬ ((s.length + t.length : Nat) : Int) > IntKind.i64.max := by
        have : IntKind.i64.max = 9223372036854775807 := by decide
        omega
      simp only [eqGuard, binOp, Op.stringOp, size_mk, if_neg this, append_mk]
      rfl
    all_goals first | trivial | (refine ⟨_, fun w _ => ?_, .bool _ .nil⟩; simp [eqGuard, binOp, Op.stringOp, Leaf.std, ebool, go_sem])
  · rw [denV_bool hx, denV_bool hy]
    split
    · exact ⟨_, fun w _ => (bin_bool hP ‹_› _ _ _ _ _).1, .bool (.e _) .nil⟩
    · exact ⟨_, fun w _ => (bin_bool hP ‹_› _ _ _ _ _).2, .bool (.e _) .nil⟩
    · trivial
  · obtain ⟨g, hv, _⟩ := denV_ptr hx
    rw [hv, denV_val hy]
    split
    · exact ⟨_, fun w _ => (bin_ptr hP ‹_› _ _ _ _).1, .bool (.lit false) .nil⟩
    · exact ⟨_, fun w _ => (bin_ptr hP ‹_› _ _ _ _).2, .bool (.lit true) .nil⟩
    · trivial
  · obtain ⟨b, o, us, hv, _⟩ := denV_rp hx
    rw [hv, denV_val hy]
    split
    · exact ⟨_, fun w _ => (bin_ptr hP ‹_› _ _ _ _).1, .bool (.lit false) .nil⟩
    · exact ⟨_, fun w _ => (bin_ptr hP ‹_› _ _ _ _).2, .bool (.lit true) .nil⟩
    · trivial
  · rename_i r
    rw [denV_val hy]
    simp only [DenV, DenP] at hx
    generalize a.eval x = vx at hx
    cases hx with
    | ro _ ad cap us hus hc ha hrow _ =>
      have h0 : ad.isNone = true → r.len .std = 0 := fun hn => by
        rw [Row.len_std]
        rcases Nat.eq_zero_or_pos r.length with h | h
        · omega
        · obtain ⟨b, o, rfl, _⟩ := ha h; cases hn
      split
      · exact ⟨ad.isNone, h0, _, fun w _ => (bin_slice hP ‹_› _ _ _ _ _ _).1, .bool (.e _) .nil⟩
      · exact ⟨!ad.isNone, fun h => h0 (by simpa using h), _, fun w _ => (bin_slice hP ‹_› _ _ _ _ _ _).2, .bool (.e _) .nil⟩
      · trivial
  · rename_i c
    rw [denV_val hy]
    split
    · rename_i t' r hH
      rw [nth_eq] at hH
      obtain ⟨hl, hr⟩ := hS.ch c _ hH
      simp only [DenV, DenP] at hx
      generalize a.eval x = vx at hx
      cases hx with
      | own _ hc _ =>
        have h0 : ((M.ρ c).blk.map fun g => (⟨g, 0, none⟩ : Addr)).isNone = true → r.len .std = 0 := fun hn => by
          rw [Row.len_std]
          rcases hr with ⟨hb, h0, _⟩ | ⟨g, us, hg, _⟩
          · omega
          · rw [hg] at hn; cases hn
        split
        · exact ⟨_, h0, _, fun w _ => (bin_slice hP ‹_› _ _ _ _ _ _).1, .bool (.e _) .nil⟩
        · exact ⟨!((M.ρ c).blk.map fun g => (⟨g, 0, none⟩ : Addr)).isNone, fun h => h0 (by simpa using h), _, fun w _ => (bin_slice hP ‹_› _ _ _ _ _ _).2, .bool (.e _) .nil⟩
        · trivial
    · trivial
  · rw [denV_val hx, denV_val hy]
    split
    · exact ⟨_, fun w _ => (bin_slice hP ‹_› _ _ _ _ _ _).1, .bool (.lit true) .nil⟩
    · exact ⟨_, fun w _ => (bin_slice hP ‹_› _ _ _ _ _ _).2, .bool (.lit false) .nil⟩
    · trivial
  · obtain ⟨u, hv⟩ := denV_iface hx
    rw [hv, denV_val hy]
    split
    · exact ⟨_, fun w _ => (bin_iface hP ‹_› _ _ _ _ _).1, .bool (.lit false) .nil⟩
    · exact ⟨_, fun w _ => (bin_iface hP ‹_› _ _ _ _ _).2, .bool (.lit true) .nil⟩
    · trivial
  · rw [denV_val hx, denV_val hy]
    split
    · exact ⟨_, fun w _ => (bin_ptr hP ‹_› _ _ _ _).1, .bool (.lit true) .nil⟩
    · exact ⟨_, fun w _ => (bin_ptr hP ‹_› _ _ _ _).2, .bool (.lit false) .nil⟩
    · trivial
  · trivial

theorem pureS_field (hP : TabOK P C B) {t : TypeId} {f : Nat} {sx : SV T} {v : Value} (hx : DenV C M sx v) :
    DoesS C M true (fieldE C B t f sx) (fun w => (do pure (Next.value (← Instr.field t v f))).run P w) := by
  unfold fieldE
  split
  · trivial
  · rename_i p hp
    obtain ⟨ft, off⟩ := p
    obtain ⟨gs, g, j, hu, hg, h1, h2, h3, h4⟩ := fieldOff_ok hP hp
    split
    · obtain ⟨us, rfl, hd⟩ := hx
      unfold finE
      split
      · rename_i m hm
        split
        · rename_i k hk
          split
          · rename_i s hs
            obtain ⟨v, hr, hv⟩ := part_ok hP hd hm hk hs
            refine ⟨v, fun w _ => ?_, hv⟩
            simp [Instr.field, run_underlying hu, hg, asAgg, h1, h2, hr]
          · trivial
        · trivial
      · trivial
    · trivial

theorem pureS_index (hP : TabOK P C B) {t : TypeId} {sx si : SV T} {x i : Value} (hx : DenV C M sx x) (hi : DenV C M si i) :
    DoesS C M true (indexE .std B t sx si) (fun w => (do pure (Next.value (← Instr.index t x i))).run P w) := by
  unfold indexE
  split
  · rename_i k n
    rw [denV_int hi]
    split
    · rename_i hk
      have hu := hP.str hk
      split
      · rename_i s
        rw [denV_str hx]
        intro hin
        have hin : 0 ≤ n ∧ n < (s.length : Int) := hin
        have hl : n.toNat < s.length := by omega
        refine ⟨.int .u8 (s[n.toNat]).toNat, ?_, ?_⟩
        · have h2 : (ByteArray.mk s.toArray)[n.toNat]? = some s[n.toNat] := by
            rw [getElem?_pos (ByteArray.mk s.toArray) n.toNat (by simpa [ByteArray.size] using hl)]
            rfl
          simp [Instr.index, asIntOf, run_underlying hu, hin.1, h2]
        · have : Leaf.std.b2i (Leaf.std.get 0 s n) = ((s[n.toNat]).toNat : Int) := by simp [Leaf.std, List.getD, hl]
          rw [this]
          exact .int _ _ .nil
      · trivial
    · trivial
  · trivial

theorem pureS_indexAddr (hP : TabOK P C B) (hS : Sat C E M H) {t : TypeId} {sx si : SV T} {x i : Value} (hx : DenV C M sx x) (hi : DenV C M si i) :
    DoesS C M true (indexAddrE C .std B H t sx si) (fun w => (do pure (Next.value (← Instr.indexAt t x i))).run P w) := by
  unfold indexAddrE
  split
  · rename_i k n
    rw [denV_int hi]
    split
    · rename_i e hk
      have hu := hP.slice hk
      split
      · rename_i c
        split
        · rename_i t' r hH
          split
          · rename_i h1 h2
            rw [Nat.beq_eq] at h1
            rw [nth_eq] at hH
            intro hin
            rw [Row.len_std] at hin
            have hin : 0 ≤ n ∧ n < (r.length : Int) := hin
            obtain ⟨hl, hr⟩ := hS.ch c _ hH
            simp only [DenV, DenP] at hx
            cases hx with
            | own _ hc _ =>
              rcases hr with ⟨hb, h0, h3⟩ | ⟨g, us, hg, hh, hle, hcm, hus, hrow⟩
              · omega
              · refine ⟨.pointer (some ⟨g, 0 + n.toNat * r.elemSz C + 0, none⟩), ?_, .elt _ _ _ _ _ _ hc hg .nil⟩
                have hsz := hP.sizeOf h2
                rw [hg, ← hl]
                simp [Instr.indexAt, asIntOf, run_underlying hu, hin, hsz, h1, add_mk]
          · trivial
        · rename_i t' r j s hH
          split
          · rename_i h1 h2
            rw [Nat.beq_eq] at h1
            rw [nth_eq] at hH
            intro hin
            rw [Row.len_std] at hin
            have hin : 0 ≤ n ∧ n < (r.length : Int) := hin
            obtain ⟨hl, a1, a2, a3, g, us, hg, hh, hle, hcm, hus, hd, ho⟩ := hS.ch c _ hH
            simp only [DenV, DenP] at hx
            cases hx with
            | own _ hc _ =>
              refine ⟨.pointer (some ⟨g, 0 + n.toNat * r.elemSz C + 0, none⟩), ?_, .elt _ _ _ _ _ _ hc hg .nil⟩
              have hsz := hP.sizeOf h2
              rw [hg, ← hl]
              simp [Instr.indexAt, asIntOf, run_underlying hu, hin, hsz, h1, add_mk]
          · trivial
        · trivial
      · rename_i r
        split
        · rename_i h1 h2
          rw [Nat.beq_eq] at h1
          intro hin
          rw [Row.len_std] at hin
          have hin : 0 ≤ n ∧ n < (r.length : Int) := hin
          have hsz := hP.sizeOf h2
          simp only [DenV, DenP] at hx
          cases hx with
          | ro _ ad cap us hu' hc ha hrow _ =>
            obtain ⟨b, o, rfl, hb, hq⟩ := ha (by omega)
            refine ⟨.pointer (some ⟨b, o + n.toNat * r.elemSz C + 0, none⟩), ?_, .roe _ _ _ _ _ us hu' hin.1 hin.2 hb hq hrow .nil⟩
            simp [Instr.indexAt, asIntOf, run_underlying hu, hin, hsz, h1, add_mk]
        · trivial
      · trivial
    · rename_i m e hk
      have hu := hP.array hk
      split
      · rename_i h2 h3
        have hsz := hP.sizeOf h2
        split
        · rename_i c o
          obtain ⟨g, rfl, hc, hg⟩ := denV_ptr hx
          intro hin
          have hin : 0 ≤ n ∧ n < (m : Int) := hin
          refine ⟨.pointer (some ⟨g, o + n.toNat * (B.info e).size + 0, none⟩), ?_, .elt _ _ _ _ _ _ hc hg .nil⟩
          simp [Instr.indexAt, asIntOf, run_underlying hu, Instr.sureAddr, hin, hsz, add_mk]
        · rename_i l o
          obtain ⟨b, o', us, rfl, hb, ha, hd⟩ := denV_rp hx
          intro hin
          have hin : 0 ≤ n ∧ n < (m : Int) := hin
          refine ⟨.pointer (some ⟨b, o' + o + n.toNat * (B.info e).size + 0, none⟩), ?_, .rpe _ _ _ _ _ _ _ _ hb ha hd .nil⟩
          simp [Instr.indexAt, asIntOf, run_underlying hu, Instr.sureAddr, hin, hsz, add_mk]
        · trivial
      · trivial
    · trivial
  · trivial

theorem pureS_len (hP : TabOK P C B) (hS : Sat C E M H) {t ty : TypeId} {sx : SV T} {x : Value} (hx : DenV C M sx x) :
    DoesS C M true (lenE .std B H t sx) (fun w => (do pure (Next.value (← Builtin.len_ #[t] ty #[x]))).run P w) := by
  unfold lenE
  split
  · rename_i hk
    have hu := hP.str hk
    split
    · rename_i s
      rw [denV_str hx]
      refine ⟨.int .i64 s.length, ?_, .int _ _ .nil⟩
      simp [Builtin.len_, run_underlying hu, goInt, size_mk]
    · trivial
  · rename_i e hk
    have hu := hP.slice hk
    split
    · rename_i v
      split
      · rw [denV_val hx]
        refine ⟨.int .i64 0, ?_, .int _ _ .nil⟩
        simp [Builtin.len_, run_underlying hu, goInt]
      · trivial
    · split
      · rename_i r hr
        obtain ⟨ad, cap, us, rfl, _⟩ := rowOf_ok hS hr hx
        refine ⟨.int .i64 r.length, ?_, by rw [Row.len_std]; exact .int _ _ .nil⟩
        simp [Builtin.len_, run_underlying hu, goInt]
      · trivial
  · rename_i n e hk
    have hu := hP.array hk
    refine ⟨.int .i64 n, ?_, .int _ _ .nil⟩
    simp [Builtin.len_, run_underlying hu, goInt]
  · trivial

theorem pureS_un {o : Oper} {op : UnOp} {t : TypeId} {x : Operand} (ho : o.op = .unOp op t x) {sx : SV T} (hx : DenV C M sx (a.eval x)) :
    DoesS C M true (unE op .std sx) (fun w => (execOp a.eval o).run P w) := by
  unfold unE execOp
  rw [ho]
  simp only []
  split
  · rename_i k n
    rw [denV_int hx]
    split
    · exact ⟨.int k (k.wrap (0 - n)), by simp [Op.unary, Op.intArith], .int _ _ .nil⟩
    · exact ⟨.int k (k.wrap (BitVec.ofInt k.bits (if k.signed then -1 else k.max) ^^^ BitVec.ofInt k.bits n).toNat), by simp [Op.unary, Op.intBits], .int _ _ .nil⟩
    · trivial
  · rename_i b
    rw [denV_bool hx]
    split
    · refine ⟨_, ?_, .bool _ .nil⟩
      cases b with
      | lit b => cases b <;> simp [Op.unary, ebool]
      | e b => simp [Op.unary, ebool, Leaf.std]
    · trivial
  · trivial

theorem pureS_pick {o : Oper} {c x y : Operand} (ho : o.op = .pick c x y) {sc sx sy : SV T} (hc : DenV C M sc (a.eval c)) (hx : DenV C M sx (a.eval x)) (hy : DenV C M sy (a.eval y)) :
    DoesS C M true (pickE sc sx sy) (fun w => (execOp a.eval o).run P w) := by
  unfold pickE execOp
  rw [ho]
  simp only []
  split
  · rename_i b
    rw [denV_bool hc]
    split
    · rename_i b
      cases b
      · exact ⟨a.eval y, by simp [asBool, ebool], hy⟩
      · exact ⟨a.eval x, by simp [asBool, ebool], hx⟩
    · trivial
  · trivial

theorem pureS_extract (hF : FrOK C M fr a) {o : Oper} {t : Operand} {i : Nat} (ho : o.op = .extract t i) :
    DoesS C M true (opE C .std B H (ev fr) o) (fun w => (execOp a.eval o).run P w) := by
  have ht := ev_ok hF t
  unfold opE execOp
  rw [ho]
  simp only []
  split
  · rename_i l he
    rw [he] at ht
    obtain ⟨us, hv, hl, hd⟩ := ht
    split
    · rename_i s hs
      rw [nth_eq] at hs
      have hi : i < us.size := by rw [← hl]; exact (List.getElem?_eq_some_iff.1 hs).1
      refine ⟨us[i], ?_, denV_of_P (hd i s us[i] hs (Array.getElem?_eq_getElem hi))⟩
      simp [hv, Instr.extract, hi]
    · trivial
  · trivial

theorem pureS_builtin (hP : TabOK P C B) (hS : Sat C E M H) (hF : FrOK C M fr a) {o : Oper} {c : Call} {b : Builtin} (ho : o.op = .call c) (hc : c.callee = .builtin b) (hb : b = .len ∨ b = .min ∨ b = .max) :
    DoesS C M true (builtinE .std B C H b (c.args.toList.map (ev fr)) c.argTypes.toList) (fun w => (execOp a.eval o).run P w) := by
  have h1 : ∃ cs, resolve a.eval c o.type = pure { target := .builtin b c.argTypes o.type cs, args := c.args.map a.eval } := by
    unfold resolve
    rw [hc]
    exact ⟨_, rfl⟩
  obtain ⟨cs, h1⟩ := h1
  have hrun : (fun w => (execOp a.eval o).run P w) = fun w => (builtin b c.argTypes o.type cs (c.args.map a.eval)).run P w := by
    funext w
    unfold execOp
    rw [ho]
    simp only [h1, Sem.run_bind, Sem.run_pure, Result.andThen_ok, invoke]
  rw [hrun]
  unfold builtinE
  split
  · split
    · rename_i x hx
      split
      · rename_i t ht
        obtain ⟨p, hp, rfl⟩ := map_one hx
        have ha : c.args = #[p] := arr_of hp
        have hat : c.argTypes = #[t] := arr_of ht
        rw [ha, hat]
        have := pureS_len (E := E) (ty := o.type) hP hS (t := t) (ev_ok hF p)
        simp only [builtin, List.map_toArray, List.map_cons, List.map_nil]
        exact this
      · trivial
    · trivial
  · rcases hb with h | h | h <;> cases h
  · rcases hb with h | h | h <;> cases h
  · rcases hb with h | h | h <;> cases h
  · split
    · rename_i k x k' y hx
      split
      · rename_i hk
        cases iprop_eq hk
        obtain ⟨p, q, hp, h1, h2⟩ := map_two hx
        have ha : c.args = #[p, q] := arr_of hp
        have e1 := ev_ok hF p
        have e2 := ev_ok hF q
        rw [h1] at e1
        rw [h2] at e2
        rw [ha]
        refine ⟨.int k (Leaf.std.imin x y), ?_, .int _ _ .nil⟩
        simp [builtin, Builtin.min_, Builtin.min2, denV_int e1, denV_int e2, Leaf.std]
      · trivial
    · trivial
  · split
    · rename_i k x k' y hx
      split
      · rename_i hk
        cases iprop_eq hk
        obtain ⟨p, q, hp, h1, h2⟩ := map_two hx
        have ha : c.args = #[p, q] := arr_of hp
        have e1 := ev_ok hF p
        have e2 := ev_ok hF q
        rw [h1] at e1
        rw [h2] at e2
        rw [ha]
        refine ⟨.int k (Leaf.std.imax x y), ?_, .int _ _ .nil⟩
        simp [builtin, Builtin.max_, Builtin.max2, denV_int e1, denV_int e2, Leaf.std]
      · trivial
    · trivial
  · trivial


theorem pureS_conv (hP : TabOK P C B) {s d : TypeId} {sx : SV T} {x : Value} (hk : ∃ k, (B.info d).kind = .int k) (hx : DenV C M sx x) :
    DoesS C M true (convE .std B H s d sx) (fun w => (do pure (Next.value (← convert s d x))).run P w) := by
  obtain ⟨k, hk⟩ := hk
  have hd := hP.int hk
  unfold convE
  rw [hk]
  simp only []
  split
  · rename_i k' n
    rw [denV_int hx]
    split
    · rename_i ho
      obtain ⟨ds, hs⟩ := under_some hP ho
      refine ⟨.int k (k.wrap n), ?_, .int _ _ .nil⟩
      simp [convert, run_underlying hs, run_underlying hd, Conv.intToInt]
    · trivial
  · trivial
theorem does_pure (G : Giv P C B E) (hS : Sat C E M H) (hF : FrOK C M fr a) (o : Oper) (hp : pure2 B o = true) : DoesS C M true (opE C .std B H (ev fr) o) (fun w => (execOp a.eval o).run P w) := by
  cases ho : o.op <;> simp only [pure2, ho] at hp <;> try (cases hp; done)
  case move x => unfold opE execOp; rw [ho]; exact ⟨_, fun w _ => by simp, ev_ok hF x⟩
  case assign x => unfold opE execOp; rw [ho]; exact ⟨_, fun w _ => by simp, ev_ok hF x⟩
  case nilCheck x => have := pure_nil (P := P) ho (ev_ok hF x); unfold opE; rw [ho]; exact this
  case fieldAddr t x f => unfold opE execOp; rw [ho]; exact pure_fieldAddr G.tab (ev_ok hF x)
  case binOp op t x y z =>
    have := pureS_bin (E := E) G.tab hS op t x y _ _ (ev_ok hF x) (ev_ok hF y)
    unfold opE execOp; rw [ho]
    simpa using this
  case unOp op t x => have := pureS_un (P := P) ho (ev_ok hF x); unfold opE; rw [ho]; exact this
  case field t x f => have := pureS_field G.tab (t := t) (f := f) (ev_ok hF x); unfold opE execOp; rw [ho]; exact this
  case index t x i => have := pureS_index G.tab (t := t) (ev_ok hF x) (ev_ok hF i); unfold opE execOp; rw [ho]; exact this
  case indexAddr t x i => have := pureS_indexAddr (E := E) G.tab hS (t := t) (ev_ok hF x) (ev_ok hF i); unfold opE execOp; rw [ho]; exact this
  case convert s d x =>
    have := pureS_conv (M := M) (H := H) G.tab (s := s) (d := d) (by split at hp; exact ⟨_, ‹_›⟩; cases hp) (ev_ok hF x)
    unfold opE execOp; rw [ho]; exact this
  case pick c x y => have := pureS_pick (P := P) ho (ev_ok hF c) (ev_ok hF x) (ev_ok hF y); unfold opE; rw [ho]; exact this
  case extract t i =>
    have := pureS_extract (P := P) (B := B) (C := C) (H := H) hF ho
    exact this
  case call c =>
    cases hc : c.callee <;> simp only [hc] at hp <;> try (cases hp; done)
    case builtin b =>
      have hb : b = .len ∨ b = .min ∨ b = .max := by cases b <;> simp at hp ⊢
      have := pureS_builtin (E := E) G.tab hS hF ho hc hb
      unfold opE
      rw [ho]
      simp only [hc]
      exact this
end

section
variable {P : Program} {ops : Array Oper} {Q : Exit → Act → World → Prop}
def wpT (P : Program) (ops : Array Oper) (Q : Exit → Act → World → Prop) : OTree → Act → World → Prop
  | .fin, a, w => Q .normal a w
  | .take i t, a, w => match ops[i]? with
    | none => False
    | some o => if Region.wanted o (yielded ops a.tmps) then ∃ v, (∀ w, (execOp a.eval o).run P w = .ok (.value v) w) ∧ wpT P ops Q t (a.put o.dst v) w else wpT P ops Q t (a.put o.dst undef) w
  | .op i t, a, w => wpOp P ops Q i (wpT P ops Q t) a w
  | .alt i t u, a, w => wpOp P ops Q i (wpT P ops Q t) a w ∧ wpT P ops Q u a w

/-- Is this tree all the orders? 'alts': the alternatives that are still to be told of. -/
def okT (ops : Array Oper) : Nat → Array Bool → Option (List Nat) → OTree → Bool
  | _, listed, none, .fin => (Region.ready .any ops listed).isEmpty
  | n + 1, listed, none, .take i t => (Region.ready .any ops listed).contains i && Region.free .any ops listed i && okT ops n (listed.setIfInBounds i true) none t
  | n + 1, listed, none, .op i t => Region.ready .any ops listed == [i] && okT ops n (listed.setIfInBounds i true) none t
  | n + 1, listed, none, .alt i t u => match Region.ready .any ops listed with
    | j :: rs => i == j && okT ops n (listed.setIfInBounds i true) none t && okT ops (n + 1) listed (some rs) u
    | [] => false
  | n + 1, listed, some rs, .op i t => rs == [i] && okT ops n (listed.setIfInBounds i true) none t
  | n + 1, listed, some rs, .alt i t u => match rs with
    | j :: rs => i == j && okT ops n (listed.setIfInBounds i true) none t && okT ops (n + 1) listed (some rs) u
    | [] => false
  | _, _, _, _ => false

theorem okT_sound (hsel : Region.noSelect ops = true) (hQ : ∀ (i : Nat) o, ops[i]? = some o → ∀ v c a w, Q (.panic c) (a.put o.dst v) w → Q (.panic c) a w) : ∀ (t : OTree) (n : Nat) (listed : Array Bool) (alts : Option (List Nat)) (a : Act) (w : World),
    okT ops n listed alts t = true → wpT P ops Q t a w → match alts with
      | none => wpAny P .any ops Q n listed a w
      | some rs => ∃ m, n = m + 1 ∧ ∀ i ∈ rs, wpOp P ops Q i (wpAny P .any ops Q m (listed.setIfInBounds i true)) a w
  | .fin, n, listed, alts, a, w, h, hw => by
    cases alts with
    | none =>
      have hr : Region.ready .any ops listed = [] := by cases n <;> simpa [okT] using h
      exact wpAny_done hr hw n
    | some rs => cases n <;> simp [okT] at h
  | .take i t, n, listed, alts, a, w, h, hw => by
    cases n with
    | zero => cases alts <;> simp [okT] at h
    | succ n =>
    cases alts with
    | some rs => simp [okT] at h
    | none =>
      simp only [okT, Bool.and_eq_true] at h
      obtain ⟨⟨h1, h2⟩, h3⟩ := h
      simp only [wpT] at hw
      split at hw
      · exact hw.elim
      · rename_i o ho
        split at hw
        · rename_i hwa
          obtain ⟨v, hv, hk⟩ := hw
          exact wpAny_take ho hsel h2 h1 (fun c a w hq => hQ _ _ ho _ c a w hq) (.inl ⟨hwa, hv⟩) (okT_sound hsel hQ t n _ none _ _ h3 hk)
        · rename_i hwa
          exact wpAny_take ho hsel h2 h1 (fun c a w hq => hQ _ _ ho _ c a w hq) (.inr ⟨by simpa using hwa, rfl⟩) (okT_sound hsel hQ t n _ none _ _ h3 hw)
  | .op i t, n, listed, alts, a, w, h, hw => by
    cases n with
    | zero => cases alts <;> simp [okT] at h
    | succ n =>
    cases alts with
    | none =>
      simp only [okT, Bool.and_eq_true, beq_iff_eq] at h
      obtain ⟨h1, h2⟩ := h
      refine wpAny_all h1 (by simp) fun j hj => ?_
      simp only [List.mem_singleton] at hj
      subst hj
      exact wpOp_mono (fun a' w' hk => okT_sound hsel hQ t n _ none a' w' h2 hk) hw
    | some rs =>
      simp only [okT, Bool.and_eq_true, beq_iff_eq] at h
      obtain ⟨rfl, h2⟩ := h
      refine ⟨n, rfl, fun j hj => ?_⟩
      simp only [List.mem_singleton] at hj
      subst hj
      exact wpOp_mono (fun a' w' hk => okT_sound hsel hQ t n _ none a' w' h2 hk) hw
  | .alt i t u, n, listed, alts, a, w, h, hw => by
    cases n with
    | zero => cases alts <;> simp [okT] at h
    | succ n =>
    obtain ⟨hw1, hw2⟩ := hw
    cases alts with
    | none =>
      simp only [okT] at h
      split at h
      · rename_i j rs hr
        simp only [Bool.and_eq_true, beq_iff_eq] at h
        obtain ⟨⟨rfl, h2⟩, h3⟩ := h
        obtain ⟨m, hm, hu⟩ := okT_sound hsel hQ u (n + 1) listed (some rs) a w h3 hw2
        cases hm
        refine wpAny_all hr (by simp) fun j hj => ?_
        rcases List.mem_cons.1 hj with rfl | hj
        · exact wpOp_mono (fun a' w' hk => okT_sound hsel hQ t n _ none a' w' h2 hk) hw1
        · exact hu j hj
      · cases h
    | some rs =>
      simp only [okT] at h
      split at h
      · rename_i j rs'
        simp only [Bool.and_eq_true, beq_iff_eq] at h
        obtain ⟨⟨rfl, h2⟩, h3⟩ := h
        obtain ⟨m, hm, hu⟩ := okT_sound hsel hQ u (n + 1) listed (some rs') a w h3 hw2
        cases hm
        refine ⟨n, rfl, fun j hj => ?_⟩
        rcases List.mem_cons.1 hj with rfl | hj
        · exact wpOp_mono (fun a' w' hk => okT_sound hsel hQ t n _ none a' w' h2 hk) hw1
        · exact hu j hj
      · cases h

theorem wp_region_tree {id : Nat} {l : List Oper} {a : Act} {w : World} (t : OTree) (hm : P.follows .mixedOrders = true) (hsel : Region.noSelect l.toArray = true)
    (ht : okT l.toArray l.toArray.size (Array.replicate l.toArray.size false) none t = true) (hQ : ∀ (i : Nat) o, l.toArray[i]? = some o → ∀ v c a w, Q (.panic c) (a.put o.dst v) w → Q (.panic c) a w)
    (h : wpT P l.toArray Q t a { w with drawn := w.drawn + 1 }) : (Code.region id l.toArray true).wp P Q a w :=
  wp_region_any hm (okT_sound hsel hQ t _ _ none a _ ht h)

theorem Oper.wp_Q {o : Oper} {a : Act} {w : World} {K : Act → World → Prop} {Q Q' : Exit → Act → World → Prop} (hp : ∀ c a w, Q (.panic c) a w → Q' (.panic c) a w) (hl : LetsOut Q → LetsOut Q')
    (hh : o.wp P a w K Q) : o.wp P a w K Q' := by
  unfold Oper.wp at *
  generalize (execOp a.eval o).run P w = r at *
  cases r with
  | ok n w' =>
    cases n <;> simp only [Oper.upon] at hh ⊢ <;>
      first
        | exact hh
        | exact Calls.mono hh (fun e w'' he => by cases e <;> first | exact he | exact hp _ _ _ he | exact hl he)
        | exact Rows.mono hh (fun _ _ he => he)
  | halt x w' => cases x <;> simp only [Oper.upon] at hh ⊢ <;> first | exact hp _ _ _ hh | exact hh

theorem wpT_op {l : List Oper} {i : Nat} {o : Oper} {t : OTree} {a : Act} {w : World} (ho : l[i]? = some o)
    (h : wpList P l.toArray (Exit.then (wpT P l.toArray Q t) Q) [o] a w) : wpOp P l.toArray Q i (wpT P l.toArray Q t) a w := by
  unfold wpOp
  have : l.toArray[i]? = some o := by simpa using ho
  rw [this]
  simp only
  unfold wpList at h
  split at h
  · rename_i hw
    rw [if_pos hw]
    rcases h with h | ⟨h1, h2⟩
    · exact .inl (Oper.wp_Q (fun c a w hq => hq) (fun ⟨a, w, hq⟩ => ⟨a, w, hq⟩) h)
    · exact .inr ⟨h1, h2⟩
  · rename_i hw
    rw [if_neg hw]
    exact h
end

/-- The orders of a region: what reads no memory first; else every road. -/
def lst (l : List Bool) (i : Nat) : Bool := match l, i with
  | [], _ => true
  | b :: _, 0 => b
  | _ :: l, n + 1 => lst l n
def setB : List Bool → Nat → List Bool
  | [], _ => []
  | _ :: l, 0 => true :: l
  | b :: l, n + 1 => b :: setB l n
def rdyFrom (l : List Oper) (done : List Bool) : Nat → List Oper → List Nat
  | _, [] => []
  | i, o :: os => match lst done i with
    | true => rdyFrom l done (i + 1) os
    | false => match o.after.toList.all fun e => !Region.binds .any e || lst done e.on with
      | true => i :: rdyFrom l done (i + 1) os
      | false => rdyFrom l done (i + 1) os
def pick1 (B : Tab) (all : Array Oper) (l : List Oper) (done : List Bool) : List Nat → Option Nat
  | [] => none
  | i :: rs => match nth l i with
    | some o => match pure2 B o with
      | true => match Region.free .any all done.toArray i with | true => some i | false => pick1 B all l done rs
      | false => pick1 B all l done rs
    | none => pick1 B all l done rs
def mkT (B : Tab) (all : Array Oper) (l : List Oper) : Nat → List Bool → Option (List Nat) → OTree
  | 0, _, _ => .fin
  | n + 1, done, none => match pick1 B all l done (rdyFrom l done 0 l) with
    | some i => .take i (mkT B all l n (setB done i) none)
    | none => match rdyFrom l done 0 l with
      | [] => .fin
      | [i] => .op i (mkT B all l n (setB done i) none)
      | i :: rs => .alt i (mkT B all l n (setB done i) none) (mkT B all l n done (some rs))
  | n + 1, done, some rs => match rs with
      | [] => .fin
      | [i] => .op i (mkT B all l n (setB done i) none)
      | i :: rs => .alt i (mkT B all l n (setB done i) none) (mkT B all l n done (some rs))
def treeOf (B : Tab) (l : List Oper) : OTree := mkT B l.toArray l (l.length * 3 + 3) (l.map fun _ => false) none
end Go.Sx

-- Sx12
namespace Go.Sx
open Go
section
variable {T : Nat → Type}

/-- One function's proof. -/
structure Ctx (T : Nat → Type) where
  P : Program
  C : Cod T
  B : Tab
  E : Env
  fn : Func
  n0 : Nat      -- how many chunks there were at the beginning
  Post : List (SV T) → List (Ch T) → Prop
  PE : List PanicEntry → List (SV T) → List (Ch T) → Prop
  ds : List Deferred

def DenR (C : Cod T) (M : Mem) (rs : List (SV T)) (v : Value) : Prop := match rs with
  | [s] => DenV C M s v
  | rs => ∃ us, v = .tuple us ∧ rs.length = us.size ∧ ∀ (i : Nat) s u, rs[i]? = some s → us[i]? = some u → DenV C M s u

/-- What is to be shown behind each ending. -/
def QK (X : Ctx T) : List (KI T) → Exit → Act → World → Prop
  | [], e, a, w => match e with
    | .panic ch => a.defers = X.ds ∧ ∃ fr H M, M.w = w ∧ Sat X.C X.E M H ∧ X.PE ch fr H ∧ ∀ t ∈ X.B.kp, ∀ s, fr[t]? = some s → DenV X.C M s (a.tmps.getD t undef)
    | .normal | .ret => a.defers = X.ds ∧ ∃ v rs H M, (results X.fn a.tmps).run X.P w = .ok v w ∧ M.w = w ∧ X.Post rs H ∧ Sat X.C X.E M H ∧ DenR X.C M rs v
    | _ => False
  | .code c :: k, e, a, w => Exit.then (fun a w => c.wp X.P (QK X k) a w) (QK X k) e a w
  | .ops l all :: k, e, a, w => Exit.then (fun a w => wpList X.P all.toArray (QK X k) l a w) (QK X k) e a w
  | .still h t all :: k, e, a, w => Exit.then (fun a w => Draw.wpHd X.P all.toArray (fun w' => Old w w' ∧ w.heap.size ≤ w'.heap.size) (fun a' => wpList X.P all.toArray (QK X k) t a' w) h a) (QK X k) e a w
  | .blk id :: k, e, a, w => Exit.inBlock id (QK X k) e a w
  | .tree t all :: k, e, a, w => Exit.then (fun a w => wpT X.P all.toArray (QK X k) t a w) (QK X k) e a w
  | .back B :: k, e, a, w => Exit.then (fun a w => ∃ fr H M, B fr H ∧ Sat X.C X.E M H ∧ FrOK X.C M fr a ∧ a.defers = X.ds ∧ M.w = w) (QK X k) e a w

theorem QK_code (X : Ctx T) (c : Code) (k : List (KI T)) : QK X (.code c :: k) = Exit.then (fun a w => c.wp X.P (QK X k) a w) (QK X k) := rfl
theorem QK_ops (X : Ctx T) (l all : List Oper) (k : List (KI T)) : QK X (.ops l all :: k) = Exit.then (fun a w => wpList X.P all.toArray (QK X k) l a w) (QK X k) := rfl
theorem QK_blk (X : Ctx T) (id : Nat) (k : List (KI T)) : QK X (.blk id :: k) = Exit.inBlock id (QK X k) := rfl

def Holds (X : Ctx T) (k : List (KI T)) (fr : List (SV T)) (H : List (Ch T)) : Prop :=
  ∀ (M : Mem) (a : Act), Sat X.C X.E M H → FrOK X.C M fr a → a.defers = X.ds → QK X k .normal a M.w

def CallOK (X : Ctx T) (f : FuncId) (args : List (SV T)) (d : Option Tmp) (c : Cfg T) : Prop :=
  ∀ (M : Mem) (a : Act) (vals : Array Value), Sat X.C X.E M c.H → FrOK X.C M c.fr a → a.defers = X.ds → vals.size = args.length →
    (∀ (i : Nat) s u, args[i]? = some s → vals[i]? = some u → DenV X.C M s u) →
    (callFunc f vals).run X.P M.w = .ok (.enter f vals) M.w ∧
    Calls X.P f vals M.w fun e w' => match e with | .returned v => QK X c.k .normal (a.put d v) w' | .panicked ch => QK X [] (.panic ch) a w' | .outgrown => False

def LoopOK (X : Ctx T) (body : Code) (c : Cfg T) : Prop :=
  ∀ (M : Mem) (a : Act), Sat X.C X.E M c.H → FrOK X.C M c.fr a → a.defers = X.ds → (Code.loop body).wp X.P (QK X c.k) a M.w

/-- Values and chunks may also be told so. -/
def Cv (X : Ctx T) (l : List (SV T)) (H : List (Ch T)) (l' : List (SV T)) (H' : List (Ch T)) : Prop :=
  l'.length ≤ l.length ∧ ∀ M, Sat X.C X.E M H → ∃ M', M'.w = M.w ∧ Sat X.C X.E M' H' ∧
    ∀ vs : Nat → Value, (∀ (i : Nat) s, l[i]? = some s → DenV X.C M s (vs i)) → ∀ (i : Nat) s, l'[i]? = some s → DenV X.C M' s (vs i)

def RetOK (X : Ctx T) (rs : List (SV T)) (H : List (Ch T)) : Prop := ∃ rs' H', rs'.length = rs.length ∧ Cv X rs H rs' H' ∧ X.Post rs' H'

def OutOK (X : Ctx T) : Out T → Prop
  | .more c => Holds X c.k c.fr c.H
  | .branch b x y => (b = true → Holds X x.k x.fr x.H) ∧ (b = false → Holds X y.k y.fr y.H)
  | .need p o => p ∧ OutOK X o
  | .know p o => p → OutOK X o
  | .fork f => ∀ b, OutOK X (f b)
  | .drawn l n o c => (Draw.drawB l.toArray n = true ∧ OutOK X o) ∨ (∃ t, (Region.noSelect l.toArray = true ∧ okT l.toArray l.toArray.size (Array.replicate l.toArray.size false) none t = true) ∧ Holds X (.tree t l :: c.k) c.fr c.H)
  | .both x y => Holds X x.k x.fr x.H ∧ Holds X y.k y.fr y.H
  | .call f args d c => CallOK X f args d c
  | .loop body c => LoopOK X body c
  | .back P fr H => P fr H
  | .ret rs H => RetOK X rs H
  | .panic s fr H => ∀ M v, Sat X.C X.E M H → DenV X.C M s v → X.PE [{ v := v, recovered := false }] fr H
  | .stuck _ => False

variable {X : Ctx T} {M M' : Mem} {H : List (Ch T)} {fr : List (SV T)} {a : Act} {k : List (KI T)}

theorem putF_put {d : Option Tmp} {s : SV T} {v : Value} {C : Cod T} (hF : FrOK C M fr a) (hv : DenV C M s v) : FrOK C M (putF fr d s) (a.put d v) := by
  cases d with
  | none => exact hF
  | some d =>
    simp only [putF, Act.put, setN_eq]
    refine ⟨by simpa using hF.1, fun i x hx => ?_⟩
    by_cases hd : d = i
    · subst hd
      have hl : d < fr.length := by
        have := (List.getElem?_eq_some_iff.1 hx).1
        simpa using this
      rw [List.getElem?_set_self hl] at hx
      cases hx
      have hl2 : d < a.tmps.size := Nat.lt_of_lt_of_le hl hF.1
      simp [Array.getD, hl2]
      exact hv
    · rw [List.getElem?_set_ne hd] at hx
      have := hF.2 i x hx
      simp only [Array.getD_eq_getD_getElem?] at this ⊢
      rw [Array.getElem?_setIfInBounds_ne hd]
      exact this

theorem put_defers {d : Option Tmp} {v : Value} : (a.put d v).defers = a.defers := by cases d <;> rfl

theorem QK_ret {w : World} : ∀ {k : List (KI T)}, QK X [] .ret a w → QK X k .ret a w
  | [], h => h
  | .code _ :: k, h => QK_ret (k := k) h
  | .ops _ _ :: k, h => QK_ret (k := k) h
  | .still _ _ _ :: k, h => QK_ret (k := k) h
  | .blk _ :: k, h => QK_ret (k := k) h
  | .back _ :: k, h => QK_ret (k := k) h
  | .tree _ _ :: k, h => QK_ret (k := k) h

theorem QK_exit {w : World} {id : Nat} : ∀ {k k' : List (KI T)}, unwind id k = some k' → QK X k' .normal a w → QK X k (.exit id) a w
  | [], k', h, _ => by simp [unwind] at h
  | .code c :: k, k', h, hq => QK_exit (k := k) h hq
  | .ops l all :: k, k', h, hq => QK_exit (k := k) h hq
  | .still _ _ _ :: k, k', h, hq => QK_exit (k := k) h hq
  | .back B :: k, k', h, hq => QK_exit (k := k) h hq
  | .tree _ _ :: k, k', h, hq => QK_exit (k := k) h hq
  | .blk i :: k, k', h, hq => by
    simp only [unwind] at h
    show Exit.inBlock i (QK X k) (.exit id) a w
    simp only [Exit.inBlock]
    split at h
    · rename_i hi
      rw [Nat.beq_eq] at hi
      cases h
      rw [if_pos hi.symm]; exact hq
    · rename_i hi
      have hne : ¬ id = i := fun h => hi (by rw [h]; exact Nat.beq_refl i)
      rw [if_neg hne]
      exact QK_exit h hq

theorem denV_flat {C : Cod T} {s : SV T} {v : Value} (h : DenV C M s v) : DenV C M (flatT s) v := by
  cases s
  case tup => trivial
  all_goals exact h
theorem denP_flat {C : Cod T} {s : SV T} {v : Value} (h : DenV C M s v) : DenP C M (flatT s) v := by
  cases s
  case tup => trivial
  all_goals exact h

theorem res_ok (G : Giv X.P X.C X.B X.E) (hS : Sat X.C X.E M H) (hF : FrOK X.C M fr a) : ∀ {l : List ResultVar} {rs : List (SV T)}, resE X.C .std X.B H fr l = some rs →
    ∃ vs : List Value, (l.mapM (fun (x : ResultVar) => match x with | .tmp t => pure (a.tmps.getD t undef) | .cell b t => do loadVar t (← asAddr (a.tmps.getD b undef)))).run X.P M.w = .ok vs M.w ∧
      rs.length = vs.length ∧ ∀ (i : Nat) s u, rs[i]? = some s → vs[i]? = some u → DenV X.C M s u
  | [], rs, h => by
    simp only [resE] at h
    cases h
    exact ⟨[], by simp, rfl, fun i s u h => by simp at h⟩
  | .tmp t :: l, rs, h => by
    simp only [resE] at h
    split at h
    · rename_i r hr
      cases h
      obtain ⟨vs, h1, h2, h3⟩ := res_ok G hS hF hr
      refine ⟨a.tmps.getD t undef :: vs, by simp only [List.mapM_cons, Sem.run_bind, Sem.run_pure, Result.andThen_ok, h1], by simp [h2], fun i s u hs hu => ?_⟩
      cases i with
      | zero =>
        simp only [List.getElem?_cons_zero, Option.some.injEq] at hs hu
        subst hs; subst hu
        exact denV_flat (ev_ok hF (.tmp t))
      | succ i => exact h3 i s u (by simpa using hs) (by simpa using hu)
    · cases h
  | .cell b t :: l, rs, h => by
    simp only [resE] at h
    split at h
    · rename_i s0 r he hr
      cases h
      obtain ⟨vs, h1, h2, h3⟩ := res_ok G hS hF hr
      have hd := does_load (E := X.E) G.tab hS (t := t) (ev_ok hF (.tmp b))
      rw [he] at hd
      obtain ⟨v, hv, hdv⟩ := hd
      replace hv := hv M.w (Old.refl _)
      have hrun : (do loadVar t (← asAddr (a.tmps.getD b undef))).run X.P M.w = .ok v M.w := by
        simp only [Instr.loadAt, Act.eval, Sem.run_bind] at hv
        simp only [Sem.run_bind]
        cases hx : a.tmps.getD b undef <;> simp only [hx, Instr.sureAddr] at hv <;> try (simp at hv; done)
        rename_i p
        cases p with
        | none => simp at hv
        | some p =>
          simp only [Sem.run_pure, Result.andThen_ok] at hv
          simp only [asAddr, Sem.run_pure, Result.andThen_ok]
          cases hl : (loadVar t p).run X.P M.w with
          | ok u w' => rw [hl] at hv; simp at hv; rw [hv.1, hv.2]
          | halt x w' => rw [hl] at hv; simp at hv
      refine ⟨v :: vs, by simp only [List.mapM_cons, Sem.run_bind, hrun, Sem.run_pure, Result.andThen_ok, h1], by simp [h2], fun i s u hs hu => ?_⟩
      cases i with
      | zero =>
        simp only [List.getElem?_cons_zero, Option.some.injEq] at hs hu
        subst hs; subst hu
        exact denV_flat hdv
      | succ i => exact h3 i s u (by simpa using hs) (by simpa using hu)
    · cases h

theorem denR_of {C : Cod T} : ∀ {rs : List (SV T)} {vs : List Value}, rs.length = vs.length → (∀ (i : Nat) s u, rs[i]? = some s → vs[i]? = some u → DenV C M s u) →
    DenR C M rs (if h : vs.toArray.size = 1 then vs.toArray[0] else .tuple vs.toArray)
  | [], [], _, _ => ⟨#[], rfl, rfl, fun i s u h => by simp at h⟩
  | [s], [v], _, h3 => h3 0 s v rfl rfl
  | s1 :: s2 :: rs, v1 :: v2 :: vs, h2, h3 => ⟨(v1 :: v2 :: vs).toArray, by simp, by simpa using h2, fun i s u hs hu => h3 i s u hs (by simpa using hu)⟩

theorem ret_ok (G : Giv X.P X.C X.B X.E) {rs : List (SV T)} (hr : resE X.C .std X.B H fr X.fn.results.toList = some rs) (hp : RetOK X rs H)
    (hS : Sat X.C X.E M H) (hF : FrOK X.C M fr a) (hd : a.defers = X.ds) : QK X [] .ret a M.w := by
  obtain ⟨vs, h1, h2, h3⟩ := res_ok G hS hF hr
  have hres : (results X.fn a.tmps).run X.P M.w = .ok (if h : vs.toArray.size = 1 then vs.toArray[0] else .tuple vs.toArray) M.w := by
    unfold results
    rw [Array.mapM_eq_mapM_toList]
    simp only [Sem.run_bind, Sem.run_map]
    erw [h1]
    rfl
  obtain ⟨rs', H', hl, ⟨_, hcv⟩, hp⟩ := hp
  obtain ⟨M', hw, hS', hv⟩ := hcv M hS
  refine ⟨hd, _, rs', H', M', hres, hw, hp, hS', denR_of (hl.trans h2) fun i s u hs hu => ?_⟩
  have := hv (fun i => vs.getD i undef) (fun i s hs => by
    have hi : i < vs.length := by rw [← h2]; exact (List.getElem?_eq_some_iff.1 hs).1
    have := h3 i s _ hs (List.getElem?_eq_getElem hi)
    simpa [List.getD, hi] using this) i s hs
  simpa [List.getD, hu] using this

theorem QK_panic {c : List PanicEntry} {w : World} {a : Act} : ∀ {k : List (KI T)}, QK X k (.panic c) a w ↔ QK X [] (.panic c) a w
  | [] => Iff.rfl
  | .code _ :: k => QK_panic (k := k)
  | .ops _ _ :: k => QK_panic (k := k)
  | .still _ _ _ :: k => QK_panic (k := k)
  | .blk _ :: k => QK_panic (k := k)
  | .back _ :: k => QK_panic (k := k)
  | .tree _ _ :: k => QK_panic (k := k)
theorem kpO_spec {t : Nat} : ∀ {l : List Oper}, kpO t l = true → ∀ o ∈ l, o.dst ≠ some t
  | [], _, o, ho => by cases ho
  | x :: l, h, o, ho => by
    simp only [kpO] at h
    rcases List.mem_cons.1 ho with rfl | ho
    · intro hd
      rw [hd] at h
      simp [Nat.beq_refl] at h
    · split at h
      · split at h
        · cases h
        · exact kpO_spec h o ho
      · exact kpO_spec h o ho
theorem kpOK_spec : ∀ {kp : List Nat} {l : List Oper}, kpOK kp l = true → ∀ t ∈ kp, ∀ o ∈ l, o.dst ≠ some t
  | [], _, _, t, ht, _, _ => by cases ht
  | x :: kp, l, h, t, ht, o, ho => by
    simp only [kpOK] at h
    split at h
    · rename_i h2
      rcases List.mem_cons.1 ht with rfl | ht
      · exact kpO_spec h2 o ho
      · exact kpOK_spec h t ht o ho
    · cases h
theorem put_getD {a : Act} {d : Option Tmp} {v : Value} {t : Nat} (h : d ≠ some t) : (a.put d v).tmps.getD t undef = a.tmps.getD t undef := by
  cases d with
  | none => rfl
  | some d =>
    simp only [Act.put, Array.getD_eq_getD_getElem?]
    rw [Array.getElem?_setIfInBounds_ne (fun e => h (by rw [e]))]
theorem QK_panic_put {c : List PanicEntry} {w : World} {a : Act} {l : List Oper} {i : Nat} {o : Oper} {v : Value} {k : List (KI T)} (hk : kpOK X.B.kp l = true) (ho : l.toArray[i]? = some o) (h : QK X k (.panic c) (a.put o.dst v) w) : QK X k (.panic c) a w := by
  rw [QK_panic] at h ⊢
  obtain ⟨h1, fr, H, M, h2, h3, h4, h5⟩ := h
  refine ⟨put_defers.symm.trans h1, fr, H, M, h2, h3, h4, fun t ht s hs => ?_⟩
  have hm : o ∈ l := by
    have : l[i]? = some o := by simpa using ho
    exact List.mem_of_getElem? this
  have := h5 t ht s hs
  rwa [put_getD (kpOK_spec hk t ht o hm)] at this

theorem eff_ok {n : Nat} (IH : ∀ k fr H, OutOK X (run X.C .std X.B X.fn.results.toList n k fr H) → Holds X k fr H) (G : Giv X.P X.C X.B X.E) (hS : Sat X.C X.E M H) (hF : FrOK X.C M fr a) (hd : a.defers = X.ds)
    {o : Oper} {l all : List Oper} {r : World → Result Next} : ∀ {ef : Ef T}, OutOK X (eff (run X.C .std X.B X.fn.results.toList n) o.dst (.ops l all :: k) fr H ef) → Does X.P X.C X.E M ef r → r M.w = (execOp a.eval o).run X.P M.w →
      o.wp X.P a M.w (wpList X.P all.toArray (QK X k) l) (QK X k)
  | .val s, h, hdo, hr => by
    obtain ⟨v, hv, hdv⟩ := hdo
    replace hv := hv M.w (Old.refl _)
    unfold Oper.wp
    rw [← hr, hv]
    exact IH _ _ _ h M _ hS (putF_put hF hdv) (put_defers.trans hd)
  | .mem s H', h, hdo, hr => by
    obtain ⟨nx, M', hv, hc, hS', e⟩ := hdo
    unfold Oper.wp
    rw [← hr, hv]
    rcases hc with ⟨v, rfl, hdv⟩ | ⟨rfl, rfl⟩
    · exact IH _ _ _ h M' _ hS' (putF_put (hF.ext G.cod e) hdv) (put_defers.trans hd)
    · exact IH _ _ _ h M' _ hS' (putF_put (hF.ext G.cod e) trivial) (put_defers.trans hd)
  | .app c H', h, hdo, hr => by
    obtain ⟨v, M', hv, hdv, hS', h1, h2, h3⟩ := hdo
    unfold Oper.wp
    rw [← hr, hv]
    exact IH _ _ _ h M' _ hS' (putF_put (FrOK.kill G.cod (c := c) ⟨h1, h2, h3⟩ hF) hdv) (put_defers.trans hd)
  | .need p e, h, hdo, hr => eff_ok IH G hS hF hd h.2 (hdo h.1) hr
  | .know p e, h, hdo, hr => eff_ok IH G hS hF hd (h hdo.1) hdo.2 hr
  | .fork f, h, hdo, hr => let ⟨b, hb⟩ := hdo; eff_ok IH G hS hF hd (h b) hb hr
  | .call f args, h, hdo, hr => by
    obtain ⟨vals, hv, hl, hdv⟩ := hdo
    obtain ⟨h1, h2⟩ := h M a vals hS hF hd hl hdv
    unfold Oper.wp
    rw [← hr, hv, h1]
    refine Calls.mono h2 fun e w' he => ?_
    cases e with
    | returned v => exact he
    | panicked ch => exact QK_panic.2 he
    | outgrown => exact he.elim
  | .panic s, h, hdo, hr => by
    obtain ⟨v, hv, hdv⟩ := hdo
    unfold Oper.wp
    rw [← hr, hv]
    exact QK_panic.2 ⟨hd, fr, H, M, rfl, hS, h M v hS hdv, fun t _ s hs => hF.2 t s hs⟩
  | .stuck w, h, _, _ => h.elim

theorem effS_ok {n : Nat} (IH : ∀ k fr H, OutOK X (run X.C .std X.B X.fn.results.toList n k fr H) → Holds X k fr H) (hS : Sat X.C X.E M H) (hF : FrOK X.C M fr a) (hd : a.defers = X.ds)
    {o : Oper} {h t all : List Oper} : ∀ {ef : Ef T}, OutOK X (effS (run X.C .std X.B X.fn.results.toList n) o.dst (.still h t all :: k) fr H ef) → DoesS X.C M (Draw.pureOp o) ef (fun w => (execOp a.eval o).run X.P w) →
      ∃ v, (∀ w, Draw.pureOp o = true ∨ (Old M.w w ∧ M.w.heap.size ≤ w.heap.size) → (execOp a.eval o).run X.P w = .ok (.value v) w) ∧ Draw.wpHd X.P all.toArray (fun w' => Old M.w w' ∧ M.w.heap.size ≤ w'.heap.size) (fun a' => wpList X.P all.toArray (QK X k) t a' M.w) h (a.put o.dst v)
  | .val s, h, hdo => by
    obtain ⟨v, hv, hdv⟩ := hdo
    exact ⟨v, fun w hw => hv w (hw.imp id (·.1)), IH _ _ _ h M _ hS (putF_put hF hdv) (put_defers.trans hd)⟩
  | .need p e, h, hdo => effS_ok IH hS hF hd h.2 (hdo h.1)
  | .know p e, h, hdo => effS_ok IH hS hF hd (h hdo.1) hdo.2
  | .fork f, h, hdo => let ⟨b, hb⟩ := hdo; effS_ok IH hS hF hd (h b) hb
  | .mem .., h, _ => h.elim
  | .app .., h, _ => h.elim
  | .call .., h, _ => h.elim
  | .panic s, h, _ => h.elim
  | .stuck w, h, _ => h.elim

theorem effT_ok {n : Nat} (IH : ∀ k fr H, OutOK X (run X.C .std X.B X.fn.results.toList n k fr H) → Holds X k fr H) (hS : Sat X.C X.E M H) (hF : FrOK X.C M fr a) (hd : a.defers = X.ds)
    {o : Oper} {t : OTree} {all : List Oper} : ∀ {ef : Ef T}, OutOK X (effS (run X.C .std X.B X.fn.results.toList n) o.dst (.tree t all :: k) fr H ef) → DoesS X.C M true ef (fun w => (execOp a.eval o).run X.P w) →
      ∃ v, (∀ w, (execOp a.eval o).run X.P w = .ok (.value v) w) ∧ wpT X.P all.toArray (QK X k) t (a.put o.dst v) M.w
  | .val s, h, hdo => by
    obtain ⟨v, hv, hdv⟩ := hdo
    exact ⟨v, fun w => hv w (.inl rfl), IH _ _ _ h M _ hS (putF_put hF hdv) (put_defers.trans hd)⟩
  | .need p e, h, hdo => effT_ok IH hS hF hd h.2 (hdo h.1)
  | .know p e, h, hdo => effT_ok IH hS hF hd (h hdo.1) hdo.2
  | .fork f, h, hdo => let ⟨b, hb⟩ := hdo; effT_ok IH hS hF hd (h b) hb
  | .mem .., h, _ => h.elim
  | .app .., h, _ => h.elim
  | .call .., h, _ => h.elim
  | .panic s, h, _ => h.elim
  | .stuck w, h, _ => h.elim

theorem takeO_eq : ∀ (n : Nat) (l : List Oper), takeO n l = l.take n
  | 0, l => by simp [takeO]
  | n + 1, [] => rfl
  | n + 1, o :: l => by simp [takeO, takeO_eq n l]
theorem dropO_eq : ∀ (n : Nat) (l : List Oper), dropO n l = l.drop n
  | 0, l => by simp [dropO]
  | n + 1, [] => rfl
  | n + 1, o :: l => by simp [dropO, dropO_eq n l]

theorem yielded_eq {all : List Oper} {j : Nat} {oj : Oper} {d : Tmp} {b : BE} {C : Cod T} (h1 : all[j]? = some oj) (h2 : oj.dst = some d) (h3 : fr[d]? = some (.bool b)) (hF : FrOK C M fr a) :
    yielded all.toArray a.tmps j = some (ebool b) ∧ d < fr.length := by
  have hl : d < fr.length := (List.getElem?_eq_some_iff.1 h3).1
  have hv := denV_bool (hF.2 d _ h3)
  have hl2 : d < a.tmps.size := Nat.lt_of_lt_of_le hl hF.1
  have : a.tmps[d]? = some (.bool (ebool b)) := by
    rw [← hv]; simp [Array.getD, hl2]
  unfold yielded
  simp [h1, h2, this, hl]

theorem denV_skip {C : Cod T} : DenV C M (.tup []) undef := ⟨#[], rfl, rfl, fun i s u h => by simp at h⟩
theorem yielded_skip {all : List Oper} {j : Nat} {oj : Oper} {d : Tmp} {C : Cod T} (h1 : all[j]? = some oj) (h2 : oj.dst = some d) (h3 : fr[d]? = some (.tup [])) (hF : FrOK C M fr a) :
    yielded all.toArray a.tmps j = none := by
  obtain ⟨us, hv, _, _⟩ := hF.2 d _ h3
  unfold yielded
  simp only [List.getElem?_toArray, h1, h2, Option.bind_some]
  cases ht : a.tmps[d]? with
  | none => simp
  | some u =>
    have : a.tmps.getD d undef = u := by
      have hl := (Array.getElem?_eq_some_iff.1 ht).1
      have he := (Array.getElem?_eq_some_iff.1 ht).2
      simp [Array.getD, hl, he]
    rw [this] at hv
    subst hv
    rfl

theorem FrOK.setb {C : Cod T} {d : Nat} {b b' : BE} (hF : FrOK C M fr a) (h : fr[d]? = some (.bool b)) (hb : ebool b = ebool b') : FrOK C M (fr.set d (.bool b')) a := by
  have hl : d < fr.length := (List.getElem?_eq_some_iff.1 h).1
  refine ⟨by simpa using hF.1, fun i s hs => ?_⟩
  by_cases hd : d = i
  · subst hd
    rw [List.getElem?_set_self hl] at hs
    cases hs
    rw [denV_bool (hF.2 d _ h), hb]
    exact .bool _ .nil
  · rw [List.getElem?_set_ne hd] at hs
    exact hF.2 i s hs

theorem run_ok (G : Giv X.P X.C X.B X.E) : ∀ (n : Nat) (k : List (KI T)) (fr : List (SV T)) (H : List (Ch T)), OutOK X (run X.C .std X.B X.fn.results.toList n k fr H) → Holds X k fr H := by
  intro n
  induction n with
  | zero => intro k fr H h; exact h
  | succ n IH =>
    intro k fr H h M a hS hF hd
    unfold run at h
    split at h
    · split at h
      · rename_i r hr
        exact ret_ok G hr h hS hF hd
      · exact h.elim
    · exact ⟨fr, H, M, h, hS, hF, hd, rfl⟩
    · exact IH _ _ _ h M a hS hF hd
    · exact IH _ _ _ h M a hS hF hd
    · have := IH _ _ _ h M a hS hF hd
      exact this
    · rename_i o hh t all k
      show Draw.wpHd X.P all.toArray _ _ (o :: hh) a
      unfold Draw.wpHd
      split at h
      · rename_i hg
        rw [if_pos (by simp [Region.wanted, hg])]
        exact effS_ok IH hS hF hd h (does_opS G hS hF o)
      · rename_i j want hg
        split at h
        · rename_i oj hj
          rw [nth_eq] at hj
          split at h
          · rename_i d hdst
            rw [nth_eq] at h
            split at h
            · rename_i b hb
              obtain ⟨hy, hl⟩ := yielded_eq hj hdst hb hF
              split at h
              · rename_i hw
                rw [if_pos (by simp [Region.wanted, hg, hy, ebool]; simpa using hw)]
                exact effS_ok IH hS hF hd h (does_opS G hS hF o)
              · rename_i hw
                rw [if_neg (by simp [Region.wanted, hg, hy, ebool]; simpa using hw)]
                exact IH _ _ _ h M _ hS (putF_put hF denV_skip) (put_defers.trans hd)
            · rename_i hb
              have hy := yielded_skip hj hdst hb hF
              rw [if_neg (by simp [Region.wanted, hg, hy])]
              exact IH _ _ _ h M _ hS (putF_put hF denV_skip) (put_defers.trans hd)
            · rename_i b hb
              cases b with
              | true =>
                have := h.1 rfl M a hS (by rw [setN_eq]; exact FrOK.setb hF hb rfl) hd
                have h2 : Draw.wpHd X.P all.toArray (fun w' => Old M.w w' ∧ M.w.heap.size ≤ w'.heap.size) (fun a' => wpList X.P all.toArray (QK X k) t a' M.w) (o :: hh) a := this
                unfold Draw.wpHd at h2
                exact h2
              | false =>
                have := h.2 rfl M a hS (by rw [setN_eq]; exact FrOK.setb hF hb rfl) hd
                have h2 : Draw.wpHd X.P all.toArray (fun w' => Old M.w w' ∧ M.w.heap.size ≤ w'.heap.size) (fun a' => wpList X.P all.toArray (QK X k) t a' M.w) (o :: hh) a := this
                unfold Draw.wpHd at h2
                exact h2
            · exact h.elim
          · exact h.elim
        · exact h.elim
    · rename_i o l all k
      show wpList X.P all.toArray (QK X k) (o :: l) a M.w
      unfold wpList
      split at h
      · rename_i hg
        rw [if_pos (by simp [Region.wanted, hg])]
        exact .inl (eff_ok IH G hS hF hd h (does_op G hS hF o) rfl)
      · rename_i j want hg
        split at h
        · rename_i oj hj
          rw [nth_eq] at hj
          split at h
          · rename_i d hdst
            rw [nth_eq] at h
            split at h
            · rename_i b hb
              obtain ⟨hy, hl⟩ := yielded_eq hj hdst hb hF
              split at h
              · rename_i hw
                rw [if_pos (by simp [Region.wanted, hg, hy, ebool]; simpa using hw)]
                exact .inl (eff_ok IH G hS hF hd h (does_op G hS hF o) rfl)
              · rename_i hw
                rw [if_neg (by simp [Region.wanted, hg, hy, ebool]; simpa using hw)]
                exact IH _ _ _ h M _ hS (putF_put hF denV_skip) (put_defers.trans hd)
            · rename_i hb
              have hy := yielded_skip hj hdst hb hF
              rw [if_neg (by simp [Region.wanted, hg, hy])]
              exact IH _ _ _ h M _ hS (putF_put hF denV_skip) (put_defers.trans hd)
            · rename_i b hb
              cases b with
              | true =>
                have := h.1 rfl M a hS (by rw [setN_eq]; exact FrOK.setb hF hb rfl) hd
                have h2 : wpList X.P all.toArray (QK X k) (o :: l) a M.w := this
                unfold wpList at h2
                exact h2
              | false =>
                have := h.2 rfl M a hS (by rw [setN_eq]; exact FrOK.setb hF hb rfl) hd
                have h2 : wpList X.P all.toArray (QK X k) (o :: l) a M.w := this
                unfold wpList at h2
                exact h2
            · exact h.elim
          · exact h.elim
        · exact h.elim
    · rename_i t all k
      show wpT X.P all.toArray (QK X k) t a M.w
      split at h
      · exact IH _ _ _ h M a hS hF hd
      · rename_i i t
        split at h
        · rename_i o ho
          rw [nth_eq] at ho
          exact wpT_op ho (IH _ _ _ h M a hS hF hd)
        · exact h.elim
      · rename_i i t u
        split at h
        · rename_i o ho
          rw [nth_eq] at ho
          obtain ⟨h1, h2⟩ := h
          exact ⟨wpT_op ho (h1 M a hS hF hd), h2 M a hS hF hd⟩
        · exact h.elim
      · rename_i i t
        split at h
        · exact h.elim
        · rename_i o ho
          rw [nth_eq] at ho
          have ho' : all.toArray[i]? = some o := by simpa using ho
          split at h
          · exact h.elim
          · rename_i hp
            unfold wpT
            rw [ho']
            simp only
            split at h
            · rename_i hg
              rw [if_pos (by simp [Region.wanted, hg])]
              exact effT_ok IH hS hF hd h (does_pure G hS hF o hp)
            · rename_i j want hg
              split at h
              · rename_i oj hj
                rw [nth_eq] at hj
                split at h
                · rename_i d hdst
                  rw [nth_eq] at h
                  split at h
                  · rename_i b hb
                    obtain ⟨hy, hl⟩ := yielded_eq hj hdst hb hF
                    split at h
                    · rename_i hw
                      rw [if_pos (by simp [Region.wanted, hg, hy, ebool]; simpa using hw)]
                      exact effT_ok IH hS hF hd h (does_pure G hS hF o hp)
                    · rename_i hw
                      rw [if_neg (by simp [Region.wanted, hg, hy, ebool]; simpa using hw)]
                      exact IH _ _ _ h M _ hS (putF_put hF denV_skip) (put_defers.trans hd)
                  · rename_i hb
                    have hy := yielded_skip hj hdst hb hF
                    rw [if_neg (by simp [Region.wanted, hg, hy])]
                    exact IH _ _ _ h M _ hS (putF_put hF denV_skip) (put_defers.trans hd)
                  · rename_i b hb
                    cases b with
                    | true =>
                      have := h.1 rfl M a hS (by rw [setN_eq]; exact FrOK.setb hF hb rfl) hd
                      have h2 : wpT X.P all.toArray (QK X k) (.take i t) a M.w := this
                      unfold wpT at h2
                      rw [ho'] at h2
                      exact h2
                    | false =>
                      have := h.2 rfl M a hS (by rw [setN_eq]; exact FrOK.setb hF hb rfl) hd
                      have h2 : wpT X.P all.toArray (QK X k) (.take i t) a M.w := this
                      unfold wpT at h2
                      rw [ho'] at h2
                      exact h2
                  · exact h.elim
                · exact h.elim
              · exact h.elim
    · rename_i c k
      show c.wp X.P (QK X k) a M.w
      split at h
      · exact wp_skip (IH _ _ _ h M a hS hF hd)
      · exact wp_label (IH _ _ _ h M a hS hF hd)
      · rename_i x y
        have := IH _ _ _ h M a hS hF hd
        exact wp_seq this
      · rename_i x y z
        have hx := ev_ok hF x
        split at h
        · rename_i he
          rw [he] at hx
          exact wp_cond_true (denV_bool hx) (IH _ _ _ h M a hS hF hd)
        · rename_i he
          rw [he] at hx
          exact wp_cond_false (denV_bool hx) (IH _ _ _ h M a hS hF hd)
        · rename_i t he
          rw [he] at hx
          have hb := denV_bool hx
          cases t with
          | true => exact wp_cond_true hb (h.1 rfl M a hS hF hd)
          | false => exact wp_cond_false hb (h.2 rfl M a hS hF hd)
        · exact h.elim
      · rename_i id b
        have := IH _ _ _ h M a hS hF hd
        exact wp_block this
      · exact h M a hS hF hd
      · rename_i id
        split at h
        · rename_i k' hk
          exact wp_exit (QK_exit hk (IH _ _ _ h M a hS hF hd))
        · exact h.elim
      · split at h
        · rename_i r hr
          exact wp_ret (QK_ret (ret_ok G hr h hS hF hd))
        · exact h.elim
      · rename_i id os d
        split at h
        · have := IH _ _ _ h M a hS hF hd
          have h2 : wpList X.P os.toList.toArray (QK X k) os.toList a M.w := this
          rw [Array.toArray_toList] at h2
          exact wp_region_list h2
        · split at h
          · exact h.elim
          rename_i hkp
          rcases h with ⟨hlex, h⟩ | ⟨t, ⟨hsel, ht⟩, h⟩
          case inr =>
            obtain ⟨hS1, e1⟩ := hS.world { M.w with drawn := M.w.drawn + 1 } rfl rfl rfl rfl G.cod
            have h2 := h _ a hS1 (hF.ext G.cod e1) hd
            have e : (Code.region id os true) = Code.region id os.toList.toArray true := by rw [Array.toArray_toList]
            rw [e]
            exact wp_region_tree t G.mix hsel ht (fun i o ho v c a w hq => QK_panic_put hkp ho hq) h2
          obtain ⟨hS1, e1⟩ := hS.world { M.w with drawn := M.w.drawn + 1 } rfl rfl rfl rfl G.cod
          have h2 := IH _ _ _ h _ a hS1 (hF.ext G.cod e1) hd
          have h3 : Draw.wpHd X.P os.toList.toArray (fun w' => Old { M.w with drawn := M.w.drawn + 1 } w' ∧ M.w.heap.size ≤ w'.heap.size) (fun a' => wpList X.P os.toList.toArray (QK X k) (dropO (headOps os.toList) os.toList) a' { M.w with drawn := M.w.drawn + 1 }) (takeO (headOps os.toList) os.toList) a := h2
          rw [takeO_eq, dropO_eq] at h3
          have e : (Code.region id os true) = Code.region id os.toList.toArray true := by rw [Array.toArray_toList]
          rw [e]
          exact Draw.wp_region_drawn _ G.mix hlex (fun i o ho v c a w hq => QK_panic_put hkp ho hq) h3
      · exact h.elim
end
end Go.Sx

-- Sx13
namespace Go.Sx
open Go
section
variable {T : Nat → Type}

def ren (π : Nat → Option Nat) : SV T → SV T
  | .agg l => .agg (renL π l)
  | .tup l => .tup (renL π l)
  | .own c => match π c with | some d => .own d | none => .any
  | .ptr c o => match π c with | some d => .ptr d o | none => .any
  | .elt c o i z s => match π c with | some d => .elt d o i z s | none => .any
  | .osl c lo hi => match π c with | some d => .osl d lo hi | none => .any
  | .fn f l => .fn f (renL π l)
  | .iface t s => .iface t (ren π s)
  | .rp l o => .rp (renL π l) o
  | .rpe l o i z s => .rpe (renL π l) o i z s
  | s => s
where renL (π : Nat → Option Nat) : List (SV T) → List (SV T)
  | [] => []
  | s :: l => ren π s :: renL π l

def renCh (π : Nat → Option Nat) : Ch T → Ch T
  | .cells t l => .cells t (ren.renL π l)
  | .hole t r i s => .hole t r i (ren π s)
  | x => x
def renH (π : Nat → Option Nat) : List (Ch T) → List (Ch T)
  | [] => []
  | x :: H => renCh π x :: renH π H

variable {C : Cod T} {M M' : Mem}

theorem Row.free2 (hC : CodOK C) (hD : ∀ b, M.D b → M'.D b ∧ M'.w.heap[b]? = M.w.heap[b]?) {r : Row T} {us : List Value} (h : RowOK C M r us) : RowOK C M' r us :=
  fun i e he => (h i e he).mono2 hC (fun c _ hm => by rw [Row.cells_free hC he] at hm; cases hm) hD

theorem Den.ren (hC : CodOK C) {π : Nat → Option Nat} (hπ : ∀ c d, π c = some d → c < M.n → d < M'.n ∧ M'.ρ d = M.ρ c) (hD : ∀ b, M.D b → M'.D b ∧ M'.w.heap[b]? = M.w.heap[b]?)
    {l : List (SV T)} {vs : List Value} (h : Den C M l vs) : Den C M' (ren.renL π l) vs := by
  have hcell : ∀ b o, M.D b → M'.w.cell? ⟨b, o, none⟩ = M.w.cell? ⟨b, o, none⟩ := fun b o hb => by simp [World.cell?, (hD b hb).2]
  induction h with
  | nil => exact .nil
  | any v h1 _ ih => exact .any v h1 ih
  | val v h1 _ ih => exact .val v h1 ih
  | int k n _ ih => exact .int k n ih
  | bool b _ ih => exact .bool b ih
  | str s _ ih => exact .str s ih
  | arr r us hu h _ _ ihl => exact .arr r us hu (Row.free2 hC hD h) ihl
  | ptr c off g hc h _ ih =>
    simp only [ren.renL, Go.Sx.ren]
    split
    · rename_i d hd
      obtain ⟨h1, h2⟩ := hπ c d hd hc
      exact .ptr d off g h1 (h2 ▸ h) ih
    · exact .any _ rfl ih
  | elt c off i sz sub g hc h _ ih =>
    simp only [ren.renL, Go.Sx.ren]
    split
    · rename_i d hd
      obtain ⟨h1, h2⟩ := hπ c d hd hc
      exact .elt d off i sz sub g h1 (h2 ▸ h) ih
    · exact .any _ rfl ih
  | own c hc _ ih =>
    simp only [ren.renL, Go.Sx.ren]
    split
    · rename_i d hd
      obtain ⟨h1, h2⟩ := hπ c d hd hc
      rw [← h2]
      exact .own d h1 ih
    · exact .any _ rfl ih
  | osl c lo hi a cap hc h0 h1 h2 ha hz _ ih =>
    simp only [ren.renL, Go.Sx.ren]
    split
    · rename_i d hd
      obtain ⟨g1, g2⟩ := hπ c d hd hc
      exact .osl d lo hi a cap g1 h0 h1 (by rw [g2]; exact h2) (by rw [g2]; exact ha) (by rw [g2]; exact hz) ih
    · exact .any _ rfl ih
  | ro r a cap us hu hc ha h _ _ ihl =>
    refine .ro r a cap us hu hc (fun h0 => ?_) (Row.free2 hC hD h) ihl
    obtain ⟨b, o, rfl, hb, hq⟩ := ha h0
    exact ⟨b, o, rfl, (hD b hb).1, fun q hql => by rw [hcell b _ hb]; exact hq q hql⟩
  | roe r i sub b o us hu h0 h1 hd ha h _ _ ihl =>
    exact .roe r i sub b o us hu h0 h1 (hD b hd).1 (fun q hql => by rw [hcell b _ hd]; exact ha q hql) (Row.free2 hC hD h) ihl
  | rp m off b o us hd ha h _ ih ihl =>
    exact .rp _ off b o us (hD b hd).1 (fun q hql => by rw [hcell b _ hd]; exact ha q hql) ih ihl
  | rpe m off i sz sub b o us hd ha h _ ih ihl =>
    exact .rpe _ off i sz sub b o us (hD b hd).1 (fun q hql => by rw [hcell b _ hd]; exact ha q hql) ih ihl
  | fn f m us h _ ih ihl => exact .fn f _ us ih ihl
  | iface t s v h _ ih ihl => exact .iface t _ v ih ihl
  | ifaceA t m us h _ ih ihl => exact .ifaceA t _ us ih ihl

theorem DenP.ren (hC : CodOK C) {π : Nat → Option Nat} (hπ : ∀ c d, π c = some d → c < M.n → d < M'.n ∧ M'.ρ d = M.ρ c) (hD : ∀ b, M.D b → M'.D b ∧ M'.w.heap[b]? = M.w.heap[b]?)
    {s : SV T} {v : Value} (h : DenP C M s v) : DenP C M' (Go.Sx.ren π s) v := by
  cases s
  case agg l => obtain ⟨us, rfl, h⟩ := h; exact ⟨us, rfl, h.ren hC hπ hD⟩
  case arr n r => obtain ⟨us, rfl, h⟩ := h; exact ⟨us, rfl, h.ren hC hπ hD⟩
  case any => trivial
  case tup => exact h.elim
  case own c =>
    have := Den.ren hC hπ hD h
    simp only [Go.Sx.ren, ren.renL] at this ⊢
    split at this
    · exact this
    · trivial
  case ptr c o =>
    have := Den.ren hC hπ hD h
    simp only [Go.Sx.ren, ren.renL] at this ⊢
    split at this
    · exact this
    · trivial
  case elt c o i z s =>
    have := Den.ren hC hπ hD h
    simp only [Go.Sx.ren, ren.renL] at this ⊢
    split at this
    · exact this
    · trivial
  case osl c lo hi =>
    have := Den.ren hC hπ hD h
    simp only [Go.Sx.ren, ren.renL] at this ⊢
    split at this
    · exact this
    · trivial
  all_goals exact Den.ren hC hπ hD h

theorem renL_get (π : Nat → Option Nat) : ∀ (l : List (SV T)) (i : Nat), (ren.renL π l)[i]? = l[i]?.map (ren π)
  | [], i => by simp [ren.renL]
  | s :: l, i => by cases i with
    | zero => simp [ren.renL]
    | succ i => simpa [ren.renL] using renL_get π l i
theorem renL_length (π : Nat → Option Nat) (l : List (SV T)) : (ren.renL π l).length = l.length := by
  induction l with
  | nil => rfl
  | cons s l ih => simp [ren.renL, ih]
theorem renH_get (π : Nat → Option Nat) : ∀ (l : List (Ch T)) (i : Nat), (renH π l)[i]? = l[i]?.map (renCh π)
  | [], i => by simp [renH]
  | s :: l, i => by cases i with
    | zero => simp [renH]
    | succ i => simpa [renH] using renH_get π l i
theorem renH_length (π : Nat → Option Nat) (l : List (Ch T)) : (renH π l).length = l.length := by
  induction l with
  | nil => rfl
  | cons s l ih => simp [renH, ih]
theorem renCh_lv (π : Nat → Option Nat) (x : Ch T) : (renCh π x).lv = x.lv := by cases x <;> rfl

theorem DenV.ren (hC : CodOK C) {π : Nat → Option Nat} (hπ : ∀ c d, π c = some d → c < M.n → d < M'.n ∧ M'.ρ d = M.ρ c) (hD : ∀ b, M.D b → M'.D b ∧ M'.w.heap[b]? = M.w.heap[b]?)
    {s : SV T} {v : Value} (h : DenV C M s v) : DenV C M' (Go.Sx.ren π s) v := by
  cases s
  case tup l =>
    obtain ⟨us, rfl, hl, h⟩ := h
    refine ⟨us, rfl, by rw [renL_length]; exact hl, fun i s u hs hu => ?_⟩
    rw [renL_get] at hs
    obtain ⟨y, hy, rfl⟩ := Option.map_eq_some_iff.1 hs
    exact (h i y u hy hu).ren hC hπ hD
  all_goals exact denV_of_P (DenP.ren hC hπ hD h)

theorem ChOK.ren (hC : CodOK C) {π : Nat → Option Nat} (hπ : ∀ c d, π c = some d → c < M.n → d < M'.n ∧ M'.ρ d = M.ρ c) (hD : ∀ b, M.D b → M'.D b ∧ M'.w.heap[b]? = M.w.heap[b]?)
    {c d : Nat} {x : Ch T} (h : ChOK C M c x) (hρ : M'.ρ d = M.ρ c) (hb : ∀ g, (M.ρ c).blk = some g → M'.w.heap[g]? = M.w.heap[g]?) : ChOK C M' d (renCh π x) := by
  cases x with
  | gone => trivial
  | cells t l =>
    obtain ⟨g, us, hg, hh, hd⟩ := h
    exact ⟨g, us, by rw [hρ]; exact hg, by rw [hb g hg]; exact hh, hd.ren hC hπ hD⟩
  | row t r =>
    obtain ⟨hl, hr⟩ := h
    refine ⟨by rw [hρ]; exact hl, ?_⟩
    rw [hρ]
    rcases hr with hr | ⟨g, us, hg, hh, h1, h2, h3, h4⟩
    · exact .inl hr
    · exact .inr ⟨g, us, hg, by rw [hb g hg]; exact hh, h1, h2, h3, Row.free2 hC hD h4⟩
  | hole t r i s =>
    obtain ⟨hl, a1, a2, a3, g, us, hg, hh, h1, h2, h3, hd, ho⟩ := h
    refine ⟨by rw [hρ]; exact hl, a1, a2, a3, ?_⟩
    rw [hρ]
    exact ⟨g, us, hg, by rw [hb g hg]; exact hh, h1, h2, h3, hd.ren hC hπ hD, fun k x hk hx => (ho k x hk hx).mono2 hC (fun c _ hm => by rw [Row.cells_free hC hx] at hm; cases hm) hD⟩

/-! Calls -/
/-- Where a chunk stands among those that are lent. -/
def pos : List Nat → Nat → Option Nat
  | [], _ => none
  | d :: π, c => match Nat.beq d c with | true => some 0 | false => match pos π c with | some i => some (i + 1) | none => none
def lend (π : List Nat) (H : List (Ch T)) : List Nat → List (Ch T)
  | [] => []
  | c :: l => (match nth H c with | some x => renCh (pos π) x | none => .gone) :: lend π H l
/-- What a chunk of the callee's is called here. -/
def back (π : List Nat) (m : Nat) (i : Nat) : Option Nat := match nth π i with | some c => some c | none => some (m + (i - len' π))
/-- Names that the call hasn't made stale. -/
def kept (π : List Nat) (pin : Nat → Bool) (c : Nat) : Option Nat := match pos π c with | none => some c | some i => match pin i with | true => some c | false => none
def retH (ψ : Nat → Option Nat) : List Nat → List (Ch T) → List (Ch T) → List (Ch T)
  | [], H', Hb => app' Hb (renH ψ H')
  | c :: π, x :: H', Hb => retH ψ π H' (setN Hb c (renCh ψ x))
  | _ :: _, [], Hb => Hb
def lentOK (H : List (Ch T)) (pinB pin : Nat → Bool) : Nat → List Nat → Bool
  | _, [] => true
  | i, c :: π => match nth H c, pos π c, pin i, pinB c with
    | some .gone, _, _, _ => false
    | none, _, _, _ => false
    | _, some _, _, _ => false
    | _, _, false, true => false
    | _, _, _, _ => lentOK H pinB pin (i + 1) π
def flats : List (SV T) → List (SV T)
  | [] => []
  | s :: l => flatT s :: flats l
def resS : List (SV T) → SV T
  | [] => .any
  | [s] => s
  | l => .tup (flats l)

/-- A function's contract: from these arguments and chunks, these results and chunks. -/
def FOKp (P : Program) (C : Cod T) (f : FuncId) (pin : Nat → Bool) (args : List (SV T)) (H : List (Ch T)) (Post : List (SV T) → List (Ch T) → Prop) (PE : List PanicEntry → Prop) : Prop :=
  ∃ fn c, P.funcs[f]? = some fn ∧ (fn.name == "runtime.NumGoroutine") = false ∧ fn.body = some c ∧
    ∀ (E : Env) (M : Mem) (vals : Array Value), (∀ c, pin c = false → E.A c = none) → Sat C E M H → vals.size = args.length →
      (∀ (i : Nat) s u, args[i]? = some s → vals[i]? = some u → DenV C M s u) →
      Calls P f vals M.w fun e w' => match e with
        | .returned v => ∃ rs H' M', Post rs H' ∧ Sat C E M' H' ∧ M'.w = w' ∧ DenR C M' rs v
        | .panicked ch => PE ch ∧ ∃ H' M', Sat C E M' H' ∧ M'.w = w'
        | .outgrown => False
/-- One that doesn't panic. -/
def FOK (P : Program) (C : Cod T) (f : FuncId) (pin : Nat → Bool) (args : List (SV T)) (H : List (Ch T)) (Post : List (SV T) → List (Ch T) → Prop) : Prop :=
  FOKp P C f pin args H Post (fun _ => False)

def anys : Nat → List (SV T)
  | 0 => []
  | n + 1 => .any :: anys n
theorem anys_get (n i : Nat) (s : SV T) (h : (anys n)[i]? = some s) : s = .any := by
  induction n generalizing i with
  | zero => simp [anys] at h
  | succ n ih => cases i with
    | zero => simp [anys] at h; exact h.symm
    | succ i => exact ih i (by simpa [anys] using h)
theorem anys_length (n : Nat) : (anys n : List (SV T)).length = n := by
  induction n with
  | zero => rfl
  | succ n ih => simp [anys, ih]

/-- What a function's proof may know of its frame. -/
structure Fits (X : Ctx T) (P : Program) (C : Cod T) (B : Tab) (res : List ResultVar) (n0 : Nat) (Post : List (SV T) → List (Ch T) → Prop) : Prop where
  P : X.P = P
  C : X.C = C
  B : X.B = B
  res : X.fn.results.toList = res
  n0 : X.n0 = n0
  Post : X.Post = Post
  giv : Giv X.P X.C X.B X.E
  lo : ∀ c h, X.E.A c = some h → c < X.n0

theorem fokp_of {P : Program} {B : Tab} {f : FuncId} {fn : Func} {c : Code} {args : List (SV T)} {H : List (Ch T)} {Post : List (SV T) → List (Ch T) → Prop} {PE : List PanicEntry → Prop} {nt : Nat} {res : List ResultVar}
    (hP : TabOK P C B) (hZ : ZeroOK P C B) (hC : CodOK C) (hmix : P.follows .mixedOrders = true)
    (hf : P.funcs[f]? = some fn) (hn : (fn.name == "runtime.NumGoroutine") = false) (hb : fn.body = some c) (hnt : fn.ntmps = nt) (hres : fn.results.toList = res)
    (h : ∀ X : Ctx T, Fits X P C B res (len' H) Post → X.PE = (fun ch _ _ => PE ch) → Holds X [.code c] (app' args (anys (nt - len' args))) H) : FOKp P C f B.pin args H Post PE := by
  subst hnt
  refine ⟨fn, c, hf, hn, hb, fun E M vals hA hS hl hd => ?_⟩
  refine calls_of_wp hf hb ?_
  have := h ⟨P, C, B, E, fn, len' H, Post, fun ch _ _ => PE ch, []⟩ ⟨rfl, rfl, rfl, hres, rfl, rfl, ⟨hP, hZ, hC, hA, hmix⟩, fun c h hc => by show c < len' H; rw [len'_eq]; exact (hS.anch c h hc).1⟩ rfl M { tmps := vals ++ Array.replicate (fn.ntmps - vals.size) undef, defers := [] } hS ?_ rfl
  · refine Code.wp_mono (fun e a w hq => ?_) this
    cases e with
    | normal => obtain ⟨h1, v, rs, H', M', h2, h3, h4, h5, h6⟩ := hq; exact ⟨h1, v, h2, rs, H', M', h4, h5, h3, h6⟩
    | ret => obtain ⟨h1, v, rs, H', M', h2, h3, h4, h5, h6⟩ := hq; exact ⟨h1, v, h2, rs, H', M', h4, h5, h3, h6⟩
    | panic ch => obtain ⟨h1, fr', H', M', h2, h3, h4, _⟩ := hq; exact ⟨h1, h4, H', M', h3, h2⟩
    | exit | goto | outgrown => exact hq.elim
  · rw [app'_eq, len'_eq args]
    refine ⟨by simp [anys_length, hl], fun i s hs => ?_⟩
    rcases Nat.lt_or_ge i args.length with hi | hi
    · rw [List.getElem?_append_left hi] at hs
      have hv : i < vals.size := by omega
      have : (vals ++ Array.replicate (fn.ntmps - vals.size) undef).getD i undef = vals[i] := by
        simp [Array.getD, hv]
        omega
      show DenV C M s ((vals ++ Array.replicate (fn.ntmps - vals.size) undef).getD i undef)
      rw [this]
      exact hd i s _ hs (Array.getElem?_eq_getElem hv)
    · rw [List.getElem?_append_right hi] at hs
      rw [anys_get _ _ _ hs]
      trivial
theorem fok_of {P : Program} {B : Tab} {f : FuncId} {fn : Func} {c : Code} {args : List (SV T)} {H : List (Ch T)} {Post : List (SV T) → List (Ch T) → Prop} {nt : Nat} {res : List ResultVar}
    (hP : TabOK P C B) (hZ : ZeroOK P C B) (hC : CodOK C) (hmix : P.follows .mixedOrders = true)
    (hf : P.funcs[f]? = some fn) (hn : (fn.name == "runtime.NumGoroutine") = false) (hb : fn.body = some c) (hnt : fn.ntmps = nt) (hres : fn.results.toList = res)
    (h : ∀ X : Ctx T, Fits X P C B res (len' H) Post → Holds X [.code c] (app' args (anys (nt - len' args))) H) : FOK P C f B.pin args H Post :=
  fokp_of hP hZ hC hmix hf hn hb hnt hres fun X F _ => h X F
end
end Go.Sx

-- Sx14
namespace Go.Sx
open Go
section
variable {T : Nat → Type}

theorem pos_some : ∀ {π : List Nat} {c i : Nat}, pos π c = some i → π[i]? = some c
  | [], c, i, h => by simp [pos] at h
  | d :: π, c, i, h => by
    simp only [pos] at h
    split at h
    · rename_i hd
      rw [Nat.beq_eq] at hd
      cases h
      simp [hd]
    · split at h
      · rename_i j hj
        cases h
        simpa using pos_some hj
      · cases h
theorem pos_none : ∀ {π : List Nat} {c : Nat}, pos π c = none → ∀ i : Nat, π[i]? ≠ some c
  | [], c, h, i => by simp
  | d :: π, c, h, i => by
    simp only [pos] at h
    split at h
    · cases h
    · rename_i hd
      split at h
      · cases h
      · rename_i hj
        cases i with
        | zero => intro h'; simp at h'; subst h'; rw [Nat.beq_refl] at hd; cases hd
        | succ i => simpa using pos_none hj i

theorem lentOK_spec {H : List (Ch T)} {pinB pin : Nat → Bool} : ∀ {π : List Nat} {k : Nat}, lentOK H pinB pin k π = true →
    (∀ (i c : Nat), π[i]? = some c → live H c ∧ (pin (k + i) = true ∨ pinB c = false)) ∧ (∀ (i j c : Nat), π[i]? = some c → π[j]? = some c → i = j)
  | [], k, _ => ⟨fun i c h => by simp at h, fun i j c h => by simp at h⟩
  | c :: π, k, h => by
    simp only [lentOK] at h
    split at h <;> try (cases h; done)
    rename_i h1 h2 h3 h4
    obtain ⟨ih1, ih2⟩ := lentOK_spec h
    have hno : pos π c = none := by
      cases hp : pos π c with
      | none => rfl
      | some j => exact (h3 j hp).elim
    refine ⟨fun i d hd => ?_, fun i j d hi hj => ?_⟩
    · cases i with
      | zero =>
        simp only [List.getElem?_cons_zero, Option.some.injEq] at hd
        subst hd
        rw [nth_eq] at h1 h2
        refine ⟨?_, ?_⟩
        · cases hx : H[c]? with
          | none => exact (h2 hx).elim
          | some x =>
            refine ⟨x, hx, ?_⟩
            cases x with
            | gone => exact (h1 hx).elim
            | _ => rfl
        · cases hp : pin (k + 0) with
          | true => exact .inl rfl
          | false =>
            cases hb : pinB c with
            | false => exact .inr rfl
            | true => exact (h4 hp hb).elim
      | succ i =>
        have := ih1 i d (by simpa using hd)
        rwa [Nat.add_right_comm, Nat.add_assoc k i 1] at this
    · cases i with
      | zero =>
        cases j with
        | zero => rfl
        | succ j =>
          simp only [List.getElem?_cons_zero, Option.some.injEq] at hi
          subst hi
          exact absurd (by simpa using hj) (pos_none hno j)
      | succ i =>
        cases j with
        | zero =>
          simp only [List.getElem?_cons_zero, Option.some.injEq] at hj
          subst hj
          exact absurd (by simpa using hi) (pos_none hno i)
        | succ j => exact congrArg (· + 1) (ih2 i j d (by simpa using hi) (by simpa using hj))

theorem lend_get (π : List Nat) (H : List (Ch T)) : ∀ (l : List Nat) (i : Nat), (lend π H l)[i]? = l[i]?.map fun c => (match H[c]? with | some x => renCh (pos π) x | none => .gone)
  | [], i => by simp [lend]
  | c :: l, i => by
    cases i with
    | zero => simp only [lend, nth_eq, List.getElem?_cons_zero, Option.map_some]; try (cases H[c]? <;> rfl)
    | succ i => simpa [lend] using lend_get π H l i
theorem lend_length (π : List Nat) (H : List (Ch T)) (l : List Nat) : (lend π H l).length = l.length := by
  induction l with
  | nil => rfl
  | cons c l ih => simp [lend, ih]

theorem retH_length (ψ : Nat → Option Nat) : ∀ (π : List Nat) (H' Hb : List (Ch T)), π.length ≤ H'.length → (retH ψ π H' Hb).length = Hb.length + (H'.length - π.length)
  | [], H', Hb, _ => by simp [retH, app'_eq, renH_length]
  | c :: π, [], Hb, h => by simp at h
  | c :: π, x :: H', Hb, h => by
    simp only [retH]
    rw [retH_length ψ π H' _ (by simpa using h), setN_eq]
    simp

theorem retH_get (ψ : Nat → Option Nat) : ∀ (π : List Nat) (H' Hb : List (Ch T)), π.length ≤ H'.length → (∀ (i j c : Nat), π[i]? = some c → π[j]? = some c → i = j) → (∀ (i c : Nat), π[i]? = some c → c < Hb.length) →
    ∀ d, (retH ψ π H' Hb)[d]? = match pos π d with
      | some i => H'[i]?.map (renCh ψ)
      | none => if d < Hb.length then Hb[d]? else H'[π.length + (d - Hb.length)]?.map (renCh ψ)
  | [], H', Hb, _, _, _, d => by
    simp only [retH, app'_eq, pos, List.length_nil, Nat.zero_add]
    split
    · rename_i h; rw [List.getElem?_append_left h]
    · rename_i h; rw [List.getElem?_append_right (by omega), renH_get]
  | c :: π, [], Hb, h, _, _, _ => by simp at h
  | c :: π, x :: H', Hb, h, hn, hl, d => by
    simp only [retH]
    rw [retH_get ψ π H' _ (by simpa using h) (fun i j c h1 h2 => by have := hn (i + 1) (j + 1) c (by simpa using h1) (by simpa using h2); omega) (fun i c hc => by rw [setN_eq, List.length_set]; exact hl (i + 1) c (by simpa using hc)) d]
    rw [setN_eq, List.length_set]
    have hcl := hl 0 c rfl
    simp only [pos]
    cases hd : Nat.beq c d with
    | true =>
      rw [Nat.beq_eq] at hd
      subst hd
      cases hp : pos π c with
      | some i =>
        have := hn 0 (i + 1) c rfl (by simpa using pos_some hp)
        omega
      | none =>
        simp [hcl]
    | false =>
      have hne : c ≠ d := fun h => by rw [h, Nat.beq_refl] at hd; cases hd
      cases hp : pos π d with
      | some i => simp
      | none =>
        simp only [List.length_cons]
        split
        · rw [List.getElem?_set_ne hne]
        · rename_i h1
          rw [show π.length + 1 + (d - Hb.length) = (π.length + (d - Hb.length)) + 1 from by omega, List.getElem?_cons_succ]

variable {X : Ctx T}

theorem flats_get : ∀ (l : List (SV T)) (i : Nat), (flats l)[i]? = l[i]?.map flatT
  | [], i => by simp [flats]
  | s :: l, i => by cases i with
    | zero => simp [flats]
    | succ i => simpa [flats] using flats_get l i
theorem flats_length (l : List (SV T)) : (flats l).length = l.length := by
  induction l with
  | nil => rfl
  | cons s l ih => simp [flats, ih]

theorem denR_V {C : Cod T} {M : Mem} : ∀ {rs : List (SV T)} {v : Value}, DenR C M rs v → DenV C M (resS rs) v
  | [], _, _ => trivial
  | [_], _, h => h
  | s1 :: s2 :: rs, v, ⟨us, hv, hl, h⟩ => ⟨us, hv, by rw [flats_length]; exact hl, fun i s u hs hu => by
    rw [flats_get] at hs
    obtain ⟨y, hy, rfl⟩ := Option.map_eq_some_iff.1 hs
    exact denP_flat (h i y u hy hu)⟩

/-- The lent chunks behind a panic. -/
def goneL : List Nat → List (Ch T) → List (Ch T)
  | [], H => H
  | c :: π, H => goneL π (setN H c .gone)
theorem goneL_length : ∀ (π : List Nat) (H : List (Ch T)), (goneL π H).length = H.length
  | [], H => rfl
  | c :: π, H => by rw [goneL, goneL_length π, setN_eq, List.length_set]
theorem goneL_get : ∀ (π : List Nat) (H : List (Ch T)) (d : Nat), (goneL π H)[d]? = match pos π d with | some _ => H[d]?.map (fun _ => .gone) | none => H[d]?
  | [], H, d => rfl
  | c :: π, H, d => by
    rw [goneL, goneL_get π, setN_eq]
    simp only [pos]
    cases hd : Nat.beq c d with
    | true =>
      rw [Nat.beq_eq] at hd
      subst hd
      have e : ∀ o : Option Nat, (match o with | some _ => ((H.set c .gone)[c]?).map (fun _ => (.gone : Ch T)) | none => (H.set c .gone)[c]?) = H[c]?.map (fun _ => .gone) := by
        intro o
        rcases Nat.lt_or_ge c H.length with h | h
        · rw [List.getElem?_set_self h, List.getElem?_eq_getElem h]; cases o <;> rfl
        · rw [List.getElem?_eq_none (by simpa using h), List.getElem?_eq_none h]; cases o <;> rfl
      exact e _
    | false =>
      have hne : c ≠ d := fun h => by rw [h, Nat.beq_refl] at hd; cases hd
      rw [List.getElem?_set_ne hne]
      cases hp : pos π d <;> rfl
theorem ChOK.same {C : Cod T} {M M' : Mem} (hC : CodOK C) (hn : M.n ≤ M'.n) (hρ : M'.ρ = M.ρ) (hD : ∀ b, M.D b → M'.D b ∧ M'.w.heap[b]? = M.w.heap[b]?)
    {c : Nat} {x : Ch T} (h : ChOK C M c x) (hb : ∀ g, (M.ρ c).blk = some g → M'.w.heap[g]? = M.w.heap[g]?) : ChOK C M' c x := by
  have hm : ∀ {l : List (SV T)} {vs : List Value}, Den C M l vs → Den C M' l vs := fun h => h.mono hC hn (fun c _ _ => by rw [hρ]) hD
  cases x with
  | gone => trivial
  | cells t l =>
    obtain ⟨g, us, hg, hh, hd⟩ := h
    exact ⟨g, us, by rw [hρ]; exact hg, by rw [hb g hg]; exact hh, hm hd⟩
  | row t r =>
    obtain ⟨hl, hr⟩ := h
    refine ⟨by rw [hρ]; exact hl, ?_⟩
    rw [hρ]
    rcases hr with hr | ⟨g, us, hg, hh, h1, h2, h3, h4⟩
    · exact .inl hr
    · exact .inr ⟨g, us, hg, by rw [hb g hg]; exact hh, h1, h2, h3, Row.free2 hC hD h4⟩
  | hole t r i s =>
    obtain ⟨hl, a1, a2, a3, g, us, hg, hh, h1, h2, h3, hd, ho⟩ := h
    refine ⟨by rw [hρ]; exact hl, a1, a2, a3, ?_⟩
    rw [hρ]
    exact ⟨g, us, hg, by rw [hb g hg]; exact hh, h1, h2, h3, hm hd, fun k x hk hx => hm (ho k x hk hx)⟩

set_option maxHeartbeats 2000000 in
theorem call_ok (G : Giv X.P X.C X.B X.E) {f : FuncId} {args args0 : List (SV T)} {d : Option Tmp} {k : List (KI T)} {fr : List (SV T)} {H H0 : List (Ch T)} {Post : List (SV T) → List (Ch T) → Prop} {PE : List PanicEntry → Prop} {pin : Nat → Bool} (π : List Nat)
    (hpan : ∀ ch, PE ch → X.PE ch fr (goneL π H)) (hfok : FOKp X.P X.C f pin args0 H0 Post PE) (hl : lentOK H X.B.pin pin 0 π = true) (ha : ren.renL (pos π) args = args0) (hH : lend π H π = H0)
    (hpost : ∀ rs H', Post rs H' → π.length ≤ H'.length ∧ Holds X k (putF (ren.renL (kept π pin) fr) d (ren (back π H.length) (resS rs))) (retH (back π H.length) π H' (renH (kept π pin) H))) :
    CallOK X f args d ⟨k, fr, H⟩ := by
  intro M a vals hS hF hd hsz hdv
  have hS : Sat X.C X.E M H := hS
  have hF : FrOK X.C M fr a := hF
  obtain ⟨fn, cd, hf, hn, hb, hcall⟩ := hfok
  have hC := G.cod
  refine ⟨by
    have hn' : ¬ fn.name = "runtime.NumGoroutine" := by simpa using hn
    simp [callFunc, hf, hb, hn'], ?_⟩
  obtain ⟨hl1, hl2⟩ := lentOK_spec hl
  have hlive : ∀ (i c : Nat), π[i]? = some c → live H c := fun i c h => (hl1 i c h).1
  have hMn := hS.n
  -- the callee's world
  let E2 : Env := {
    w0 := M.w
    S := (fun b => ∃ (i c : Nat), π[i]? = some c ∧ (M.ρ c).blk = some b)
    X := (fun b => X.E.X b ∨ ∃ c, live H c ∧ pos π c = none ∧ (M.ρ c).blk = some b)
    A := (fun i => if pin i = true then π[i]?.map M.ρ else none)
    hX := by
      rintro b (h | ⟨c, h1, _, h3⟩)
      · exact Nat.lt_of_lt_of_le (X.E.hX b h) hS.size
      · exact (hS.lt c b h1 h3).1 }
  let M2 : Mem := { n := π.length, ρ := fun i => M.ρ (π.getD i 0), D := M.D, w := M.w }
  have hρ2 : ∀ (i c : Nat), π[i]? = some c → M2.ρ i = M.ρ c := fun i c h => by simp [M2, List.getD, h]
  have hpos : ∀ c i, pos π c = some i → c < M.n → i < M2.n ∧ M2.ρ i = M.ρ c := fun c i h _ => by
    have := pos_some h
    exact ⟨(List.getElem?_eq_some_iff.1 this).1, hρ2 i c this⟩
  have hD2 : ∀ b, M.D b → M2.D b ∧ M2.w.heap[b]? = M.w.heap[b]? := fun b h => ⟨h, rfl⟩
  have hlH0 : ∀ i, live H0 i ↔ ∃ c, π[i]? = some c := by
    intro i
    constructor
    · rintro ⟨x, hx, _⟩
      rw [← hH, lend_get] at hx
      obtain ⟨c, hc, _⟩ := Option.map_eq_some_iff.1 hx
      exact ⟨c, hc⟩
    · rintro ⟨c, hc⟩
      obtain ⟨x, hx, hlv⟩ := hlive i c hc
      refine ⟨renCh (pos π) x, ?_, by rw [renCh_lv]; exact hlv⟩
      rw [← hH, lend_get, hc]
      simp [hx]
  have hS2 : Sat X.C E2 M2 H0 := by
    refine ⟨by rw [← hH, lend_length], fun i x hx => ?_, fun i j g h1 h2 g1 g2 => ?_, fun i g h1 g1 => ?_, fun b => ?_, rfl, rfl, rfl, Nat.le_refl _, fun i h hA => ?_, fun b _ _ => rfl⟩
    · rw [← hH, lend_get] at hx
      obtain ⟨c, hc, hx⟩ := Option.map_eq_some_iff.1 hx
      obtain ⟨y, hy, _⟩ := hlive i c hc
      rw [hy] at hx
      simp only at hx
      subst hx
      exact (hS.ch c y hy).ren hC hpos hD2 (hρ2 i c hc) (fun g _ => rfl)
    · obtain ⟨c1, hc1⟩ := (hlH0 i).1 h1
      obtain ⟨c2, hc2⟩ := (hlH0 j).1 h2
      rw [hρ2 i c1 hc1] at g1
      rw [hρ2 j c2 hc2] at g2
      have := hS.inj c1 c2 g (hlive i c1 hc1) (hlive j c2 hc2) g1 g2
      subst this
      exact hl2 i j c1 hc1 hc2
    · obtain ⟨c, hc⟩ := (hlH0 i).1 h1
      rw [hρ2 i c hc] at g1
      have h3 := hS.lt c g (hlive i c hc) g1
      refine ⟨h3.1, ?_, .inl ⟨i, c, hc, g1⟩⟩
      rintro (h4 | ⟨c', h4, h5, h6⟩)
      · exact h3.2.1 h4
      · have := hS.inj c c' g (hlive i c hc) h4 g1 h6
        subst this
        exact pos_none h5 i hc
    · show M.D b ↔ _
      rw [hS.D b]
      constructor
      · rintro ⟨h1, h2, h3⟩
        refine ⟨h1, ?_, fun i hi => ?_⟩
        · rintro (h4 | ⟨c, h4, _, h6⟩)
          · exact h2 h4
          · exact h3 c h4 h6
        · obtain ⟨c, hc⟩ := (hlH0 i).1 hi
          rw [hρ2 i c hc]
          exact h3 c (hlive i c hc)
      · rintro ⟨h1, h2, h3⟩
        refine ⟨h1, fun h => h2 (.inl h), fun c hc hg => ?_⟩
        cases hp : pos π c with
        | none => exact h2 (.inr ⟨c, hc, hp, hg⟩)
        | some i =>
          have := pos_some hp
          refine h3 i ((hlH0 i).2 ⟨c, this⟩) ?_
          rw [hρ2 i c this]; exact hg
    · simp only [E2] at hA
      split at hA
      · obtain ⟨c, hc, rfl⟩ := Option.map_eq_some_iff.1 hA
        exact ⟨by rw [← hH, lend_length]; exact (List.getElem?_eq_some_iff.1 hc).1, hρ2 i c hc⟩
      · cases hA
  refine Calls.mono (hcall E2 M2 vals (fun i hi => by simp [E2, hi]) hS2 (by rw [hsz, ← ha, renL_length]) (fun i s u hs hu => ?_)) fun e w' he => ?_
  · rw [← ha, renL_get] at hs
    obtain ⟨y, hy, rfl⟩ := Option.map_eq_some_iff.1 hs
    exact (hdv i y u hy hu).ren hC hpos hD2
  -- behind the call
  cases e with
  | outgrown => exact he
  | panicked ch =>
    obtain ⟨hP, H', M', hS', hw'⟩ := he
    have hsize : M.w.heap.size ≤ M'.w.heap.size := hS'.size
    have hkeep : ∀ b, b < M.w.heap.size → ¬ E2.S b → M'.w.heap[b]? = M.w.heap[b]? := fun b h1 h2 => hS'.kept b h1 h2
    let M3 : Mem := { n := M.n, ρ := M.ρ, D := fun b => b < M'.w.heap.size ∧ ¬ X.E.X b ∧ ∀ c, live (goneL π H) c → (M.ρ c).blk ≠ some b, w := M'.w }
    have hlv0 : ∀ c, live (goneL π H) c → live H c ∧ pos π c = none := by
      rintro c ⟨x, hx, hxl⟩
      rw [goneL_get] at hx
      split at hx
      · obtain ⟨y, _, rfl⟩ := Option.map_eq_some_iff.1 hx
        cases hxl
      · rename_i hp
        exact ⟨⟨x, hx, hxl⟩, hp⟩
    have hD3 : ∀ b, M.D b → M3.D b ∧ M3.w.heap[b]? = M.w.heap[b]? := fun b hb => by
      obtain ⟨h1, h2, h3⟩ := (hS.D b).1 hb
      refine ⟨⟨Nat.lt_of_lt_of_le h1 hsize, h2, fun c hc => h3 c (hlv0 c hc).1⟩, hkeep b h1 ?_⟩
      rintro ⟨i, c', hc', hg'⟩
      exact h3 c' (hlive i c' hc') hg'
    refine ⟨hd, fr, goneL π H, M3, hw', ?_, hpan ch hP, fun t _ s hs => (hF.2 t s hs).ext (M' := M3) hC ⟨Nat.le_refl _, fun c _ => rfl, hD3⟩⟩
    have hlv : ∀ c, live (goneL π H) c → live H c ∧ pos π c = none := by
      rintro c ⟨x, hx, hxl⟩
      rw [goneL_get] at hx
      split at hx
      · obtain ⟨y, _, rfl⟩ := Option.map_eq_some_iff.1 hx
        cases hxl
      · rename_i hp
        exact ⟨⟨x, hx, hxl⟩, hp⟩
    have hnl : ∀ c g, live H c → pos π c = none → (M.ρ c).blk = some g → ¬ E2.S g := by
      rintro c g hc hp hg ⟨i, c', hc', hg'⟩
      have := hS.inj c c' g hc (hlive i c' hc') hg hg'
      subst this
      exact pos_none hp i hc'
    refine ⟨by rw [goneL_length]; exact hS.n, fun c x hx => ?_, fun c1 c2 g h1 h2 g1 g2 => hS.inj c1 c2 g (hlv c1 h1).1 (hlv c2 h2).1 g1 g2, fun c g h1 g1 => ?_, fun b => Iff.rfl, hS'.os.trans hS.os, hS'.tape.trans hS.tape, hS'.output.trans hS.output, Nat.le_trans hS.size hsize, fun c h hA => ?_, fun b hb hs => ?_⟩
    · rw [goneL_get] at hx
      split at hx
      · obtain ⟨y, _, rfl⟩ := Option.map_eq_some_iff.1 hx
        trivial
      · rename_i hp
        cases hxl : x.lv with
        | false =>
          cases x with
          | gone => trivial
          | cells => cases hxl
          | row => cases hxl
          | hole => cases hxl
        | true =>
          have hl : live H c := ⟨x, hx, hxl⟩
          refine ChOK.same (M := M) (M' := M3) hC (Nat.le_refl _) rfl (fun b hb => ?_) (hS.ch c x hx) (fun g hg => hkeep g (hS.lt c g hl hg).1 (hnl c g hl hp hg))
          obtain ⟨h1, h2, h3⟩ := (hS.D b).1 hb
          refine ⟨⟨Nat.lt_of_lt_of_le h1 hsize, h2, fun c hc => h3 c (hlv c hc).1⟩, hkeep b h1 ?_⟩
          rintro ⟨i, c', hc', hg'⟩
          exact h3 c' (hlive i c' hc') hg'
    · have := hS.lt c g (hlv c h1).1 g1
      exact ⟨Nat.lt_of_lt_of_le this.1 hsize, this.2⟩
    · have := hS.anch c h hA
      exact ⟨by rw [goneL_length]; exact this.1, this.2⟩
    · show M'.w.heap[b]? = _
      rw [hkeep b (Nat.lt_of_lt_of_le hb hS.size) ?_]
      · exact hS.kept b hb hs
      · rintro ⟨i, c, hc, hg⟩
        rcases (hS.lt c b (hlive i c hc) hg).2.2 with h | h
        · exact hs h
        · omega
  | returned v =>
  obtain ⟨rs, H', M', hP, hS', hw', hR⟩ := he
  obtain ⟨hlen, hcont⟩ := hpost rs H' hP
  have hsize : M.w.heap.size ≤ M'.w.heap.size := hS'.size
  have hlt2 : ∀ i g, live H' i → (M'.ρ i).blk = some g → g < M'.w.heap.size ∧ ¬ E2.X g ∧ (E2.S g ∨ M.w.heap.size ≤ g) := fun i g => hS'.lt i g
  have hkeep : ∀ b, b < M.w.heap.size → ¬ E2.S b → M'.w.heap[b]? = M.w.heap[b]? := fun b h1 h2 => hS'.kept b h1 h2
  have hanch : ∀ i c, π[i]? = some c → pin i = true → M'.ρ i = M.ρ c := fun i c h1 h2 => (hS'.anch i (M.ρ c) (by simp [E2, h2, h1])).2
  let M3 : Mem := { n := H.length + (H'.length - π.length), ρ := fun c => match pos π c with | some i => M'.ρ i | none => if c < H.length then M.ρ c else M'.ρ (π.length + (c - H.length)), D := fun b => b < M'.w.heap.size ∧ ¬ X.E.X b ∧ ∀ c, live (retH (back π H.length) π H' (renH (kept π pin) H)) c → (match pos π c with | some i => M'.ρ i | none => if c < H.length then M.ρ c else M'.ρ (π.length + (c - H.length))).blk ≠ some b, w := M'.w }
  have hπl : ∀ (i c : Nat), π[i]? = some c → c < H.length := fun i c h => live_lt (hlive i c h)
  have hget : ∀ d, (retH (back π H.length) π H' (renH (kept π pin) H))[d]? = match pos π d with
      | some i => H'[i]?.map (renCh (back π H.length))
      | none => if d < H.length then H[d]?.map (renCh (kept π pin)) else H'[π.length + (d - H.length)]?.map (renCh (back π H.length)) := by
    intro d
    rw [retH_get _ π H' _ hlen hl2 (fun i c h => by rw [renH_length]; exact hπl i c h) d, renH_length, renH_get]
  have hρ3 : ∀ c i, pos π c = some i → M3.ρ c = M'.ρ i := fun c i h => by simp [M3, h]
  have hρ3o : ∀ c, pos π c = none → c < H.length → M3.ρ c = M.ρ c := fun c h h' => by simp [M3, h, h']
  have hρ3n : ∀ j, M3.ρ (H.length + j) = M'.ρ (π.length + j) := fun j => by
    cases hp : pos π (H.length + j) with
    | some i => have := hπl i _ (pos_some hp); omega
    | none => simp [M3, hp]; intro h; omega
  -- what is live
  have hlv : ∀ c, live (retH (back π H.length) π H' (renH (kept π pin) H)) c → (∃ i, pos π c = some i ∧ live H' i) ∨ (pos π c = none ∧ live H c) ∨ (∃ j, c = H.length + j ∧ live H' (π.length + j)) := by
    rintro c ⟨x, hx, hxl⟩
    rw [hget] at hx
    split at hx
    · rename_i i hp
      obtain ⟨y, hy, rfl⟩ := Option.map_eq_some_iff.1 hx
      exact .inl ⟨i, hp, y, hy, by rwa [renCh_lv] at hxl⟩
    · rename_i hp
      split at hx
      · obtain ⟨y, hy, rfl⟩ := Option.map_eq_some_iff.1 hx
        exact .inr (.inl ⟨hp, y, hy, by rwa [renCh_lv] at hxl⟩)
      · rename_i hc
        obtain ⟨y, hy, rfl⟩ := Option.map_eq_some_iff.1 hx
        exact .inr (.inr ⟨c - H.length, by omega, y, hy, by rwa [renCh_lv] at hxl⟩)
  have hXo : ∀ c g, pos π c = none → live H c → (M.ρ c).blk = some g → E2.X g := fun c g h1 h2 h3 => .inr ⟨c, h2, h1, h3⟩
  have hDold : ∀ b, M.D b → M3.D b ∧ M3.w.heap[b]? = M.w.heap[b]? := by
    intro b hb
    obtain ⟨h1, h2, h3⟩ := (hS.D b).1 hb
    have hnS : ¬ E2.S b := fun ⟨i, c, hc, hg⟩ => h3 c (hlive i c hc) hg
    refine ⟨⟨by omega, h2, fun c hc => ?_⟩, hkeep b h1 hnS⟩
    rcases hlv c hc with ⟨i, hp, hi⟩ | ⟨hp, hi⟩ | ⟨j, rfl, hi⟩
    · simp only [hp]
      intro hg
      rcases (hlt2 i b hi hg).2.2 with h | h
      · exact hnS h
      · omega
    · simp only [hp, live_lt hi, if_true]
      exact h3 c hi
    · have := hρ3n j
      simp only [M3] at this
      rw [this]
      intro hg
      rcases (hlt2 _ b hi hg).2.2 with h | h
      · exact hnS h
      · omega
  have hDnew : ∀ b, M'.D b → M3.D b ∧ M3.w.heap[b]? = M'.w.heap[b]? := by
    intro b hb
    obtain ⟨h1, h2, h3⟩ := (hS'.D b).1 hb
    refine ⟨⟨h1, fun h => h2 (.inl h), fun c hc => ?_⟩, rfl⟩
    rcases hlv c hc with ⟨i, hp, hi⟩ | ⟨hp, hi⟩ | ⟨j, rfl, hi⟩
    · simp only [hp]; exact h3 i hi
    · simp only [hp, live_lt hi, if_true]
      exact fun hg => h2 (hXo c b hp hi hg)
    · have := hρ3n j
      simp only [M3] at this
      rw [this]; exact h3 _ hi
  have hM'n := hS'.n
  have hback : ∀ i e, back π H.length i = some e → i < M'.n → e < M3.n ∧ M3.ρ e = M'.ρ i := by
    intro i e h hi
    unfold back at h
    rw [nth_eq, len'_eq] at h
    split at h
    · rename_i c hc
      replace h : c = e := by simpa using h
      subst h
      have hp : pos π c = some i := by
        cases hp : pos π c with
        | none => exact absurd hc (pos_none hp i)
        | some j => rw [hl2 j i c (pos_some hp) hc]
      refine ⟨?_, hρ3 c i hp⟩
      have := hπl i c hc
      show c < H.length + _
      omega
    · rename_i hc
      cases h
      have hge : π.length ≤ i := by
        rcases Nat.lt_or_ge i π.length with h | h
        · rw [List.getElem?_eq_getElem h] at hc; cases hc
        · exact h
      have := hρ3n (i - π.length)
      rw [show π.length + (i - π.length) = i from by omega] at this
      refine ⟨?_, this⟩
      show _ < H.length + (H'.length - π.length)
      omega
  have hkept : ∀ c e, kept π pin c = some e → c < M.n → e < M3.n ∧ M3.ρ e = M.ρ c := by
    intro c e h hc
    unfold kept at h
    have hc' : c < H.length := by omega
    split at h
    · rename_i hp
      cases h
      exact ⟨by show c < H.length + _; omega, hρ3o c hp hc'⟩
    · rename_i i hp
      split at h
      · rename_i hpin
        cases h
        exact ⟨by show c < H.length + _; omega, (hρ3 c i hp).trans (hanch i c (pos_some hp) hpin)⟩
      · cases h
  have hS3 : Sat X.C X.E M3 (retH (back π H.length) π H' (renH (kept π pin) H)) := by
    refine ⟨by rw [retH_length _ _ _ _ hlen, renH_length], fun c x hx => ?_, fun c1 c2 g h1 h2 g1 g2 => ?_, fun c g h1 g1 => ?_, fun b => Iff.rfl, hS'.os.trans hS.os, hS'.tape.trans hS.tape, hS'.output.trans hS.output, Nat.le_trans hS.size hsize, fun c h hA => ?_, fun b hb hs => ?_⟩
    · rw [hget] at hx
      split at hx
      · rename_i i hp
        obtain ⟨y, hy, rfl⟩ := Option.map_eq_some_iff.1 hx
        exact (hS'.ch i y hy).ren hC hback hDnew (hρ3 c i hp) (fun g _ => rfl)
      · rename_i hp
        split at hx
        · rename_i hc
          obtain ⟨y, hy, rfl⟩ := Option.map_eq_some_iff.1 hx
          cases hyl : y.lv with
          | false =>
            cases y with
            | gone => trivial
            | cells => cases hyl
            | row => cases hyl
            | hole => cases hyl
          | true =>
            refine (hS.ch c y hy).ren hC hkept hDold (hρ3o c hp hc) (fun g hg => ?_)
            have h1 := hS.lt c g ⟨y, hy, hyl⟩ hg
            refine hkeep g h1.1 ?_
            rintro ⟨i, c', hc', hg'⟩
            have := hS.inj c c' g ⟨y, hy, hyl⟩ (hlive i c' hc') hg hg'
            subst this
            exact pos_none hp i hc'
        · rename_i hc
          obtain ⟨y, hy, rfl⟩ := Option.map_eq_some_iff.1 hx
          refine (hS'.ch _ y hy).ren hC hback hDnew ?_ (fun g _ => rfl)
          have := hρ3n (c - H.length)
          rwa [show H.length + (c - H.length) = c from by omega] at this
    · -- no two of one block
      have hco : ∀ c g i, pos π c = none → live H c → (M.ρ c).blk = some g → live H' i → (M'.ρ i).blk = some g → False := fun c g i h1 h2 h3 h4 h5 => (hlt2 i g h4 h5).2.1 (hXo c g h1 h2 h3)
      rcases hlv c1 h1 with ⟨i, hp, hi⟩ | ⟨hp, hi⟩ | ⟨j, rfl, hi⟩
      · rw [hρ3 c1 i hp] at g1
        rcases hlv c2 h2 with ⟨i2, hp2, hi2⟩ | ⟨hp2, hi2⟩ | ⟨j2, rfl, hi2⟩
        · rw [hρ3 c2 i2 hp2] at g2
          have := hS'.inj i i2 g hi hi2 g1 g2
          subst this
          have h3 := pos_some hp
          rw [pos_some hp2] at h3
          cases h3; rfl
        · rw [hρ3o c2 hp2 (live_lt hi2)] at g2
          exact (hco c2 g i hp2 hi2 g2 hi g1).elim
        · rw [hρ3n] at g2
          have := hS'.inj _ _ g hi hi2 g1 g2
          have h3 := (List.getElem?_eq_some_iff.1 (pos_some hp)).1
          omega
      · rw [hρ3o c1 hp (live_lt hi)] at g1
        rcases hlv c2 h2 with ⟨i2, hp2, hi2⟩ | ⟨hp2, hi2⟩ | ⟨j2, rfl, hi2⟩
        · rw [hρ3 c2 i2 hp2] at g2
          exact (hco c1 g i2 hp hi g1 hi2 g2).elim
        · rw [hρ3o c2 hp2 (live_lt hi2)] at g2
          exact hS.inj c1 c2 g hi hi2 g1 g2
        · rw [hρ3n] at g2
          exact (hco c1 g _ hp hi g1 hi2 g2).elim
      · rw [hρ3n] at g1
        rcases hlv c2 h2 with ⟨i2, hp2, hi2⟩ | ⟨hp2, hi2⟩ | ⟨j2, rfl, hi2⟩
        · rw [hρ3 c2 i2 hp2] at g2
          have := hS'.inj _ _ g hi hi2 g1 g2
          have h3 := (List.getElem?_eq_some_iff.1 (pos_some hp2)).1
          omega
        · rw [hρ3o c2 hp2 (live_lt hi2)] at g2
          exact (hco c2 g _ hp2 hi2 g2 hi g1).elim
        · rw [hρ3n] at g2
          have := hS'.inj _ _ g hi hi2 g1 g2
          omega
    · have hnew : ∀ i, live H' i → (M'.ρ i).blk = some g → g < M'.w.heap.size ∧ ¬ X.E.X g ∧ (X.E.S g ∨ X.E.w0.heap.size ≤ g) := by
        intro i hi hg
        obtain ⟨h3, h4, h5⟩ := hlt2 i g hi hg
        refine ⟨h3, fun h => h4 (.inl h), ?_⟩
        rcases h5 with ⟨i', c', hc', hg'⟩ | h5
        · exact (hS.lt c' g (hlive i' c' hc') hg').2.2
        · exact .inr (Nat.le_trans hS.size h5)
      rcases hlv c h1 with ⟨i, hp, hi⟩ | ⟨hp, hi⟩ | ⟨j, rfl, hi⟩
      · rw [hρ3 c i hp] at g1
        exact hnew i hi g1
      · rw [hρ3o c hp (live_lt hi)] at g1
        have := hS.lt c g hi g1
        exact ⟨Nat.lt_of_lt_of_le this.1 hsize, this.2⟩
      · rw [hρ3n] at g1
        exact hnew _ hi g1
    · obtain ⟨h1, h2⟩ := hS.anch c h hA
      refine ⟨by rw [retH_length _ _ _ _ hlen, renH_length]; omega, ?_⟩
      cases hp : pos π c with
      | none => rw [hρ3o c hp h1]; exact h2
      | some i =>
        rcases (hl1 i c (pos_some hp)).2 with h3 | h3
        · rw [hρ3 c i hp, hanch i c (pos_some hp) (by simpa using h3)]; exact h2
        · rw [G.pin c h3] at hA; cases hA
    · show M'.w.heap[b]? = _
      rw [hkeep b (Nat.lt_of_lt_of_le hb hS.size) ?_]
      · exact hS.kept b hb hs
      · rintro ⟨i, c, hc, hg⟩
        rcases (hS.lt c b (hlive i c hc) hg).2.2 with h | h
        · exact hs h
        · omega
  have hF3 : FrOK X.C M3 (ren.renL (kept π pin) fr) a := ⟨by rw [renL_length]; exact hF.1, fun i s hs => by
    rw [renL_get] at hs
    obtain ⟨y, hy, rfl⟩ := Option.map_eq_some_iff.1 hs
    exact (hF.2 i y hy).ren hC hkept hDold⟩
  have := hcont M3 (a.put d v) hS3 (putF_put hF3 ((denR_V hR).ren hC hback hDnew)) (put_defers.trans hd)
  rw [← hw']
  exact this
end
end Go.Sx

-- Sx15
namespace Go.Sx
open Go
section
variable {T : Nat → Type} {X : Ctx T}

theorem Cv.refl (l : List (SV T)) (H : List (Ch T)) : Cv X l H l H := ⟨Nat.le_refl _, fun M hS => ⟨M, rfl, hS, fun _ h => h⟩⟩
theorem Cv.trans {l1 l2 l3 : List (SV T)} {H1 H2 H3 : List (Ch T)} (h : Cv X l1 H1 l2 H2) (h2 : Cv X l2 H2 l3 H3) : Cv X l1 H1 l3 H3 :=
  ⟨Nat.le_trans h2.1 h.1, fun M hS => let ⟨M', hw, hS', hv⟩ := h.2 M hS; let ⟨M'', hw', hS'', hv'⟩ := h2.2 M' hS'; ⟨M'', hw'.trans hw, hS'', fun vs hd => hv' vs (hv vs hd)⟩⟩

theorem Holds.cv {k : List (KI T)} {fr fr' : List (SV T)} {H H' : List (Ch T)} (h : Cv X fr H fr' H') (hh : Holds X k fr' H') : Holds X k fr H := by
  intro M a hS hF hd
  obtain ⟨M', hw, hS', hv⟩ := h.2 M hS
  rw [← hw]
  exact hh M' a hS' ⟨Nat.le_trans h.1 hF.1, hv (fun i => a.tmps.getD i undef) hF.2⟩ hd

theorem ret_of {rs : List (SV T)} {H : List (Ch T)} (h : X.Post rs H) : RetOK X rs H := ⟨rs, H, rfl, .refl rs H, h⟩

/-! Loops -/
theorem wp_loop_rel {P : Program} {c : Code} {Q : Exit → Act → World → Prop} (R : Nat → Act → World → Prop)
    (round : ∀ n a w, R n a w → c.wp P (Exit.then (fun a' w' => ∃ m, m < n ∧ R m a' w') Q) a w) {n : Nat} {a : Act} {w : World} (h : R n a w) : (Code.loop c).wp P Q a w := by
  classical
  have least : ∀ a w, (∃ n, R n a w) → ∃ n, R n a w ∧ ∀ m, R m a w → n ≤ m := by
    intro a w ⟨n, hn⟩
    induction n using Nat.strongRecOn with
    | _ n ih =>
      by_cases h : ∃ m, m < n ∧ R m a w
      · obtain ⟨m, hm, hr⟩ := h
        exact ih m hm hr
      · exact ⟨n, hn, fun m hm => Nat.le_of_not_lt fun hl => h ⟨m, hl, hm⟩⟩
  refine wp_loop (fun a w => ∃ n, R n a w) (fun a w => if h : ∃ n, R n a w then Classical.choose (least a w h) else 0) ⟨n, h⟩ fun a w hI => ?_
  have hs := Classical.choose_spec (least a w hI)
  refine Code.wp_mono (fun e a' w' hq => ?_) (round _ a w hs.1)
  cases e with
  | normal =>
    obtain ⟨m, hm, hr⟩ := hq
    refine ⟨⟨m, hr⟩, ?_⟩
    simp only [dif_pos (⟨m, hr⟩ : ∃ n, R n a' w'), dif_pos hI]
    exact Nat.lt_of_le_of_lt ((Classical.choose_spec (least a' w' ⟨m, hr⟩)).2 m hr) hm
  | exit | goto | ret | panic | outgrown => exact hq

theorem loop_ok {V : Type} {body : Code} {k : List (KI T)} {fr0 : List (SV T)} {H0 : List (Ch T)} (I : V → Prop) (μ : V → Nat) (F : V → List (SV T)) (G : V → List (Ch T)) (v0 : V) (h0 : I v0) (hw : Cv X fr0 H0 (F v0) (G v0))
    (step : ∀ v, I v → Holds X (.code body :: .back (fun fr H => ∃ v', I v' ∧ μ v' < μ v ∧ Cv X fr H (F v') (G v')) :: k) (F v) (G v)) : LoopOK X body ⟨k, fr0, H0⟩ := by
  intro M a hS hF hd
  have go : ∀ fr H v, I v → Cv X fr H (F v) (G v) → ∀ M, Sat X.C X.E M H → FrOK X.C M fr a → ∃ M', M'.w = M.w ∧ Sat X.C X.E M' (G v) ∧ FrOK X.C M' (F v) a := fun fr H v _ hc M hS hF =>
    let ⟨M', hw, hS', hv⟩ := hc.2 M hS
    ⟨M', hw, hS', Nat.le_trans hc.1 hF.1, hv (fun i => a.tmps.getD i undef) hF.2⟩
  obtain ⟨M', hw', hS', hF'⟩ := go fr0 H0 v0 h0 hw M hS hF
  refine wp_loop_rel (fun n a w => ∃ v M, I v ∧ μ v = n ∧ Sat X.C X.E M (G v) ∧ FrOK X.C M (F v) a ∧ a.defers = X.ds ∧ M.w = w) ?_ ⟨v0, M', h0, rfl, hS', hF', hd, hw'⟩
  rintro n a w ⟨v, M, hI, rfl, hS, hF, hd, rfl⟩
  have := step v hI M a hS hF hd
  refine Code.wp_mono (fun e a' w' hq => ?_) (show body.wp X.P (QK X _) a M.w from this)
  cases e with
  | normal =>
    obtain ⟨fr, H, M1, ⟨v', hI', hμ, hc⟩, hS1, hF1, hd1, rfl⟩ := hq
    obtain ⟨M2, hw2, hS2, hv2⟩ := hc.2 M1 hS1
    exact ⟨μ v', hμ, v', M2, hI', rfl, hS2, ⟨Nat.le_trans hc.1 hF1.1, hv2 (fun i => a'.tmps.getD i undef) hF1.2⟩, hd1, hw2⟩
  | exit | goto | ret | panic | outgrown => exact hq

/-! Weakening -/
def wkL : List (SV T) → List (SV T) → Prop
  | _, [] => True
  | [], _ :: _ => False
  | x :: l, y :: m => (match y with | .any => True | .bool b => ∃ b', x = .bool b' ∧ ebool b' = ebool b | y => x = y) ∧ wkL l m
def wkH : List (Ch T) → List (Ch T) → Prop
  | _, [] => True
  | [], _ :: _ => False
  | x :: l, y :: m => (match y with | .gone => True | y => x = y) ∧ wkH l m
def cut (n c : Nat) : Option Nat := match Nat.blt c n with | true => some c | false => none

def wkS (l : List (SV T)) (i : Nat) (s : SV T) : Prop := s = .any ∨ (∃ b b', s = .bool b ∧ l[i]? = some (.bool b') ∧ ebool b' = ebool b) ∨ l[i]? = some s
theorem wkL_get : ∀ {l m : List (SV T)}, wkL l m → m.length ≤ l.length ∧ ∀ (i : Nat) s, m[i]? = some s → wkS l i s
  | l, [], _ => ⟨by simp, fun i s h => by simp at h⟩
  | [], _ :: _, h => h.elim
  | x :: l, y :: m, h => by
    obtain ⟨h1, h2⟩ := wkL_get h.2
    refine ⟨by simpa using h1, fun i s hs => ?_⟩
    cases i with
    | zero =>
      simp only [List.getElem?_cons_zero, Option.some.injEq] at hs ⊢
      subst hs
      have := h.1
      split at this
      · exact .inl rfl
      · obtain ⟨b', rfl, hb⟩ := this
        exact .inr (.inl ⟨_, b', rfl, rfl, hb⟩)
      · exact .inr (.inr (by rw [List.getElem?_cons_zero, this]))
    | succ i =>
      have := h2 i s (by simpa using hs)
      unfold wkS at this ⊢
      simpa using this
theorem wkH_get : ∀ {l m : List (Ch T)}, wkH l m → m.length ≤ l.length ∧ ∀ (i : Nat) s, m[i]? = some s → s = .gone ∨ l[i]? = some s
  | l, [], _ => ⟨by simp, fun i s h => by simp at h⟩
  | [], _ :: _, h => h.elim
  | x :: l, y :: m, h => by
    obtain ⟨h1, h2⟩ := wkH_get h.2
    refine ⟨by simpa using h1, fun i s hs => ?_⟩
    cases i with
    | zero =>
      simp only [List.getElem?_cons_zero, Option.some.injEq] at hs ⊢
      subst hs
      have := h.1
      split at this
      · exact .inl rfl
      · exact .inr this
    | succ i => simpa using h2 i s (by simpa using hs)

theorem Cv.wk (hC : CodOK X.C) (hlo : ∀ c h, X.E.A c = some h → c < X.n0) {l l' : List (SV T)} {H H' : List (Ch T)} (hn : Nat.ble X.n0 (len' H') = true) (hl : wkL (ren.renL (cut (len' H')) l) l') (hh : wkH (renH (cut (len' H')) H) H') : Cv X l H l' H' := by
  rw [len'_eq] at hn hl hh
  have hn := Nat.le_of_ble_eq_true hn
  obtain ⟨a1, a2⟩ := wkL_get hl
  obtain ⟨b1, b2⟩ := wkH_get hh
  rw [renL_length] at a1
  rw [renH_length] at b1
  refine ⟨a1, fun M hS => ?_⟩
  have hMn := hS.n
  have hlv : ∀ c, live H' c → live H c := by
    rintro c ⟨x, hx, hxl⟩
    rcases b2 c x hx with rfl | h
    · cases hxl
    · rw [renH_get] at h
      obtain ⟨y, hy, rfl⟩ := Option.map_eq_some_iff.1 h
      exact ⟨y, hy, by rwa [renCh_lv] at hxl⟩
  let M' : Mem := { n := H'.length, ρ := M.ρ, D := fun b => b < M.w.heap.size ∧ ¬ X.E.X b ∧ ∀ c, live H' c → (M.ρ c).blk ≠ some b, w := M.w }
  have hπ : ∀ c d, cut H'.length c = some d → c < M.n → d < M'.n ∧ M'.ρ d = M.ρ c := by
    intro c d h _
    unfold cut at h
    split at h
    · rename_i hb
      cases h
      exact ⟨by simpa [Nat.blt_eq] using hb, rfl⟩
    · cases h
  have hD : ∀ b, M.D b → M'.D b ∧ M'.w.heap[b]? = M.w.heap[b]? := fun b hb => by
    obtain ⟨h1, h2, h3⟩ := (hS.D b).1 hb
    exact ⟨⟨h1, h2, fun c hc => h3 c (hlv c hc)⟩, rfl⟩
  refine ⟨M', rfl, ⟨rfl, fun c x hx => ?_, fun c1 c2 g h1 h2 => hS.inj c1 c2 g (hlv c1 h1) (hlv c2 h2), fun c g h1 h2 => hS.lt c g (hlv c h1) h2, fun b => Iff.rfl, hS.os, hS.tape, hS.output, hS.size, fun c h hA => ⟨?_, (hS.anch c h hA).2⟩, hS.kept⟩, fun vs hv i s hs => ?_⟩
  · rcases b2 c x hx with rfl | h
    · trivial
    · rw [renH_get] at h
      obtain ⟨y, hy, rfl⟩ := Option.map_eq_some_iff.1 h
      exact (hS.ch c y hy).ren hC hπ hD rfl (fun g _ => rfl)
  · have := hlo c h hA
    omega
  · rcases a2 i s hs with rfl | ⟨b, b', rfl, h, hb⟩ | h
    · trivial
    · rw [renL_get] at h
      obtain ⟨y, hy, he⟩ := Option.map_eq_some_iff.1 h
      have h2 := (hv i y hy).ren hC hπ hD
      rw [he] at h2
      rw [denV_bool h2, hb]
      exact .bool _ .nil
    · rw [renL_get] at h
      obtain ⟨y, hy, rfl⟩ := Option.map_eq_some_iff.1 h
      exact (hv i y hy).ren hC hπ hD

/-! A nil slice that will grow -/
theorem Sat.adopt (hC : CodOK X.C) {M : Mem} {H : List (Ch T)} (hS : Sat X.C X.E M H) (e : TypeId) {z : Row T} (hz : z.length = 0) :
    ∃ M', M'.w = M.w ∧ Ext M M' ∧ Sat X.C X.E M' (H ++ [.row e z]) ∧ M'.n = M.n + 1 ∧ M'.ρ H.length = ⟨none, 0, 0⟩ := by
  obtain ⟨M', h1, h2, h3, h4, h5⟩ := Sat.newG (hd := ⟨none, 0, 0⟩) (w' := M.w) (x := .row e z) hC hS rfl rfl rfl rfl (Nat.le_refl _) (fun _ _ => rfl) (fun g hg => by cases hg) (fun M' e hρ hw => by
    refine ⟨by rw [hρ, hz], .inl ?_⟩
    rw [hρ]
    exact ⟨rfl, rfl, rfl⟩)
  exact ⟨M', h1, h4, h5, h3, h2⟩

theorem Cv.adopt (hC : CodOK X.C) {l : List (SV T)} {H : List (Ch T)} (j : Nat) (e : TypeId) {ek : EK} {z : Row T} (hj : nth l j = some (.val (.slice none 0 0))) (hz : Row.nil T ek = some z) :
    Cv X l H (setN l j (.own (len' H))) (app' H [.row e z]) := by
  rw [setN_eq, len'_eq, app'_eq]
  rw [nth_eq] at hj
  refine ⟨by simp, fun M hS => ?_⟩
  obtain ⟨M', hw, ee, hS', hn, hρ⟩ := Sat.adopt hC hS e (Row.nil_len hz)
  refine ⟨M', hw, hS', fun vs hv i s hs => ?_⟩
  by_cases hji : j = i
  · subst hji
    rw [List.getElem?_set_self ((List.getElem?_eq_some_iff.1 hj).1)] at hs
    cases hs
    rw [denV_val (hv j _ hj)]
    have hMn := hS.n
    have := Den.own (C := X.C) (M := M') H.length (by omega) .nil
    rw [hρ] at this
    exact this
  · rw [List.getElem?_set_ne hji] at hs
    exact (hv i s hs).ext hC ee

theorem Den.setOwn (hC : CodOK X.C) {M M' : Mem} (e : Ext M M') {n : Nat} (hn : n < M'.n) (hρ : M'.ρ n = ⟨none, 0, 0⟩) : ∀ {l : List (SV T)} {us : List Value} {j : Nat}, Den X.C M l us → l[j]? = some (.val (.slice none 0 0)) → Den X.C M' (l.set j (.own n)) us
  | [], us, j, _, hj => by simp at hj
  | s :: l, us, j, h, hj => by
    obtain ⟨vs, us', rfl, hl, h1, h2⟩ := h.split
    cases j with
    | zero =>
      simp only [List.getElem?_cons_zero, Option.some.injEq] at hj
      subst hj
      cases h1 with
      | val _ _ h1 =>
      cases h1
      have := Den.own (C := X.C) (M := M') n hn (h2.ext hC e)
      rw [hρ] at this
      exact this
    | succ j =>
      exact (h1.ext hC e).append (Den.setOwn hC e hn hρ h2 (by simpa using hj))

theorem Cv.adoptIn (hC : CodOK X.C) {l : List (SV T)} {H : List (Ch T)} (c j : Nat) (e : TypeId) {ek : EK} {t : TypeId} {m : List (SV T)} {z : Row T} (hc : nth H c = some (.cells t m)) (hj : nth m j = some (.val (.slice none 0 0))) (hz : Row.nil T ek = some z) :
    Cv X l H l (app' (setN H c (.cells t (setN m j (.own (len' H))))) [.row e z]) := by
  rw [setN_eq, setN_eq, len'_eq, app'_eq]
  rw [nth_eq] at hj hc
  refine ⟨Nat.le_refl _, fun M hS => ?_⟩
  obtain ⟨M', hw, ee, hS', hn, hρ⟩ := Sat.adopt hC hS e (Row.nil_len hz)
  have hcl := (List.getElem?_eq_some_iff.1 hc).1
  have hMn := hS.n
  have hcm : (H ++ [.row e z])[c]? = some (.cells t m) := by rw [List.getElem?_append_left hcl]; exact hc
  have hlv : ∀ d, live (H.set c (.cells t (m.set j (.own H.length))) ++ [.row e z]) d ↔ live (H ++ [.row e z]) d := by
    intro d
    have := live_set (H := H ++ [.row e z]) (y := .cells t (m.set j (.own H.length))) (c' := d) hcm rfl rfl
    rwa [List.set_append_left _ _ hcl] at this
  refine ⟨M', hw, ⟨by simpa using hS'.n, fun d x hx => ?_, fun d1 d2 g h1 h2 => hS'.inj d1 d2 g ((hlv _).1 h1) ((hlv _).1 h2), fun d g h1 h2 => hS'.lt d g ((hlv _).1 h1) h2, fun b => ?_, hS'.os, hS'.tape, hS'.output, hS'.size, fun d h hA => by simpa using hS'.anch d h hA, hS'.kept⟩, fun vs hv i s hs => (hv i s hs).ext hC ee⟩
  · by_cases hcd : c = d
    · subst hcd
      rw [List.getElem?_append_left (by simpa using hcl), List.getElem?_set_self hcl] at hx
      cases hx
      obtain ⟨g, us, hg, hh, hd⟩ := hS.ch c _ hc
      refine ⟨g, us, by rw [ee.ρ c (by omega)]; exact hg, by rw [hw]; exact hh, Den.setOwn hC ee (by omega) hρ hd hj⟩
    · refine hS'.ch d x ?_
      rw [← hx]
      rcases Nat.lt_or_ge d H.length with h | h
      · rw [List.getElem?_append_left h, List.getElem?_append_left (by simpa using h), List.getElem?_set_ne hcd]
      · rw [List.getElem?_append_right h, List.getElem?_append_right (by simpa using h), List.length_set]
  · rw [hS'.D b]
    simp only [hlv]

/-! The rules, for what has been reckoned -/
structure OK (X : Ctx T) (o : Out T) : Prop where
  h : OutOK X o

variable {P : Program} {C : Cod T} {B : Tab} {res : List ResultVar} {n0 : Nat} {Post : List (SV T) → List (Ch T) → Prop}

theorem Fits.hold (F : Fits X P C B res n0 Post) {A : Leaf} (hA : A = .std) (n : Nat) {k : List (KI T)} {fr : List (SV T)} {H : List (Ch T)} (h : OK X (run C A B res n k fr H)) : Holds X k fr H := by
  subst hA
  refine run_ok F.giv n k fr H ?_
  rw [F.C, F.B, F.res]
  exact h.h
theorem Fits.cod (F : Fits X P C B res n0 Post) : CodOK X.C := F.giv.cod
theorem Fits.ret (F : Fits X P C B res n0 Post) {rs rs' : List (SV T)} {H H' : List (Ch T)} (hc : Cv X rs H rs' H') (hl : rs'.length = rs.length) (hp : Post rs' H') : OK X (.ret rs H) := ⟨⟨rs', H', hl, hc, by rw [F.Post]; exact hp⟩⟩
theorem Fits.ret0 (F : Fits X P C B res n0 Post) {rs : List (SV T)} {H : List (Ch T)} (hp : Post rs H) : OK X (.ret rs H) := F.ret (.refl rs H) rfl hp
theorem Fits.wk (F : Fits X P C B res n0 Post) {l l' : List (SV T)} {H H' : List (Ch T)} (hn : Nat.ble n0 (len' H') = true) (hl : wkL (ren.renL (cut (len' H')) l) l') (hh : wkH (renH (cut (len' H')) H) H') : Cv X l H l' H' :=
  Cv.wk F.cod F.lo (by rw [F.n0]; exact hn) hl hh
theorem Fits.call (F : Fits X P C B res n0 Post) {f : FuncId} {args args0 : List (SV T)} {d : Option Tmp} {k : List (KI T)} {fr : List (SV T)} {H H0 : List (Ch T)} {Q : List (SV T) → List (Ch T) → Prop} {pin : Nat → Bool} (π : List Nat)
    (hfok : FOK P C f pin args0 H0 Q) (hl : lentOK H B.pin pin 0 π = true) (ha : ren.renL (pos π) args = args0) (hH : lend π H π = H0)
    (hpost : ∀ rs H', Q rs H' → Nat.ble (len' π) (len' H') = true ∧ Holds X k (putF (ren.renL (kept π pin) fr) d (ren (back π (len' H)) (resS rs))) (retH (back π (len' H)) π H' (renH (kept π pin) H))) :
    OK X (.call f args d ⟨k, fr, H⟩) :=
  ⟨call_ok F.giv π (fun _ h => False.elim h) (by rw [F.P, F.C]; exact hfok) (by rw [F.B]; exact hl) ha hH fun rs H' hq => by
    obtain ⟨h1, h2⟩ := hpost rs H' hq
    rw [len'_eq, len'_eq] at h1
    rw [len'_eq] at h2
    exact ⟨Nat.le_of_ble_eq_true h1, h2⟩⟩
theorem Fits.callp (F : Fits X P C B res n0 Post) {f : FuncId} {args args0 : List (SV T)} {d : Option Tmp} {k : List (KI T)} {fr : List (SV T)} {H H0 : List (Ch T)} {Q : List (SV T) → List (Ch T) → Prop} {PE : List PanicEntry → Prop} {pin : Nat → Bool} (π : List Nat)
    (hfok : FOKp P C f pin args0 H0 Q PE) (hl : lentOK H B.pin pin 0 π = true) (ha : ren.renL (pos π) args = args0) (hH : lend π H π = H0) (hpan : ∀ ch, PE ch → X.PE ch fr (goneL π H))
    (hpost : ∀ rs H', Q rs H' → Nat.ble (len' π) (len' H') = true ∧ Holds X k (putF (ren.renL (kept π pin) fr) d (ren (back π (len' H)) (resS rs))) (retH (back π (len' H)) π H' (renH (kept π pin) H))) :
    OK X (.call f args d ⟨k, fr, H⟩) :=
  ⟨call_ok F.giv π hpan (by rw [F.P, F.C]; exact hfok) (by rw [F.B]; exact hl) ha hH fun rs H' hq => by
    obtain ⟨h1, h2⟩ := hpost rs H' hq
    rw [len'_eq, len'_eq] at h1
    rw [len'_eq] at h2
    exact ⟨Nat.le_of_ble_eq_true h1, h2⟩⟩
theorem OK.panic {s : SV T} {fr : List (SV T)} {H : List (Ch T)} (h : ∀ M v, Sat X.C X.E M H → DenV X.C M s v → X.PE [{ v := v, recovered := false }] fr H) : OK X (.panic s fr H) := ⟨h⟩
theorem FOK.mono {f : FuncId} {pin : Nat → Bool} {args : List (SV T)} {H : List (Ch T)} {Q Q' : List (SV T) → List (Ch T) → Prop} (h : FOK P C f pin args H Q) (hq : ∀ rs H, Q rs H → Q' rs H) : FOK P C f pin args H Q' := by
  obtain ⟨fn, c, h1, h2, h3, h4⟩ := h
  refine ⟨fn, c, h1, h2, h3, fun E M vals a1 a2 a3 a4 => Calls.mono (h4 E M vals a1 a2 a3 a4) fun e w' he => ?_⟩
  cases e with
  | returned v => obtain ⟨rs, H', M', b1, b2⟩ := he; exact ⟨rs, H', M', hq _ _ b1, b2⟩
  | panicked ch => exact he
  | outgrown => exact he
theorem OK.more {k : List (KI T)} {fr : List (SV T)} {H : List (Ch T)} (h : Holds X k fr H) : OK X (.more ⟨k, fr, H⟩) := ⟨h⟩
theorem OK.branch {b : Bool} {k k' : List (KI T)} {fr fr' : List (SV T)} {H H' : List (Ch T)} (h : b = true → Holds X k fr H) (h' : b = false → Holds X k' fr' H') : OK X (.branch b ⟨k, fr, H⟩ ⟨k', fr', H'⟩) := ⟨h, h'⟩
theorem OK.need {p : Prop} {o : Out T} (hp : p) (h : OK X o) : OK X (.need p o) := ⟨hp, h.h⟩
theorem OK.know {p : Prop} {o : Out T} (h : p → OK X o) : OK X (.know p o) := ⟨fun hp => (h hp).h⟩
theorem OK.fork {f : Bool → Out T} (h : ∀ b, OK X (f b)) : OK X (.fork f) := ⟨fun b => (h b).h⟩
theorem OK.drawn {l : List Oper} {n : Nat} {o : Out T} {c : Cfg T} (hp : Draw.drawB l.toArray n = true) (h : OK X o) : OK X (.drawn l n o c) := ⟨.inl ⟨hp, h.h⟩⟩
def treeOK (B : Tab) (l : List Oper) : Bool := Region.noSelect l.toArray && okT l.toArray l.toArray.size (Array.replicate l.toArray.size false) none (treeOf B l)
theorem OK.tree (B : Tab) {l : List Oper} {n : Nat} {o : Out T} {k : List (KI T)} {fr : List (SV T)} {H : List (Ch T)} (hp : treeOK B l = true) (h : Holds X (.tree (treeOf B l) l :: k) fr H) : OK X (.drawn l n o ⟨k, fr, H⟩) := by
  unfold treeOK at hp
  rw [Bool.and_eq_true] at hp
  exact ⟨.inr ⟨_, hp, h⟩⟩
theorem OK.both {k k' : List (KI T)} {fr fr' : List (SV T)} {H H' : List (Ch T)} (h : Holds X k fr H) (h' : Holds X k' fr' H') : OK X (.both ⟨k, fr, H⟩ ⟨k', fr', H'⟩) := ⟨h, h'⟩
theorem OK.call {f : FuncId} {args : List (SV T)} {d : Option Tmp} {c : Cfg T} (h : CallOK X f args d c) : OK X (.call f args d c) := ⟨h⟩
theorem OK.loop {body : Code} {c : Cfg T} (h : LoopOK X body c) : OK X (.loop body c) := ⟨h⟩
theorem OK.back {B : List (SV T) → List (Ch T) → Prop} {fr : List (SV T)} {H : List (Ch T)} (h : B fr H) : OK X (.back B fr H) := ⟨h⟩
theorem OK.ret {rs : List (SV T)} {H : List (Ch T)} (h : RetOK X rs H) : OK X (.ret rs H) := ⟨h⟩

def setMany : List (Nat × SV T) → List (SV T) → List (SV T)
  | [], fr => fr
  | (i, s) :: l, fr => setMany l (setN fr i s)
def setManyH : List (Nat × Ch T) → List (Ch T) → List (Ch T)
  | [], H => H
  | (i, x) :: l, H => setManyH l (setN H i x)
def forget : List Nat → List (SV T) → List (SV T)
  | [], fr => fr
  | i :: l, fr => forget l (setN fr i .any)

/-- A loop whose rounds change only these slots and chunks. -/
theorem loop_upd {V : Type} {body : Code} {k : List (KI T)} {fr0 : List (SV T)} {H0 : List (Ch T)} (mods : List Nat) (I : V → Prop) (μ : V → Nat) (g : V → List (Nat × SV T)) (gh : V → List (Nat × Ch T)) (v0 : V) (h0 : I v0)
    (hw : Cv X fr0 H0 (setMany (g v0) (forget mods fr0)) (setManyH (gh v0) H0))
    (step : ∀ v, I v → Holds X (.code body :: .back (fun fr H => ∃ v', I v' ∧ μ v' < μ v ∧ Cv X fr H (setMany (g v') (forget mods fr0)) (setManyH (gh v') H0)) :: k) (setMany (g v) (forget mods fr0)) (setManyH (gh v) H0)) :
    LoopOK X body ⟨k, fr0, H0⟩ :=
  loop_ok I μ (fun v => setMany (g v) (forget mods fr0)) (fun v => setManyH (gh v) H0) v0 h0 hw step
end
end Go.Sx

-- Sx16
namespace Go.Sx
open Go
section
variable {T : Nat → Type}

def lookT (l : List TI) (t : TypeId) : TI := match nth l t with | some i => i | none => ⟨.other, 0, 0, .no, .no⟩

theorem lookT_ge {l : List TI} {t : Nat} (h : l.length ≤ t) : lookT l t = ⟨.other, 0, 0, .no, .no⟩ := by
  unfold lookT
  rw [nth_eq, List.getElem?_eq_none h]

def below (p : Nat → Bool) : Nat → Bool
  | 0 => true
  | n + 1 => match p n with | true => below p n | false => false
theorem below_spec {p : Nat → Bool} : ∀ {n : Nat}, below p n = true → ∀ i, i < n → p i = true
  | 0, _, i, hi => by omega
  | n + 1, h, i, hi => by
    simp only [below] at h
    split at h
    · rename_i hp
      rcases Nat.lt_or_ge i n with h' | h'
      · exact below_spec h i h'
      · rw [show i = n from by omega]; exact hp
    · cases h

theorem tabOK_of {P : Program} {C : Cod T} {l : List TI} {pin : Nat → Bool} {kp : List Nat} (h : below (fun t => tiOK P C t (lookT l t)) l.length = true) : TabOK P C ⟨lookT l, pin, kp⟩ := by
  intro t
  rcases Nat.lt_or_ge t l.length with ht | ht
  · exact below_spec h t ht
  · show tiOK P C t (lookT l t) = true
    rw [lookT_ge ht]
    rfl

/-! Zero values -/
def zcell : SV T → Value → Bool
  | .int k n, .int k' n' => k == k' && n == n'
  | .bool b, .bool b' => ebool b == b'
  | .str [], .string s => s.data.toList.isEmpty
  | .val (.slice none 0 0), .slice none 0 0 => true
  | .val (.pointer none), .pointer none => true
  | .val .nilFunc, .nilFunc => true
  | .val .nilIface, .nilIface => true
  | .val (.map none), .map none => true
  | .val (.chan none), .chan none => true
  | .ro (.bytes []), .slice none 0 0 => true
  | .ro (.ints _ []), .slice none 0 0 => true
  | .ro (.bools []), .slice none 0 0 => true
  | .ro (.strs []), .slice none 0 0 => true
  | .ro (.recs _ []), .slice none 0 0 => true
  | _, _ => false
def zones : Row T → List Value → Bool
  | .bytes [], [] => true
  | .ints _ [], [] => true
  | .bools [], [] => true
  | .strs [], [] => true
  | .bytes (x :: xs), .int .u8 n :: vs => (x.toNat : Int) == n && zones (.bytes xs) vs
  | .ints k (x :: xs), .int k' n :: vs => k == k' && x == n && zones (.ints k xs) vs
  | .bools (x :: xs), .bool b :: vs => x == b && zones (.bools xs) vs
  | .strs ([] :: xs), .string s :: vs => s.data.toList.isEmpty && zones (.strs xs) vs
  | _, _ => false
def zden : List (SV T) → List Value → Bool
  | [], [] => true
  | .arr n r :: l, vs => (match r with | .recs _ _ => false | _ => true) && n == r.length && zones r (vs.take n) && zden l (vs.drop n)
  | s :: l, v :: vs => zcell s v && zden l vs
  | _, _ => false

theorem zcell_ok {C : Cod T} {s : SV T} {v : Value} (h : zcell s v = true) (M : Mem) {l : List (SV T)} {vs : List Value} (hl : Den C M l vs) : Den C M (s :: l) (v :: vs) := by
  have nilro : ∀ r : Row T, r.length = 0 → Den C M (.ro r :: l) (.slice none 0 0 :: vs) := fun r h0 => by
    have := Den.ro (C := C) (M := M) r none 0 [] (by simp [h0]) (by omega) (fun h => by omega) (fun i e he => by
      exfalso
      have := Row.cells_lt he
      omega) hl
    rw [h0] at this
    exact this
  unfold zcell at h
  split at h
  · rename_i k n k' n'
    simp only [Bool.and_eq_true, beq_iff_eq] at h
    obtain ⟨rfl, rfl⟩ := h
    exact .int _ _ hl
  · rename_i b b'
    have : ebool b = b' := by simpa using h
    rw [← this]; exact .bool _ hl
  · rename_i s
    have : s = ⟨([] : List UInt8).toArray⟩ := by
      apply ByteArray.ext
      have := List.isEmpty_iff.1 h
      simpa using this
    rw [this]; exact .str [] hl
  · exact .val _ rfl hl
  · exact .val _ rfl hl
  · exact .val _ rfl hl
  · exact .val _ rfl hl
  · exact .val _ rfl hl
  · exact .val _ rfl hl
  · exact nilro _ rfl
  · exact nilro _ rfl
  · exact nilro _ rfl
  · exact nilro _ rfl
  · exact nilro _ rfl
  · cases h

theorem zones_ok {C : Cod T} : ∀ {r : Row T} {us : List Value}, zones r us = true → us.length = r.length ∧ r.elemSz C = 1 ∧ ∀ M (i : Nat) e, r.cells C i = some e → ∃ u, us[i]? = some u ∧ Den C M e [u] := by
  intro r
  match r with
  | .bytes xs =>
    induction xs with
    | nil => intro us h; cases us <;> simp [zones] at h; exact ⟨rfl, rfl, fun M i e he => by simp [Row.cells] at he⟩
    | cons x xs ih =>
      intro us h
      match us, h with
      | .int .u8 n :: vs, h =>
        simp only [zones, Bool.and_eq_true, beq_iff_eq] at h
        obtain ⟨h1, h2, h3⟩ := ih h.2
        refine ⟨by simpa [Row.length] using h1, rfl, fun M i e he => ?_⟩
        cases i with
        | zero => simp [Row.cells] at he; subst he; exact ⟨_, rfl, by rw [← h.1]; exact .int _ _ .nil⟩
        | succ i => obtain ⟨u, hu, hd⟩ := h3 M i e (by simpa [Row.cells] using he); exact ⟨u, by simpa using hu, hd⟩
  | .ints k xs =>
    induction xs with
    | nil => intro us h; cases us <;> simp [zones] at h; exact ⟨rfl, rfl, fun M i e he => by simp [Row.cells] at he⟩
    | cons x xs ih =>
      intro us h
      match us, h with
      | .int k' n :: vs, h =>
        simp only [zones, Bool.and_eq_true, beq_iff_eq] at h
        obtain ⟨h1, h2, h3⟩ := ih h.2
        refine ⟨by simpa [Row.length] using h1, rfl, fun M i e he => ?_⟩
        cases i with
        | zero => simp [Row.cells] at he; subst he; exact ⟨_, rfl, by rw [← h.1.1, ← h.1.2]; exact .int _ _ .nil⟩
        | succ i => obtain ⟨u, hu, hd⟩ := h3 M i e (by simpa [Row.cells] using he); exact ⟨u, by simpa using hu, hd⟩
  | .bools xs =>
    induction xs with
    | nil => intro us h; cases us <;> simp [zones] at h; exact ⟨rfl, rfl, fun M i e he => by simp [Row.cells] at he⟩
    | cons x xs ih =>
      intro us h
      match us, h with
      | .bool b :: vs, h =>
        simp only [zones, Bool.and_eq_true, beq_iff_eq] at h
        obtain ⟨h1, h2, h3⟩ := ih h.2
        refine ⟨by simpa [Row.length] using h1, rfl, fun M i e he => ?_⟩
        cases i with
        | zero => simp [Row.cells] at he; subst he; exact ⟨_, rfl, by rw [← h.1]; exact .bool (.e x) .nil⟩
        | succ i => obtain ⟨u, hu, hd⟩ := h3 M i e (by simpa [Row.cells] using he); exact ⟨u, by simpa using hu, hd⟩
  | .strs xs =>
    induction xs with
    | nil => intro us h; cases us <;> simp [zones] at h; exact ⟨rfl, rfl, fun M i e he => by simp [Row.cells] at he⟩
    | cons x xs ih =>
      intro us h
      match x, us, h with
      | _ :: _, us, h => exfalso; cases us <;> simp [zones] at h
      | [], [], h => simp [zones] at h
      | [], .string s :: vs, h =>
        simp only [zones, Bool.and_eq_true] at h
        obtain ⟨h1, h2, h3⟩ := ih h.2
        have hs : s = ⟨([] : List UInt8).toArray⟩ := by
          apply ByteArray.ext
          have := List.isEmpty_iff.1 h.1
          simpa using this
        refine ⟨by simpa [Row.length] using h1, rfl, fun M i e he => ?_⟩
        cases i with
        | zero => simp [Row.cells] at he; subst he; exact ⟨_, rfl, by rw [hs]; exact .str [] .nil⟩
        | succ i => obtain ⟨u, hu, hd⟩ := h3 M i e (by simpa [Row.cells] using he); exact ⟨u, by simpa using hu, hd⟩
  | .recs id xs => intro us h; unfold zones at h; simp at h

theorem zden_ok {C : Cod T} (M : Mem) : ∀ {l : List (SV T)} {vs : List Value}, zden l vs = true → Den C M l vs
  | [], [], _ => .nil
  | [], _ :: _, h => by simp [zden] at h
  | s :: l, vs, h => by
    cases s with
    | arr n r =>
      simp only [zden, Bool.and_eq_true, beq_iff_eq] at h
      obtain ⟨⟨⟨_, rfl⟩, h2⟩, h3⟩ := h
      obtain ⟨z1, z2, z3⟩ := zones_ok (C := C) h2
      have := Den.arr (C := C) (M := M) r (vs.take r.length) (by rw [z1, z2]; simp) (fun i e he => by
        obtain ⟨u, hu, hd⟩ := z3 M i e he
        rw [z2, Nat.mul_one]
        have hi := (List.getElem?_eq_some_iff.1 hu).1
        rw [List.drop_eq_getElem_cons hi, List.take_succ_cons, List.take_zero, (List.getElem?_eq_some_iff.1 hu).2]
        exact hd) (zden_ok M h3)
      rwa [List.take_append_drop] at this
    | _ =>
      cases vs with
      | nil => simp [zden] at h
      | cons v vs =>
        simp only [zden, Bool.and_eq_true] at h
        exact zcell_ok h.1 M (zden_ok M h.2)

def zeroT (P : Program) (C : Cod T) (B : Tab) (t : TypeId) : Bool :=
  (match zeroL C .std B 20 t with
    | none => true
    | some l => match P.info? t with | some i => (match i.zero with | some z => zden l z.cells.toList | none => false) | none => false) &&
  ((match Row.zero C .std 0 (B.info t).elem with
    | none => true
    | some r => match P.info? t with
      | some i => (match i.zero with | some z => z.cells.size == r.elemSz C && i.size == r.elemSz C && i.bytes == (B.info t).bytes | none => false)
      | none => false) &&
  (match (B.info t).zel with
    | .no => true
    | .byte => go1 [.int .u8 0] t
    | .int k => go1 [.int k 0] t
    | .bool => go1 [.bool (.e false)] t
    | .str => go1 [.str []] t
    | .st id => go1 (C.enc id (C.dflt id)) t && (match P.info? t with | some i => i.size == C.sz id | none => false)))
where go1 (l : List (SV T)) (t : TypeId) : Bool := match P.info? t with
    | some i => (match i.zero with | some z => zden l z.cells.toList && i.size == wds C l && i.bytes == (B.info t).bytes | none => false)
    | none => false

theorem zeroOK_of {P : Program} {C : Cod T} (hC : CodOK C) {l : List TI} {pin : Nat → Bool} {kp : List Nat} (h : below (zeroT P C ⟨lookT l, pin, kp⟩) l.length = true) : ZeroOK P C ⟨lookT l, pin, kp⟩ := by
  have lt : ∀ t, (lookT l t).kind ≠ .other ∨ (lookT l t).elem ≠ .no ∨ (lookT l t).zel ≠ .no → t < l.length := by
    intro t ht
    rcases Nat.lt_or_ge t l.length with h | h
    · exact h
    · rw [lookT_ge h] at ht; simp at ht
  constructor
  · intro t z hz
    have ht : t < l.length := by
      refine lt t (.inl fun hk => ?_)
      simp [zeroL, hk] at hz
    have := below_spec h t ht
    simp only [zeroT, Bool.and_eq_true, hz] at this
    have h1 := this.1
    cases hi : P.info? t with
    | none => simp [hi] at h1
    | some i =>
      cases hzz : i.zero with
      | none => simp [hi, hzz] at h1
      | some zv =>
        simp only [hi, hzz] at h1
        exact ⟨i, zv, rfl, hzz, fun M => zden_ok M h1⟩
  · intro e r hr
    have ht : e < l.length := by
      refine lt e (.inr (.inl fun hk => ?_))
      have hk' : ((⟨lookT l, pin, kp⟩ : Tab).info e).elem = .no := hk
      rw [hk'] at hr
      simp [Row.zero] at hr
    have := below_spec h e ht
    simp only [zeroT, Bool.and_eq_true] at this
    have h2 := this.2.1
    rw [hr] at h2
    cases hi : P.info? e with
    | none => simp [hi] at h2
    | some i =>
      cases hz : i.zero with
      | none => simp [hi, hz] at h2
      | some z =>
        simp only [hi, hz, Bool.and_eq_true, beq_iff_eq] at h2
        exact ⟨i, z, rfl, hz, h2.1.1, h2.1.2, h2.2⟩
  · intro e n r hr
    have ht : e < l.length := by
      refine lt e (.inr (.inr fun hk => ?_))
      have hk' : ((⟨lookT l, pin, kp⟩ : Tab).info e).zel = .no := hk
      rw [hk'] at hr
      simp [Row.zero] at hr
    have := below_spec h e ht
    simp only [zeroT, Bool.and_eq_true] at this
    have h2 := this.2.2
    have go : ∀ x, zeroT.go1 P C ⟨lookT l, pin, kp⟩ x e = true → ∃ i z, P.info? e = some i ∧ i.zero = some z ∧ z.cells.size = wds C x ∧ i.size = wds C x ∧ i.bytes = (lookT l e).bytes ∧ ∀ M, Den C M x z.cells.toList := by
      intro x hx
      unfold zeroT.go1 at hx
      cases hi : P.info? e with
      | none => simp [hi] at hx
      | some i =>
        cases hzz : i.zero with
        | none => simp [hi, hzz] at hx
        | some zv =>
          simp only [hi, hzz, Bool.and_eq_true, beq_iff_eq] at hx
          have hd := fun M => zden_ok (C := C) M hx.1.1
          refine ⟨i, zv, rfl, hzz, ?_, hx.1.2, hx.2, hd⟩
          have := (hd ⟨0, fun _ => ⟨none, 0, 0⟩, fun _ => False, default⟩).length
          simpa using this
    have hr' : Row.zero C .std n (lookT l e).zel = some r := hr
    have h2' : (match (lookT l e).zel with
      | .no => true
      | .byte => zeroT.go1 P C ⟨lookT l, pin, kp⟩ [.int .u8 0] e
      | .int k => zeroT.go1 P C ⟨lookT l, pin, kp⟩ [.int k 0] e
      | .bool => zeroT.go1 P C ⟨lookT l, pin, kp⟩ [.bool (.e false)] e
      | .str => zeroT.go1 P C ⟨lookT l, pin, kp⟩ [.str []] e
      | .st id => zeroT.go1 P C ⟨lookT l, pin, kp⟩ (C.enc id (C.dflt id)) e && (match P.info? e with | some i => i.size == C.sz id | none => false)) = true := h2
    cases hE : (lookT l e).zel with
    | no => rw [hE] at hr'; simp [Row.zero] at hr'
    | byte =>
      rw [hE] at hr' h2'
      simp only [Row.zero] at hr'
      cases hr'
      obtain ⟨i, z, a1, a2, a3, a4, a5, a6⟩ := go _ h2'
      refine ⟨i, z, a1, a2, a3, a4, a5, fun j x hx M => ?_⟩
      simp only [Row.cells, Leaf.std, Option.map_eq_some_iff] at hx
      obtain ⟨b, hb, rfl⟩ := hx
      have := List.mem_of_getElem? hb
      rw [List.eq_of_mem_replicate this]
      exact a6 M
    | int k =>
      rw [hE] at hr' h2'
      simp only [Row.zero] at hr'
      cases hr'
      obtain ⟨i, z, a1, a2, a3, a4, a5, a6⟩ := go _ h2'
      refine ⟨i, z, a1, a2, a3, a4, a5, fun j x hx M => ?_⟩
      simp only [Row.cells, Leaf.std, Option.map_eq_some_iff] at hx
      obtain ⟨b, hb, rfl⟩ := hx
      have := List.mem_of_getElem? hb
      rw [List.eq_of_mem_replicate this]
      exact a6 M
    | bool =>
      rw [hE] at hr' h2'
      simp only [Row.zero] at hr'
      cases hr'
      obtain ⟨i, z, a1, a2, a3, a4, a5, a6⟩ := go _ h2'
      refine ⟨i, z, a1, a2, a3, a4, a5, fun j x hx M => ?_⟩
      simp only [Row.cells, Leaf.std, Option.map_eq_some_iff] at hx
      obtain ⟨b, hb, rfl⟩ := hx
      have := List.mem_of_getElem? hb
      rw [List.eq_of_mem_replicate this]
      exact a6 M
    | str =>
      rw [hE] at hr' h2'
      simp only [Row.zero] at hr'
      cases hr'
      obtain ⟨i, z, a1, a2, a3, a4, a5, a6⟩ := go _ h2'
      refine ⟨i, z, a1, a2, a3, a4, a5, fun j x hx M => ?_⟩
      simp only [Row.cells, Leaf.std, Option.map_eq_some_iff] at hx
      obtain ⟨b, hb, rfl⟩ := hx
      have := List.mem_of_getElem? hb
      rw [List.eq_of_mem_replicate this]
      exact a6 M
    | st id =>
      rw [hE] at hr' h2'
      simp only [Row.zero] at hr'
      cases hr'
      simp only [Bool.and_eq_true] at h2'
      obtain ⟨i, z, a1, a2, a3, a4, a5, a6⟩ := go _ h2'.1
      rw [hC.sz] at a3 a4
      refine ⟨i, z, a1, a2, a3, a4, a5, fun j x hx M => ?_⟩
      simp only [Row.cells, Leaf.std, Option.map_eq_some_iff] at hx
      obtain ⟨b, hb, rfl⟩ := hx
      have := List.mem_of_getElem? hb
      rw [List.eq_of_mem_replicate this]
      exact a6 M
end
end Go.Sx

-- Sx17
namespace Go.Sx
open Go
section
variable {T : Nat → Type} {X : Ctx T} {P : Program} {C : Cod T} {B : Tab} {res : List ResultVar} {n0 : Nat} {Post : List (SV T) → List (Ch T) → Prop}

inductive WkL : List (SV T) → List (SV T) → Prop
  | nil (l : List (SV T)) : WkL l []
  | any {x : SV T} {l m : List (SV T)} : WkL l m → WkL (x :: l) (.any :: m)
  | eq {x y : SV T} {l m : List (SV T)} : x = y → WkL l m → WkL (x :: l) (y :: m)
  | bool {b b' : BE} {l m : List (SV T)} : ebool b = ebool b' → WkL l m → WkL (.bool b :: l) (.bool b' :: m)
inductive WkH : List (Ch T) → List (Ch T) → Prop
  | nil (l : List (Ch T)) : WkH l []
  | gone {x : Ch T} {l m : List (Ch T)} : WkH l m → WkH (x :: l) (.gone :: m)
  | eq {x y : Ch T} {l m : List (Ch T)} : x = y → WkH l m → WkH (x :: l) (y :: m)
theorem WkL.to {l m : List (SV T)} (h : WkL l m) : wkL l m := by
  induction h with
  | nil l => cases l <;> trivial
  | any _ ih => exact ⟨trivial, ih⟩
  | eq h _ ih => subst h; exact ⟨by split; trivial; exact ⟨_, rfl, rfl⟩; rfl, ih⟩
  | bool h _ ih => exact ⟨⟨_, rfl, h⟩, ih⟩
theorem WkH.to {l m : List (Ch T)} (h : WkH l m) : wkH l m := by
  induction h with
  | nil l => cases l <;> trivial
  | gone _ ih => exact ⟨trivial, ih⟩
  | eq h _ ih => subst h; exact ⟨by split <;> trivial, ih⟩

inductive Tru (b : Bool) : Prop
  | mk (h : b = true) : Tru b
theorem Tru.to {b : Bool} : Tru b → b = true | .mk h => h

theorem Fits.cv (F : Fits X P C B res n0 Post) {l l' : List (SV T)} {H H' : List (Ch T)} (hn : Tru (Nat.ble n0 (len' H'))) (hl : WkL (ren.renL (cut (len' H')) l) l') (hh : WkH (renH (cut (len' H')) H) H') : Cv X l H l' H' :=
  F.wk hn.to hl.to hh.to

/-- Only these slots. -/
def keepL : Nat → List Nat → List (SV T) → List (SV T)
  | _, _, [] => []
  | i, [], _ :: l => .any :: keepL (i + 1) [] l
  | i, k :: ks, s :: l => match Nat.beq i k with | true => s :: keepL (i + 1) ks l | false => .any :: keepL (i + 1) (k :: ks) l

theorem Fits.loop (F : Fits X P C B res n0 Post) {V : Type} {body : Code} {k : List (KI T)} {fr0 : List (SV T)} {H0 : List (Ch T)} (ks : List Nat) (I : V → Prop) (μ : V → Nat) (g : V → List (Nat × SV T)) (gh : V → List (Nat × Ch T)) (v0 : V)
    (hh : WkH (renH (cut (len' (setManyH (gh v0) H0))) H0) (setManyH (gh v0) H0)) (hl : WkL (ren.renL (cut (len' (setManyH (gh v0) H0))) fr0) (setMany (g v0) (keepL 0 ks fr0))) (hn : Tru (Nat.ble n0 (len' (setManyH (gh v0) H0)))) (h0 : I v0)
    (step : ∀ v, I v → ∀ Bk : List (SV T) → List (Ch T) → Prop, (∀ fr H v', WkH (renH (cut (len' (setManyH (gh v') H0))) H) (setManyH (gh v') H0) → WkL (ren.renL (cut (len' (setManyH (gh v') H0))) fr) (setMany (g v') (keepL 0 ks fr0)) →
      Tru (Nat.ble n0 (len' (setManyH (gh v') H0))) → I v' → μ v' < μ v → Bk fr H) → Holds X (.code body :: .back Bk :: k) (setMany (g v) (keepL 0 ks fr0)) (setManyH (gh v) H0)) :
    OK X (.loop body ⟨k, fr0, H0⟩) :=
  ⟨loop_ok I μ (fun v => setMany (g v) (keepL 0 ks fr0)) (fun v => setManyH (gh v) H0) v0 h0 (F.cv hn hl hh) fun v hv =>
    step v hv _ fun _ _ v' h5 h4 h3 h1 h2 => ⟨v', h1, h2, F.cv h3 h4 h5⟩⟩
end
end Go.Sx

-- Sx18
namespace Go.Sx
open Go

theorem wrap_id {k : IntKind} {n : Int} (h0 : k.min ≤ n) (h1 : n ≤ k.max) : k.wrap n = n := by
  cases k <;> simp only [IntKind.wrap, IntKind.min, IntKind.max, IntKind.bits, IntKind.signed] at * <;> simp at * <;> (try split) <;> omega

theorem leaf_add {k : IntKind} {a b : Int} (h0 : k.min ≤ a + b) (h1 : a + b ≤ k.max) : Leaf.std.ar .add k a b = a + b := wrap_id h0 h1
theorem leaf_sub {k : IntKind} {a b : Int} (h0 : k.min ≤ a - b) (h1 : a - b ≤ k.max) : Leaf.std.ar .sub k a b = a - b := wrap_id h0 h1
theorem leaf_mul {k : IntKind} {a b : Int} (h0 : k.min ≤ a * b) (h1 : a * b ≤ k.max) : Leaf.std.ar .mul k a b = a * b := wrap_id h0 h1
theorem leaf_conv {k : IntKind} {a : Int} (h0 : k.min ≤ a) (h1 : a ≤ k.max) : Leaf.std.conv k a = a := wrap_id h0 h1
theorem leaf_quo {k : IntKind} {a b : Int} (ha : 0 ≤ a) (hb : 0 ≤ b) (h1 : a ≤ k.max) : Leaf.std.ar .quo k a b = a / b := by
  show k.wrap (a.tdiv b) = _
  rw [Int.tdiv_eq_ediv_of_nonneg ha]
  have h0 : 0 ≤ a / b := Int.ediv_nonneg ha hb
  have h2 : a / b ≤ a := Int.ediv_le_self b ha
  refine wrap_id ?_ (Int.le_trans h2 h1)
  cases k <;> simp only [IntKind.min, IntKind.bits, IntKind.signed] <;> simp <;> omega
theorem leaf_rem {k : IntKind} {a b : Int} (ha : 0 ≤ a) : Leaf.std.ar .rem k a b = a % b := by
  show a.tmod b = _
  exact Int.tmod_eq_emod_of_nonneg ha
theorem leaf_shl {k : IntKind} {a : Int} {n : Nat} (hn : n ≤ k.bits) (h0 : k.min ≤ a * 2 ^ n) (h1 : a * 2 ^ n ≤ k.max) : Leaf.std.ar .shl k a (n : Int) = a * 2 ^ n := by
  show k.wrap (a * 2 ^ min (n : Int).toNat k.bits) = _
  rw [Int.toNat_natCast, Nat.min_eq_left hn]
  exact wrap_id h0 h1
theorem leaf_shr {k : IntKind} {a : Int} {n : Nat} (hn : n ≤ k.bits) : Leaf.std.ar .shr k a (n : Int) = a / 2 ^ n := by
  show a.fdiv (2 ^ min (n : Int).toNat k.bits) = _
  rw [Int.toNat_natCast, Nat.min_eq_left hn]
  exact Int.fdiv_eq_ediv_of_nonneg a (Int.le_of_lt (Int.pow_pos (by decide)))
/-- So many bits that a value of the kind can have, if it isn't negative. -/
def room (k : IntKind) : Nat := if k.signed then k.bits - 1 else k.bits
theorem room_wrap {k : IntKind} {n : Int} (h0 : 0 ≤ n) (h1 : n < 2 ^ room k) : k.wrap n = n := by
  refine wrap_id ?_ ?_ <;> cases k <;> simp [room, IntKind.bits, IntKind.signed, IntKind.min, IntKind.max] at * <;> omega
theorem room_le (k : IntKind) : room k ≤ k.bits := by unfold room; split <;> omega
theorem leaf_and {k : IntKind} {a b : Nat} (ha : a < 2 ^ room k) (hb : b < 2 ^ room k) : Leaf.std.ar .and k a b = ((a &&& b : Nat) : Int) := by
  have h := (bits_nat k (room k) (room_le k) (fun _ => room_wrap) a b ha hb).1
  exact h
theorem leaf_or {k : IntKind} {a b : Nat} (ha : a < 2 ^ room k) (hb : b < 2 ^ room k) : Leaf.std.ar .or k a b = ((a ||| b : Nat) : Int) := by
  have h := (bits_nat k (room k) (room_le k) (fun _ => room_wrap) a b ha hb).2
  exact h
theorem leaf_xor {k : IntKind} {a b : Nat} (ha : a < 2 ^ room k) (hb : b < 2 ^ room k) : Leaf.std.ar .xor k a b = ((a ^^^ b : Nat) : Int) := by
  have hp : 2 ^ room k ≤ 2 ^ k.bits := Nat.pow_le_pow_right (by decide) (room_le k)
  have ha' : a % 2 ^ k.bits = a := Nat.mod_eq_of_lt (Nat.lt_of_lt_of_le ha hp)
  have hb' : b % 2 ^ k.bits = b := Nat.mod_eq_of_lt (Nat.lt_of_lt_of_le hb hp)
  show k.wrap (BitVec.ofInt k.bits a ^^^ BitVec.ofInt k.bits b).toNat = _
  simp only [BitVec.ofInt_natCast, BitVec.toNat_xor, BitVec.toNat_ofNat, ha', hb']
  exact room_wrap (Int.natCast_nonneg _) (by exact_mod_cast Nat.xor_lt_two_pow ha hb)
theorem min_i8 : IntKind.i8.min = -128 := by decide
theorem max_i8 : IntKind.i8.max = 127 := by decide
theorem add_i8 {a b : Int} (h0 : -128 ≤ a + b) (h1 : a + b ≤ 127) : Leaf.std.ar .add .i8 a b = a + b := leaf_add (by rw [min_i8]; exact h0) (by rw [max_i8]; exact h1)
theorem sub_i8 {a b : Int} (h0 : -128 ≤ a - b) (h1 : a - b ≤ 127) : Leaf.std.ar .sub .i8 a b = a - b := leaf_sub (by rw [min_i8]; exact h0) (by rw [max_i8]; exact h1)
theorem mul_i8 {a b : Int} (h0 : -128 ≤ a * b) (h1 : a * b ≤ 127) : Leaf.std.ar .mul .i8 a b = a * b := leaf_mul (by rw [min_i8]; exact h0) (by rw [max_i8]; exact h1)
theorem conv_i8 {a : Int} (h0 : -128 ≤ a) (h1 : a ≤ 127) : Leaf.std.conv .i8 a = a := leaf_conv (by rw [min_i8]; exact h0) (by rw [max_i8]; exact h1)
theorem min_i16 : IntKind.i16.min = -32768 := by decide
theorem max_i16 : IntKind.i16.max = 32767 := by decide
theorem add_i16 {a b : Int} (h0 : -32768 ≤ a + b) (h1 : a + b ≤ 32767) : Leaf.std.ar .add .i16 a b = a + b := leaf_add (by rw [min_i16]; exact h0) (by rw [max_i16]; exact h1)
theorem sub_i16 {a b : Int} (h0 : -32768 ≤ a - b) (h1 : a - b ≤ 32767) : Leaf.std.ar .sub .i16 a b = a - b := leaf_sub (by rw [min_i16]; exact h0) (by rw [max_i16]; exact h1)
theorem mul_i16 {a b : Int} (h0 : -32768 ≤ a * b) (h1 : a * b ≤ 32767) : Leaf.std.ar .mul .i16 a b = a * b := leaf_mul (by rw [min_i16]; exact h0) (by rw [max_i16]; exact h1)
theorem conv_i16 {a : Int} (h0 : -32768 ≤ a) (h1 : a ≤ 32767) : Leaf.std.conv .i16 a = a := leaf_conv (by rw [min_i16]; exact h0) (by rw [max_i16]; exact h1)
theorem min_i32 : IntKind.i32.min = -2147483648 := by decide
theorem max_i32 : IntKind.i32.max = 2147483647 := by decide
theorem add_i32 {a b : Int} (h0 : -2147483648 ≤ a + b) (h1 : a + b ≤ 2147483647) : Leaf.std.ar .add .i32 a b = a + b := leaf_add (by rw [min_i32]; exact h0) (by rw [max_i32]; exact h1)
theorem sub_i32 {a b : Int} (h0 : -2147483648 ≤ a - b) (h1 : a - b ≤ 2147483647) : Leaf.std.ar .sub .i32 a b = a - b := leaf_sub (by rw [min_i32]; exact h0) (by rw [max_i32]; exact h1)
theorem mul_i32 {a b : Int} (h0 : -2147483648 ≤ a * b) (h1 : a * b ≤ 2147483647) : Leaf.std.ar .mul .i32 a b = a * b := leaf_mul (by rw [min_i32]; exact h0) (by rw [max_i32]; exact h1)
theorem conv_i32 {a : Int} (h0 : -2147483648 ≤ a) (h1 : a ≤ 2147483647) : Leaf.std.conv .i32 a = a := leaf_conv (by rw [min_i32]; exact h0) (by rw [max_i32]; exact h1)
theorem min_i64 : IntKind.i64.min = -9223372036854775808 := by decide
theorem max_i64 : IntKind.i64.max = 9223372036854775807 := by decide
theorem add_i64 {a b : Int} (h0 : -9223372036854775808 ≤ a + b) (h1 : a + b ≤ 9223372036854775807) : Leaf.std.ar .add .i64 a b = a + b := leaf_add (by rw [min_i64]; exact h0) (by rw [max_i64]; exact h1)
theorem sub_i64 {a b : Int} (h0 : -9223372036854775808 ≤ a - b) (h1 : a - b ≤ 9223372036854775807) : Leaf.std.ar .sub .i64 a b = a - b := leaf_sub (by rw [min_i64]; exact h0) (by rw [max_i64]; exact h1)
theorem mul_i64 {a b : Int} (h0 : -9223372036854775808 ≤ a * b) (h1 : a * b ≤ 9223372036854775807) : Leaf.std.ar .mul .i64 a b = a * b := leaf_mul (by rw [min_i64]; exact h0) (by rw [max_i64]; exact h1)
theorem conv_i64 {a : Int} (h0 : -9223372036854775808 ≤ a) (h1 : a ≤ 9223372036854775807) : Leaf.std.conv .i64 a = a := leaf_conv (by rw [min_i64]; exact h0) (by rw [max_i64]; exact h1)
theorem min_u8 : IntKind.u8.min = 0 := by decide
theorem max_u8 : IntKind.u8.max = 255 := by decide
theorem add_u8 {a b : Int} (h0 : 0 ≤ a + b) (h1 : a + b ≤ 255) : Leaf.std.ar .add .u8 a b = a + b := leaf_add (by rw [min_u8]; exact h0) (by rw [max_u8]; exact h1)
theorem sub_u8 {a b : Int} (h0 : 0 ≤ a - b) (h1 : a - b ≤ 255) : Leaf.std.ar .sub .u8 a b = a - b := leaf_sub (by rw [min_u8]; exact h0) (by rw [max_u8]; exact h1)
theorem mul_u8 {a b : Int} (h0 : 0 ≤ a * b) (h1 : a * b ≤ 255) : Leaf.std.ar .mul .u8 a b = a * b := leaf_mul (by rw [min_u8]; exact h0) (by rw [max_u8]; exact h1)
theorem conv_u8 {a : Int} (h0 : 0 ≤ a) (h1 : a ≤ 255) : Leaf.std.conv .u8 a = a := leaf_conv (by rw [min_u8]; exact h0) (by rw [max_u8]; exact h1)
theorem min_u16 : IntKind.u16.min = 0 := by decide
theorem max_u16 : IntKind.u16.max = 65535 := by decide
theorem add_u16 {a b : Int} (h0 : 0 ≤ a + b) (h1 : a + b ≤ 65535) : Leaf.std.ar .add .u16 a b = a + b := leaf_add (by rw [min_u16]; exact h0) (by rw [max_u16]; exact h1)
theorem sub_u16 {a b : Int} (h0 : 0 ≤ a - b) (h1 : a - b ≤ 65535) : Leaf.std.ar .sub .u16 a b = a - b := leaf_sub (by rw [min_u16]; exact h0) (by rw [max_u16]; exact h1)
theorem mul_u16 {a b : Int} (h0 : 0 ≤ a * b) (h1 : a * b ≤ 65535) : Leaf.std.ar .mul .u16 a b = a * b := leaf_mul (by rw [min_u16]; exact h0) (by rw [max_u16]; exact h1)
theorem conv_u16 {a : Int} (h0 : 0 ≤ a) (h1 : a ≤ 65535) : Leaf.std.conv .u16 a = a := leaf_conv (by rw [min_u16]; exact h0) (by rw [max_u16]; exact h1)
theorem min_u32 : IntKind.u32.min = 0 := by decide
theorem max_u32 : IntKind.u32.max = 4294967295 := by decide
theorem add_u32 {a b : Int} (h0 : 0 ≤ a + b) (h1 : a + b ≤ 4294967295) : Leaf.std.ar .add .u32 a b = a + b := leaf_add (by rw [min_u32]; exact h0) (by rw [max_u32]; exact h1)
theorem sub_u32 {a b : Int} (h0 : 0 ≤ a - b) (h1 : a - b ≤ 4294967295) : Leaf.std.ar .sub .u32 a b = a - b := leaf_sub (by rw [min_u32]; exact h0) (by rw [max_u32]; exact h1)
theorem mul_u32 {a b : Int} (h0 : 0 ≤ a * b) (h1 : a * b ≤ 4294967295) : Leaf.std.ar .mul .u32 a b = a * b := leaf_mul (by rw [min_u32]; exact h0) (by rw [max_u32]; exact h1)
theorem conv_u32 {a : Int} (h0 : 0 ≤ a) (h1 : a ≤ 4294967295) : Leaf.std.conv .u32 a = a := leaf_conv (by rw [min_u32]; exact h0) (by rw [max_u32]; exact h1)
theorem min_u64 : IntKind.u64.min = 0 := by decide
theorem max_u64 : IntKind.u64.max = 18446744073709551615 := by decide
theorem add_u64 {a b : Int} (h0 : 0 ≤ a + b) (h1 : a + b ≤ 18446744073709551615) : Leaf.std.ar .add .u64 a b = a + b := leaf_add (by rw [min_u64]; exact h0) (by rw [max_u64]; exact h1)
theorem sub_u64 {a b : Int} (h0 : 0 ≤ a - b) (h1 : a - b ≤ 18446744073709551615) : Leaf.std.ar .sub .u64 a b = a - b := leaf_sub (by rw [min_u64]; exact h0) (by rw [max_u64]; exact h1)
theorem mul_u64 {a b : Int} (h0 : 0 ≤ a * b) (h1 : a * b ≤ 18446744073709551615) : Leaf.std.ar .mul .u64 a b = a * b := leaf_mul (by rw [min_u64]; exact h0) (by rw [max_u64]; exact h1)
theorem conv_u64 {a : Int} (h0 : 0 ≤ a) (h1 : a ≤ 18446744073709551615) : Leaf.std.conv .u64 a = a := leaf_conv (by rw [min_u64]; exact h0) (by rw [max_u64]; exact h1)
theorem small1 {α : Type} {l : List α} (h : l.length ≤ 140737488355328) : Leaf.std.small (Leaf.std.len l) 1 := by
  show (0 : Int) ≤ (l.length : Int) ∧ (l.length : Int) ≤ 140737488355328 ∧ (l.length : Int) * ((1 : Nat) : Int) ≤ 140737488355328
  omega
end Go.Sx

-- Sx19
namespace Go.Sx
open Go
section
variable {T : Nat → Type} {C : Cod T} {P : Program} {w : World} {Hd' : Type} {enc : TypeId × Value → Hd'} {sp : Nat → Bool} {held : Bool}

/-- What reads as data of a type stands for such a list of cells. -/
def Opens (C : Cod T) (P : Program) (w : World) (enc : TypeId × Value → Hd') (sp : Nat → Bool) (held : Bool) (t : TypeId) {α : Type} (f : α → List (SV T)) (I : α → Prop) : Prop :=
  ∀ fuel cs x, DataW.trod enc P w 0 sp held fuel t cs = some x → (∀ n ∈ x.1.weights P t, n ≤ reachBytes) → ∃ y, I y ∧ ∀ M : Mem, M.w = w → (∀ b, b < w.heap.size → M.D b) → Den C M (f y) cs

theorem Opens.int {t : TypeId} {k : IntKind} (ht : P.underlying t = some (.int k)) : Opens C P w enc sp held t (fun n => [.int k n]) (fun n : Int => k.min ≤ n ∧ n ≤ k.max) := by
  intro fuel cs x h hz
  obtain ⟨n, rfl, _, hw⟩ := DataW.trod_int ht h
  exact ⟨n, by simpa [Lit.wf] using hw, fun M _ _ => .int _ _ .nil⟩

theorem Opens.bool {t : TypeId} (ht : P.underlying t = some .bool) : Opens C P w enc sp held t (fun b => [.bool (.e b)]) (fun _ : Bool => True) := by
  intro fuel cs x h hz
  obtain ⟨b, rfl, _⟩ := DataW.trod_bool ht h
  exact ⟨b, trivial, fun M _ _ => .bool (.e b) .nil⟩

theorem Opens.str {t : TypeId} (ht : P.underlying t = some .string) : Opens C P w enc sp held t (fun s => [.str s]) (fun s : List UInt8 => s.length ≤ reachBytes) := by
  intro fuel cs x h hz
  obtain ⟨s, rfl, rfl, hs⟩ := DataW.trod_string ht h
  refine ⟨s.data.toList, hz _ (by simp [DataW.weights]), fun M _ _ => ?_⟩
  have : Den C M [.str s.data.toList] [.string ⟨s.data.toList.toArray⟩] := .str _ .nil
  rwa [Array.toArray_toList] at this

theorem cells_of {a : Addr} {n : Nat} {l : List Value} (h : w.cells? 0 a n = some l) : l.length = n ∧ ∀ i, i < n → w.cell? (a.add i) = l[i]? := by
  unfold World.cells? at h
  rw [if_pos (Nat.zero_le _)] at h
  exact ⟨by simpa using mapM_some_length h, fun i hi => mapM_some_get h i i (by simp [hi])⟩

theorem weightsAll_mem {H : Type} {P : Program} {e : TypeId} : ∀ {l : List (DataW H)} {d : DataW H}, d ∈ l → ∀ n ∈ d.weights P e, n ∈ DataW.weightsAll P e l
  | d0 :: l, d, hd, n, hn => by
    simp only [DataW.weightsAll, List.mem_append]
    rcases List.mem_cons.1 hd with rfl | hd
    · exact .inl hn
    · exact .inr (weightsAll_mem hd n hn)
  | [], _, hd, _, _ => by cases hd
theorem Opens.slice {t e : TypeId} (ht : P.underlying t = some (.slice e)) {α : Type} {f : α → List (SV T)} {I : α → Prop} (hel : Opens C P w enc sp held e f I) (mk : List α → Row T) (hlen : ∀ xs, (mk xs).length = xs.length)
    (hc : ∀ xs i, (mk xs).cells C i = xs[i]?.map f) (hsz : ∀ xs, (mk xs).elemSz C = P.cellsOf e) (hpos : 0 < P.cellsOf e) :
    Opens C P w enc sp held t (fun xs => [.ro (mk xs)]) (fun xs : List α => (∀ x ∈ xs, I x) ∧ xs.length * P.bytesOf e ≤ reachBytes) := by
  intro fuel cs x h hz
  rcases DataW.trod_slice ht h with ⟨rfl, _⟩ | ⟨a, len, cap, elems, rest, n, rfl, rfl, rfl, _, hlc, hcm, hel', hat, _, _⟩
  · refine ⟨[], ⟨(by simp), by simp⟩, fun M _ _ => ?_⟩
    have := Den.ro (C := C) (M := M) (mk []) none 0 [] (by simp [hlen]) (by simp [hlen]) (fun h => by simp [hlen] at h) (fun i z hz => by simp [hc] at hz) .nil
    simpa [hlen] using this
  · -- each element's cells
    have hz1 : (elems.length + rest.length) * P.bytesOf e ≤ reachBytes := by
      have := hz ((elems.length + rest.length) * P.bytesOf e) (by simp [DataW.weights, ht])
      exact this
    have hz2 : ∀ d ∈ elems, ∀ n ∈ d.1.weights P e, n ≤ reachBytes := fun d hd n hn => hz n (by
      simp only [DataW.weights, ht, List.mem_cons, List.mem_append]
      exact .inr (.inl (weightsAll_mem (List.mem_map_of_mem hd) n hn)))
    have hex : ∀ i, i < len → ∃ l y, w.cells? 0 (a.add (i * P.cellsOf e)) (P.cellsOf e) = some l ∧ I y ∧ ∀ M : Mem, M.w = w → (∀ b, b < w.heap.size → M.D b) → Den C M (f y) l := by
      intro i hi
      have h1 := hat i hi
      have hi' : i < elems.length := by omega
      rw [List.getElem?_eq_getElem hi'] at h1
      cases hl : w.cells? 0 (a.add (i * P.cellsOf e)) (P.cellsOf e) with
      | none => rw [hl] at h1; simp at h1
      | some l =>
        rw [hl] at h1
        obtain ⟨y, hy, hd⟩ := hel n l _ h1 (hz2 _ (List.getElem_mem hi'))
        exact ⟨l, y, rfl, hy, hd⟩
    classical
    let ls : Nat → List Value := fun i => if h : i < len then Classical.choose (hex i h) else []
    have hls : ∀ i (h : i < len), ∃ y, w.cells? 0 (a.add (i * P.cellsOf e)) (P.cellsOf e) = some (ls i) ∧ I y ∧ ∀ M : Mem, M.w = w → (∀ b, b < w.heap.size → M.D b) → Den C M (f y) (ls i) := by
      intro i h
      simp only [ls, dif_pos h]
      exact Classical.choose_spec (hex i h)
    by_cases h0 : len = 0
    · subst h0
      refine ⟨[], ⟨(by simp), by simp⟩, fun M _ _ => ?_⟩
      have := Den.ro (C := C) (M := M) (mk []) (some a) cap [] (by simp [hlen]) (by simp [hlen]) (fun h => by simp [hlen] at h) (fun i z hz => by simp [hc] at hz) .nil
      simpa [hlen] using this
    · have hpos' : 0 < len := by omega
      obtain ⟨y0, hc0, _, _⟩ := hls 0 hpos'
      obtain ⟨hl0, hg0⟩ := cells_of hc0
      have hfirst := hg0 0 hpos
      rw [List.getElem?_eq_getElem (by omega)] at hfirst
      obtain ⟨b, o, spot⟩ := a
      have hspot : spot = none := by simpa [Addr.add] using World.cell?_spot hfirst
      subst hspot
      have hblk : b < w.heap.size := by
        unfold World.cell? at hfirst
        simp [Addr.add] at hfirst
        cases hb : w.heap[b]? with
        | none => rw [hb] at hfirst; simp at hfirst
        | some ob => exact (Array.getElem?_eq_some_iff.1 hb).1
      let ys : List α := (List.range len).attach.map fun i => Classical.choose (hls i.1 (by simpa using i.2))
      have hys : ∀ i (h : i < len), ys[i]? = some (Classical.choose (hls i h)) := by
        intro i h
        simp [ys, h]
      have hyl : ys.length = len := by simp [ys]
      refine ⟨ys, ⟨fun x hx => ?_, by rw [hyl]; exact Nat.le_trans (Nat.mul_le_mul_right _ (by omega)) hz1⟩, fun M hw hD => ?_⟩
      · obtain ⟨i, hi⟩ := List.getElem?_of_mem hx
        have hil : i < len := by rw [← hyl]; exact (List.getElem?_eq_some_iff.1 hi).1
        rw [hys i hil] at hi
        cases hi
        exact (Classical.choose_spec (hls i hil)).2.1
      · let us : List Value := (List.range len).flatMap ls
        have hlsl : ∀ i, i < len → (ls i).length = P.cellsOf e := fun i hi => by
          obtain ⟨y, hcl, _⟩ := hls i hi
          exact (cells_of hcl).1
        have husl : ∀ m, m ≤ len → ((List.range m).flatMap ls).length = m * P.cellsOf e := by
          intro m
          induction m with
          | zero => intro _; simp
          | succ m ih => intro hm; rw [List.range_succ, List.flatMap_append, List.length_append, ih (by omega)]; simp [hlsl m (by omega), Nat.succ_mul]
        have hsplit : ∀ m, m ≤ len → ∃ tl, us = (List.range m).flatMap ls ++ tl := by
          intro m hm
          obtain ⟨k, rfl⟩ := Nat.exists_eq_add_of_le hm
          refine ⟨((List.range k).map (m + ·)).flatMap ls, ?_⟩
          simp only [us, List.range_add, List.flatMap_append]
        have hpart : ∀ i, i < len → (us.drop (i * P.cellsOf e)).take (P.cellsOf e) = ls i := by
          intro i hi
          obtain ⟨tl, ht⟩ := hsplit (i + 1) hi
          rw [ht, List.range_succ, List.flatMap_append, List.append_assoc, List.drop_left' (husl i (by omega))]
          simp only [List.flatMap_cons, List.flatMap_nil, List.append_nil]
          rw [List.take_left' (hlsl i hi)]
        have hus := husl len (Nat.le_refl _)
        have key := Den.ro (C := C) (M := M) (mk ys) (some ⟨b, o, none⟩) cap us (by rw [hlen, hyl, hsz]; exact hus) (by rw [hlen, hyl]; exact hlc) (fun _ => ⟨b, o, rfl, hD b hblk, fun q hq => by
          have hq' : q < len * P.cellsOf e := by rw [← hus]; exact hq
          have hi : q / P.cellsOf e < len := (Nat.div_lt_iff_lt_mul hpos).2 hq'
          obtain ⟨y, hcl, _⟩ := hls _ hi
          have hr := Nat.mod_lt q hpos
          have h1 := (cells_of hcl).2 _ hr
          rw [add_mk, add_mk] at h1
          have h2 := congrArg (·[q % P.cellsOf e]?) (hpart _ hi)
          simp only [List.getElem?_take, List.getElem?_drop, hr, if_true] at h2
          have e1 : q / P.cellsOf e * P.cellsOf e + q % P.cellsOf e = q := by rw [Nat.mul_comm]; exact Nat.div_add_mod q _
          rw [e1] at h2
          rw [hw, h2, ← h1, Nat.add_assoc, e1]⟩) (fun i z hz => by
          rw [hc] at hz
          obtain ⟨y, hy, rfl⟩ := Option.map_eq_some_iff.1 hz
          have hil : i < len := by rw [← hyl]; exact (List.getElem?_eq_some_iff.1 hy).1
          rw [hys i hil] at hy
          cases hy
          rw [hsz, hpart i hil]
          exact (Classical.choose_spec (hls i hil)).2.2 M hw hD) .nil
        simpa [hlen, hyl] using key
end
end Go.Sx

-- Sx20
namespace Go.Sx
open Go
section
variable {T : Nat → Type} {C : Cod T} {P : Program}

/-- What a law's function has to come to. -/
def Yes (rs : List (SV T)) (_ : List (Ch T)) : Prop := ∃ b, rs = [.bool b] ∧ ebool b = true

theorem law_calls {W : World} {f : FuncId} {pin : Nat → Bool} {args : List (SV T)} {vals : Array Value} (hfok : FOK P C f pin args [] Yes) (hl : vals.size = args.length)
    (hd : ∀ M : Mem, M.w = W → (∀ b, b < W.heap.size → M.D b) → ∀ (i : Nat) s u, args[i]? = some s → vals[i]? = some u → DenV C M s u) :
    Calls P f vals W fun e w' => e = .returned (.bool true) ∧ Go.RowKit.Below W.heap.size W w' := by
  obtain ⟨fn, c, _, _, _, h⟩ := hfok
  let E : Env := { w0 := W, S := (fun _ => False), X := (fun _ => False), A := (fun _ => none), hX := (fun _ h => h.elim) }
  let M : Mem := { n := 0, ρ := (fun _ => ⟨none, 0, 0⟩), D := (fun b => b < W.heap.size), w := W }
  have hno : ∀ c, ¬ live ([] : List (Ch T)) c := fun c ⟨x, hx, _⟩ => by simp at hx
  have hS : Sat C E M ([] : List (Ch T)) := by
    refine ⟨rfl, fun c x hx => (by simp at hx), fun c1 c2 g h1 => (hno c1 h1).elim, fun c g h1 => (hno c h1).elim, fun b => ?_, rfl, rfl, rfl, Nat.le_refl _, fun c h hA => (by cases hA), fun b _ _ => rfl⟩
    exact ⟨fun h => ⟨h, fun h => h, fun c hc => (hno c hc).elim⟩, fun h => h.1⟩
  refine Calls.mono (h E M vals (fun _ _ => rfl) hS hl (fun i s u => hd M rfl (fun b hb => hb) i s u)) fun e w' he => ?_
  cases e with
  | returned v =>
    obtain ⟨rs, H', M', ⟨b, rfl, hb⟩, hS', hw, hR⟩ := he
    have hv := denV_bool hR
    rw [hb] at hv
    subst hw
    exact ⟨by rw [hv], hS'.os, hS'.tape, hS'.output, hS'.size, fun k hk => hS'.kept k hk (fun h => h)⟩
  | panicked ch => exact False.elim he.1
  | outgrown => exact he.elim
end
end Go.Sx
