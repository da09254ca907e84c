/- Own work of the session: part LR of a proof that the program's functions do what the statement says (a symbolic executor, contracts of the functions, plain laws). -/
import Derived.Test.YtljlflcgpbenpaaLA
import Derived.Test.YtljlflcgpbenpaaSxB
import Derived.Test.YtljlflcgpbenpaaRows
import Derived.WalkKit
import Derived.ProofKit
import Derived.OpenShut
import Derived.ShutString
import Derived.ChangeOld
import Derived.SizedLaws
set_option linter.all false
-- L5Rows
namespace Go.L1
open Go Go.Sx Go.Proofs Go.Proofs.Ytljlflcgpbenpaa
open Go.ChangeShapes Go.WideShapes Go.ChangeAt Go.RowKit
/-- An item, as data may have it. -/
def PrOK (x : Pr) : Prop := (IntKind.i64.min ≤ x.a ∧ x.a ≤ IntKind.i64.max) ∧ (IntKind.i64.min ≤ x.b ∧ x.b ≤ IntKind.i64.max)
section
variable {w : World} {H : Type} {enc : TypeId × Value → H} {sp : Nat → Bool} {held : Bool}
theorem opens_ints : Opens (T := T1) C1 Try.prog w enc sp held 22 (fun xs => [.ro (.ints .i64 xs)]) (fun xs : List Int => (∀ x ∈ xs, IntKind.i64.min ≤ x ∧ x ≤ IntKind.i64.max) ∧ xs.length * Try.prog.bytesOf 3 ≤ reachBytes) :=
  Opens.slice (C := C1) Try.underlying22 (Opens.int (C := C1) Try.underlying3) (fun xs => .ints .i64 xs) (fun _ => rfl) (fun _ _ => rfl) (fun _ => by kernel_rfl) (by decide +kernel)
theorem opens_item : Opens (T := T1) C1 Try.prog w enc sp held 33 (C1.enc 1) PrOK := by
  intro fuel cs x h hz
  obtain ⟨xs, n, _, rfl, hlen, hxs, hf⟩ := DataW.trod_struct Try.underlying33 h
  have hc : Try.prog.cellsOf 33 = 2 := by kernel_rfl
  rw [hc] at hlen
  match cs, hlen with
  | [c0, c1], _ =>
    have hs3 : Try.prog.cellsOf 3 = 1 := by kernel_rfl
    have hxl : xs.length = 2 := hxs
    have h0 : DataW.trod enc Try.prog w 0 sp held n 3 (([c0, c1].drop 0).take (Try.prog.cellsOf 3)) = xs[0]? := hf 0 _ rfl
    have h1 : DataW.trod enc Try.prog w 0 sp held n 3 (([c0, c1].drop 1).take (Try.prog.cellsOf 3)) = xs[1]? := hf 1 _ rfl
    rw [hs3, List.getElem?_eq_getElem (by omega)] at h0 h1
    have w0 : ∀ (i : Nat) (t : TypeId) d, [3, 3][i]? = some t → xs[i]? = some d → ∀ n ∈ d.1.weights Try.prog t, n ≤ reachBytes := fun i t d ht hd n hn => hz n (by
      simp only [DataW.weights, Try.underlying33]
      exact DataW.weights_mem_each (ts := [3, 3]) ht (by rw [List.getElem?_map, hd]; rfl) n hn)
    obtain ⟨a, ha, da⟩ := Opens.int (C := C1) Try.underlying3 _ _ _ h0 (w0 0 _ _ rfl (List.getElem?_eq_getElem _))
    obtain ⟨b, hb, db⟩ := Opens.int (C := C1) Try.underlying3 _ _ _ h1 (w0 1 _ _ rfl (List.getElem?_eq_getElem _))
    refine ⟨(⟨a, b⟩ : Pr), ⟨ha, hb⟩, fun M hw hD => ?_⟩
    exact (da M hw hD).append (db M hw hD)
theorem opens_items : Opens (T := T1) C1 Try.prog w enc sp held 29 (fun xs => [.ro (.recs 1 xs)]) (fun xs : List Pr => (∀ x ∈ xs, PrOK x) ∧ xs.length * Try.prog.bytesOf 33 ≤ reachBytes) :=
  Opens.slice (C := C1) Try.underlying29 opens_item (fun xs => .recs 1 xs) (fun _ => rfl) (fun _ _ => rfl) (fun _ => by kernel_rfl) (by decide +kernel)
end
theorem own : ownKnob Try.prog.godebug = none := by kernel_rfl
theorem laidOut : laidOutB Try.prog = true := by kernel_rfl
/-- What the law's function is shown to do. -/
def lorderOK : Prop := ∀ (counts : List Int) (limit : Int), (∀ x ∈ counts, IntKind.i64.min ≤ x ∧ x ≤ IntKind.i64.max) → counts.length * 8 ≤ reachBytes → (IntKind.i64.min ≤ limit ∧ limit ≤ IntKind.i64.max) → FOK Try.prog C1 3 (fun _ => false) [.ro (.ints .i64 counts), .int .i64 limit] [] Yes
set_option maxRecDepth 100000 in
theorem lorder_lifted (hyp : lorderOK) (os : Os) (started : os.Started) (H : Type) (enc : TypeId × Value → H) :
    ReturnsInHanded {} Try.checked os 3 .any (Rows.lensOrderSpec.pre6 enc Try.prog Try.f3 Rows.lensOrderRow.domain false) (Rows.lensOrderSpec.post enc Try.prog Try.f3 false true false false) := by
  refine returnsInHanded_of_change_sized (C := Try.checked) own started (by kernel_rfl) Try.func3
    (ChangeSpec.witness6 (enc := enc) (C := Try.checked) false ⟨#[], #[.slice none 0 0, .int .i64 0], []⟩ 8 (by kernel_rfl) (by kernel_rfl) (by kernel_rfl) (by kernel_rfl)) ?_
  intro W base args ds gs before hval0 hW hcnd hsz0 _
  have hsz : (DataW.weightsEach Try.prog (Try.f3.params.toList ++ Rows.lensOrderSpec.plain.varTypes Try.prog) (ds ++ gs)).all (· ≤ reachBytes) = true := hsz0
  have hval : ∀ (j : Nat) t v, Try.f3.params[j]? = some t → args[j]? = some v → Value.okWide Try.prog W .any base t v := hval0
  have hW' := hW
  obtain ⟨p, q, hA0, hV, rfl, hfz, hnd⟩ := hW
  have hA : DataW.TrodAll enc Try.prog W 0 (fun _ => true) true Try.f3.params.toList args.toList ds p := hA0
  rw [Try.params3] at hA hval hsz
  obtain ⟨v0, vs0, d0, ds0, p0, q0, hargs, rfl, rfl, h0, r0⟩ := trodAll_cons hA
  obtain ⟨v1, vs1, d1, ds1, p1, q1, rfl, rfl, rfl, h1, r1⟩ := trodAll_cons r0
  obtain ⟨rfl, rfl, rfl⟩ := trodAll_nil r1
  obtain rfl : args = #[v0, v1] := by cases args; simp_all
  obtain ⟨rfl, rfl⟩ := trodVars_none hV
  obtain ⟨a0, len0, cap0, rfl⟩ := okWide_slice Try.underlying22 (hval 0 22 v0 rfl rfl)
  have k0 := h0
  have lt0 : ∀ x ∈ p0, x.block < W.heap.size := by obtain ⟨m, hm⟩ := k0; exact DataW.trod_lt m _ _ _ hm
  obtain ⟨y0, ⟨hi0, hl0⟩, hden0⟩ := opens_ints _ _ _ h0.choose_spec (fun n hn => of_decide_eq_true (List.all_eq_true.1 hsz n (DataW.weights_mem_each (j := 0) rfl rfl n hn)))
  have hb0 : Try.prog.bytesOf 3 = 8 := by kernel_rfl
  rw [hb0] at hl0
  obtain ⟨y1, rfl, rfl, rfl, w1⟩ := open_int Try.underlying3 (hval 1 3 v1 rfl rfl) h1
  refine (law_calls (W := W) (vals := #[.slice a0 len0 cap0, .int .i64 y1]) (hyp y0 y1 hi0 hl0 (by simpa [Lit.wf] using w1)) rfl fun M hw hD i s u hs hu => ?_).mono fun e W' ⟨he, bel⟩ => ?_
  · match i with
    | 0 => simp at hs hu; subst hs; subst hu; exact hden0 M hw hD
    | 1 => simp at hs hu; subst hs; subst hu; exact Den.int _ _ .nil
    | i + 2 => simp at hs
  · subst he
    exact ⟨_, rfl, _, _, _, [], _, [], hW', trodAll_mk1 (shut_bool Try.underlying4 _), trodAll_cons_mk (Below.trod laidOut (by kernel_rfl) (of_decide_eq_true (by kernel_rfl)) k0 bel lt0) (trodAll_cons_mk (shut_int Try.underlying3 w1) trodAll_mk0), rfl, bel.frame _, fun h => by cases h⟩
theorem lorder_row (hyp : lorderOK) : Rows.LensOrderSaid :=
  OpenClaim.holds_of_wide 3 Try.f3 rfl rfl rfl rfl rfl rfl rfl ⟨rfl, rfl, rfl, rfl, rfl⟩ rfl rfl rfl rfl rfl (by kernel_rfl) Try.func3 (by kernel_rfl)
    (of_decide_eq_true (by kernel_rfl)) (by unfold Func.isWrapper; first | (rw [if_pos (by decide +kernel)]; kernel_rfl) | (rw [if_neg (by decide +kernel)]; exact ⟨rfl, rfl⟩))
    (fun os started H enc _ => lorder_lifted hyp os started H enc)
/-- What the law's function is shown to do. -/
def lscaleOK : Prop := ∀ (counts : List Int) (limit : Int) (times : Int), (∀ x ∈ counts, IntKind.i64.min ≤ x ∧ x ≤ IntKind.i64.max) → counts.length * 8 ≤ reachBytes → (IntKind.i64.min ≤ limit ∧ limit ≤ IntKind.i64.max) → (IntKind.i64.min ≤ times ∧ times ≤ IntKind.i64.max) → FOK Try.prog C1 5 (fun _ => false) [.ro (.ints .i64 counts), .int .i64 limit, .int .i64 times] [] Yes
set_option maxRecDepth 100000 in
theorem lscale_lifted (hyp : lscaleOK) (os : Os) (started : os.Started) (H : Type) (enc : TypeId × Value → H) :
    ReturnsInHanded {} Try.checked os 5 .any (Rows.lensScaleSpec.pre6 enc Try.prog Try.f5 Rows.lensScaleRow.domain false) (Rows.lensScaleSpec.post enc Try.prog Try.f5 false true false false) := by
  refine returnsInHanded_of_change_sized (C := Try.checked) own started (by kernel_rfl) Try.func5
    (ChangeSpec.witness6 (enc := enc) (C := Try.checked) false ⟨#[], #[.slice none 0 0, .int .i64 0, .int .i64 0], []⟩ 8 (by kernel_rfl) (by kernel_rfl) (by kernel_rfl) (by kernel_rfl)) ?_
  intro W base args ds gs before hval0 hW hcnd hsz0 _
  have hsz : (DataW.weightsEach Try.prog (Try.f5.params.toList ++ Rows.lensScaleSpec.plain.varTypes Try.prog) (ds ++ gs)).all (· ≤ reachBytes) = true := hsz0
  have hval : ∀ (j : Nat) t v, Try.f5.params[j]? = some t → args[j]? = some v → Value.okWide Try.prog W .any base t v := hval0
  have hW' := hW
  obtain ⟨p, q, hA0, hV, rfl, hfz, hnd⟩ := hW
  have hA : DataW.TrodAll enc Try.prog W 0 (fun _ => true) true Try.f5.params.toList args.toList ds p := hA0
  rw [Try.params5] at hA hval hsz
  obtain ⟨v0, vs0, d0, ds0, p0, q0, hargs, rfl, rfl, h0, r0⟩ := trodAll_cons hA
  obtain ⟨v1, vs1, d1, ds1, p1, q1, rfl, rfl, rfl, h1, r1⟩ := trodAll_cons r0
  obtain ⟨v2, vs2, d2, ds2, p2, q2, rfl, rfl, rfl, h2, r2⟩ := trodAll_cons r1
  obtain ⟨rfl, rfl, rfl⟩ := trodAll_nil r2
  obtain rfl : args = #[v0, v1, v2] := by cases args; simp_all
  obtain ⟨rfl, rfl⟩ := trodVars_none hV
  obtain ⟨a0, len0, cap0, rfl⟩ := okWide_slice Try.underlying22 (hval 0 22 v0 rfl rfl)
  have k0 := h0
  have lt0 : ∀ x ∈ p0, x.block < W.heap.size := by obtain ⟨m, hm⟩ := k0; exact DataW.trod_lt m _ _ _ hm
  obtain ⟨y0, ⟨hi0, hl0⟩, hden0⟩ := opens_ints _ _ _ h0.choose_spec (fun n hn => of_decide_eq_true (List.all_eq_true.1 hsz n (DataW.weights_mem_each (j := 0) rfl rfl n hn)))
  have hb0 : Try.prog.bytesOf 3 = 8 := by kernel_rfl
  rw [hb0] at hl0
  obtain ⟨y1, rfl, rfl, rfl, w1⟩ := open_int Try.underlying3 (hval 1 3 v1 rfl rfl) h1
  obtain ⟨y2, rfl, rfl, rfl, w2⟩ := open_int Try.underlying3 (hval 2 3 v2 rfl rfl) h2
  refine (law_calls (W := W) (vals := #[.slice a0 len0 cap0, .int .i64 y1, .int .i64 y2]) (hyp y0 y1 y2 hi0 hl0 (by simpa [Lit.wf] using w1) (by simpa [Lit.wf] using w2)) rfl fun M hw hD i s u hs hu => ?_).mono fun e W' ⟨he, bel⟩ => ?_
  · match i with
    | 0 => simp at hs hu; subst hs; subst hu; exact hden0 M hw hD
    | 1 => simp at hs hu; subst hs; subst hu; exact Den.int _ _ .nil
    | 2 => simp at hs hu; subst hs; subst hu; exact Den.int _ _ .nil
    | i + 3 => simp at hs
  · subst he
    exact ⟨_, rfl, _, _, _, [], _, [], hW', trodAll_mk1 (shut_bool Try.underlying4 _), trodAll_cons_mk (Below.trod laidOut (by kernel_rfl) (of_decide_eq_true (by kernel_rfl)) k0 bel lt0) (trodAll_cons_mk (shut_int Try.underlying3 w1) (trodAll_cons_mk (shut_int Try.underlying3 w2) trodAll_mk0)), rfl, bel.frame _, fun h => by cases h⟩
theorem lscale_row (hyp : lscaleOK) : Rows.LensScaleSaid :=
  OpenClaim.holds_of_wide 5 Try.f5 rfl rfl rfl rfl rfl rfl rfl ⟨rfl, rfl, rfl, rfl, rfl⟩ rfl rfl rfl rfl rfl (by kernel_rfl) Try.func5 (by kernel_rfl)
    (of_decide_eq_true (by kernel_rfl)) (by unfold Func.isWrapper; first | (rw [if_pos (by decide +kernel)]; kernel_rfl) | (rw [if_neg (by decide +kernel)]; exact ⟨rfl, rfl⟩))
    (fun os started H enc _ => lscale_lifted hyp os started H enc)
/-- What the law's function is shown to do. -/
def lflatOK : Prop := ∀ (many : Int) (count : Int) (limit : Int), (IntKind.i64.min ≤ many ∧ many ≤ IntKind.i64.max) → (IntKind.i64.min ≤ count ∧ count ≤ IntKind.i64.max) → (IntKind.i64.min ≤ limit ∧ limit ≤ IntKind.i64.max) → FOK Try.prog C1 6 (fun _ => false) [.int .i64 many, .int .i64 count, .int .i64 limit] [] Yes
set_option maxRecDepth 100000 in
theorem lflat_lifted (hyp : lflatOK) (os : Os) (started : os.Started) (H : Type) (enc : TypeId × Value → H) :
    ReturnsInHanded {} Try.checked os 6 .any (Rows.lensFlatSpec.pre6 enc Try.prog Try.f6 Rows.lensFlatRow.domain false) (Rows.lensFlatSpec.post enc Try.prog Try.f6 false true false false) := by
  refine returnsInHanded_of_change_sized (C := Try.checked) own started (by kernel_rfl) Try.func6
    (ChangeSpec.witness6 (enc := enc) (C := Try.checked) false ⟨#[], #[.int .i64 0, .int .i64 0, .int .i64 0], []⟩ 8 (by kernel_rfl) (by kernel_rfl) (by kernel_rfl) (by kernel_rfl)) ?_
  intro W base args ds gs before hval0 hW hcnd hsz0 _
  have hsz : (DataW.weightsEach Try.prog (Try.f6.params.toList ++ Rows.lensFlatSpec.plain.varTypes Try.prog) (ds ++ gs)).all (· ≤ reachBytes) = true := hsz0
  have hval : ∀ (j : Nat) t v, Try.f6.params[j]? = some t → args[j]? = some v → Value.okWide Try.prog W .any base t v := hval0
  have hW' := hW
  obtain ⟨p, q, hA0, hV, rfl, hfz, hnd⟩ := hW
  have hA : DataW.TrodAll enc Try.prog W 0 (fun _ => true) true Try.f6.params.toList args.toList ds p := hA0
  rw [Try.params6] at hA hval hsz
  obtain ⟨v0, vs0, d0, ds0, p0, q0, hargs, rfl, rfl, h0, r0⟩ := trodAll_cons hA
  obtain ⟨v1, vs1, d1, ds1, p1, q1, rfl, rfl, rfl, h1, r1⟩ := trodAll_cons r0
  obtain ⟨v2, vs2, d2, ds2, p2, q2, rfl, rfl, rfl, h2, r2⟩ := trodAll_cons r1
  obtain ⟨rfl, rfl, rfl⟩ := trodAll_nil r2
  obtain rfl : args = #[v0, v1, v2] := by cases args; simp_all
  obtain ⟨rfl, rfl⟩ := trodVars_none hV
  obtain ⟨y0, rfl, rfl, rfl, w0⟩ := open_int Try.underlying3 (hval 0 3 v0 rfl rfl) h0
  obtain ⟨y1, rfl, rfl, rfl, w1⟩ := open_int Try.underlying3 (hval 1 3 v1 rfl rfl) h1
  obtain ⟨y2, rfl, rfl, rfl, w2⟩ := open_int Try.underlying3 (hval 2 3 v2 rfl rfl) h2
  refine (law_calls (W := W) (vals := #[.int .i64 y0, .int .i64 y1, .int .i64 y2]) (hyp y0 y1 y2 (by simpa [Lit.wf] using w0) (by simpa [Lit.wf] using w1) (by simpa [Lit.wf] using w2)) rfl fun M hw hD i s u hs hu => ?_).mono fun e W' ⟨he, bel⟩ => ?_
  · match i with
    | 0 => simp at hs hu; subst hs; subst hu; exact Den.int _ _ .nil
    | 1 => simp at hs hu; subst hs; subst hu; exact Den.int _ _ .nil
    | 2 => simp at hs hu; subst hs; subst hu; exact Den.int _ _ .nil
    | i + 3 => simp at hs
  · subst he
    exact ⟨_, rfl, _, _, _, [], _, [], hW', trodAll_mk1 (shut_bool Try.underlying4 _), trodAll_cons_mk (shut_int Try.underlying3 w0) (trodAll_cons_mk (shut_int Try.underlying3 w1) (trodAll_cons_mk (shut_int Try.underlying3 w2) trodAll_mk0)), rfl, bel.frame _, fun h => by cases h⟩
theorem lflat_row (hyp : lflatOK) : Rows.LensFlatSaid :=
  OpenClaim.holds_of_wide 6 Try.f6 rfl rfl rfl rfl rfl rfl rfl ⟨rfl, rfl, rfl, rfl, rfl⟩ rfl rfl rfl rfl rfl (by kernel_rfl) Try.func6 (by kernel_rfl)
    (of_decide_eq_true (by kernel_rfl)) (by unfold Func.isWrapper; first | (rw [if_pos (by decide +kernel)]; kernel_rfl) | (rw [if_neg (by decide +kernel)]; exact ⟨rfl, rfl⟩))
    (fun os started H enc _ => lflat_lifted hyp os started H enc)
/-- What the law's function is shown to do. -/
def lbuildsOK : Prop := ∀ (counts : List Int) (limit : Int), (∀ x ∈ counts, IntKind.i64.min ≤ x ∧ x ≤ IntKind.i64.max) → counts.length * 8 ≤ reachBytes → (IntKind.i64.min ≤ limit ∧ limit ≤ IntKind.i64.max) → FOK Try.prog C1 7 (fun _ => false) [.ro (.ints .i64 counts), .int .i64 limit] [] Yes
set_option maxRecDepth 100000 in
theorem lbuilds_lifted (hyp : lbuildsOK) (os : Os) (started : os.Started) (H : Type) (enc : TypeId × Value → H) :
    ReturnsInHanded {} Try.checked os 7 .any (Rows.lensBuildsSpec.pre6 enc Try.prog Try.f7 Rows.lensBuildsRow.domain false) (Rows.lensBuildsSpec.post enc Try.prog Try.f7 false true false false) := by
  refine returnsInHanded_of_change_sized (C := Try.checked) own started (by kernel_rfl) Try.func7
    (ChangeSpec.witness6 (enc := enc) (C := Try.checked) false ⟨#[], #[.slice none 0 0, .int .i64 0], []⟩ 8 (by kernel_rfl) (by kernel_rfl) (by kernel_rfl) (by kernel_rfl)) ?_
  intro W base args ds gs before hval0 hW hcnd hsz0 _
  have hsz : (DataW.weightsEach Try.prog (Try.f7.params.toList ++ Rows.lensBuildsSpec.plain.varTypes Try.prog) (ds ++ gs)).all (· ≤ reachBytes) = true := hsz0
  have hval : ∀ (j : Nat) t v, Try.f7.params[j]? = some t → args[j]? = some v → Value.okWide Try.prog W .any base t v := hval0
  have hW' := hW
  obtain ⟨p, q, hA0, hV, rfl, hfz, hnd⟩ := hW
  have hA : DataW.TrodAll enc Try.prog W 0 (fun _ => true) true Try.f7.params.toList args.toList ds p := hA0
  rw [Try.params7] at hA hval hsz
  obtain ⟨v0, vs0, d0, ds0, p0, q0, hargs, rfl, rfl, h0, r0⟩ := trodAll_cons hA
  obtain ⟨v1, vs1, d1, ds1, p1, q1, rfl, rfl, rfl, h1, r1⟩ := trodAll_cons r0
  obtain ⟨rfl, rfl, rfl⟩ := trodAll_nil r1
  obtain rfl : args = #[v0, v1] := by cases args; simp_all
  obtain ⟨rfl, rfl⟩ := trodVars_none hV
  obtain ⟨a0, len0, cap0, rfl⟩ := okWide_slice Try.underlying22 (hval 0 22 v0 rfl rfl)
  have k0 := h0
  have lt0 : ∀ x ∈ p0, x.block < W.heap.size := by obtain ⟨m, hm⟩ := k0; exact DataW.trod_lt m _ _ _ hm
  obtain ⟨y0, ⟨hi0, hl0⟩, hden0⟩ := opens_ints _ _ _ h0.choose_spec (fun n hn => of_decide_eq_true (List.all_eq_true.1 hsz n (DataW.weights_mem_each (j := 0) rfl rfl n hn)))
  have hb0 : Try.prog.bytesOf 3 = 8 := by kernel_rfl
  rw [hb0] at hl0
  obtain ⟨y1, rfl, rfl, rfl, w1⟩ := open_int Try.underlying3 (hval 1 3 v1 rfl rfl) h1
  refine (law_calls (W := W) (vals := #[.slice a0 len0 cap0, .int .i64 y1]) (hyp y0 y1 hi0 hl0 (by simpa [Lit.wf] using w1)) rfl fun M hw hD i s u hs hu => ?_).mono fun e W' ⟨he, bel⟩ => ?_
  · match i with
    | 0 => simp at hs hu; subst hs; subst hu; exact hden0 M hw hD
    | 1 => simp at hs hu; subst hs; subst hu; exact Den.int _ _ .nil
    | i + 2 => simp at hs
  · subst he
    exact ⟨_, rfl, _, _, _, [], _, [], hW', trodAll_mk1 (shut_bool Try.underlying4 _), trodAll_cons_mk (Below.trod laidOut (by kernel_rfl) (of_decide_eq_true (by kernel_rfl)) k0 bel lt0) (trodAll_cons_mk (shut_int Try.underlying3 w1) trodAll_mk0), rfl, bel.frame _, fun h => by cases h⟩
theorem lbuilds_row (hyp : lbuildsOK) : Rows.LensBuildsSaid :=
  OpenClaim.holds_of_wide 7 Try.f7 rfl rfl rfl rfl rfl rfl rfl ⟨rfl, rfl, rfl, rfl, rfl⟩ rfl rfl rfl rfl rfl (by kernel_rfl) Try.func7 (by kernel_rfl)
    (of_decide_eq_true (by kernel_rfl)) (by unfold Func.isWrapper; first | (rw [if_pos (by decide +kernel)]; kernel_rfl) | (rw [if_neg (by decide +kernel)]; exact ⟨rfl, rfl⟩))
    (fun os started H enc _ => lbuilds_lifted hyp os started H enc)
/-- What the law's function is shown to do. -/
def lpacksOK : Prop := ∀ (lengths : List Int) (list : List Pr), (∀ x ∈ lengths, IntKind.i64.min ≤ x ∧ x ≤ IntKind.i64.max) → lengths.length * 8 ≤ reachBytes → (∀ x ∈ list, PrOK x) → list.length * 16 ≤ reachBytes → FOK Try.prog C1 4 (fun _ => false) [.ro (.ints .i64 lengths), .ro (.recs 1 list)] [] Yes
set_option maxRecDepth 100000 in
theorem lpacks_lifted (hyp : lpacksOK) (os : Os) (started : os.Started) (H : Type) (enc : TypeId × Value → H) :
    ReturnsInHanded {} Try.checked os 4 .any (Rows.lensPacksSpec.pre6 enc Try.prog Try.f4 Rows.lensPacksRow.domain false) (Rows.lensPacksSpec.post enc Try.prog Try.f4 false true false false) := by
  refine returnsInHanded_of_change_sized (C := Try.checked) own started (by kernel_rfl) Try.func4
    (ChangeSpec.witness6 (enc := enc) (C := Try.checked) false ⟨#[], #[.slice none 0 0, .slice none 0 0], []⟩ 8 (by kernel_rfl) (by kernel_rfl) (by kernel_rfl) (by kernel_rfl)) ?_
  intro W base args ds gs before hval0 hW hcnd hsz0 _
  have hsz : (DataW.weightsEach Try.prog (Try.f4.params.toList ++ Rows.lensPacksSpec.plain.varTypes Try.prog) (ds ++ gs)).all (· ≤ reachBytes) = true := hsz0
  have hval : ∀ (j : Nat) t v, Try.f4.params[j]? = some t → args[j]? = some v → Value.okWide Try.prog W .any base t v := hval0
  have hW' := hW
  obtain ⟨p, q, hA0, hV, rfl, hfz, hnd⟩ := hW
  have hA : DataW.TrodAll enc Try.prog W 0 (fun _ => true) true Try.f4.params.toList args.toList ds p := hA0
  rw [Try.params4] at hA hval hsz
  obtain ⟨v0, vs0, d0, ds0, p0, q0, hargs, rfl, rfl, h0, r0⟩ := trodAll_cons hA
  obtain ⟨v1, vs1, d1, ds1, p1, q1, rfl, rfl, rfl, h1, r1⟩ := trodAll_cons r0
  obtain ⟨rfl, rfl, rfl⟩ := trodAll_nil r1
  obtain rfl : args = #[v0, v1] := by cases args; simp_all
  obtain ⟨rfl, rfl⟩ := trodVars_none hV
  obtain ⟨a0, len0, cap0, rfl⟩ := okWide_slice Try.underlying22 (hval 0 22 v0 rfl rfl)
  obtain ⟨a1, len1, cap1, rfl⟩ := okWide_slice Try.underlying29 (hval 1 29 v1 rfl rfl)
  have k0 := h0
  have lt0 : ∀ x ∈ p0, x.block < W.heap.size := by obtain ⟨m, hm⟩ := k0; exact DataW.trod_lt m _ _ _ hm
  have k1 := h1
  have lt1 : ∀ x ∈ p1, x.block < W.heap.size := by obtain ⟨m, hm⟩ := k1; exact DataW.trod_lt m _ _ _ hm
  obtain ⟨y0, ⟨hi0, hl0⟩, hden0⟩ := opens_ints _ _ _ h0.choose_spec (fun n hn => of_decide_eq_true (List.all_eq_true.1 hsz n (DataW.weights_mem_each (j := 0) rfl rfl n hn)))
  have hb0 : Try.prog.bytesOf 3 = 8 := by kernel_rfl
  rw [hb0] at hl0
  obtain ⟨y1, ⟨hi1, hl1⟩, hden1⟩ := opens_items _ _ _ h1.choose_spec (fun n hn => of_decide_eq_true (List.all_eq_true.1 hsz n (DataW.weights_mem_each (j := 1) rfl rfl n hn)))
  have hb1 : Try.prog.bytesOf 33 = 16 := by kernel_rfl
  rw [hb1] at hl1
  refine (law_calls (W := W) (vals := #[.slice a0 len0 cap0, .slice a1 len1 cap1]) (hyp y0 y1 hi0 hl0 hi1 hl1) rfl fun M hw hD i s u hs hu => ?_).mono fun e W' ⟨he, bel⟩ => ?_
  · match i with
    | 0 => simp at hs hu; subst hs; subst hu; exact hden0 M hw hD
    | 1 => simp at hs hu; subst hs; subst hu; exact hden1 M hw hD
    | i + 2 => simp at hs
  · subst he
    exact ⟨_, rfl, _, _, _, [], _, [], hW', trodAll_mk1 (shut_bool Try.underlying4 _), trodAll_cons_mk (Below.trod laidOut (by kernel_rfl) (of_decide_eq_true (by kernel_rfl)) k0 bel lt0) (trodAll_cons_mk (Below.trod laidOut (by kernel_rfl) (of_decide_eq_true (by kernel_rfl)) k1 bel lt1) trodAll_mk0), rfl, bel.frame _, fun h => by cases h⟩
theorem lpacks_row (hyp : lpacksOK) : Rows.LensPacksSaid :=
  OpenClaim.holds_of_wide 4 Try.f4 rfl rfl rfl rfl rfl rfl rfl ⟨rfl, rfl, rfl, rfl, rfl⟩ rfl rfl rfl rfl rfl (by kernel_rfl) Try.func4 (by kernel_rfl)
    (of_decide_eq_true (by kernel_rfl)) (by unfold Func.isWrapper; first | (rw [if_pos (by decide +kernel)]; kernel_rfl) | (rw [if_neg (by decide +kernel)]; exact ⟨rfl, rfl⟩))
    (fun os started H enc _ => lpacks_lifted hyp os started H enc)
end Go.L1
