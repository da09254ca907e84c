/- Own work of the session: part RB of a proof that the program's functions do what the statement says (a symbolic executor, contracts of the functions, plain laws). -/
import Derived.Test.YtmgmbcniamkfeaaRA
set_option linter.all false
-- L6Rows
namespace Go.L1
open Go Go.Sx Go.Proofs Go.Proofs.Ytmgmbcniamkfeaa
open Go.ChangeShapes Go.WideShapes Go.ChangeAt Go.RowKit
/-- What the law's function is shown to do. -/
def itablesOK : Prop := ∀ (s : Int), (IntKind.i64.min ≤ s ∧ s ≤ IntKind.i64.max) → FOK Try.prog C1 9 (fun _ => false) [.int .i64 s] [] Yes
set_option maxRecDepth 100000 in
theorem itables_lifted (hyp : itablesOK) (os : Os) (started : os.Started) (H : Type) (enc : TypeId × Value → H) :
    ReturnsInHanded {} Try.checked os 9 .any (Rows.inflateTablesSpec.pre6 enc Try.prog Try.f9 Rows.inflateTablesRow.domain false) (Rows.inflateTablesSpec.post enc Try.prog Try.f9 false true false false) := by
  refine returnsInHanded_of_change_sized (C := Try.checked) own started (by kernel_rfl) Try.func9
    (ChangeSpec.witness6 (enc := enc) (C := Try.checked) false ⟨#[], #[.int .i64 0], []⟩ 8 (by kernel_rfl) (by kernel_rfl) (by kernel_rfl) (by kernel_rfl)) ?_
  intro W base args ds gs before hval0 hW hcnd hsz0 _
  have hsz : (DataW.weightsEach Try.prog (Try.f9.params.toList ++ Rows.inflateTablesSpec.plain.varTypes Try.prog) (ds ++ gs)).all (· ≤ reachBytes) = true := hsz0
  have hval : ∀ (j : Nat) t v, Try.f9.params[j]? = some t → args[j]? = some v → Value.okWide Try.prog W .any base t v := hval0
  have hW' := hW
  obtain ⟨p, q, hA0, hV, rfl, hfz, hnd⟩ := hW
  have hA : DataW.TrodAll enc Try.prog W 0 (fun _ => true) true Try.f9.params.toList args.toList ds p := hA0
  rw [Try.params9] at hA hval hsz
  obtain ⟨v0, vs0, d0, ds0, p0, q0, hargs, rfl, rfl, h0, r0⟩ := trodAll_cons hA
  obtain ⟨rfl, rfl, rfl⟩ := trodAll_nil r0
  obtain rfl : args = #[v0] := by cases args; simp_all
  obtain ⟨rfl, rfl⟩ := trodVars_none hV
  obtain ⟨y0, rfl, rfl, rfl, w0⟩ := open_int Try.underlying3 (hval 0 3 v0 rfl rfl) h0
  refine (law_calls (W := W) (vals := #[.int .i64 y0]) (hyp y0 (by simpa [Lit.wf] using w0)) rfl fun M hw hD i s u hs hu => ?_).mono fun e W' ⟨he, bel⟩ => ?_
  · match i with
    | 0 => simp at hs hu; subst hs; subst hu; exact Den.int _ _ .nil
    | i + 1 => simp at hs
  · subst he
    exact ⟨_, rfl, _, _, _, [], _, [], hW', trodAll_mk1 (shut_bool Try.underlying4 _), trodAll_cons_mk (shut_int Try.underlying3 w0) trodAll_mk0, rfl, bel.frame _, fun h => by cases h⟩
theorem itables_row (hyp : itablesOK) : Rows.InflateTablesSaid :=
  OpenClaim.holds_of_wide 9 Try.f9 rfl rfl rfl rfl rfl rfl rfl ⟨rfl, rfl, rfl, rfl, rfl⟩ rfl rfl rfl rfl rfl (by kernel_rfl) Try.func9 (by kernel_rfl)
    (of_decide_eq_true (by kernel_rfl)) (by unfold Func.isWrapper; first | (rw [if_pos (by decide +kernel)]; kernel_rfl) | (rw [if_neg (by decide +kernel)]; exact ⟨rfl, rfl⟩))
    (fun os started H enc _ => itables_lifted hyp os started H enc)
/-- What the law's function is shown to do. -/
def ilimitOK : Prop := ∀ (b : List UInt8) (lim : Int), (∀ x ∈ b, True) → b.length * 1 ≤ reachBytes → (IntKind.i64.min ≤ lim ∧ lim ≤ IntKind.i64.max) → FOK Try.prog C1 10 (fun _ => false) [.ro (.bytes b), .int .i64 lim] [] Yes
set_option maxRecDepth 100000 in
theorem ilimit_lifted (hyp : ilimitOK) (os : Os) (started : os.Started) (H : Type) (enc : TypeId × Value → H) :
    ReturnsInHanded {} Try.checked os 10 .any (Rows.inflateLimitSpec.pre6 enc Try.prog Try.f10 Rows.inflateLimitRow.domain false) (Rows.inflateLimitSpec.post enc Try.prog Try.f10 false true false false) := by
  refine returnsInHanded_of_change_sized (C := Try.checked) own started (by kernel_rfl) Try.func10
    (ChangeSpec.witness6 (enc := enc) (C := Try.checked) false ⟨#[], #[.slice none 0 0, .int .i64 0], []⟩ 8 (by kernel_rfl) (by kernel_rfl) (by kernel_rfl) (by kernel_rfl)) ?_
  intro W base args ds gs before hval0 hW hcnd hsz0 _
  have hsz : (DataW.weightsEach Try.prog (Try.f10.params.toList ++ Rows.inflateLimitSpec.plain.varTypes Try.prog) (ds ++ gs)).all (· ≤ reachBytes) = true := hsz0
  have hval : ∀ (j : Nat) t v, Try.f10.params[j]? = some t → args[j]? = some v → Value.okWide Try.prog W .any base t v := hval0
  have hW' := hW
  obtain ⟨p, q, hA0, hV, rfl, hfz, hnd⟩ := hW
  have hA : DataW.TrodAll enc Try.prog W 0 (fun _ => true) true Try.f10.params.toList args.toList ds p := hA0
  rw [Try.params10] at hA hval hsz
  obtain ⟨v0, vs0, d0, ds0, p0, q0, hargs, rfl, rfl, h0, r0⟩ := trodAll_cons hA
  obtain ⟨v1, vs1, d1, ds1, p1, q1, rfl, rfl, rfl, h1, r1⟩ := trodAll_cons r0
  obtain ⟨rfl, rfl, rfl⟩ := trodAll_nil r1
  obtain rfl : args = #[v0, v1] := by cases args; simp_all
  obtain ⟨rfl, rfl⟩ := trodVars_none hV
  obtain ⟨a0, len0, cap0, rfl⟩ := okWide_slice Try.underlying38 (hval 0 38 v0 rfl rfl)
  have k0 := h0
  have lt0 : ∀ x ∈ p0, x.block < W.heap.size := by obtain ⟨m, hm⟩ := k0; exact DataW.trod_lt m _ _ _ hm
  obtain ⟨y0, ⟨hi0, hl0⟩, hden0⟩ := opens_bytes2 _ _ _ h0.choose_spec (fun n hn => of_decide_eq_true (List.all_eq_true.1 hsz n (DataW.weights_mem_each (j := 0) rfl rfl n hn)))
  have hb0 : Try.prog.bytesOf 5 = 1 := by kernel_rfl
  rw [hb0] at hl0
  obtain ⟨y1, rfl, rfl, rfl, w1⟩ := open_int Try.underlying3 (hval 1 3 v1 rfl rfl) h1
  refine (law_calls (W := W) (vals := #[.slice a0 len0 cap0, .int .i64 y1]) (hyp y0 y1 hi0 hl0 (by simpa [Lit.wf] using w1)) rfl fun M hw hD i s u hs hu => ?_).mono fun e W' ⟨he, bel⟩ => ?_
  · match i with
    | 0 => simp at hs hu; subst hs; subst hu; exact hden0 M hw hD
    | 1 => simp at hs hu; subst hs; subst hu; exact Den.int _ _ .nil
    | i + 2 => simp at hs
  · subst he
    exact ⟨_, rfl, _, _, _, [], _, [], hW', trodAll_mk1 (shut_bool Try.underlying4 _), trodAll_cons_mk (Below.trod laidOut (by kernel_rfl) (of_decide_eq_true (by kernel_rfl)) k0 bel lt0) (trodAll_cons_mk (shut_int Try.underlying3 w1) trodAll_mk0), rfl, bel.frame _, fun h => by cases h⟩
theorem ilimit_row (hyp : ilimitOK) : Rows.InflateLimitSaid :=
  OpenClaim.holds_of_wide 10 Try.f10 rfl rfl rfl rfl rfl rfl rfl ⟨rfl, rfl, rfl, rfl, rfl⟩ rfl rfl rfl rfl rfl (by kernel_rfl) Try.func10 (by kernel_rfl)
    (of_decide_eq_true (by kernel_rfl)) (by unfold Func.isWrapper; first | (rw [if_pos (by decide +kernel)]; kernel_rfl) | (rw [if_neg (by decide +kernel)]; exact ⟨rfl, rfl⟩))
    (fun os started H enc _ => ilimit_lifted hyp os started H enc)
/-- What the law's function is shown to do. -/
def icutsOK : Prop := ∀ (b : List UInt8) (cut : Int) (more : List UInt8), (∀ x ∈ b, True) → b.length * 1 ≤ reachBytes → (IntKind.i64.min ≤ cut ∧ cut ≤ IntKind.i64.max) → (∀ x ∈ more, True) → more.length * 1 ≤ reachBytes → FOK Try.prog C1 11 (fun _ => false) [.ro (.bytes b), .int .i64 cut, .ro (.bytes more)] [] Yes
set_option maxRecDepth 100000 in
theorem icuts_lifted (hyp : icutsOK) (os : Os) (started : os.Started) (H : Type) (enc : TypeId × Value → H) :
    ReturnsInHanded {} Try.checked os 11 .any (Rows.inflateCutsSpec.pre6 enc Try.prog Try.f11 Rows.inflateCutsRow.domain false) (Rows.inflateCutsSpec.post enc Try.prog Try.f11 false true false false) := by
  refine returnsInHanded_of_change_sized (C := Try.checked) own started (by kernel_rfl) Try.func11
    (ChangeSpec.witness6 (enc := enc) (C := Try.checked) false ⟨#[], #[.slice none 0 0, .int .i64 0, .slice none 0 0], []⟩ 8 (by kernel_rfl) (by kernel_rfl) (by kernel_rfl) (by kernel_rfl)) ?_
  intro W base args ds gs before hval0 hW hcnd hsz0 _
  have hsz : (DataW.weightsEach Try.prog (Try.f11.params.toList ++ Rows.inflateCutsSpec.plain.varTypes Try.prog) (ds ++ gs)).all (· ≤ reachBytes) = true := hsz0
  have hval : ∀ (j : Nat) t v, Try.f11.params[j]? = some t → args[j]? = some v → Value.okWide Try.prog W .any base t v := hval0
  have hW' := hW
  obtain ⟨p, q, hA0, hV, rfl, hfz, hnd⟩ := hW
  have hA : DataW.TrodAll enc Try.prog W 0 (fun _ => true) true Try.f11.params.toList args.toList ds p := hA0
  rw [Try.params11] at hA hval hsz
  obtain ⟨v0, vs0, d0, ds0, p0, q0, hargs, rfl, rfl, h0, r0⟩ := trodAll_cons hA
  obtain ⟨v1, vs1, d1, ds1, p1, q1, rfl, rfl, rfl, h1, r1⟩ := trodAll_cons r0
  obtain ⟨v2, vs2, d2, ds2, p2, q2, rfl, rfl, rfl, h2, r2⟩ := trodAll_cons r1
  obtain ⟨rfl, rfl, rfl⟩ := trodAll_nil r2
  obtain rfl : args = #[v0, v1, v2] := by cases args; simp_all
  obtain ⟨rfl, rfl⟩ := trodVars_none hV
  obtain ⟨a0, len0, cap0, rfl⟩ := okWide_slice Try.underlying38 (hval 0 38 v0 rfl rfl)
  obtain ⟨a2, len2, cap2, rfl⟩ := okWide_slice Try.underlying38 (hval 2 38 v2 rfl rfl)
  have k0 := h0
  have lt0 : ∀ x ∈ p0, x.block < W.heap.size := by obtain ⟨m, hm⟩ := k0; exact DataW.trod_lt m _ _ _ hm
  have k2 := h2
  have lt2 : ∀ x ∈ p2, x.block < W.heap.size := by obtain ⟨m, hm⟩ := k2; exact DataW.trod_lt m _ _ _ hm
  obtain ⟨y0, ⟨hi0, hl0⟩, hden0⟩ := opens_bytes2 _ _ _ h0.choose_spec (fun n hn => of_decide_eq_true (List.all_eq_true.1 hsz n (DataW.weights_mem_each (j := 0) rfl rfl n hn)))
  have hb0 : Try.prog.bytesOf 5 = 1 := by kernel_rfl
  rw [hb0] at hl0
  obtain ⟨y1, rfl, rfl, rfl, w1⟩ := open_int Try.underlying3 (hval 1 3 v1 rfl rfl) h1
  obtain ⟨y2, ⟨hi2, hl2⟩, hden2⟩ := opens_bytes2 _ _ _ h2.choose_spec (fun n hn => of_decide_eq_true (List.all_eq_true.1 hsz n (DataW.weights_mem_each (j := 2) rfl rfl n hn)))
  have hb2 : Try.prog.bytesOf 5 = 1 := by kernel_rfl
  rw [hb2] at hl2
  refine (law_calls (W := W) (vals := #[.slice a0 len0 cap0, .int .i64 y1, .slice a2 len2 cap2]) (hyp y0 y1 y2 hi0 hl0 (by simpa [Lit.wf] using w1) hi2 hl2) rfl fun M hw hD i s u hs hu => ?_).mono fun e W' ⟨he, bel⟩ => ?_
  · match i with
    | 0 => simp at hs hu; subst hs; subst hu; exact hden0 M hw hD
    | 1 => simp at hs hu; subst hs; subst hu; exact Den.int _ _ .nil
    | 2 => simp at hs hu; subst hs; subst hu; exact hden2 M hw hD
    | i + 3 => simp at hs
  · subst he
    exact ⟨_, rfl, _, _, _, [], _, [], hW', trodAll_mk1 (shut_bool Try.underlying4 _), trodAll_cons_mk (Below.trod laidOut (by kernel_rfl) (of_decide_eq_true (by kernel_rfl)) k0 bel lt0) (trodAll_cons_mk (shut_int Try.underlying3 w1) (trodAll_cons_mk (Below.trod laidOut (by kernel_rfl) (of_decide_eq_true (by kernel_rfl)) k2 bel lt2) trodAll_mk0)), rfl, bel.frame _, fun h => by cases h⟩
theorem icuts_row (hyp : icutsOK) : Rows.InflateCutsSaid :=
  OpenClaim.holds_of_wide 11 Try.f11 rfl rfl rfl rfl rfl rfl rfl ⟨rfl, rfl, rfl, rfl, rfl⟩ rfl rfl rfl rfl rfl (by kernel_rfl) Try.func11 (by kernel_rfl)
    (of_decide_eq_true (by kernel_rfl)) (by unfold Func.isWrapper; first | (rw [if_pos (by decide +kernel)]; kernel_rfl) | (rw [if_neg (by decide +kernel)]; exact ⟨rfl, rfl⟩))
    (fun os started H enc _ => icuts_lifted hyp os started H enc)
/-- What the law's function is shown to do. -/
def itwoOK : Prop := ∀ (a : List UInt8) (b : List UInt8), (∀ x ∈ a, True) → a.length * 1 ≤ reachBytes → (∀ x ∈ b, True) → b.length * 1 ≤ reachBytes → FOK Try.prog C1 13 (fun _ => false) [.ro (.bytes a), .ro (.bytes b)] [] Yes
set_option maxRecDepth 100000 in
theorem itwo_lifted (hyp : itwoOK) (os : Os) (started : os.Started) (H : Type) (enc : TypeId × Value → H) :
    ReturnsInHanded {} Try.checked os 13 .any (Rows.inflateTwoSpec.pre6 enc Try.prog Try.f13 Rows.inflateTwoRow.domain false) (Rows.inflateTwoSpec.post enc Try.prog Try.f13 false true false false) := by
  refine returnsInHanded_of_change_sized (C := Try.checked) own started (by kernel_rfl) Try.func13
    (ChangeSpec.witness6 (enc := enc) (C := Try.checked) false ⟨#[], #[.slice none 0 0, .slice none 0 0], []⟩ 8 (by kernel_rfl) (by kernel_rfl) (by kernel_rfl) (by kernel_rfl)) ?_
  intro W base args ds gs before hval0 hW hcnd hsz0 _
  have hsz : (DataW.weightsEach Try.prog (Try.f13.params.toList ++ Rows.inflateTwoSpec.plain.varTypes Try.prog) (ds ++ gs)).all (· ≤ reachBytes) = true := hsz0
  have hval : ∀ (j : Nat) t v, Try.f13.params[j]? = some t → args[j]? = some v → Value.okWide Try.prog W .any base t v := hval0
  have hW' := hW
  obtain ⟨p, q, hA0, hV, rfl, hfz, hnd⟩ := hW
  have hA : DataW.TrodAll enc Try.prog W 0 (fun _ => true) true Try.f13.params.toList args.toList ds p := hA0
  rw [Try.params13] at hA hval hsz
  obtain ⟨v0, vs0, d0, ds0, p0, q0, hargs, rfl, rfl, h0, r0⟩ := trodAll_cons hA
  obtain ⟨v1, vs1, d1, ds1, p1, q1, rfl, rfl, rfl, h1, r1⟩ := trodAll_cons r0
  obtain ⟨rfl, rfl, rfl⟩ := trodAll_nil r1
  obtain rfl : args = #[v0, v1] := by cases args; simp_all
  obtain ⟨rfl, rfl⟩ := trodVars_none hV
  obtain ⟨a0, len0, cap0, rfl⟩ := okWide_slice Try.underlying38 (hval 0 38 v0 rfl rfl)
  obtain ⟨a1, len1, cap1, rfl⟩ := okWide_slice Try.underlying38 (hval 1 38 v1 rfl rfl)
  have k0 := h0
  have lt0 : ∀ x ∈ p0, x.block < W.heap.size := by obtain ⟨m, hm⟩ := k0; exact DataW.trod_lt m _ _ _ hm
  have k1 := h1
  have lt1 : ∀ x ∈ p1, x.block < W.heap.size := by obtain ⟨m, hm⟩ := k1; exact DataW.trod_lt m _ _ _ hm
  obtain ⟨y0, ⟨hi0, hl0⟩, hden0⟩ := opens_bytes2 _ _ _ h0.choose_spec (fun n hn => of_decide_eq_true (List.all_eq_true.1 hsz n (DataW.weights_mem_each (j := 0) rfl rfl n hn)))
  have hb0 : Try.prog.bytesOf 5 = 1 := by kernel_rfl
  rw [hb0] at hl0
  obtain ⟨y1, ⟨hi1, hl1⟩, hden1⟩ := opens_bytes2 _ _ _ h1.choose_spec (fun n hn => of_decide_eq_true (List.all_eq_true.1 hsz n (DataW.weights_mem_each (j := 1) rfl rfl n hn)))
  have hb1 : Try.prog.bytesOf 5 = 1 := by kernel_rfl
  rw [hb1] at hl1
  refine (law_calls (W := W) (vals := #[.slice a0 len0 cap0, .slice a1 len1 cap1]) (hyp y0 y1 hi0 hl0 hi1 hl1) rfl fun M hw hD i s u hs hu => ?_).mono fun e W' ⟨he, bel⟩ => ?_
  · match i with
    | 0 => simp at hs hu; subst hs; subst hu; exact hden0 M hw hD
    | 1 => simp at hs hu; subst hs; subst hu; exact hden1 M hw hD
    | i + 2 => simp at hs
  · subst he
    exact ⟨_, rfl, _, _, _, [], _, [], hW', trodAll_mk1 (shut_bool Try.underlying4 _), trodAll_cons_mk (Below.trod laidOut (by kernel_rfl) (of_decide_eq_true (by kernel_rfl)) k0 bel lt0) (trodAll_cons_mk (Below.trod laidOut (by kernel_rfl) (of_decide_eq_true (by kernel_rfl)) k1 bel lt1) trodAll_mk0), rfl, bel.frame _, fun h => by cases h⟩
theorem itwo_row (hyp : itwoOK) : Rows.InflateTwoSaid :=
  OpenClaim.holds_of_wide 13 Try.f13 rfl rfl rfl rfl rfl rfl rfl ⟨rfl, rfl, rfl, rfl, rfl⟩ rfl rfl rfl rfl rfl (by kernel_rfl) Try.func13 (by kernel_rfl)
    (of_decide_eq_true (by kernel_rfl)) (by unfold Func.isWrapper; first | (rw [if_pos (by decide +kernel)]; kernel_rfl) | (rw [if_neg (by decide +kernel)]; exact ⟨rfl, rfl⟩))
    (fun os started H enc _ => itwo_lifted hyp os started H enc)
/-- What the law's function is shown to do. -/
def ianswersOK : Prop := ∀ (b : List UInt8) (lim : Int), (∀ x ∈ b, True) → b.length * 1 ≤ reachBytes → (IntKind.i64.min ≤ lim ∧ lim ≤ IntKind.i64.max) → FOK Try.prog C1 8 (fun _ => false) [.ro (.bytes b), .int .i64 lim] [] Yes
set_option maxRecDepth 100000 in
theorem ianswers_lifted (hyp : ianswersOK) (os : Os) (started : os.Started) (H : Type) (enc : TypeId × Value → H) :
    ReturnsInHanded {} Try.checked os 8 .any (Rows.inflateAnswersSpec.pre6 enc Try.prog Try.f8 Rows.inflateAnswersRow.domain false) (Rows.inflateAnswersSpec.post enc Try.prog Try.f8 false true false false) := by
  refine returnsInHanded_of_change_sized (C := Try.checked) own started (by kernel_rfl) Try.func8
    (ChangeSpec.witness6 (enc := enc) (C := Try.checked) false ⟨#[], #[.slice none 0 0, .int .i64 0], []⟩ 8 (by kernel_rfl) (by kernel_rfl) (by kernel_rfl) (by kernel_rfl)) ?_
  intro W base args ds gs before hval0 hW hcnd hsz0 _
  have hsz : (DataW.weightsEach Try.prog (Try.f8.params.toList ++ Rows.inflateAnswersSpec.plain.varTypes Try.prog) (ds ++ gs)).all (· ≤ reachBytes) = true := hsz0
  have hval : ∀ (j : Nat) t v, Try.f8.params[j]? = some t → args[j]? = some v → Value.okWide Try.prog W .any base t v := hval0
  have hW' := hW
  obtain ⟨p, q, hA0, hV, rfl, hfz, hnd⟩ := hW
  have hA : DataW.TrodAll enc Try.prog W 0 (fun _ => true) true Try.f8.params.toList args.toList ds p := hA0
  rw [Try.params8] at hA hval hsz
  obtain ⟨v0, vs0, d0, ds0, p0, q0, hargs, rfl, rfl, h0, r0⟩ := trodAll_cons hA
  obtain ⟨v1, vs1, d1, ds1, p1, q1, rfl, rfl, rfl, h1, r1⟩ := trodAll_cons r0
  obtain ⟨rfl, rfl, rfl⟩ := trodAll_nil r1
  obtain rfl : args = #[v0, v1] := by cases args; simp_all
  obtain ⟨rfl, rfl⟩ := trodVars_none hV
  obtain ⟨a0, len0, cap0, rfl⟩ := okWide_slice Try.underlying38 (hval 0 38 v0 rfl rfl)
  have k0 := h0
  have lt0 : ∀ x ∈ p0, x.block < W.heap.size := by obtain ⟨m, hm⟩ := k0; exact DataW.trod_lt m _ _ _ hm
  obtain ⟨y0, ⟨hi0, hl0⟩, hden0⟩ := opens_bytes2 _ _ _ h0.choose_spec (fun n hn => of_decide_eq_true (List.all_eq_true.1 hsz n (DataW.weights_mem_each (j := 0) rfl rfl n hn)))
  have hb0 : Try.prog.bytesOf 5 = 1 := by kernel_rfl
  rw [hb0] at hl0
  obtain ⟨y1, rfl, rfl, rfl, w1⟩ := open_int Try.underlying3 (hval 1 3 v1 rfl rfl) h1
  refine (law_calls (W := W) (vals := #[.slice a0 len0 cap0, .int .i64 y1]) (hyp y0 y1 hi0 hl0 (by simpa [Lit.wf] using w1)) rfl fun M hw hD i s u hs hu => ?_).mono fun e W' ⟨he, bel⟩ => ?_
  · match i with
    | 0 => simp at hs hu; subst hs; subst hu; exact hden0 M hw hD
    | 1 => simp at hs hu; subst hs; subst hu; exact Den.int _ _ .nil
    | i + 2 => simp at hs
  · subst he
    exact ⟨_, rfl, _, _, _, [], _, [], hW', trodAll_mk1 (shut_bool Try.underlying4 _), trodAll_cons_mk (Below.trod laidOut (by kernel_rfl) (of_decide_eq_true (by kernel_rfl)) k0 bel lt0) (trodAll_cons_mk (shut_int Try.underlying3 w1) trodAll_mk0), rfl, bel.frame _, fun h => by cases h⟩
theorem ianswers_row (hyp : ianswersOK) : Rows.InflateAnswersSaid :=
  OpenClaim.holds_of_wide 8 Try.f8 rfl rfl rfl rfl rfl rfl rfl ⟨rfl, rfl, rfl, rfl, rfl⟩ rfl rfl rfl rfl rfl (by kernel_rfl) Try.func8 (by kernel_rfl)
    (of_decide_eq_true (by kernel_rfl)) (by unfold Func.isWrapper; first | (rw [if_pos (by decide +kernel)]; kernel_rfl) | (rw [if_neg (by decide +kernel)]; exact ⟨rfl, rfl⟩))
    (fun os started H enc _ => ianswers_lifted hyp os started H enc)
/-- What the law's function is shown to do. -/
def ifixedOK : Prop := ∀ (lit : List UInt8) (sym : Int) (extra : Int) (far : Int) (more : Int), (∀ x ∈ lit, True) → lit.length * 1 ≤ reachBytes → (IntKind.i64.min ≤ sym ∧ sym ≤ IntKind.i64.max) → (IntKind.i64.min ≤ extra ∧ extra ≤ IntKind.i64.max) → (IntKind.i64.min ≤ far ∧ far ≤ IntKind.i64.max) → (IntKind.i64.min ≤ more ∧ more ≤ IntKind.i64.max) → FOK Try.prog C1 14 (fun _ => false) [.ro (.bytes lit), .int .i64 sym, .int .i64 extra, .int .i64 far, .int .i64 more] [] Yes
set_option maxRecDepth 100000 in
theorem ifixed_lifted (hyp : ifixedOK) (os : Os) (started : os.Started) (H : Type) (enc : TypeId × Value → H) :
    ReturnsInHanded {} Try.checked os 14 .any (Rows.inflateFixedSpec.pre6 enc Try.prog Try.f14 Rows.inflateFixedRow.domain false) (Rows.inflateFixedSpec.post enc Try.prog Try.f14 false true false false) := by
  refine returnsInHanded_of_change_sized (C := Try.checked) own started (by kernel_rfl) Try.func14
    (ChangeSpec.witness6 (enc := enc) (C := Try.checked) false ⟨#[], #[.slice none 0 0, .int .i64 0, .int .i64 0, .int .i64 0, .int .i64 0], []⟩ 8 (by kernel_rfl) (by kernel_rfl) (by kernel_rfl) (by kernel_rfl)) ?_
  intro W base args ds gs before hval0 hW hcnd hsz0 _
  have hsz : (DataW.weightsEach Try.prog (Try.f14.params.toList ++ Rows.inflateFixedSpec.plain.varTypes Try.prog) (ds ++ gs)).all (· ≤ reachBytes) = true := hsz0
  have hval : ∀ (j : Nat) t v, Try.f14.params[j]? = some t → args[j]? = some v → Value.okWide Try.prog W .any base t v := hval0
  have hW' := hW
  obtain ⟨p, q, hA0, hV, rfl, hfz, hnd⟩ := hW
  have hA : DataW.TrodAll enc Try.prog W 0 (fun _ => true) true Try.f14.params.toList args.toList ds p := hA0
  rw [Try.params14] at hA hval hsz
  obtain ⟨v0, vs0, d0, ds0, p0, q0, hargs, rfl, rfl, h0, r0⟩ := trodAll_cons hA
  obtain ⟨v1, vs1, d1, ds1, p1, q1, rfl, rfl, rfl, h1, r1⟩ := trodAll_cons r0
  obtain ⟨v2, vs2, d2, ds2, p2, q2, rfl, rfl, rfl, h2, r2⟩ := trodAll_cons r1
  obtain ⟨v3, vs3, d3, ds3, p3, q3, rfl, rfl, rfl, h3, r3⟩ := trodAll_cons r2
  obtain ⟨v4, vs4, d4, ds4, p4, q4, rfl, rfl, rfl, h4, r4⟩ := trodAll_cons r3
  obtain ⟨rfl, rfl, rfl⟩ := trodAll_nil r4
  obtain rfl : args = #[v0, v1, v2, v3, v4] := by cases args; simp_all
  obtain ⟨rfl, rfl⟩ := trodVars_none hV
  obtain ⟨a0, len0, cap0, rfl⟩ := okWide_slice Try.underlying38 (hval 0 38 v0 rfl rfl)
  have k0 := h0
  have lt0 : ∀ x ∈ p0, x.block < W.heap.size := by obtain ⟨m, hm⟩ := k0; exact DataW.trod_lt m _ _ _ hm
  obtain ⟨y0, ⟨hi0, hl0⟩, hden0⟩ := opens_bytes2 _ _ _ h0.choose_spec (fun n hn => of_decide_eq_true (List.all_eq_true.1 hsz n (DataW.weights_mem_each (j := 0) rfl rfl n hn)))
  have hb0 : Try.prog.bytesOf 5 = 1 := by kernel_rfl
  rw [hb0] at hl0
  obtain ⟨y1, rfl, rfl, rfl, w1⟩ := open_int Try.underlying3 (hval 1 3 v1 rfl rfl) h1
  obtain ⟨y2, rfl, rfl, rfl, w2⟩ := open_int Try.underlying3 (hval 2 3 v2 rfl rfl) h2
  obtain ⟨y3, rfl, rfl, rfl, w3⟩ := open_int Try.underlying3 (hval 3 3 v3 rfl rfl) h3
  obtain ⟨y4, rfl, rfl, rfl, w4⟩ := open_int Try.underlying3 (hval 4 3 v4 rfl rfl) h4
  refine (law_calls (W := W) (vals := #[.slice a0 len0 cap0, .int .i64 y1, .int .i64 y2, .int .i64 y3, .int .i64 y4]) (hyp y0 y1 y2 y3 y4 hi0 hl0 (by simpa [Lit.wf] using w1) (by simpa [Lit.wf] using w2) (by simpa [Lit.wf] using w3) (by simpa [Lit.wf] using w4)) rfl fun M hw hD i s u hs hu => ?_).mono fun e W' ⟨he, bel⟩ => ?_
  · match i with
    | 0 => simp at hs hu; subst hs; subst hu; exact hden0 M hw hD
    | 1 => simp at hs hu; subst hs; subst hu; exact Den.int _ _ .nil
    | 2 => simp at hs hu; subst hs; subst hu; exact Den.int _ _ .nil
    | 3 => simp at hs hu; subst hs; subst hu; exact Den.int _ _ .nil
    | 4 => simp at hs hu; subst hs; subst hu; exact Den.int _ _ .nil
    | i + 5 => simp at hs
  · subst he
    exact ⟨_, rfl, _, _, _, [], _, [], hW', trodAll_mk1 (shut_bool Try.underlying4 _), trodAll_cons_mk (Below.trod laidOut (by kernel_rfl) (of_decide_eq_true (by kernel_rfl)) k0 bel lt0) (trodAll_cons_mk (shut_int Try.underlying3 w1) (trodAll_cons_mk (shut_int Try.underlying3 w2) (trodAll_cons_mk (shut_int Try.underlying3 w3) (trodAll_cons_mk (shut_int Try.underlying3 w4) trodAll_mk0)))), rfl, bel.frame _, fun h => by cases h⟩
theorem ifixed_row (hyp : ifixedOK) : Rows.InflateFixedSaid :=
  OpenClaim.holds_of_wide 14 Try.f14 rfl rfl rfl rfl rfl rfl rfl ⟨rfl, rfl, rfl, rfl, rfl⟩ rfl rfl rfl rfl rfl (by kernel_rfl) Try.func14 (by kernel_rfl)
    (of_decide_eq_true (by kernel_rfl)) (by unfold Func.isWrapper; first | (rw [if_pos (by decide +kernel)]; kernel_rfl) | (rw [if_neg (by decide +kernel)]; exact ⟨rfl, rfl⟩))
    (fun os started H enc _ => ifixed_lifted hyp os started H enc)
end Go.L1
