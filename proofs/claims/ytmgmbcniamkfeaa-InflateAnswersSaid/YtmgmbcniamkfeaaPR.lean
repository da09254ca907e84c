/- Own work of the session: part PR of a proof that the program's functions do what the statement says (a symbolic executor, contracts of the functions, plain laws). -/
import Derived.Test.YtmgmbcniamkfeaaPD
import Derived.Test.YtmgmbcniamkfeaaPB
import Derived.Test.YtmgmbcniamkfeaaRows
import Derived.WalkKit
import Derived.ProofKit
import Derived.OpenShut
import Derived.ShutString
import Derived.ChangeOld
import Derived.SizedLaws
set_option linter.all false
-- L4Rows
namespace Go.L1
open Go Go.Sx Go.Proofs Go.Proofs.Ytmgmbcniamkfeaa
open Go.ChangeShapes Go.WideShapes Go.ChangeAt Go.RowKit
section
variable {w : World} {H : Type} {enc : TypeId × Value → H} {sp : Nat → Bool} {held : Bool}
theorem opens_bytes : Opens (T := T1) C1 Try.prog w enc sp held 38 (fun xs => [.ro (.bytes xs)]) (fun xs : List UInt8 => xs.length ≤ reachBytes) := by
  intro fuel cs x h hz
  have hel : Opens (T := T1) C1 Try.prog w enc sp held 5 (fun b : UInt8 => [.int .u8 b.toNat]) (fun _ => True) := by
    intro fuel cs x h hz
    obtain ⟨n, hn, hd⟩ := Opens.int (C := C1) (enc := enc) (sp := sp) (held := held) Try.underlying5 fuel cs x h hz
    refine ⟨UInt8.ofNat n.toNat, trivial, fun M hw hD => ?_⟩
    have := hd M hw hD
    have h2 : ((UInt8.ofNat n.toNat).toNat : Int) = n := by
      rw [min_u8, max_u8] at hn
      simp
      omega
    show Den C1 M [.int .u8 _] cs
    rw [h2]; exact this
  obtain ⟨ys, h1, h2⟩ := Opens.slice (C := C1) Try.underlying38 hel Row.bytes (fun _ => rfl) (fun _ _ => rfl) (fun _ => by kernel_rfl) (by decide +kernel) fuel cs x h hz
  have hb : Try.prog.bytesOf 5 = 1 := by kernel_rfl
  rw [hb] at h1
  exact ⟨ys, by simpa using h1.2, h2⟩
theorem opens_bytes2 : Opens (T := T1) C1 Try.prog w enc sp held 38 (fun xs => [.ro (.bytes xs)]) (fun xs : List UInt8 => (∀ x ∈ xs, True) ∧ xs.length * Try.prog.bytesOf 5 ≤ reachBytes) := by
  intro fuel cs x h hz
  obtain ⟨y, h1, h2⟩ := opens_bytes fuel cs x h hz
  have hb : Try.prog.bytesOf 5 = 1 := by kernel_rfl
  exact ⟨y, ⟨fun _ _ => trivial, by rw [hb]; omega⟩, h2⟩
end
theorem own : ownKnob Try.prog.godebug = none := by kernel_rfl
theorem laidOut : laidOutB Try.prog = true := by kernel_rfl
end Go.L1

-- L6Rows
namespace Go.L1
open Go Go.Sx Go.Proofs Go.Proofs.Ytmgmbcniamkfeaa
open Go.ChangeShapes Go.WideShapes Go.ChangeAt Go.RowKit
/-- What the law's function is shown to do. -/
def ianswersOK : Prop := ∀ (b : List UInt8) (lim : Int), (∀ x ∈ b, True) → b.length * 1 ≤ reachBytes → (IntKind.i64.min ≤ lim ∧ lim ≤ IntKind.i64.max) → FOK Try.prog C1 8 (fun _ => false) [.ro (.bytes b), .int .i64 lim] [] Yes
set_option maxRecDepth 100000 in
theorem ianswers_lifted (hyp : ianswersOK) (os : Os) (started : os.Started) (H : Type) (enc : TypeId × Value → H) :
    ReturnsInHanded {} Try.checked os 8 .any (Rows.inflateAnswersSpec.pre6 enc Try.prog Try.f8 Rows.inflateAnswersRow.domain false) (Rows.inflateAnswersSpec.post enc Try.prog Try.f8 false true false false) := by
  refine returnsInHanded_of_change_sized (C := Try.checked) own started (by kernel_rfl) Try.func8
    (ChangeSpec.witness6 (enc := enc) (C := Try.checked) false ⟨#[], #[.slice none 0 0, .int .i64 0], []⟩ 8 (by kernel_rfl) (by kernel_rfl) (by kernel_rfl) (by kernel_rfl)) ?_
  intro W base args ds gs before hval0 hW hcnd hsz0 _
  have hsz : (DataW.weightsEach Try.prog (Try.f8.params.toList ++ Rows.inflateAnswersSpec.plain.varTypes Try.prog) (ds ++ gs)).all (· ≤ reachBytes) = true := hsz0
  have hval : ∀ (j : Nat) t v, Try.f8.params[j]? = some t → args[j]? = some v → Value.okWide Try.prog W .any base t v := hval0
  have hW' := hW
  obtain ⟨p, q, hA0, hV, rfl, hfz, hnd⟩ := hW
  have hA : DataW.TrodAll enc Try.prog W 0 (fun _ => true) true Try.f8.params.toList args.toList ds p := hA0
  rw [Try.params8] at hA hval hsz
  obtain ⟨v0, vs0, d0, ds0, p0, q0, hargs, rfl, rfl, h0, r0⟩ := trodAll_cons hA
  obtain ⟨v1, vs1, d1, ds1, p1, q1, rfl, rfl, rfl, h1, r1⟩ := trodAll_cons r0
  obtain ⟨rfl, rfl, rfl⟩ := trodAll_nil r1
  obtain rfl : args = #[v0, v1] := by cases args; simp_all
  obtain ⟨rfl, rfl⟩ := trodVars_none hV
  obtain ⟨a0, len0, cap0, rfl⟩ := okWide_slice Try.underlying38 (hval 0 38 v0 rfl rfl)
  have k0 := h0
  have lt0 : ∀ x ∈ p0, x.block < W.heap.size := by obtain ⟨m, hm⟩ := k0; exact DataW.trod_lt m _ _ _ hm
  obtain ⟨y0, ⟨hi0, hl0⟩, hden0⟩ := opens_bytes2 _ _ _ h0.choose_spec (fun n hn => of_decide_eq_true (List.all_eq_true.1 hsz n (DataW.weights_mem_each (j := 0) rfl rfl n hn)))
  have hb0 : Try.prog.bytesOf 5 = 1 := by kernel_rfl
  rw [hb0] at hl0
  obtain ⟨y1, rfl, rfl, rfl, w1⟩ := open_int Try.underlying3 (hval 1 3 v1 rfl rfl) h1
  refine (law_calls (W := W) (vals := #[.slice a0 len0 cap0, .int .i64 y1]) (hyp y0 y1 hi0 hl0 (by simpa [Lit.wf] using w1)) rfl fun M hw hD i s u hs hu => ?_).mono fun e W' ⟨he, bel⟩ => ?_
  · match i with
    | 0 => simp at hs hu; subst hs; subst hu; exact hden0 M hw hD
    | 1 => simp at hs hu; subst hs; subst hu; exact Den.int _ _ .nil
    | i + 2 => simp at hs
  · subst he
    exact ⟨_, rfl, _, _, _, [], _, [], hW', trodAll_mk1 (shut_bool Try.underlying4 _), trodAll_cons_mk (Below.trod laidOut (by kernel_rfl) (of_decide_eq_true (by kernel_rfl)) k0 bel lt0) (trodAll_cons_mk (shut_int Try.underlying3 w1) trodAll_mk0), rfl, bel.frame _, fun h => by cases h⟩
theorem ianswers_row (hyp : ianswersOK) : Rows.InflateAnswersSaid :=
  OpenClaim.holds_of_wide 8 Try.f8 rfl rfl rfl rfl rfl rfl rfl ⟨rfl, rfl, rfl, rfl, rfl⟩ rfl rfl rfl rfl rfl (by kernel_rfl) Try.func8 (by kernel_rfl)
    (of_decide_eq_true (by kernel_rfl)) (by unfold Func.isWrapper; first | (rw [if_pos (by decide +kernel)]; kernel_rfl) | (rw [if_neg (by decide +kernel)]; exact ⟨rfl, rfl⟩))
    (fun os started H enc _ => ianswers_lifted hyp os started H enc)
end Go.L1
