/- Own work of the session: part PI of a proof that the program's functions do what the statement says (a symbolic executor, contracts of the functions, plain laws). -/
import Derived.Test.YtmgmbcniamkfeaaPH
import Derived.Test.YtmgmbcniamkfeaaPC
import Derived.Test.YtmgmbcniamkfeaaPG
import Derived.Test.YtmgmbcniamkfeaaPE
import Derived.Test.YtmgmbcniamkfeaaPF
set_option linter.all false
-- D16
namespace Go.L1
open Go Go.Sx Go.Proofs Go.Huff
set_option maxRecDepth 20000
set_option linter.unusedVariables false
set_option linter.unusedSimpArgs false
structure InfP (xs : List UInt8) (lim : Int) : Prop where
  l : xs.length ≤ 100000
  hi : lim ≤ 1048576
def InBk (xs : List UInt8) (lim : Int) (fr : List (SV T1)) (H : List (Ch T1)) : Prop :=
  (∃ L g : Int, L = max lim 0 ∧ fr = [.ro (.bytes xs), .int .i64 lim, .any, .any, .ptr 0 0, .ptr 1 0, .ptr 4 0, .ro (.bytes xs), .ptr 3 0, .int .i64 lim, .int .i64 L, .agg [.ptr 3 0, .int .i64 L, .val (.slice none 0 0), .int .i64 0, .int .i64 0, .int .i64 0], .ptr 4 0, .any, .any, .any, .any, .any, .any, .any, .any, .any, .any, .any, .any, .any, .any, .any, .any, .any, .any, .any] ∧
    H = [.cells 68 [.val (.slice none 0 0), .int .i64 0, .int .i64 0, .int .i64 0], .cells 28 [.int .i64 0], .gone, .cells 82 [.ro (.bytes xs), .int .i64 0], .cells 98 [.ptr 3 0, .int .i64 L, .val (.slice none 0 0), .int .i64 0, .int .i64 0, .int .i64 0]])
def InPE (xs : List UInt8) (lim : Int) (ch : List PanicEntry) (fr : List (SV T1)) (H : List (Ch T1)) : Prop :=
  nth fr 4 = some (.ptr 0 0) ∧ nth fr 5 = some (.ptr 1 0) ∧ (∃ e, inflR xs lim = .error e ∧ Flt e ch) ∧ H = [.cells 68 [.val (.slice none 0 0), .int .i64 0, .int .i64 0, .int .i64 0], .cells 28 [.int .i64 0], .gone, .gone, .gone, .gone]
def InfI (xs : List UInt8) (lim : Int) (w : Int × List UInt8 × Int × Int) : Prop :=
  SySt xs (max lim 0) w.1 w.2.1 w.2.2.1 ∧ BlkP w.1 w.2.2.2 ∧ ∃ f : Nat, (fuel : Int) ≤ f + w.1 ∧ blocksR xs (max lim 0) fuel 0 [] 0 0 = blocksR xs (max lim 0) f w.1 w.2.1 w.2.2.1 w.2.2.2
structure InfOK (xs : List UInt8) (lim : Int) (out : List UInt8) (used k b : Int) : Prop where
  e : inflR xs lim = .ok (out, used, k, b)
  bd : ∃ p, SySt xs (max lim 0) p out k ∧ used = (p + 7) / 8 ∧ 1 ≤ b ∧ b ≤ p
structure InfAt (xs : List UInt8) (lim L p : Int) (out : List UInt8) (k b : Int) : Prop where
  st : SySt xs L p out k
  bp : BlkP p b
  er : ∀ e, blockR xs L p out k = .error e → inflR xs lim = .error e
  nx : ∀ p' out' k', BlkIs xs L p out k false p' out' k' → InfI xs lim (p', out', k', b + 1) ∧ (8 * xs.length - p').toNat < (8 * xs.length - p).toNat
  fin : ∀ p' out' k', BlkIs xs L p out k true p' out' k' → InfOK xs lim out' ((p' + 7) / 8) k' (b + 1)
theorem infAt {xs : List UInt8} {lim p : Int} {out : List UInt8} {k b : Int} (hp : InfP xs lim) (hI : InfI xs lim (p, out, k, b)) : InfAt xs lim (max lim 0) p out k b := by
  obtain ⟨h1, h2, f, h3, h4⟩ := hI
  simp only at h1 h2 h3 h4
  have hl := h1.s.rd.hi
  have hxl := hp.l
  obtain ⟨g, rfl⟩ : ∃ g, f = g + 1 := ⟨f - 1, by unfold fuel at h3; omega⟩
  refine ⟨h1, h2, fun e he => ?_, fun p' out' k' hb => ⟨⟨hb.s, ⟨by have := h2.lo; simp only; omega, by have := h2.hi; have := hb.lt; simp only; omega⟩, g, by have := hb.lt; simp only; omega, ?_⟩, ?_⟩, fun p' out' k' hb => ?_⟩
  · unfold inflR
    rw [h4]
    simp only [blocksR, bind, Except.bind, he]
  · rw [h4]
    have := hb.e
    simp only [blocksR, bind, Except.bind, this]
    rfl
  · have := hb.lt
    have := hb.s.s.rd.hi
    omega
  · have := hb.e
    refine ⟨?_, p', hb.s, rfl, by have := h2.lo; omega, by have := h2.hi; have := hb.lt; omega⟩
    unfold inflR
    rw [h4]
    simp only [blocksR, bind, Except.bind, this, if_pos]
theorem infSt {xs : List UInt8} {lim : Int} (hp : InfP xs lim) : InfI xs lim (0, [], 0, 0) := by
  have h1 := hp.l
  have h2 := hp.hi
  refine ⟨⟨⟨⟨⟨by omega, by simp only; omega, by simp only; omega⟩, by simp only; omega⟩, h1⟩, ⟨by omega, by omega, by simp only [List.length_nil]; omega⟩, ⟨Int.le_refl _, Int.le_refl _⟩⟩, ⟨Int.le_refl _, Int.le_refl _⟩, fuel, by simp only; omega, rfl⟩
theorem usedE {A : Leaf} {xs : List UInt8} {p : Int} (hA : A = .std) (hs : InS xs p) : A.ar .quo .i64 (A.ar .add .i64 p 7) 8 = (p + 7) / 8 := by
  have h1 := hs.rd.rd.lo
  have h2 := hs.rd.hi
  have h3 := hs.l
  subst hA
  have e1 : Leaf.std.ar .add .i64 p 7 = p + 7 := add_i64 (by omega) (by omega)
  rw [e1]
  show IntKind.wrap .i64 ((p + 7).tdiv 8) = _
  rw [Int.tdiv_eq_ediv_of_nonneg (by omega)]
  exact l_conv_i64 (by omega) (by omega)
def InflIs (xs : List UInt8) (lim : Int) (rs : List (SV T1)) (H : List (Ch T1)) : Prop :=
  (∃ out used k b, InfOK xs lim out used k b ∧ rs = [.agg [.own 5, .int .i64 used, .int .i64 k, .int .i64 b], .int .i64 0] ∧ H = [.gone, .gone, .gone, .gone, .gone, .row 5 (.bytes out)]) ∨
  (∃ e, inflR xs lim = .error e ∧ rs = [.agg [.val (.slice none 0 0), .int .i64 0, .int .i64 0, .int .i64 0], .int .i64 e] ∧ H = [.gone, .gone, .gone, .gone, .gone, .gone])
theorem inv56 (vals : Array Value) (w : World) : (invoke (.fn (.func 56) vals) #[]).run Try.prog w = .ok (.enter 56 vals) w := by
  have hn : (Try.f56.name == "runtime.NumGoroutine") = false := by kernel_rfl
  have hn' : ¬ Try.f56.name = "runtime.NumGoroutine" := by simpa using hn
  have hb : ∃ c, Try.f56.body = some c := ⟨_, rfl⟩
  obtain ⟨c, hb⟩ := hb
  simp [invoke, callFunc, Try.func56, hn', hb]
theorem idle56 (vals : Array Value) (w : World) : CallsD Try.prog 56 vals .returning w fun e u' w' => (∃ v, e = .returned v) ∧ u' = .returning ∧ w' = w := by
  refine idle_of (d0 := 5) (d1 := 2) (d2 := 6) (d3 := 7) Try.func56 rfl rfl (fun ρ w => ?_) (fun ρ w => ?_) (fun ρ w => ?_) (fun a w h => ?_) ⟨rfl, rfl, rfl, rfl⟩ ⟨rfl, rfl, rfl, rfl⟩ (by decide)
  · simp [go_sem]
  · simp [go_sem]
  · simp [go_sem]
  · simp [go_sem, h, Act.eval] at h ⊢
    simp [go_sem, h, Act.eval]
    done
def ClH (e : Int) : List (Ch T1) := [.cells 68 [.val (.slice none 0 0), .int .i64 0, .int .i64 0, .int .i64 0], .cells 28 [.int .i64 e], .gone, .gone, .gone, .gone]
def ClP (e : Int) (rs : List (SV T1)) (H : List (Ch T1)) : Prop := rs = [] ∧ H = ClH e
theorem clo_fr {M : Mem} {v4 v5 : Value} {e : Int} {a : Act} (h4 : DenV C1 M (.ptr 0 0) v4) (h5 : DenV C1 M (.ptr 1 0) v5)
    (ha : a = ({ tmps := #[v4, v5] ++ Array.replicate 17 undef, defers := [] } : Act).put (some 5) (.iface 100 (.agg #[.int .i64 e]))) :
    FrOK C1 M ([.ptr 0 0, .ptr 1 0] ++ (anys 3 ++ (.iface 100 (.agg [.int .i64 e]) :: anys 13))) a := by
  have hs : a.tmps.size = 19 := by rw [ha, put_size]; simp
  have g0 : a.tmps.getD 0 undef = v4 := by
    rw [ha, put_getD (by decide)]
    simp [Array.getD_eq_getD_getElem?, Array.getElem?_append]
  have g1 : a.tmps.getD 1 undef = v5 := by
    rw [ha, put_getD (by decide)]
    simp [Array.getD_eq_getD_getElem?, Array.getElem?_append]
  have g5 : a.tmps.getD 5 undef = .iface 100 (.agg #[.int .i64 e]) := by rw [ha]; exact put_same (by simp)
  refine ⟨by rw [hs]; simp [anys_length], fun i s hi => ?_⟩
  rcases i with _ | _ | i
  · cases hi; rw [g0]; exact h4
  · cases hi; rw [g1]; exact h5
  · replace hi : (anys 3 ++ (.iface 100 (.agg [.int .i64 e]) :: anys 13))[i]? = some s := hi
    rcases i with _ | _ | _ | _ | i
    · cases hi; exact trivial
    · cases hi; exact trivial
    · cases hi; exact trivial
    · cases hi; rw [g5]; exact Den.ifaceA _ [.int .i64 e] [.int .i64 e] (.int _ _ .nil) .nil
    · replace hi : (anys (T := T1) 13)[i]? = some s := hi
      rw [anys_get _ _ _ hi]
      trivial
theorem clo_ok {E : Env} {M : Mem} {e : Int} {v4 v5 : Value} (hS : Sat C1 E M (ClH 0)) (hA : ∀ c, Nat.ble c 4 = false → E.A c = none) (h4 : DenV C1 M (.ptr 0 0) v4) (h5 : DenV C1 M (.ptr 1 0) v5) :
    CallsD Try.prog 56 #[v4, v5] (.panicking [{ v := .iface 100 (.agg #[.int .i64 e]), recovered := false }]) M.w
      fun x u' w' => u' = .panicking [{ v := .iface 100 (.agg #[.int .i64 e]), recovered := true }] ∧ (∃ v, x = .returned v) ∧ ∃ M', Sat C1 E M' (ClH e) ∧ M'.w = w' := by
  obtain ⟨X, hX⟩ : ∃ X : Ctx T1, X = ⟨Try.prog, C1, ⟨lookT tis, fun c => Nat.ble c 4, []⟩, E, Try.f56, 6, ClP e, fun _ _ _ => False, []⟩ := ⟨_, rfl⟩
  have F : Fits X Try.prog C1 ⟨lookT tis, fun c => Nat.ble c 4, []⟩ [] 6 (ClP e) := by
    subst hX
    exact ⟨rfl, rfl, rfl, rfl, rfl, rfl, ⟨tab1 _, zero1 _, cod1, hA, mix1⟩, fun c h hc => (hS.anch c h hc).1⟩
  have hPE : ∀ ch fr H, ¬ X.PE ch fr H := by subst hX; exact fun _ _ _ h => h
  have hfn : X.fn = Try.f56 := by subst hX; rfl
  have hds : X.ds = [] := by subst hX; rfl
  have hf : X.P.funcs[56]? = some X.fn := by subst hX; exact Try.func56
  have hS' : Sat X.C X.E M (ClH 0) := by subst hX; exact hS
  have hPo : X.Post = ClP e := F.Post
  have hC : X.C = C1 := F.C
  have hE : X.E = E := by subst hX; rfl
  have hP : X.P = Try.prog := F.P
  have hb : X.fn.body = Try.f56.body := by rw [hfn]
  have hH : Holds X [.code (.skip)] [] [] → True := fun _ => trivial
  refine hP ▸ CallsD.mono (callsD_rec (X := X) (fr := [.ptr 0 0, .ptr 1 0] ++ (anys 3 ++ (.iface 100 (.agg [.int .i64 e]) :: anys 13))) (H := ClH 0) (v := .iface 100 (.agg #[.int .i64 e]))
    (u1 := .panicking [{ v := .iface 100 (.agg #[.int .i64 e]), recovered := true }]) hf (hb.trans (show Try.f56.body = some _ from rfl)) (fun ρ w => ?_) rfl hds (fun c0 cs hu => ?_) ?_ hS' ?_) ?_
  · simp [go_sem]
  · simp [recoverD, hu]
  · clear hS hS' h4 h5 hX
    obtain ⟨A, hA⟩ : ∃ A, A = Leaf.std := ⟨_, rfl⟩
    refine F.hold hA 2000 ?_
    cbv
    repeat' (first
      | refine OK.drawn (by decide +kernel) ?_
      | refine OK.tree ⟨lookT tis, fun _ => true, []⟩ (by decide +kernel) ?_
      | refine OK.both ?_ ?_
      | refine OK.need (by first | assumption | (rw [hA]; first | (show (_ : Int) ≠ _; decide) | (show (0 : Int) ≤ _; decide) | (show (0 : Int) ≤ _ ∧ _ < (256 : Int); decide))) ?_
      | refine OK.need ?_ ?_
      | (refine OK.branch ?_ ?_ <;> intro h)
      | (refine F.hold hA 2000 ?_; cbv))
    all_goals exact F.ret (rs' := []) (H' := ClH e) (F.cv ⟨rfl⟩ (.nil _) (.eq rfl (.eq rfl (.gone (.gone (.gone (.gone (.nil _)))))))) rfl ⟨rfl, rfl⟩
  · rw [hC]
    exact clo_fr h4 h5 (by rw [hfn]; rfl)
  · rintro x u' w' ⟨hu, h⟩
    refine ⟨hu, ?_⟩
    cases x with
    | returned r =>
      obtain ⟨rs, H', M', h1, h2, h3, _⟩ := h
      rw [hPo] at h1
      obtain ⟨_, rfl⟩ := h1
      rw [hC, hE] at h2
      exact ⟨⟨_, rfl⟩, M', h2, h3⟩
    | panicked ch => obtain ⟨fr, H', M', h1, _⟩ := h; exact (hPE _ _ _ h1).elim
    | outgrown => exact h.elim
theorem inflate_ok (xs : List UInt8) (lim : Int) (hp : InfP xs lim) :
    FOK Try.prog C1 46 (fun _ => false) [.ro (.bytes xs), .int .i64 lim] []
    (InflIs xs lim) := by
  refine fokd_of (B := ⟨lookT tis, fun _ => false, []⟩) (B2 := ⟨lookT tis, fun c => Nat.ble c 4, [4, 5]⟩) (pre := [_, _]) (t := 13) (caps := [4, 5]) (g := 56) (Bk := InBk xs lim) (PE2 := InPE xs lim) (tab1 _) (zero1 _) (tab1 _) (zero1 _) cod1 mix1 Try.func46 (by kernel_rfl) rfl rfl rfl (fun _ h => nomatch h) inv56 (fun X F => ?_) ?_ ?_ (fun fr H1 hB X F hX => ?_) (fun vals w _ => idle56 vals w) ?_
  · obtain ⟨A, hA⟩ : ∃ A, A = Leaf.std := ⟨_, rfl⟩
    refine F.hold hA 2000 ?_
    cbv
    refine F.call [] (newReader_ok xs (by have := hp.l; omega)) rfl rfl rfl fun rs H' hq => ?_
    obtain ⟨rfl, rfl⟩ := hq
    refine ⟨rfl, ?_⟩
    repeat (first
      | refine OK.drawn (by decide +kernel) ?_
      | refine OK.tree ⟨lookT tis, fun _ => true, []⟩ (by decide +kernel) ?_
      | refine OK.need (by first | assumption | (rw [hA]; first | (show (_ : Int) ≠ _; decide) | (show (0 : Int) ≤ _; decide) | (show (0 : Int) ≤ _ ∧ _ < (256 : Int); decide))) ?_
      | (refine F.hold hA 2000 ?_; cbv))
    refine OK.back ⟨_, 0, ?_, rfl, rfl⟩
    subst hA
    show (if lim < 0 then 0 else lim) = max lim 0
    split <;> omega
  · rintro fr H1 ⟨L, g, _, rfl, _⟩
    exact Nat.le_of_ble_eq_true rfl
  · intro Q a w ht h
    refine wp_region_list ?_
    simp [wpList, go_sem, Region.wanted, ht]
    simp [capV, Act.put] at h
    exact .inl (.inl h)
  · obtain ⟨L, g, hL, rfl, rfl⟩ := hB
    obtain ⟨A, hA⟩ : ∃ A, A = Leaf.std := ⟨_, rfl⟩
    refine F.hold hA 2000 ?_
    cbv
    refine OK.loopCv (Cv.adoptIn F.cod 4 2 5 (ek := .byte) rfl rfl rfl) ?_
    refine F.loop (V := Int × List UInt8 × Int × Int) [4, 5, 6] (InfI xs lim) (fun w => (8 * xs.length - w.1).toNat) (fun w => []) (fun w => [(3, .cells 82 [.ro (.bytes xs), .int .i64 w.1]), (4, .cells 98 [.ptr 3 0, .int .i64 L, .own 5, .int .i64 0, .int .i64 w.2.2.1, .int .i64 w.2.2.2]), (5, .row 5 (.bytes w.2.1))]) (_, _, _, _) (by cbv; repeat (first | exact WkH.nil _ | apply WkH.gone | refine WkH.eq rfl ?_)) (by cbv; repeat (first | apply WkL.any | exact WkL.nil _ | refine WkL.eq rfl ?_ | refine WkL.bool rfl ?_)) (by cbv; exact ⟨rfl⟩) ?_ ?_
    · exact infSt hp
    rintro ⟨p, out, k, b⟩ hI Bk hBk
    have hat := infAt hp hI
    rw [← hL] at hat
    repeat (first
      | refine OK.drawn (by decide +kernel) ?_
      | refine OK.tree ⟨lookT tis, fun _ => true, []⟩ (by decide +kernel) ?_
      | refine OK.need (by first | assumption | (rw [hA]; first | (show (_ : Int) ≠ _; decide) | (show (0 : Int) ≤ _; decide) | (show (0 : Int) ≤ _ ∧ _ < (256 : Int); decide))) ?_
      | (refine F.hold hA 2000 ?_; cbv))
    refine F.callp [4, 3, 5] (block_ok6 xs out L 0 k b p hat.st hat.bp) rfl rfl rfl (fun ch hch => ?_) (fun rs H' hq => ?_)
    · rw [hX]
      obtain ⟨e, he, hf⟩ := hch
      exact ⟨rfl, rfl, ⟨e, hat.er e he, hf⟩, rfl⟩
    obtain ⟨last, p', out', k', b', rfl, rfl, h1, hb'⟩ := hq
    refine ⟨rfl, ?_⟩
    repeat (first
      | refine OK.drawn (by decide +kernel) ?_
      | refine OK.tree ⟨lookT tis, fun _ => true, []⟩ (by decide +kernel) ?_
      | refine OK.need (by first | assumption | (rw [hA]; first | (show (_ : Int) ≠ _; decide) | (show (0 : Int) ≤ _; decide) | (show (0 : Int) ≤ _ ∧ _ < (256 : Int); decide))) ?_
      | (refine F.hold hA 2000 ?_; cbv))
    refine OK.branch (fun b1 => ?_) (fun b1 => ?_)
    · have hnx := hat.nx p' out' k' (by have e : last = false := (by subst hA; cases last <;> first | rfl | cases b1); subst e; exact h1)
      rw [← hb'] at hnx
      repeat (first
        | refine OK.drawn (by decide +kernel) ?_
        | refine OK.tree ⟨lookT tis, fun _ => true, []⟩ (by decide +kernel) ?_
        | refine OK.need (by first | assumption | (rw [hA]; first | (show (_ : Int) ≠ _; decide) | (show (0 : Int) ≤ _; decide) | (show (0 : Int) ≤ _ ∧ _ < (256 : Int); decide))) ?_
        | (refine F.hold hA 2000 ?_; cbv))
      refine OK.back (hBk _ _ (_, _, _, _) (by cbv; repeat (first | exact WkH.nil _ | apply WkH.gone | refine WkH.eq rfl ?_)) (by cbv; repeat (first | apply WkL.any | exact WkL.nil _ | refine WkL.eq rfl ?_ | refine WkL.bool rfl ?_)) (by cbv; exact ⟨rfl⟩) ?_ ?_)
      · exact hnx.1
      · exact hnx.2
    · have hfin := hat.fin p' out' k' (by have e : last = true := (by subst hA; cases last <;> first | rfl | cases b1); subst e; exact h1)
      rw [← hb'] at hfin
      have eu := usedE hA (h1.s.s)
      rw [← eu] at hfin
      repeat (first
        | refine OK.drawn (by decide +kernel) ?_
        | refine OK.tree ⟨lookT tis, fun _ => true, []⟩ (by decide +kernel) ?_
        | refine OK.need (by first | assumption | (rw [hA]; first | (show (_ : Int) ≠ _; decide) | (show (0 : Int) ≤ _; decide) | (show (0 : Int) ≤ _ ∧ _ < (256 : Int); decide))) ?_
        | (refine F.hold hA 2000 ?_; cbv))
      refine F.call [3] (at_ok xs p') rfl rfl rfl fun rs H' hq => ?_
      obtain ⟨rfl, rfl⟩ := hq
      refine ⟨rfl, ?_⟩
      repeat (first
        | refine OK.drawn (by decide +kernel) ?_
        | refine OK.tree ⟨lookT tis, fun _ => true, []⟩ (by decide +kernel) ?_
        | refine OK.need (by first | assumption | (rw [hA]; first | (show (_ : Int) ≠ _; decide) | (show (0 : Int) ≤ _; decide) | (show (0 : Int) ≤ _ ∧ _ < (256 : Int); decide))) ?_
        | (refine F.hold hA 2000 ?_; cbv))
      exact F.ret (rs' := [_, _]) (H' := [.gone, .gone, .gone, .gone, .gone, _]) (F.cv ⟨rfl⟩ (.eq rfl (.eq rfl (.nil _))) (.gone (.gone (.gone (.gone (.gone (.eq rfl (.nil _)))))))) rfl (.inl ⟨_, _, _, _, hfin, rfl, rfl⟩)
  · rintro fr1 H1 hB E M1 M fr H' ch a a1 ⟨hf4, hf5, ⟨e, he, hch⟩, rfl⟩ hF1 hA1 hA2 hS hkp
    obtain ⟨L, g, hL, rfl, rfl⟩ := hB
    have h4 : DenV C1 M (.ptr 0 0) (a1.tmps.getD 4 undef) := ptr_anch (hF1.2 4 (.ptr 0 0) rfl) (hA2 0 (Nat.le_of_ble_eq_true rfl) rfl) hS
    have h5 : DenV C1 M (.ptr 1 0) (a1.tmps.getD 5 undef) := ptr_anch (hF1.2 5 (.ptr 1 0) rfl) (hA2 1 (Nat.le_of_ble_eq_true rfl) rfl) hS
    have k4 : DenV C1 M (.ptr 0 0) (a.tmps.getD 4 undef) := hkp 4 (by decide) _ (by rw [← nth_eq]; exact hf4)
    have k5 : DenV C1 M (.ptr 1 0) (a.tmps.getD 5 undef) := hkp 5 (by decide) _ (by rw [← nth_eq]; exact hf5)
    have a0 : E.A 0 = some (M.ρ 0) := hS.anchor (hA2 0 (Nat.le_of_ble_eq_true rfl) rfl)
    have a1' : E.A 1 = some (M.ρ 1) := hS.anchor (hA2 1 (Nat.le_of_ble_eq_true rfl) rfl)
    rw [hch]
    refine (clo_ok (e := e) hS hA1 h4 h5).mono ?_
    rintro x u' w' ⟨rfl, hx, M', hS', rfl⟩
    refine ⟨hx, rfl, ?_⟩
    obtain ⟨X, hX⟩ : ∃ X : Ctx T1, X = ⟨Try.prog, C1, ⟨lookT tis, fun c => Nat.ble c 4, []⟩, E, Try.f46, 6, InflIs xs lim, fun _ _ _ => False, []⟩ := ⟨_, rfl⟩
    have F : Fits X Try.prog C1 ⟨lookT tis, fun c => Nat.ble c 4, []⟩ Try.f46.results.toList 6 (InflIs xs lim) := by
      subst hX
      exact ⟨rfl, rfl, rfl, rfl, rfl, rfl, ⟨tab1 _, zero1 _, cod1, hA1, mix1⟩, fun c h hc => (hS'.anch c h hc).1⟩
    obtain ⟨_, v, rs, H', M'', h6, h7, h8, h9, h10⟩ : QK X [] .ret { tmps := a.tmps, defers := [] } M'.w := by
      refine ret_ok (H := ClH e) (fr := [.any, .any, .any, .any, .ptr 0 0, .ptr 1 0]) (rs := [.agg [.val (.slice none 0 0), .int .i64 0, .int .i64 0, .int .i64 0], .int .i64 e]) F.giv ?_ ⟨[.agg [.val (.slice none 0 0), .int .i64 0, .int .i64 0, .int .i64 0], .int .i64 e], [.gone, .gone, .gone, .gone, .gone, .gone], rfl, F.cv ⟨rfl⟩ (.eq rfl (.eq rfl (.nil _))) (.gone (.gone (.gone (.gone (.gone (.gone (.nil _))))))), ?_⟩ ?_ ?_ ?_
      · subst hX; rfl
      · rw [F.Post]; exact .inr ⟨e, he, rfl, rfl⟩
      · subst hX; exact hS'
      · rw [F.C]
        refine ⟨?_, fun i s hi => ?_⟩
        · have := ptr_lt k5
          show 6 ≤ a.tmps.size
          omega
        · rcases i with _ | _ | _ | _ | _ | _ | i
          · cases hi; exact trivial
          · cases hi; exact trivial
          · cases hi; exact trivial
          · cases hi; exact trivial
          · cases hi; exact ptr_anch k4 a0 hS'
          · cases hi; exact ptr_anch k5 a1' hS'
          · cases hi
      · subst hX; rfl
    subst hX
    exact ⟨v, by rw [← h7] at h6 ⊢; exact h6, rs, H', M'', h8, h9, h7, h10⟩
end Go.L1

-- D17
namespace Go.L1
open Go Go.Sx Go.Proofs Go.Huff
set_option maxRecDepth 20000
set_option linter.unusedVariables false
set_option linter.unusedSimpArgs false
theorem al1 : inflR [75, 4, 0] 9 = .ok ([97], 3, 2, 1) := by kernel_rfl
theorem al2 : inflR [1, 2, 0, 253, 255, 7, 8, 99] 2 = .ok ([7, 8], 7, 2, 1) := by kernel_rfl
theorem al3 : inflR [1, 2, 0, 253, 255, 7, 8] 1 = .error 14 := by kernel_rfl
theorem al4 : inflR [7] 1 = .error 10 := by kernel_rfl
theorem al5 : lenR 270 = .ok (23, 2) := by kernel_rfl
theorem al6 : distR 29 = .ok (24577, 13) := by kernel_rfl
def Infd (xs : List UInt8) (lim : Int) (out : List UInt8) (used k b : Int) (rs : List (SV T1)) (H : List (Ch T1)) : Prop := rs = [.agg [.own 5, .int .i64 used, .int .i64 k, .int .i64 b], .int .i64 0] ∧ H = [.gone, .gone, .gone, .gone, .gone, .row 5 (.bytes out)]
def InfE (e : Int) (rs : List (SV T1)) (H : List (Ch T1)) : Prop := rs = [.agg [.val (.slice none 0 0), .int .i64 0, .int .i64 0, .int .i64 0], .int .i64 e] ∧ H = [.gone, .gone, .gone, .gone, .gone, .gone]
theorem InflIs.isOk {xs : List UInt8} {lim : Int} {out : List UInt8} {used k b : Int} {rs : List (SV T1)} {H : List (Ch T1)} (h : InflIs xs lim rs H) (he : inflR xs lim = .ok (out, used, k, b)) : Infd xs lim out used k b rs H := by
  rcases h with ⟨out', used', k', b', h1, h2, h3⟩ | ⟨e, h1, _⟩
  · have := h1.e
    rw [he] at this
    cases this
    exact ⟨h2, h3⟩
  · rw [he] at h1; cases h1
theorem InflIs.isErr {xs : List UInt8} {lim e : Int} {rs : List (SV T1)} {H : List (Ch T1)} (h : InflIs xs lim rs H) (he : inflR xs lim = .error e) : InfE e rs H := by
  rcases h with ⟨out', used', k', b', h1, h2, h3⟩ | ⟨e', h1, h2⟩
  · have := h1.e
    rw [he] at this
    cases this
  · rw [he] at h1
    cases h1
    exact h2
theorem al_len {base extra : Int} {ok : Bool} (h : LngIs 270 base extra ok) : base = 23 ∧ extra = 2 ∧ ok = true := by
  rcases h with ⟨h1, h2, _, _, _, h⟩ | ⟨_, _, _, h⟩
  · rw [al5] at h
    simp only [Except.ok.injEq, Prod.mk.injEq] at h
    exact ⟨h.1.symm, by omega, h1⟩
  · rw [al5] at h; cases h
theorem al_dist {base extra : Int} {ok : Bool} (h : DstIs 29 base extra ok) : base = 24577 ∧ extra = 13 ∧ ok = true := by
  rcases h with ⟨h1, h2, _, _, _, h⟩ | ⟨_, _, _, h⟩
  · rw [al6] at h
    simp only [Except.ok.injEq, Prod.mk.injEq] at h
    exact ⟨h.1.symm, by omega, h1⟩
  · rw [al6] at h; cases h
theorem isb_lit {A : Leaf} {n : Int} (hA : A = .std) (h : decide (0 ≤ n ∧ n < 256) = true) : A.isB n := by subst hA; exact of_decide_eq_true (p := 0 ≤ n ∧ n < 256) h
theorem eql_self {A : Leaf} {n : Int} (hA : A = .std) (h : A.cmp .eql n n = false) : False := by
  subst hA
  have h : (n == n) = false := h
  simp at h
theorem isb2 {p q : Prop} (hp : p) (hq : q) : p ∧ q := ⟨hp, hq⟩
set_option maxHeartbeats 4000000 in
theorem alive6_ok : FOK Try.prog C1 36 (fun _ => false) [] [] (fun rs H => ∃ b, rs = [.bool (.e b)] ∧ H = [] ∧ b = true) := by
  refine fok_of (B := ⟨lookT tis, fun _ => false, []⟩) (tab1 _) (zero1 _) cod1 mix1 Try.func36 (by kernel_rfl) rfl rfl rfl fun X F => ?_
  obtain ⟨A, hA⟩ : ∃ A, A = Leaf.std := ⟨_, rfl⟩
  refine F.hold hA 2000 ?_
  cbv
  repeat' (first
    | refine OK.drawn (by decide +kernel) ?_
    | refine OK.tree ⟨lookT tis, fun _ => true, []⟩ (by decide +kernel) ?_
    | refine OK.both ?_ ?_
    | refine OK.need (by first | assumption | (rw [hA]; first | (show (_ : Int) ≠ _; decide) | (show (0 : Int) ≤ _; decide) | (show (0 : Int) ≤ _ ∧ _ < (256 : Int); decide))) ?_
    | refine OK.need ?_ ?_
    | (refine OK.branch ?_ ?_ <;> intro h)
    | (refine F.hold hA 2000 ?_; cbv))
  · repeat' with_reducible apply isb2
    all_goals exact isb_lit hA (by decide)
  refine F.callFrz 0 rfl rfl rfl rfl ?_
  refine F.call [] (inflate_ok [_, _, _] 9 ⟨Nat.le_of_ble_eq_true rfl, by decide⟩) rfl rfl rfl fun rs H' hq => ?_
  obtain ⟨rfl, rfl⟩ := hq.isOk (by subst hA; exact al1)
  refine ⟨rfl, ?_⟩
  clear hq
  repeat' (first
    | refine OK.drawn (by decide +kernel) ?_
    | refine OK.tree ⟨lookT tis, fun _ => true, []⟩ (by decide +kernel) ?_
    | refine OK.both ?_ ?_
    | refine OK.need (by first | assumption | (rw [hA]; first | (show (_ : Int) ≠ _; decide) | (show (0 : Int) ≤ _; decide) | (show (0 : Int) ≤ _ ∧ _ < (256 : Int); decide))) ?_
    | refine OK.need ?_ ?_
    | (refine OK.branch ?_ ?_ <;> intro h)
    | (refine F.hold hA 2000 ?_; cbv))
  · repeat' with_reducible apply isb2
    all_goals exact isb_lit hA (by decide)
  refine F.callFrz 8 rfl rfl rfl rfl ?_
  refine F.call [] (inflate_ok [_, _, _, _, _, _, _, _] 2 ⟨Nat.le_of_ble_eq_true rfl, by decide⟩) rfl rfl rfl fun rs H' hq => ?_
  obtain ⟨rfl, rfl⟩ := hq.isOk (by subst hA; exact al2)
  refine ⟨rfl, ?_⟩
  clear hq
  repeat' (first
    | refine OK.drawn (by decide +kernel) ?_
    | refine OK.tree ⟨lookT tis, fun _ => true, []⟩ (by decide +kernel) ?_
    | refine OK.both ?_ ?_
    | refine OK.need (by first | assumption | (rw [hA]; first | (show (_ : Int) ≠ _; decide) | (show (0 : Int) ≤ _; decide) | (show (0 : Int) ≤ _ ∧ _ < (256 : Int); decide))) ?_
    | refine OK.need ?_ ?_
    | (refine OK.branch ?_ ?_ <;> intro h)
    | (refine F.hold hA 2000 ?_; cbv))
  · repeat' with_reducible apply isb2
    all_goals exact isb_lit hA (by decide)
  refine F.callFrz 16 rfl rfl rfl rfl ?_
  refine F.call [] (inflate_ok [_, _, _, _, _, _, _] 1 ⟨Nat.le_of_ble_eq_true rfl, by decide⟩) rfl rfl rfl fun rs H' hq => ?_
  obtain ⟨rfl, rfl⟩ := hq.isErr (by subst hA; exact al3)
  refine ⟨rfl, ?_⟩
  clear hq
  repeat' (first
    | refine OK.drawn (by decide +kernel) ?_
    | refine OK.tree ⟨lookT tis, fun _ => true, []⟩ (by decide +kernel) ?_
    | refine OK.both ?_ ?_
    | refine OK.need (by first | assumption | (rw [hA]; first | (show (_ : Int) ≠ _; decide) | (show (0 : Int) ≤ _; decide) | (show (0 : Int) ≤ _ ∧ _ < (256 : Int); decide))) ?_
    | refine OK.need ?_ ?_
    | (refine OK.branch ?_ ?_ <;> intro h)
    | (refine F.hold hA 2000 ?_; cbv))
  refine F.callFrz 24 rfl rfl rfl rfl ?_
  refine F.call [] (inflate_ok [_] 1 ⟨Nat.le_of_ble_eq_true rfl, by decide⟩) rfl rfl rfl fun rs H' hq => ?_
  obtain ⟨rfl, rfl⟩ := hq.isErr (by subst hA; exact al4)
  refine ⟨rfl, ?_⟩
  clear hq
  repeat' (first
    | refine OK.drawn (by decide +kernel) ?_
    | refine OK.tree ⟨lookT tis, fun _ => true, []⟩ (by decide +kernel) ?_
    | refine OK.both ?_ ?_
    | refine OK.need (by first | assumption | (rw [hA]; first | (show (_ : Int) ≠ _; decide) | (show (0 : Int) ≤ _; decide) | (show (0 : Int) ≤ _ ∧ _ < (256 : Int); decide))) ?_
    | refine OK.need ?_ ?_
    | (refine OK.branch ?_ ?_ <;> intro h)
    | (refine F.hold hA 2000 ?_; cbv))
  refine F.call [] (length_ok 270) rfl rfl rfl fun rs H' hq => ?_
  obtain ⟨base, extra, ok, rfl, rfl, hr⟩ := hq
  refine ⟨rfl, ?_⟩
  obtain ⟨rfl, rfl, rfl⟩ := al_len hr
  clear hr
  repeat' (first
    | refine OK.drawn (by decide +kernel) ?_
    | refine OK.tree ⟨lookT tis, fun _ => true, []⟩ (by decide +kernel) ?_
    | refine OK.both ?_ ?_
    | refine OK.need (by first | assumption | (rw [hA]; first | (show (_ : Int) ≠ _; decide) | (show (0 : Int) ≤ _; decide) | (show (0 : Int) ≤ _ ∧ _ < (256 : Int); decide))) ?_
    | refine OK.need ?_ ?_
    | (refine OK.branch ?_ ?_ <;> intro h)
    | (refine F.hold hA 2000 ?_; cbv))
  refine F.call [] (distance_ok 29) rfl rfl rfl fun rs H' hq => ?_
  obtain ⟨base, extra, ok, rfl, rfl, hr⟩ := hq
  refine ⟨rfl, ?_⟩
  obtain ⟨rfl, rfl, rfl⟩ := al_dist hr
  clear hr
  repeat' (first
    | contradiction
    | exact (eql_self hA (by assumption)).elim
    | refine OK.drawn (by decide +kernel) ?_
    | refine OK.tree ⟨lookT tis, fun _ => true, []⟩ (by decide +kernel) ?_
    | refine OK.both ?_ ?_
    | refine OK.need (by first | assumption | (rw [hA]; first | (show (_ : Int) ≠ _; decide) | (show (0 : Int) ≤ _; decide) | (show (0 : Int) ≤ _ ∧ _ < (256 : Int); decide))) ?_
    | refine OK.need ?_ ?_
    | (refine OK.branch ?_ ?_ <;> intro h)
    | (refine F.hold hA 2000 ?_; cbv))
  refine F.callFrz 6 rfl rfl rfl rfl ?_
  refine F.call [] (same_ok _ _ (Nat.le_of_ble_eq_true rfl)) rfl rfl rfl fun rs H' hq => ?_
  obtain ⟨r, rfl, rfl, hr⟩ := hq
  obtain rfl : r = true := hr.2 (by subst hA; kernel_rfl)
  refine ⟨rfl, ?_⟩
  clear hr
  repeat' (first
    | contradiction
    | exact (eql_self hA (by assumption)).elim
    | refine OK.drawn (by decide +kernel) ?_
    | refine OK.tree ⟨lookT tis, fun _ => true, []⟩ (by decide +kernel) ?_
    | refine OK.both ?_ ?_
    | refine OK.need (by first | assumption | (rw [hA]; first | (show (_ : Int) ≠ _; decide) | (show (0 : Int) ≤ _; decide) | (show (0 : Int) ≤ _ ∧ _ < (256 : Int); decide))) ?_
    | refine OK.need ?_ ?_
    | (refine OK.branch ?_ ?_ <;> intro h)
    | (refine F.hold hA 2000 ?_; cbv))
  · repeat' with_reducible apply isb2
    all_goals exact isb_lit hA (by decide)
  refine F.callFrz 14 rfl rfl rfl rfl ?_
  refine F.callFrz 33 rfl rfl rfl rfl ?_
  refine F.call [] (same_ok _ _ (Nat.le_of_ble_eq_true rfl)) rfl rfl rfl fun rs H' hq => ?_
  obtain ⟨r, rfl, rfl, hr⟩ := hq
  obtain rfl : r = true := hr.2 (by subst hA; kernel_rfl)
  refine ⟨rfl, ?_⟩
  clear hr
  repeat' (first
    | contradiction
    | exact (eql_self hA (by assumption)).elim
    | refine OK.drawn (by decide +kernel) ?_
    | refine OK.tree ⟨lookT tis, fun _ => true, []⟩ (by decide +kernel) ?_
    | refine OK.both ?_ ?_
    | refine OK.need (by first | assumption | (rw [hA]; first | (show (_ : Int) ≠ _; decide) | (show (0 : Int) ≤ _; decide) | (show (0 : Int) ≤ _ ∧ _ < (256 : Int); decide))) ?_
    | refine OK.need ?_ ?_
    | (refine OK.branch ?_ ?_ <;> intro h)
    | (refine F.hold hA 2000 ?_; cbv))
  exact F.ret (H' := []) (F.cv ⟨rfl⟩ (.eq rfl (.nil _)) (.nil _)) rfl ⟨_, rfl, rfl, by subst hA; rfl⟩
end Go.L1

-- H9
namespace Go.L1
open Go Go.Sx Go.Proofs Go.Huff
set_option linter.unusedVariables false
set_option linter.unusedSimpArgs false
set_option maxRecDepth 4000
theorem symR_hit {ls : List Int} {xs : List UInt8} {p : Int} {s : Nat} (hi : InB ls) (h : Hit ls (bitsV xs p) (leftN xs p) s) : symR ls xs p = .ok ((s : Int), p + (len ls s : Nat)) := by
  have h3 := symR_is ls xs p
  cases hr : symR ls xs p with
  | ok x =>
    obtain ⟨s2, p2⟩ := x
    rw [hr] at h3
    obtain ⟨m, h4, h5⟩ := h3
    obtain ⟨h6, h7, _⟩ := NextIs.uniq hi h4 (.inl ⟨rfl, s, h, rfl, rfl⟩)
    rw [h5, h6, h7]
  | error e =>
    rw [hr] at h3
    exact absurd (NextIs.uniq hi h3.1 (.inl ⟨rfl, s, h, rfl, rfl⟩)).2.2 h3.2
theorem num_nn {xs : List UInt8} {p : Int} {n : Nat} {v p' : Int} (h : numR xs p n = .ok (v, p')) : 0 ≤ v ∧ p' = p + n ∧ p' ≤ 8 * xs.length := by
  unfold numR at h
  split at h
  · cases h
    exact ⟨Int.natCast_nonneg _, rfl, by omega⟩
  · cases h
end Go.L1

-- H10
namespace Go.L1
open Go Go.Sx Go.Proofs Go.Huff
set_option linter.unusedVariables false
set_option linter.unusedSimpArgs false
set_option maxRecDepth 4000
end Go.L1

-- H11
namespace Go.L1
open Go Go.Sx Go.Proofs Go.Huff
set_option linter.unusedVariables false
set_option linter.unusedSimpArgs false
set_option maxRecDepth 4000
theorem sym_fwd {ls : List Int} {xs : List UInt8} {p s p' : Int} (h : symR ls xs p = .ok (s, p')) (h0 : p ≤ 8 * xs.length) (h1 : 0 ≤ p) : p < p' ∧ p' ≤ 8 * xs.length := by
  have h3 := symR_is ls xs p
  rw [h] at h3
  obtain ⟨m, h4, h5⟩ := h3
  rcases h4 with ⟨_, t, ht, rfl, rfl⟩ | ⟨_, _, _, h | h⟩
  case inr.inl => exact absurd h.1 (by decide)
  case inr.inr => exact absurd h.1 (by decide)
  have a1 := ht.2.1
  have a2 := ht.2.2.1
  unfold leftN at a2
  omega
theorem back_fwd {other : List Int} {xs : List UInt8} {lim s p p' : Int} {out out' : List UInt8} (h : backR other xs lim s p out = .ok (p', out')) (h0 : 0 ≤ p) (h1 : p ≤ 8 * xs.length) : p ≤ p' ∧ p' ≤ 8 * xs.length := by
  unfold backR at h
  obtain ⟨⟨base, e⟩, _, h⟩ := er_bind.1 h
  obtain ⟨⟨x, p1⟩, a1, h⟩ := er_bind.1 h
  obtain ⟨⟨d, p2⟩, a2, h⟩ := er_bind.1 h
  obtain ⟨⟨far, e2⟩, _, h⟩ := er_bind.1 h
  obtain ⟨⟨y, p3⟩, a3, h⟩ := er_bind.1 h
  simp only at h a1 a2 a3
  split at h
  case isFalse => cases h
  obtain ⟨_, _, h⟩ := er_bind.1 h
  simp only [Except.ok.injEq, Prod.mk.injEq] at h
  obtain ⟨rfl, _⟩ := h
  have b1 := num_nn a1
  have b2 := sym_fwd a2 b1.2.2 (by omega)
  have b3 := num_nn a3
  omega
theorem syms_fwd {first other : List Int} {xs : List UInt8} {lim : Int} : ∀ {f : Nat} {p : Int} {out : List UInt8} {n p' : Int} {out' : List UInt8} {n' : Int} (h0 : 0 ≤ p) (h1 : p ≤ 8 * xs.length) (h : symsR first other xs lim f p out n = .ok (p', out', n')), p ≤ p' ∧ p' ≤ 8 * xs.length
  | 0, p, out, n, p', out', n', h0, h1, h => by cases h
  | f + 1, p, out, n, p', out', n', h0, h1, h => by
    unfold symsR at h
    obtain ⟨⟨s, p1⟩, a1, h⟩ := er_bind.1 h
    have b1 := sym_fwd a1 h1 h0
    simp only at h
    split at h
    · simp only [Except.ok.injEq, Prod.mk.injEq] at h
      omega
    split at h
    · obtain ⟨_, _, h⟩ := er_bind.1 h
      have := syms_fwd (by omega) b1.2 h
      omega
    · obtain ⟨⟨p2, out2⟩, a2, h⟩ := er_bind.1 h
      have b2 := back_fwd a2 (by omega) b1.2
      have := syms_fwd (by omega) b2.2 h
      omega
theorem item_fwd {ls : List Int} {xs : List UInt8} {p hv p' : Int} {x : Int × Int} {h' : Int} (h : itemR ls xs p hv = .ok (p', x, h')) (h0 : 0 ≤ p) (h1 : p ≤ 8 * xs.length) : p < p' ∧ p' ≤ 8 * xs.length := by
  unfold itemR at h
  obtain ⟨⟨s, p1⟩, a1, h⟩ := er_bind.1 h
  have b1 := sym_fwd a1 h1 h0
  simp only at h
  split at h
  · obtain ⟨⟨y, p2⟩, a2, h⟩ := er_bind.1 h
    have b2 := num_nn a2
    simp only at h
    split at h
    · simp only [Except.ok.injEq, Prod.mk.injEq] at h; omega
    · cases h
  split at h
  · obtain ⟨⟨y, p2⟩, a2, h⟩ := er_bind.1 h
    have b2 := num_nn a2
    simp only [Except.ok.injEq, Prod.mk.injEq] at h; omega
  split at h
  · obtain ⟨⟨y, p2⟩, a2, h⟩ := er_bind.1 h
    have b2 := num_nn a2
    simp only [Except.ok.injEq, Prod.mk.injEq] at h; omega
  · simp only [Except.ok.injEq, Prod.mk.injEq] at h; omega
theorem items_fwd {ls : List Int} {xs : List UInt8} {n : Int} : ∀ {f : Nat} {p : Int} {its : List (Int × Int)} {hv p' : Int} {its' : List (Int × Int)} {h' : Int} (h0 : 0 ≤ p) (h1 : p ≤ 8 * xs.length) (h : itemsR ls xs n f p its hv = .ok (p', its', h')), p ≤ p' ∧ p' ≤ 8 * xs.length
  | 0, p, its, hv, p', its', h', h0, h1, h => by cases h
  | f + 1, p, its, hv, p', its', h', h0, h1, h => by
    unfold itemsR at h
    split at h
    · obtain ⟨⟨p1, x, h2⟩, a1, h⟩ := er_bind.1 h
      have b1 := item_fwd a1 h0 h1
      have := items_fwd (by omega) b1.2 h
      omega
    · simp only [Except.ok.injEq, Prod.mk.injEq] at h; omega
theorem own_fwd {xs : List UInt8} : ∀ {l : List Nat} {p : Int} {own : List Int} {p' : Int} {own' : List Int} (h1 : p ≤ 8 * xs.length) (h : ownR xs l p own = .ok (p', own')), p ≤ p' ∧ p' ≤ 8 * xs.length
  | [], p, own, p', own', h1, h => by simp only [ownR, Except.ok.injEq, Prod.mk.injEq] at h; omega
  | i :: l, p, own, p', own', h1, h => by
    unfold ownR at h
    obtain ⟨⟨x, p1⟩, a1, h⟩ := er_bind.1 h
    have b1 := num_nn a1
    have := own_fwd b1.2.2 h
    omega
theorem rows_fwd {ls : List Int} {xs : List UInt8} {n p p' : Int} {all : List Int} (h : rowsR ls xs n p = .ok (p', all)) (h0 : 0 ≤ p) (h1 : p ≤ 8 * xs.length) : p ≤ p' ∧ p' ≤ 8 * xs.length := by
  unfold rowsR at h
  obtain ⟨⟨p1, its, h2⟩, a1, h⟩ := er_bind.1 h
  have b1 := items_fwd h0 h1 a1
  simp only at h
  split at h
  case isFalse => cases h
  split at h
  · simp only [Except.ok.injEq, Prod.mk.injEq] at h; omega
  · cases h
theorem codes_fwd {xs : List UInt8} {p p' : Int} {first other : List Int} (h : codesR xs p = .ok (p', first, other)) (h0 : 0 ≤ p) : p ≤ p' ∧ p' ≤ 8 * xs.length := by
  unfold codesR at h
  obtain ⟨⟨l, p1⟩, a1, h⟩ := er_bind.1 h
  obtain ⟨⟨d, p2⟩, a2, h⟩ := er_bind.1 h
  obtain ⟨⟨n, p3⟩, a3, h⟩ := er_bind.1 h
  have b1 := num_nn a1
  have b2 := num_nn a2
  have b3 := num_nn a3
  simp only at h
  split at h
  case isFalse => cases h
  obtain ⟨⟨p4, own⟩, a4, h⟩ := er_bind.1 h
  have b4 := own_fwd b3.2.2 a4
  obtain ⟨_, _, h⟩ := er_bind.1 h
  obtain ⟨⟨p5, all⟩, a5, h⟩ := er_bind.1 h
  have b5 := rows_fwd a5 (by omega) b4.2
  simp only at h
  split at h
  case isFalse => cases h
  obtain ⟨_, _, h⟩ := er_bind.1 h
  obtain ⟨_, _, h⟩ := er_bind.1 h
  simp only [Except.ok.injEq, Prod.mk.injEq] at h
  omega
theorem stored_fwd {xs : List UInt8} {lim p p' : Int} {out out' : List UInt8} {n : Int} (h : storedR xs lim p out = .ok (p', out', n)) (h0 : 0 ≤ p) : p ≤ p' ∧ p' ≤ 8 * xs.length := by
  unfold storedR at h
  obtain ⟨⟨m, p1⟩, a1, h⟩ := er_bind.1 h
  obtain ⟨⟨t, p2⟩, a2, h⟩ := er_bind.1 h
  have b1 := num_nn a1
  have b2 := num_nn a2
  simp only at h
  split at h
  case isFalse => cases h
  split at h
  case isFalse => cases h
  obtain ⟨_, _, h⟩ := er_bind.1 h
  simp only [Except.ok.injEq, Prod.mk.injEq] at h
  omega
theorem block_fwd {xs : List UInt8} {lim p : Int} {out : List UInt8} {n : Int} {last : Bool} {p' : Int} {out' : List UInt8} {n' : Int} (h : blockR xs lim p out n = .ok (last, p', out', n')) (h0 : 0 ≤ p) : p + 3 ≤ p' ∧ p' ≤ 8 * xs.length := by
  unfold blockR at h
  obtain ⟨⟨lst, p1⟩, a1, h⟩ := er_bind.1 h
  obtain ⟨⟨kind, p2⟩, a2, h⟩ := er_bind.1 h
  have b1 := num_nn a1
  have b2 := num_nn a2
  simp only at h
  split at h
  · obtain ⟨⟨p3, out3, n3⟩, a3, h⟩ := er_bind.1 h
    have b3 := stored_fwd a3 (by omega)
    simp only [Except.ok.injEq, Prod.mk.injEq] at h
    omega
  split at h
  · obtain ⟨⟨p3, out3, n3⟩, a3, h⟩ := er_bind.1 h
    have b3 := syms_fwd (by omega) b2.2.2 a3
    simp only [Except.ok.injEq, Prod.mk.injEq] at h
    omega
  split at h
  · obtain ⟨⟨p3, first, other⟩, a3, h⟩ := er_bind.1 h
    have b3 := codes_fwd a3 (by omega)
    obtain ⟨⟨p4, out4, n4⟩, a4, h⟩ := er_bind.1 h
    have b4 := syms_fwd (by omega) b3.2 a4
    simp only [Except.ok.injEq, Prod.mk.injEq] at h
    omega
  · cases h
end Go.L1

-- H12
namespace Go.L1
open Go Go.Sx Go.Proofs Go.Huff
set_option linter.unusedVariables false
set_option linter.unusedSimpArgs false
set_option maxRecDepth 4000
theorem num_at {xs ys : List UInt8} {j : Nat} (hj : j ≤ xs.length) (hd : xs.drop j = ys) {p : Int} {q n : Nat} (hp : p = 8 * j + q) (hq : q + n ≤ 8 * ys.length) :
    numR xs p n = .ok ((valBytes ys / 2 ^ q % 2 ^ n : Nat), p + n) := by
  have hl : ys.length = xs.length - j := by rw [← hd, List.length_drop]
  unfold numR
  rw [if_pos (by omega)]
  have e : bitsV xs p = valBytes ys / 2 ^ q := by
    unfold bitsV
    rw [← hd, valBytes_drop, Nat.div_div_eq_div_mul, show p.toNat = 8 * j + q from by omega, Nat.pow_add, Nat.pow_mul]
  rw [e]
end Go.L1

-- H14
namespace Go.L1
open Go Go.Sx Go.Proofs Go.Huff
set_option linter.unusedVariables false
set_option linter.unusedSimpArgs false
set_option maxRecDepth 4000
theorem unpack_app (x : Int × Int) : ∀ (l : List (Int × Int)) (o : List Int), unpackR (l ++ [x]) o = match unpackR l o with
    | some a => (match rowR x a with | some m => if a.length + m.length ≤ 320 then some (a ++ m) else none | none => none)
    | none => none
  | [], o => by
    rw [List.nil_append]
    simp only [unpackR]
    cases rowR x o <;> rfl
  | y :: l, o => by
    rw [List.cons_append, unpackR, unpackR]
    cases rowR y o with
    | none => rfl
    | some m =>
      dsimp only
      by_cases h : o.length + m.length ≤ 320
      · rw [if_pos h, if_pos h]
        exact unpack_app x l _
      · rw [if_neg h, if_neg h]
theorem rowR_nn {x : Int × Int} {l m : List Int} (hl : ∀ y ∈ l, 0 ≤ y) (h : rowR x l = some m) : ∀ y ∈ m, 0 ≤ y := by
  obtain ⟨s, e⟩ := x
  unfold rowR at h
  simp only at h
  split at h
  · rename_i hs
    split at h
    · cases h
      intro y hy
      simp at hy
      omega
    · cases h
  · split at h
    · split at h
      · cases h
      · cases h
        intro y hy
        rw [(List.mem_replicate.1 hy).2]
        rcases Nat.lt_or_ge (l.length - 1) l.length with h1 | h1
        · rw [List.getD_eq_getElem?_getD, List.getElem?_eq_getElem h1]
          exact hl _ (List.getElem_mem h1)
        · rw [List.getD_eq_getElem?_getD, List.getElem?_eq_none h1]; simp
    · split at h
      · split at h
        · cases h
          intro y hy
          rw [(List.mem_replicate.1 hy).2]; decide
        · cases h
      · split at h
        · split at h
          · cases h
            intro y hy
            rw [(List.mem_replicate.1 hy).2]; decide
          · cases h
        · cases h
theorem unpack_nn : ∀ {items : List (Int × Int)} {l l' : List Int}, (∀ y ∈ l, 0 ≤ y) → unpackR items l = some l' → ∀ y ∈ l', 0 ≤ y
  | [], l, l', hl, h => by cases h; exact hl
  | x :: items, l, l', hl, h => by
    rw [unpackR] at h
    cases hr : rowR x l with
    | none => rw [hr] at h; cases h
    | some m =>
      rw [hr] at h
      dsimp only at h
      split at h
      · refine unpack_nn (fun y hy => ?_) h
        rcases List.mem_append.1 hy with hy | hy
        · exact hl y hy
        · exact rowR_nn hl hr y hy
      · cases h
theorem item_row {ls : List Int} {xs : List UInt8} {p h s x p' h' : Int} (hls : ls.length ≤ 19) (h1 : itemR ls xs p h = .ok (p', (s, x), h')) {all : List Int} (hal : (all.length : Int) = h) : ∃ m, rowR (s, x) all = some m := by
  unfold itemR at h1
  obtain ⟨⟨s0, p1⟩, a1, h1⟩ := er_bind.1 h1
  have h3 := symR_is ls xs p
  rw [a1] at h3
  obtain ⟨m0, h4, _⟩ := h3
  rcases h4 with ⟨_, t, ht, rfl, rfl⟩ | ⟨_, _, _, h4 | h4⟩
  case inr.inl => exact absurd h4.1 (by decide)
  case inr.inr => exact absurd h4.1 (by decide)
  have ht1 := ht.1
  have hnum : ∀ {q : Int} {n : Nat} {v q' : Int}, numR xs q n = .ok (v, q') → 0 ≤ v ∧ v < 2 ^ n := by
    intro q n v q' hh
    unfold numR at hh
    split at hh
    · simp only [Except.ok.injEq, Prod.mk.injEq] at hh
      have h5 : bitsV xs q % 2 ^ n < 2 ^ n := Nat.mod_lt _ (Nat.two_pow_pos _)
      have e : (2 : Int) ^ n = ((2 ^ n : Nat) : Int) := by simp
      omega
    · cases hh
  simp only at h1
  unfold rowR
  split at h1
  · rename_i hs
    obtain ⟨⟨y, p2⟩, a2, h1⟩ := er_bind.1 h1
    have := hnum a2
    simp only at h1 this
    split at h1
    · rename_i hpos
      simp only [Except.ok.injEq, Prod.mk.injEq] at h1
      obtain ⟨_, ⟨rfl, rfl⟩, _⟩ := h1
      rw [if_neg (by omega), if_pos hs, if_neg]
      · exact ⟨_, rfl⟩
      · rintro (hh | hh)
        · subst hh; simp at hal; omega
        · exact hh ⟨this.1, by omega⟩
    · cases h1
  split at h1
  · rename_i hs
    obtain ⟨⟨y, p2⟩, a2, h1⟩ := er_bind.1 h1
    have := hnum a2
    simp only [Except.ok.injEq, Prod.mk.injEq] at h1
    obtain ⟨_, ⟨rfl, rfl⟩, _⟩ := h1
    rw [if_neg (by omega), if_neg (by omega), if_pos hs, if_pos ⟨this.1, by omega⟩]
    exact ⟨_, rfl⟩
  split at h1
  · rename_i hs
    obtain ⟨⟨y, p2⟩, a2, h1⟩ := er_bind.1 h1
    have := hnum a2
    simp only [Except.ok.injEq, Prod.mk.injEq] at h1
    obtain ⟨_, ⟨rfl, rfl⟩, _⟩ := h1
    rw [if_neg (by omega), if_neg (by omega), if_neg (by omega), if_pos hs, if_pos ⟨this.1, by omega⟩]
    exact ⟨_, rfl⟩
  · simp only [Except.ok.injEq, Prod.mk.injEq] at h1
    obtain ⟨_, ⟨rfl, rfl⟩, _⟩ := h1
    rw [if_pos (by omega), if_pos rfl]
    exact ⟨_, rfl⟩
/-- A block whose codes are told. -/
def toldR (xs : List UInt8) (lim p : Int) (out : List UInt8) (k : Int) : Er (Int × List UInt8 × Int) := codesR xs p >>= fun x => symsR x.2.1 x.2.2 xs lim fuel x.1 out k
structure TdC (xs : List UInt8) (lim : Int) (out : List UInt8) (k : Int) (R : Er (Int × List UInt8 × Int)) (l p5 : Int) (all : List Int) : Prop where
  z : ¬ 0 < all.getD 256 0 → R = .error 10
  f : 0 < all.getD 256 0 → codeR (all.take (l + 257).toNat) true false = .error 10 → R = .error 10
  o : 0 < all.getD 256 0 → codeR (all.take (l + 257).toNat) true false = .ok () → codeR (all.drop (l + 257).toNat) true true = .error 10 → R = .error 10
  y : 0 < all.getD 256 0 → codeR (all.take (l + 257).toNat) true false = .ok () → codeR (all.drop (l + 257).toNat) true true = .ok () → R = symsR (all.take (l + 257).toNat) (all.drop (l + 257).toNat) xs lim fuel p5 out k
structure TdB (xs : List UInt8) (lim : Int) (out : List UInt8) (k : Int) (R : Er (Int × List UInt8 × Int)) (l d p4 : Int) (own : List Int) : Prop where
  c : codeR own false false = .error 10 → R = .error 10
  r : codeR own false false = .ok () → ∀ e, rowsR own xs (l + 257 + d + 1) p4 = .error e → R = .error e
  y : codeR own false false = .ok () → ∀ p5 all, rowsR own xs (l + 257 + d + 1) p4 = .ok (p5, all) → TdC xs lim out k R l p5 all
structure TdA (xs : List UInt8) (lim : Int) (out : List UInt8) (k : Int) (R : Er (Int × List UInt8 × Int)) (l d p3 : Int) (n : Nat) : Prop where
  e : ∀ e, ownR xs (orderN.take (n + 4)) p3 (List.replicate 19 0) = .error e → R = .error e
  y : ∀ p4 own, ownR xs (orderN.take (n + 4)) p3 (List.replicate 19 0) = .ok (p4, own) → TdB xs lim out k R l d p4 own
theorem tdA {xs : List UInt8} {lim p : Int} {out : List UInt8} {k l p1 d p2 p3 : Int} {n : Nat} (h1 : numR xs p 5 = .ok (l, p1)) (h2 : numR xs p1 5 = .ok (d, p2)) (h3 : numR xs p2 4 = .ok ((n : Int), p3)) (h4 : l ≤ 29 ∧ d ≤ 29) : TdA xs lim out k (toldR xs lim p out k) l d p3 n := by
  have e0 : toldR xs lim p out k = ((ownR xs (orderN.take (n + 4)) p3 (List.replicate 19 0) >>= fun x => match x with
      | (p, own) => codeR own false false >>= fun _ => rowsR own xs (l + 257 + d + 1) p >>= fun x => match x with
        | (p, all) => if 0 < all.getD 256 0 then (codeR (all.take (l + 257).toNat) true false >>= fun _ => codeR (all.drop (l + 257).toNat) true true >>= fun _ => Except.ok (p, all.take (l + 257).toNat, all.drop (l + 257).toNat)) else .error 10) >>= fun x => symsR x.2.1 x.2.2 xs lim fuel x.1 out k) := by
    unfold toldR codesR
    simp only [bind, Except.bind, h1, h2, h3]
    rw [if_pos h4, show ((n : Int) + 4).toNat = n + 4 from by omega]
  rw [e0]
  refine ⟨fun e he => ?_, fun p4 own he => ⟨fun hc => ?_, fun hc e hr => ?_, fun hc p5 all hr => ⟨fun hz => ?_, fun hz hf => ?_, fun hz hf ho => ?_, fun hz hf ho => ?_⟩⟩⟩
  · simp only [bind, Except.bind, he]
  · simp only [bind, Except.bind, he, hc]
  · simp only [bind, Except.bind, he, hc, hr]
  · simp only [bind, Except.bind, he, hc, hr]
    rw [if_neg hz]
  · simp only [bind, Except.bind, he, hc, hr, hf]
    rw [if_pos hz]
  · simp only [bind, Except.bind, he, hc, hr, hf, ho]
    rw [if_pos hz]
  · simp only [bind, Except.bind, he, hc, hr, hf, ho]
    rw [if_pos hz]
theorem told_e1 {xs : List UInt8} {lim p e : Int} {out : List UInt8} {k : Int} (h : numR xs p 5 = .error e) : toldR xs lim p out k = .error e := by
  unfold toldR codesR
  simp only [bind, Except.bind, h]
theorem told_e2 {xs : List UInt8} {lim p e l p1 : Int} {out : List UInt8} {k : Int} (h1 : numR xs p 5 = .ok (l, p1)) (h : numR xs p1 5 = .error e) : toldR xs lim p out k = .error e := by
  unfold toldR codesR
  simp only [bind, Except.bind, h1, h]
theorem told_e3 {xs : List UInt8} {lim p e l p1 d p2 : Int} {out : List UInt8} {k : Int} (h1 : numR xs p 5 = .ok (l, p1)) (h2 : numR xs p1 5 = .ok (d, p2)) (h : numR xs p2 4 = .error e) : toldR xs lim p out k = .error e := by
  unfold toldR codesR
  simp only [bind, Except.bind, h1, h2, h]
theorem told_ld {xs : List UInt8} {lim p l p1 d p2 n p3 : Int} {out : List UInt8} {k : Int} (h1 : numR xs p 5 = .ok (l, p1)) (h2 : numR xs p1 5 = .ok (d, p2)) (h3 : numR xs p2 4 = .ok (n, p3)) (h4 : ¬ (l ≤ 29 ∧ d ≤ 29)) : toldR xs lim p out k = .error 10 := by
  unfold toldR codesR
  simp only [bind, Except.bind, h1, h2, h3]
  rw [if_neg h4]
end Go.L1

-- D18
namespace Go.L1
open Go Go.Sx Go.Proofs Go.Huff
set_option maxRecDepth 20000
set_option linter.unusedVariables false
set_option linter.unusedSimpArgs false
theorem neq_zero {A : Leaf} {e : Int} (hA : A = .std) (h : A.cmp .neq e 0 = false) : e = 0 := by
  subst hA
  have h : (!(e == 0)) = false := h
  simpa using h
theorem bnot_t {A : Leaf} (hA : A = .std) (h : A.bnot true = true) : False := by subst hA; cases h
end Go.L1

-- D19
namespace Go.L1
open Go Go.Sx Go.Proofs Go.Huff
set_option maxRecDepth 20000
set_option linter.unusedVariables false
set_option linter.unusedSimpArgs false
end Go.L1

-- D20
namespace Go.L1
open Go Go.Sx Go.Proofs Go.Huff
set_option maxRecDepth 20000
set_option linter.unusedVariables false
set_option linter.unusedSimpArgs false
end Go.L1

-- D21
namespace Go.L1
open Go Go.Sx Go.Proofs Go.Huff
set_option maxRecDepth 20000
set_option linter.unusedVariables false
set_option linter.unusedSimpArgs false
structure RlnA (A : Leaf) (s : Int) : Prop where
  q : A.nn (A.conv .u64 (A.ar .quo .i64 (A.ar .sub .i64 s 261) 4))
  r : LngIs s (A.ar .add .i64 3 (A.ar .shl .i64 (A.ar .add .i64 4 (A.ar .rem .i64 (A.ar .sub .i64 s 261) 4)) (A.conv .u64 (A.ar .quo .i64 (A.ar .sub .i64 s 261) 4)))) (A.ar .quo .i64 (A.ar .sub .i64 s 261) 4) true
theorem rlnA {A : Leaf} {s : Int} (hA : A = .std) (h1 : A.cmp .gtr s 285 = false) (h2 : A.cmp .eql s 285 = false) (h3 : A.cmp .lss s 265 = false) : RlnA A s := by
  subst hA
  have h1 : ¬ (285 : Int) < s := of_decide_eq_false h1
  have h2 : (s == 285) = false := h2
  have h2 : s ≠ 285 := by simpa using h2
  have h3 : ¬ s < 265 := of_decide_eq_false h3
  have e1 : Leaf.std.ar .sub .i64 s 261 = s - 261 := sub_i64 (by omega) (by omega)
  have e2 : Leaf.std.ar .quo .i64 (s - 261) 4 = (s - 257) / 4 - 1 := by
    show LAr .quo .i64 _ 4 = _
    rw [l_quo_i64 (by omega) (by omega) (by omega)]
    omega
  have e3 : Leaf.std.ar .rem .i64 (s - 261) 4 = (s - 257) % 4 := by
    show LAr .rem .i64 _ 4 = _
    rw [l_rem (by omega)]
    omega
  have e4 : Leaf.std.conv .u64 ((s - 257) / 4 - 1) = (s - 257) / 4 - 1 := by
    exact conv_u64 (by omega) (by omega)
  have e5 : Leaf.std.ar .add .i64 4 ((s - 257) % 4) = 4 + (s - 257) % 4 := add_i64 (by omega) (by omega)
  obtain ⟨e6, h6, h7⟩ := shl_small (a := 4 + (s - 257) % 4) (b := (s - 257) / 4 - 1) (by omega) (by omega) (by omega) (by omega)
  have hp : (2 : Nat) ^ ((s - 257) / 4 - 1).toNat ≤ 2 ^ 5 := Nat.pow_le_pow_right (by decide) (by omega)
  have e : (2 : Int) ^ ((s - 257) / 4 - 1).toNat = ((2 ^ ((s - 257) / 4 - 1).toNat : Nat) : Int) := by simp
  have h8 : (4 + (s - 257) % 4) * 2 ^ ((s - 257) / 4 - 1).toNat ≤ 7 * 32 := by
    rw [e]
    exact Int.mul_le_mul (by omega) (by omega) (Int.natCast_nonneg _) (by omega)
  have e7 : Leaf.std.ar .add .i64 3 ((4 + (s - 257) % 4) * 2 ^ ((s - 257) / 4 - 1).toNat) = 3 + (4 + (s - 257) % 4) * 2 ^ ((s - 257) / 4 - 1).toNat := add_i64 (by omega) (by omega)
  refine ⟨?_, ?_⟩
  · rw [e1, e2, e4]; show (0 : Int) ≤ _; omega
  · rw [e1, e2, e3, e4, e5, e6, e7]
    refine .inl ⟨rfl, by omega, by omega, by omega, by omega, ?_⟩
    unfold lenR
    rw [if_neg (by omega), if_neg (by omega), if_neg (by omega)]
structure RdsA (A : Leaf) (s : Int) : Prop where
  q : A.nn (A.conv .u64 (A.ar .sub .i64 (A.ar .quo .i64 s 2) 1))
  r : DstIs s (A.ar .add .i64 1 (A.ar .shl .i64 (A.ar .add .i64 2 (A.ar .rem .i64 s 2)) (A.conv .u64 (A.ar .sub .i64 (A.ar .quo .i64 s 2) 1)))) (A.ar .sub .i64 (A.ar .quo .i64 s 2) 1) true
theorem rdsA {A : Leaf} {s : Int} (hA : A = .std) (h1 : A.cmp .gtr s 29 = false) (h3 : A.cmp .lss s 4 = false) : RdsA A s := by
  subst hA
  have h1 : ¬ (29 : Int) < s := of_decide_eq_false h1
  have h3 : ¬ s < 4 := of_decide_eq_false h3
  have e2 : Leaf.std.ar .quo .i64 s 2 = s / 2 := by
    show LAr .quo .i64 _ 2 = _
    rw [l_quo_i64 (by omega) (by omega) (by omega)]
  have e3 : Leaf.std.ar .rem .i64 s 2 = s % 2 := by
    show LAr .rem .i64 _ 2 = _
    rw [l_rem (by omega)]
  have e4 : Leaf.std.ar .sub .i64 (s / 2) 1 = s / 2 - 1 := sub_i64 (by omega) (by omega)
  have e5 : Leaf.std.ar .add .i64 2 (s % 2) = 2 + s % 2 := add_i64 (by omega) (by omega)
  have e8 : Leaf.std.conv .u64 (s / 2 - 1) = s / 2 - 1 := by
    exact conv_u64 (by omega) (by omega)
  obtain ⟨e6, h6, h7⟩ := shl_small (a := 2 + s % 2) (b := s / 2 - 1) (by omega) (by omega) (by omega) (by omega)
  have hp : (2 : Nat) ^ (s / 2 - 1).toNat ≤ 2 ^ 13 := Nat.pow_le_pow_right (by decide) (by omega)
  have e : (2 : Int) ^ (s / 2 - 1).toNat = ((2 ^ (s / 2 - 1).toNat : Nat) : Int) := by simp
  have h8 : (2 + s % 2) * 2 ^ (s / 2 - 1).toNat ≤ 3 * 8192 := by
    rw [e]
    exact Int.mul_le_mul (by omega) (by omega) (Int.natCast_nonneg _) (by omega)
  have e7 : Leaf.std.ar .add .i64 1 ((2 + s % 2) * 2 ^ (s / 2 - 1).toNat) = 1 + (2 + s % 2) * 2 ^ (s / 2 - 1).toNat := add_i64 (by omega) (by omega)
  refine ⟨?_, ?_⟩
  · rw [e2, e4, e8]; show (0 : Int) ≤ _; omega
  · rw [e2, e3, e4, e8, e5, e6, e7]
    refine .inl ⟨rfl, by omega, by omega, by omega, by omega, ?_⟩
    unfold distR
    rw [if_neg (by omega), if_neg (by omega)]
theorem reflength_ok (s : Int) : FOK Try.prog C1 41 (fun _ => true) [.int .i64 s] []
    (fun rs H => ∃ base extra ok, rs = [.int .i64 base, .int .i64 extra, .bool (.e ok)] ∧ H = [] ∧ LngIs s base extra ok) := by
  refine fok_of (B := ⟨lookT tis, fun _ => true, []⟩) (tab1 _) (zero1 _) cod1 mix1 Try.func41 (by kernel_rfl) rfl rfl rfl fun X F => ?_
  obtain ⟨A, hA⟩ : ∃ A, A = Leaf.std := ⟨_, rfl⟩
  refine F.hold hA 2000 ?_
  cbv
  repeat (first
    | refine OK.drawn (by decide +kernel) ?_
    | refine OK.tree ⟨lookT tis, fun _ => true, []⟩ (by decide +kernel) ?_
    | refine OK.need (by first | assumption | (rw [hA]; first | (show (_ : Int) ≠ _; decide) | (show (0 : Int) ≤ _; decide) | (show (0 : Int) ≤ _ ∧ _ < (256 : Int); decide))) ?_
    | (refine F.hold hA 2000 ?_; cbv))
  refine OK.branch (fun h1 => ?_) (fun h1 => ?_)
  · repeat (first
      | refine OK.drawn (by decide +kernel) ?_
      | refine OK.tree ⟨lookT tis, fun _ => true, []⟩ (by decide +kernel) ?_
      | refine OK.need (by first | assumption | (rw [hA]; first | (show (_ : Int) ≠ _; decide) | (show (0 : Int) ≤ _; decide) | (show (0 : Int) ≤ _ ∧ _ < (256 : Int); decide))) ?_
      | (refine F.hold hA 2000 ?_; cbv))
    refine F.retE rfl ⟨_, _, _, rfl, rfl, .inr ⟨rfl, rfl, rfl, ?_⟩⟩
    subst hA
    have h1 : s < 257 := of_decide_eq_true h1
    unfold lenR; rw [if_pos (by omega)]
  repeat (first
    | refine OK.drawn (by decide +kernel) ?_
    | refine OK.tree ⟨lookT tis, fun _ => true, []⟩ (by decide +kernel) ?_
    | refine OK.need (by first | assumption | (rw [hA]; first | (show (_ : Int) ≠ _; decide) | (show (0 : Int) ≤ _; decide) | (show (0 : Int) ≤ _ ∧ _ < (256 : Int); decide))) ?_
    | (refine F.hold hA 2000 ?_; cbv))
  refine OK.branch (fun h2 => ?_) (fun h2 => ?_)
  · repeat (first
      | refine OK.drawn (by decide +kernel) ?_
      | refine OK.tree ⟨lookT tis, fun _ => true, []⟩ (by decide +kernel) ?_
      | refine OK.need (by first | assumption | (rw [hA]; first | (show (_ : Int) ≠ _; decide) | (show (0 : Int) ≤ _; decide) | (show (0 : Int) ≤ _ ∧ _ < (256 : Int); decide))) ?_
      | (refine F.hold hA 2000 ?_; cbv))
    refine F.retE rfl ⟨_, _, _, rfl, rfl, .inr ⟨rfl, rfl, rfl, ?_⟩⟩
    subst hA
    have h2 : (285 : Int) < s := of_decide_eq_true h2
    unfold lenR; rw [if_pos (by omega)]
  repeat (first
    | refine OK.drawn (by decide +kernel) ?_
    | refine OK.tree ⟨lookT tis, fun _ => true, []⟩ (by decide +kernel) ?_
    | refine OK.need (by first | assumption | (rw [hA]; first | (show (_ : Int) ≠ _; decide) | (show (0 : Int) ≤ _; decide) | (show (0 : Int) ≤ _ ∧ _ < (256 : Int); decide))) ?_
    | (refine F.hold hA 2000 ?_; cbv))
  refine OK.branch (fun h4 => ?_) (fun h4 => ?_)
  · repeat (first
      | refine OK.drawn (by decide +kernel) ?_
      | refine OK.tree ⟨lookT tis, fun _ => true, []⟩ (by decide +kernel) ?_
      | refine OK.need (by first | assumption | (rw [hA]; first | (show (_ : Int) ≠ _; decide) | (show (0 : Int) ≤ _; decide) | (show (0 : Int) ≤ _ ∧ _ < (256 : Int); decide))) ?_
      | (refine F.hold hA 2000 ?_; cbv))
    refine F.retE rfl ⟨_, _, _, rfl, rfl, ?_⟩
    subst hA
    have h1 : ¬ s < 257 := of_decide_eq_false h1
    have h4 : s < 265 := of_decide_eq_true h4
    have e3 : Leaf.std.ar .sub .i64 s 254 = s - 254 := sub_i64 (by omega) (by omega)
    refine (congrArg (fun x => LngIs s x 0 true) e3).mpr (.inl ⟨rfl, by decide, by decide, by omega, by omega, ?_⟩)
    unfold lenR
    rw [if_neg (by omega), if_neg (by omega), if_pos (by omega)]
    rfl
  repeat (first
    | refine OK.drawn (by decide +kernel) ?_
    | refine OK.tree ⟨lookT tis, fun _ => true, []⟩ (by decide +kernel) ?_
    | refine OK.need (by first | assumption | (rw [hA]; first | (show (_ : Int) ≠ _; decide) | (show (0 : Int) ≤ _; decide) | (show (0 : Int) ≤ _ ∧ _ < (256 : Int); decide))) ?_
    | (refine F.hold hA 2000 ?_; cbv))
  refine OK.branch (fun h3 => ?_) (fun h3 => ?_)
  · repeat (first
      | refine OK.drawn (by decide +kernel) ?_
      | refine OK.tree ⟨lookT tis, fun _ => true, []⟩ (by decide +kernel) ?_
      | refine OK.need (by first | assumption | (rw [hA]; first | (show (_ : Int) ≠ _; decide) | (show (0 : Int) ≤ _; decide) | (show (0 : Int) ≤ _ ∧ _ < (256 : Int); decide))) ?_
      | (refine F.hold hA 2000 ?_; cbv))
    refine F.retE rfl ⟨_, _, _, rfl, rfl, .inl ⟨rfl, by decide, by decide, by decide, by decide, ?_⟩⟩
    subst hA
    have h3 : (s == 285) = true := h3
    have h3 : s = 285 := by simpa using h3
    subst h3; rfl
  have hq := rlnA hA h2 h3 h4
  have q := hq.q
  repeat (first
    | refine OK.drawn (by decide +kernel) ?_
    | refine OK.tree ⟨lookT tis, fun _ => true, []⟩ (by decide +kernel) ?_
    | refine OK.need (by first | assumption | (rw [hA]; first | (show (_ : Int) ≠ _; decide) | (show (0 : Int) ≤ _; decide) | (show (0 : Int) ≤ _ ∧ _ < (256 : Int); decide))) ?_
    | (refine F.hold hA 2000 ?_; cbv))
  exact F.retE rfl ⟨_, _, _, rfl, rfl, hq.r⟩
theorem refdistance_ok (s : Int) : FOK Try.prog C1 43 (fun _ => true) [.int .i64 s] []
    (fun rs H => ∃ base extra ok, rs = [.int .i64 base, .int .i64 extra, .bool (.e ok)] ∧ H = [] ∧ DstIs s base extra ok) := by
  refine fok_of (B := ⟨lookT tis, fun _ => true, []⟩) (tab1 _) (zero1 _) cod1 mix1 Try.func43 (by kernel_rfl) rfl rfl rfl fun X F => ?_
  obtain ⟨A, hA⟩ : ∃ A, A = Leaf.std := ⟨_, rfl⟩
  refine F.hold hA 2000 ?_
  cbv
  repeat (first
    | refine OK.drawn (by decide +kernel) ?_
    | refine OK.tree ⟨lookT tis, fun _ => true, []⟩ (by decide +kernel) ?_
    | refine OK.need (by first | assumption | (rw [hA]; first | (show (_ : Int) ≠ _; decide) | (show (0 : Int) ≤ _; decide) | (show (0 : Int) ≤ _ ∧ _ < (256 : Int); decide))) ?_
    | (refine F.hold hA 2000 ?_; cbv))
  refine OK.branch (fun h1 => ?_) (fun h1 => ?_)
  · repeat (first
      | refine OK.drawn (by decide +kernel) ?_
      | refine OK.tree ⟨lookT tis, fun _ => true, []⟩ (by decide +kernel) ?_
      | refine OK.need (by first | assumption | (rw [hA]; first | (show (_ : Int) ≠ _; decide) | (show (0 : Int) ≤ _; decide) | (show (0 : Int) ≤ _ ∧ _ < (256 : Int); decide))) ?_
      | (refine F.hold hA 2000 ?_; cbv))
    refine F.retE rfl ⟨_, _, _, rfl, rfl, .inr ⟨rfl, rfl, rfl, ?_⟩⟩
    subst hA
    have h1 : s < 0 := of_decide_eq_true h1
    unfold distR; rw [if_pos (by omega)]
  repeat (first
    | refine OK.drawn (by decide +kernel) ?_
    | refine OK.tree ⟨lookT tis, fun _ => true, []⟩ (by decide +kernel) ?_
    | refine OK.need (by first | assumption | (rw [hA]; first | (show (_ : Int) ≠ _; decide) | (show (0 : Int) ≤ _; decide) | (show (0 : Int) ≤ _ ∧ _ < (256 : Int); decide))) ?_
    | (refine F.hold hA 2000 ?_; cbv))
  refine OK.branch (fun h2 => ?_) (fun h2 => ?_)
  · repeat (first
      | refine OK.drawn (by decide +kernel) ?_
      | refine OK.tree ⟨lookT tis, fun _ => true, []⟩ (by decide +kernel) ?_
      | refine OK.need (by first | assumption | (rw [hA]; first | (show (_ : Int) ≠ _; decide) | (show (0 : Int) ≤ _; decide) | (show (0 : Int) ≤ _ ∧ _ < (256 : Int); decide))) ?_
      | (refine F.hold hA 2000 ?_; cbv))
    refine F.retE rfl ⟨_, _, _, rfl, rfl, .inr ⟨rfl, rfl, rfl, ?_⟩⟩
    subst hA
    have h2 : (29 : Int) < s := of_decide_eq_true h2
    unfold distR; rw [if_pos (by omega)]
  repeat (first
    | refine OK.drawn (by decide +kernel) ?_
    | refine OK.tree ⟨lookT tis, fun _ => true, []⟩ (by decide +kernel) ?_
    | refine OK.need (by first | assumption | (rw [hA]; first | (show (_ : Int) ≠ _; decide) | (show (0 : Int) ≤ _; decide) | (show (0 : Int) ≤ _ ∧ _ < (256 : Int); decide))) ?_
    | (refine F.hold hA 2000 ?_; cbv))
  refine OK.branch (fun h4 => ?_) (fun h4 => ?_)
  · repeat (first
      | refine OK.drawn (by decide +kernel) ?_
      | refine OK.tree ⟨lookT tis, fun _ => true, []⟩ (by decide +kernel) ?_
      | refine OK.need (by first | assumption | (rw [hA]; first | (show (_ : Int) ≠ _; decide) | (show (0 : Int) ≤ _; decide) | (show (0 : Int) ≤ _ ∧ _ < (256 : Int); decide))) ?_
      | (refine F.hold hA 2000 ?_; cbv))
    refine F.retE rfl ⟨_, _, _, rfl, rfl, ?_⟩
    subst hA
    have h1 : ¬ s < 0 := of_decide_eq_false h1
    have h4 : s < 4 := of_decide_eq_true h4
    have e3 : Leaf.std.ar .add .i64 s 1 = s + 1 := add_i64 (by omega) (by omega)
    refine (congrArg (fun x => DstIs s x 0 true) e3).mpr (.inl ⟨rfl, by decide, by decide, by omega, by omega, ?_⟩)
    unfold distR
    rw [if_neg (by omega), if_pos (by omega)]
    rfl
  have hq := rdsA hA h2 h4
  have q := hq.q
  repeat (first
    | refine OK.drawn (by decide +kernel) ?_
    | refine OK.tree ⟨lookT tis, fun _ => true, []⟩ (by decide +kernel) ?_
    | refine OK.need (by first | assumption | (rw [hA]; first | (show (_ : Int) ≠ _; decide) | (show (0 : Int) ≤ _; decide) | (show (0 : Int) ≤ _ ∧ _ < (256 : Int); decide))) ?_
    | (refine F.hold hA 2000 ?_; cbv))
  exact F.retE rfl ⟨_, _, _, rfl, rfl, hq.r⟩
def fixV (i : Int) : Int := if 144 ≤ i ∧ i < 256 then 9 else if 256 ≤ i ∧ i < 280 then 7 else 8
theorem fixV_ok : ∀ i : Nat, i < 288 → fixA[i]? = some (fixV i) := by
  have : ∀ i : Fin 288, fixA[i.1]? = some (fixV i.1) := by decide +kernel
  exact fun i hi => this ⟨i, hi⟩
def FxI (w : Int × List Int) : Prop := ∃ j : Nat, w.1 = j ∧ j ≤ 288 ∧ w.2 = fixA.take j
structure FxA (A : Leaf) (i : Int) (row : List Int) : Prop where
  sm : ∀ l : Int, A.small (A.len (A.app row [l])) 8
  nx : ∀ l : Int, l = fixV i → FxI (A.ar .add .i64 i 1, A.app row [l]) ∧ (288 - (A.ar .add .i64 i 1)).toNat < (288 - i).toNat
  lo : 0 ≤ i
theorem fxA {A : Leaf} {i : Int} {row : List Int} (hA : A = .std) (hI : FxI (i, row)) (h : A.cmp .lss i 288 = true) : FxA A i row := by
  subst hA
  obtain ⟨j, h1, h2, h3⟩ := hI
  simp only at h1 h3
  have hlt : i < 288 := of_decide_eq_true h
  subst h1 h3
  have hl : (fixA.take j).length = j := by rw [List.length_take]; have : fixA.length = 288 := by decide +kernel
                                           omega
  have e1 : Leaf.std.ar .add .i64 (j : Int) 1 = j + 1 := add_i64 (by omega) (by omega)
  refine ⟨fun l => ?_, fun l hl2 => ⟨⟨j + 1, by simp only [e1]; omega, by omega, ?_⟩, by rw [e1]; omega⟩, by omega⟩
  · show (0 : Int) ≤ ((fixA.take j ++ [l]).length : Nat) ∧ (((fixA.take j ++ [l]).length : Nat) : Int) ≤ 140737488355328 ∧ (((fixA.take j ++ [l]).length : Nat) : Int) * (8 : Nat) ≤ 140737488355328
    rw [List.length_append, hl]
    simp only [List.length_cons, List.length_nil]
    omega
  · show fixA.take j ++ [l] = _
    rw [List.take_succ, fixV_ok j (by omega), hl2]
    rfl
def FyI (w : Int × List Int) : Prop := ∃ j : Nat, w.1 = j ∧ j ≤ 32 ∧ w.2 = List.replicate j 5
structure FyA (A : Leaf) (i : Int) (row : List Int) : Prop where
  sm : A.small (A.len (A.app row [5])) 8
  nx : FyI (A.ar .add .i64 i 1, A.app row [5]) ∧ (32 - (A.ar .add .i64 i 1)).toNat < (32 - i).toNat
theorem fyA {A : Leaf} {i : Int} {row : List Int} (hA : A = .std) (hI : FyI (i, row)) (h : A.cmp .lss i 32 = true) : FyA A i row := by
  subst hA
  obtain ⟨j, h1, h2, h3⟩ := hI
  simp only at h1 h3
  have hlt : i < 32 := of_decide_eq_true h
  subst h1 h3
  have e1 : Leaf.std.ar .add .i64 (j : Int) 1 = j + 1 := add_i64 (by omega) (by omega)
  refine ⟨?_, ⟨⟨j + 1, by simp only [e1]; omega, by omega, ?_⟩, by rw [e1]; omega⟩⟩
  · show (0 : Int) ≤ ((List.replicate j (5 : Int) ++ [5]).length : Nat) ∧ (((List.replicate j (5 : Int) ++ [5]).length : Nat) : Int) ≤ 140737488355328 ∧ (((List.replicate j (5 : Int) ++ [5]).length : Nat) : Int) * (8 : Nat) ≤ 140737488355328
    rw [List.length_append, List.length_replicate]
    simp only [List.length_cons, List.length_nil]
    omega
  · show List.replicate j (5 : Int) ++ [5] = _
    rw [List.replicate_succ']
theorem fx_end {A : Leaf} {i j : Int} {a b : List Int} (hA : A = .std) (hI : FxI (i, a)) (h : A.cmp .lss i 288 = false) (hJ : FyI (j, b)) (h2 : A.cmp .lss j 32 = false) : FixIs a b := by
  subst hA
  have h : ¬ i < 288 := of_decide_eq_false h
  have h2 : ¬ j < 32 := of_decide_eq_false h2
  obtain ⟨n, h3, h4, h5⟩ := hI
  obtain ⟨m, h6, h7, h8⟩ := hJ
  simp only at h3 h5 h6 h8
  obtain rfl : n = 288 := by omega
  obtain rfl : m = 32 := by omega
  refine ⟨?_, h8⟩
  rw [h5]
  rfl
theorem fixV9 {A : Leaf} {i : Int} (hA : A = .std) (h1 : A.cmp .geq i 144 = true) (h2 : A.cmp .lss i 256 = true) : 9 = fixV i := by
  subst hA
  have h1 : i ≥ 144 := of_decide_eq_true h1
  have h2 : i < 256 := of_decide_eq_true h2
  unfold fixV
  rw [if_pos (by omega)]
theorem fixV7 {A : Leaf} {i : Int} (hA : A = .std) (h1 : A.cmp .geq i 256 = true) (h2 : A.cmp .lss i 280 = true) : 7 = fixV i := by
  subst hA
  have h1 : i ≥ 256 := of_decide_eq_true h1
  have h2 : i < 280 := of_decide_eq_true h2
  unfold fixV
  rw [if_neg (by omega), if_pos (by omega)]
theorem fixV8a {A : Leaf} {i : Int} (hA : A = .std) (h1 : A.cmp .geq i 144 = false) : 8 = fixV i := by
  subst hA
  have h1 : ¬ i ≥ 144 := of_decide_eq_false h1
  unfold fixV
  rw [if_neg (by omega), if_neg (by omega)]
theorem fixV8b {A : Leaf} {i : Int} (hA : A = .std) (h1 : A.cmp .geq i 256 = true) (h2 : A.cmp .lss i 280 = false) : 8 = fixV i := by
  subst hA
  have h1 : i ≥ 256 := of_decide_eq_true h1
  have h2 : ¬ i < 280 := of_decide_eq_false h2
  unfold fixV
  rw [if_neg (by omega), if_neg (by omega)]
theorem fxk1 {A : Leaf} {i : Int} (hA : A = .std) (h1 : A.cmp .lss i 256 = true) (h2 : A.cmp .geq i 256 = true) : False := by
  subst hA
  have h1 : i < 256 := of_decide_eq_true h1
  have h2 : i ≥ 256 := of_decide_eq_true h2
  omega
theorem fxk2 {A : Leaf} {i : Int} (hA : A = .std) (h1 : A.cmp .lss i 256 = false) (h2 : A.cmp .geq i 256 = false) : False := by
  subst hA
  have h1 : ¬ i < 256 := of_decide_eq_false h1
  have h2 : ¬ i ≥ 256 := of_decide_eq_false h2
  omega
theorem fxk3 {A : Leaf} {i : Int} (hA : A = .std) (h1 : A.cmp .geq i 144 = false) (h2 : A.cmp .geq i 256 = true) : False := by
  subst hA
  have h1 : ¬ i ≥ 144 := of_decide_eq_false h1
  have h2 : i ≥ 256 := of_decide_eq_true h2
  omega
theorem reffixed_ok : FOK Try.prog C1 45 (fun _ => false) [] [] (fun rs H => ∃ a b, rs = [.own 0, .own 1] ∧ H = [.row 3 (.ints .i64 a), .row 3 (.ints .i64 b)] ∧ FixIs a b) := by
  refine fok_of (B := ⟨lookT tis, fun _ => false, []⟩) (tab1 _) (zero1 _) cod1 mix1 Try.func45 (by kernel_rfl) rfl rfl rfl fun X F => ?_
  obtain ⟨A, hA⟩ : ∃ A, A = Leaf.std := ⟨_, rfl⟩
  refine F.hold hA 2000 ?_
  cbv
  repeat (first
    | refine OK.drawn (by decide +kernel) ?_
    | refine OK.tree ⟨lookT tis, fun _ => true, []⟩ (by decide +kernel) ?_
    | refine OK.need (by first | assumption | (rw [hA]; first | (show (_ : Int) ≠ _; decide) | (show (0 : Int) ≤ _; decide) | (show (0 : Int) ≤ _ ∧ _ < (256 : Int); decide))) ?_
    | (refine F.hold hA 2000 ?_; cbv))
  refine F.loop (V := Int × List Int) [3] (FxI) (fun w => (288 - w.1).toNat) (fun w => [(2, .own 0), (4, .int .i64 w.1)]) (fun w => [(0, .row 3 (.ints .i64 w.2)), (1, .row 3 (.ints .i64 []))]) (_, _) (by cbv; repeat (first | exact WkH.nil _ | apply WkH.gone | refine WkH.eq rfl ?_)) (by cbv; repeat (first | apply WkL.any | exact WkL.nil _ | refine WkL.eq rfl ?_ | refine WkL.bool rfl ?_)) (by cbv; exact ⟨rfl⟩) ?_ ?_
  · exact ⟨0, rfl, by decide, rfl⟩
  rintro ⟨i, row⟩ hI Bk hBk
  repeat (first
    | refine OK.drawn (by decide +kernel) ?_
    | refine OK.tree ⟨lookT tis, fun _ => true, []⟩ (by decide +kernel) ?_
    | refine OK.need (by first | assumption | (rw [hA]; first | (show (_ : Int) ≠ _; decide) | (show (0 : Int) ≤ _; decide) | (show (0 : Int) ≤ _ ∧ _ < (256 : Int); decide))) ?_
    | (refine F.hold hA 2000 ?_; cbv))
  refine OK.branch (fun b1 => ?_) (fun b1 => ?_)
  · have hat := fxA hA hI b1
    have q := hat.sm
    repeat' (first
      | contradiction
      | exact (fxk1 hA (by assumption) (by assumption)).elim
      | exact (fxk2 hA (by assumption) (by assumption)).elim
      | exact (fxk3 hA (by assumption) (by assumption)).elim
      | refine OK.drawn (by decide +kernel) ?_
      | refine OK.tree ⟨lookT tis, fun _ => true, []⟩ (by decide +kernel) ?_
      | refine OK.both ?_ ?_
      | refine OK.need (by first | assumption | (rw [hA]; first | (show (_ : Int) ≠ _; decide) | (show (0 : Int) ≤ _; decide) | (show (0 : Int) ≤ _ ∧ _ < (256 : Int); decide))) ?_
      | refine OK.need ?_ ?_
      | (refine OK.branch ?_ ?_ <;> intro h)
      | (refine F.hold hA 2000 ?_; cbv))
    any_goals refine OK.back (hBk _ _ (_, _) (by cbv; repeat (first | exact WkH.nil _ | apply WkH.gone | refine WkH.eq rfl ?_)) (by cbv; repeat (first | apply WkL.any | exact WkL.nil _ | refine WkL.eq rfl ?_ | refine WkL.bool rfl ?_)) (by cbv; exact ⟨rfl⟩) ?_ ?_)
    all_goals first | exact q _ | exact (hat.nx _ (fixV9 hA (by assumption) (by assumption))).1 | exact (hat.nx _ (fixV9 hA (by assumption) (by assumption))).2 | exact (hat.nx _ (fixV7 hA (by assumption) (by assumption))).1 | exact (hat.nx _ (fixV7 hA (by assumption) (by assumption))).2 | exact (hat.nx _ (fixV8a hA (by assumption))).1 | exact (hat.nx _ (fixV8a hA (by assumption))).2 | exact (hat.nx _ (fixV8b hA (by assumption) (by assumption))).1 | exact (hat.nx _ (fixV8b hA (by assumption) (by assumption))).2
  clear hBk
  repeat (first
    | refine OK.drawn (by decide +kernel) ?_
    | refine OK.tree ⟨lookT tis, fun _ => true, []⟩ (by decide +kernel) ?_
    | refine OK.need (by first | assumption | (rw [hA]; first | (show (_ : Int) ≠ _; decide) | (show (0 : Int) ≤ _; decide) | (show (0 : Int) ≤ _ ∧ _ < (256 : Int); decide))) ?_
    | (refine F.hold hA 2000 ?_; cbv))
  refine F.loop (V := Int × List Int) [2] (FyI) (fun w => (32 - w.1).toNat) (fun w => [(3, .own 1), (6, .int .i64 w.1)]) (fun w => [(0, .row 3 (.ints .i64 row)), (1, .row 3 (.ints .i64 w.2))]) (_, _) (by cbv; repeat (first | exact WkH.nil _ | apply WkH.gone | refine WkH.eq rfl ?_)) (by cbv; repeat (first | apply WkL.any | exact WkL.nil _ | refine WkL.eq rfl ?_ | refine WkL.bool rfl ?_)) (by cbv; exact ⟨rfl⟩) ?_ ?_
  · exact ⟨0, rfl, by decide, rfl⟩
  rintro ⟨j, row2⟩ hJ Bk hBk
  repeat (first
    | refine OK.drawn (by decide +kernel) ?_
    | refine OK.tree ⟨lookT tis, fun _ => true, []⟩ (by decide +kernel) ?_
    | refine OK.need (by first | assumption | (rw [hA]; first | (show (_ : Int) ≠ _; decide) | (show (0 : Int) ≤ _; decide) | (show (0 : Int) ≤ _ ∧ _ < (256 : Int); decide))) ?_
    | (refine F.hold hA 2000 ?_; cbv))
  refine OK.branch (fun b2 => ?_) (fun b2 => ?_)
  · have hat := fyA hA hJ b2
    have q := hat.sm
    repeat (first
      | refine OK.drawn (by decide +kernel) ?_
      | refine OK.tree ⟨lookT tis, fun _ => true, []⟩ (by decide +kernel) ?_
      | refine OK.need (by first | assumption | (rw [hA]; first | (show (_ : Int) ≠ _; decide) | (show (0 : Int) ≤ _; decide) | (show (0 : Int) ≤ _ ∧ _ < (256 : Int); decide))) ?_
      | (refine F.hold hA 2000 ?_; cbv))
    refine OK.back (hBk _ _ (_, _) (by cbv; repeat (first | exact WkH.nil _ | apply WkH.gone | refine WkH.eq rfl ?_)) (by cbv; repeat (first | apply WkL.any | exact WkL.nil _ | refine WkL.eq rfl ?_ | refine WkL.bool rfl ?_)) (by cbv; exact ⟨rfl⟩) ?_ ?_)
    · exact hat.nx.1
    · exact hat.nx.2
  have hfin := fx_end hA hI b1 hJ b2
  clear hBk
  repeat (first
    | refine OK.drawn (by decide +kernel) ?_
    | refine OK.tree ⟨lookT tis, fun _ => true, []⟩ (by decide +kernel) ?_
    | refine OK.need (by first | assumption | (rw [hA]; first | (show (_ : Int) ≠ _; decide) | (show (0 : Int) ≤ _; decide) | (show (0 : Int) ≤ _ ∧ _ < (256 : Int); decide))) ?_
    | (refine F.hold hA 2000 ?_; cbv))
  exact F.ret (H' := [_, _]) (F.cv ⟨rfl⟩ (.eq rfl (.eq rfl (.nil _))) (.eq rfl (.eq rfl (.nil _)))) rfl ⟨_, _, rfl, rfl, hfin⟩
end Go.L1

-- D22
namespace Go.L1
open Go Go.Sx Go.Proofs Go.Huff
set_option maxRecDepth 20000
set_option linter.unusedVariables false
set_option linter.unusedSimpArgs false
theorem LngIs.uniq {s a b c d : Int} {p q : Bool} (h : LngIs s a b p) (k : LngIs s c d q) : c = a ∧ d = b ∧ q = p := by
  rcases h with ⟨rfl, h1, _, _, _, h2⟩ | ⟨rfl, rfl, rfl, h2⟩ <;> rcases k with ⟨rfl, k1, _, _, _, k2⟩ | ⟨rfl, rfl, rfl, k2⟩
  · rw [h2] at k2
    simp only [Except.ok.injEq, Prod.mk.injEq] at k2
    exact ⟨k2.1.symm, by omega, rfl⟩
  · rw [h2] at k2; cases k2
  · rw [h2] at k2; cases k2
  · exact ⟨rfl, rfl, rfl⟩
theorem DstIs.uniq {s a b c d : Int} {p q : Bool} (h : DstIs s a b p) (k : DstIs s c d q) : c = a ∧ d = b ∧ q = p := by
  rcases h with ⟨rfl, h1, _, _, _, h2⟩ | ⟨rfl, rfl, rfl, h2⟩ <;> rcases k with ⟨rfl, k1, _, _, _, k2⟩ | ⟨rfl, rfl, rfl, k2⟩
  · rw [h2] at k2
    simp only [Except.ok.injEq, Prod.mk.injEq] at k2
    exact ⟨k2.1.symm, by omega, rfl⟩
  · rw [h2] at k2; cases k2
  · rw [h2] at k2; cases k2
  · exact ⟨rfl, rfl, rfl⟩
end Go.L1
