/- Own work of the session: part LH of a proof that the program's functions do what the statement says (a symbolic executor, contracts of the functions, plain laws). -/
import Derived.Test.YtmgmbcniamkfeaaLE
import Derived.Test.YtmgmbcniamkfeaaSxC
import Derived.Test.YtmgmbcniamkfeaaLD
set_option linter.all false
-- D16
namespace Go.L1
open Go Go.Sx Go.Proofs Go.Huff
set_option maxRecDepth 20000
set_option linter.unusedVariables false
set_option linter.unusedSimpArgs false
structure InfP (xs : List UInt8) (lim : Int) : Prop where
  l : xs.length ≤ 100000
  hi : lim ≤ 1048576
def InBk (xs : List UInt8) (lim : Int) (fr : List (SV T1)) (H : List (Ch T1)) : Prop :=
  (∃ L g : Int, L = max lim 0 ∧ fr = [.ro (.bytes xs), .int .i64 lim, .any, .any, .ptr 0 0, .ptr 1 0, .ptr 4 0, .ro (.bytes xs), .ptr 3 0, .int .i64 lim, .int .i64 L, .agg [.ptr 3 0, .int .i64 L, .val (.slice none 0 0), .int .i64 0, .int .i64 0, .int .i64 0], .ptr 4 0, .any, .any, .any, .any, .any, .any, .any, .any, .any, .any, .any, .any, .any, .any, .any, .any, .any, .any, .any] ∧
    H = [.cells 68 [.val (.slice none 0 0), .int .i64 0, .int .i64 0, .int .i64 0], .cells 28 [.int .i64 0], .gone, .cells 82 [.ro (.bytes xs), .int .i64 0], .cells 98 [.ptr 3 0, .int .i64 L, .val (.slice none 0 0), .int .i64 0, .int .i64 0, .int .i64 0]])
def InPE (xs : List UInt8) (lim : Int) (ch : List PanicEntry) (fr : List (SV T1)) (H : List (Ch T1)) : Prop :=
  nth fr 4 = some (.ptr 0 0) ∧ nth fr 5 = some (.ptr 1 0) ∧ (∃ e, inflR xs lim = .error e ∧ Flt e ch) ∧ H = [.cells 68 [.val (.slice none 0 0), .int .i64 0, .int .i64 0, .int .i64 0], .cells 28 [.int .i64 0], .gone, .gone, .gone, .gone]
def InfI (xs : List UInt8) (lim : Int) (w : Int × List UInt8 × Int × Int) : Prop :=
  SySt xs (max lim 0) w.1 w.2.1 w.2.2.1 ∧ BlkP w.1 w.2.2.2 ∧ ∃ f : Nat, (fuel : Int) ≤ f + w.1 ∧ blocksR xs (max lim 0) fuel 0 [] 0 0 = blocksR xs (max lim 0) f w.1 w.2.1 w.2.2.1 w.2.2.2
structure InfOK (xs : List UInt8) (lim : Int) (out : List UInt8) (used k b : Int) : Prop where
  e : inflR xs lim = .ok (out, used, k, b)
  bd : ∃ p, SySt xs (max lim 0) p out k ∧ used = (p + 7) / 8 ∧ 1 ≤ b ∧ b ≤ p
structure InfAt (xs : List UInt8) (lim L p : Int) (out : List UInt8) (k b : Int) : Prop where
  st : SySt xs L p out k
  bp : BlkP p b
  er : ∀ e, blockR xs L p out k = .error e → inflR xs lim = .error e
  nx : ∀ p' out' k', BlkIs xs L p out k false p' out' k' → InfI xs lim (p', out', k', b + 1) ∧ (8 * xs.length - p').toNat < (8 * xs.length - p).toNat
  fin : ∀ p' out' k', BlkIs xs L p out k true p' out' k' → InfOK xs lim out' ((p' + 7) / 8) k' (b + 1)
theorem infAt {xs : List UInt8} {lim p : Int} {out : List UInt8} {k b : Int} (hp : InfP xs lim) (hI : InfI xs lim (p, out, k, b)) : InfAt xs lim (max lim 0) p out k b := by
  obtain ⟨h1, h2, f, h3, h4⟩ := hI
  simp only at h1 h2 h3 h4
  have hl := h1.s.rd.hi
  have hxl := hp.l
  obtain ⟨g, rfl⟩ : ∃ g, f = g + 1 := ⟨f - 1, by unfold fuel at h3; omega⟩
  refine ⟨h1, h2, fun e he => ?_, fun p' out' k' hb => ⟨⟨hb.s, ⟨by have := h2.lo; simp only; omega, by have := h2.hi; have := hb.lt; simp only; omega⟩, g, by have := hb.lt; simp only; omega, ?_⟩, ?_⟩, fun p' out' k' hb => ?_⟩
  · unfold inflR
    rw [h4]
    simp only [blocksR, bind, Except.bind, he]
  · rw [h4]
    have := hb.e
    simp only [blocksR, bind, Except.bind, this]
    rfl
  · have := hb.lt
    have := hb.s.s.rd.hi
    omega
  · have := hb.e
    refine ⟨?_, p', hb.s, rfl, by have := h2.lo; omega, by have := h2.hi; have := hb.lt; omega⟩
    unfold inflR
    rw [h4]
    simp only [blocksR, bind, Except.bind, this, if_pos]
theorem infSt {xs : List UInt8} {lim : Int} (hp : InfP xs lim) : InfI xs lim (0, [], 0, 0) := by
  have h1 := hp.l
  have h2 := hp.hi
  refine ⟨⟨⟨⟨⟨by omega, by simp only; omega, by simp only; omega⟩, by simp only; omega⟩, h1⟩, ⟨by omega, by omega, by simp only [List.length_nil]; omega⟩, ⟨Int.le_refl _, Int.le_refl _⟩⟩, ⟨Int.le_refl _, Int.le_refl _⟩, fuel, by simp only; omega, rfl⟩
theorem usedE {A : Leaf} {xs : List UInt8} {p : Int} (hA : A = .std) (hs : InS xs p) : A.ar .quo .i64 (A.ar .add .i64 p 7) 8 = (p + 7) / 8 := by
  have h1 := hs.rd.rd.lo
  have h2 := hs.rd.hi
  have h3 := hs.l
  subst hA
  have e1 : Leaf.std.ar .add .i64 p 7 = p + 7 := add_i64 (by omega) (by omega)
  rw [e1]
  show IntKind.wrap .i64 ((p + 7).tdiv 8) = _
  rw [Int.tdiv_eq_ediv_of_nonneg (by omega)]
  exact l_conv_i64 (by omega) (by omega)
def InflIs (xs : List UInt8) (lim : Int) (rs : List (SV T1)) (H : List (Ch T1)) : Prop :=
  (∃ out used k b, InfOK xs lim out used k b ∧ rs = [.agg [.own 5, .int .i64 used, .int .i64 k, .int .i64 b], .int .i64 0] ∧ H = [.gone, .gone, .gone, .gone, .gone, .row 5 (.bytes out)]) ∨
  (∃ e, inflR xs lim = .error e ∧ rs = [.agg [.val (.slice none 0 0), .int .i64 0, .int .i64 0, .int .i64 0], .int .i64 e] ∧ H = [.gone, .gone, .gone, .gone, .gone, .gone])
theorem inv56 (vals : Array Value) (w : World) : (invoke (.fn (.func 56) vals) #[]).run Try.prog w = .ok (.enter 56 vals) w := by
  have hn : (Try.f56.name == "runtime.NumGoroutine") = false := by kernel_rfl
  have hn' : ¬ Try.f56.name = "runtime.NumGoroutine" := by simpa using hn
  have hb : ∃ c, Try.f56.body = some c := ⟨_, rfl⟩
  obtain ⟨c, hb⟩ := hb
  simp [invoke, callFunc, Try.func56, hn', hb]
theorem idle56 (vals : Array Value) (w : World) : CallsD Try.prog 56 vals .returning w fun e u' w' => (∃ v, e = .returned v) ∧ u' = .returning ∧ w' = w := by
  refine idle_of (d0 := 5) (d1 := 2) (d2 := 6) (d3 := 7) Try.func56 rfl rfl (fun ρ w => ?_) (fun ρ w => ?_) (fun ρ w => ?_) (fun a w h => ?_) ⟨rfl, rfl, rfl, rfl⟩ ⟨rfl, rfl, rfl, rfl⟩ (by decide)
  · simp [go_sem]
  · simp [go_sem]
  · simp [go_sem]
  · simp [go_sem, h, Act.eval] at h ⊢
    simp [go_sem, h, Act.eval]
    done
def ClH (e : Int) : List (Ch T1) := [.cells 68 [.val (.slice none 0 0), .int .i64 0, .int .i64 0, .int .i64 0], .cells 28 [.int .i64 e], .gone, .gone, .gone, .gone]
def ClP (e : Int) (rs : List (SV T1)) (H : List (Ch T1)) : Prop := rs = [] ∧ H = ClH e
theorem clo_fr {M : Mem} {v4 v5 : Value} {e : Int} {a : Act} (h4 : DenV C1 M (.ptr 0 0) v4) (h5 : DenV C1 M (.ptr 1 0) v5)
    (ha : a = ({ tmps := #[v4, v5] ++ Array.replicate 17 undef, defers := [] } : Act).put (some 5) (.iface 100 (.agg #[.int .i64 e]))) :
    FrOK C1 M ([.ptr 0 0, .ptr 1 0] ++ (anys 3 ++ (.iface 100 (.agg [.int .i64 e]) :: anys 13))) a := by
  have hs : a.tmps.size = 19 := by rw [ha, put_size]; simp
  have g0 : a.tmps.getD 0 undef = v4 := by
    rw [ha, put_getD (by decide)]
    simp [Array.getD_eq_getD_getElem?, Array.getElem?_append]
  have g1 : a.tmps.getD 1 undef = v5 := by
    rw [ha, put_getD (by decide)]
    simp [Array.getD_eq_getD_getElem?, Array.getElem?_append]
  have g5 : a.tmps.getD 5 undef = .iface 100 (.agg #[.int .i64 e]) := by rw [ha]; exact put_same (by simp)
  refine ⟨by rw [hs]; simp [anys_length], fun i s hi => ?_⟩
  rcases i with _ | _ | i
  · cases hi; rw [g0]; exact h4
  · cases hi; rw [g1]; exact h5
  · replace hi : (anys 3 ++ (.iface 100 (.agg [.int .i64 e]) :: anys 13))[i]? = some s := hi
    rcases i with _ | _ | _ | _ | i
    · cases hi; exact trivial
    · cases hi; exact trivial
    · cases hi; exact trivial
    · cases hi; rw [g5]; exact Den.ifaceA _ [.int .i64 e] [.int .i64 e] (.int _ _ .nil) .nil
    · replace hi : (anys (T := T1) 13)[i]? = some s := hi
      rw [anys_get _ _ _ hi]
      trivial
theorem clo_ok {E : Env} {M : Mem} {e : Int} {v4 v5 : Value} (hS : Sat C1 E M (ClH 0)) (hA : ∀ c, Nat.ble c 4 = false → E.A c = none) (h4 : DenV C1 M (.ptr 0 0) v4) (h5 : DenV C1 M (.ptr 1 0) v5) :
    CallsD Try.prog 56 #[v4, v5] (.panicking [{ v := .iface 100 (.agg #[.int .i64 e]), recovered := false }]) M.w
      fun x u' w' => u' = .panicking [{ v := .iface 100 (.agg #[.int .i64 e]), recovered := true }] ∧ (∃ v, x = .returned v) ∧ ∃ M', Sat C1 E M' (ClH e) ∧ M'.w = w' := by
  obtain ⟨X, hX⟩ : ∃ X : Ctx T1, X = ⟨Try.prog, C1, ⟨lookT tis, fun c => Nat.ble c 4, []⟩, E, Try.f56, 6, ClP e, fun _ _ _ => False, []⟩ := ⟨_, rfl⟩
  have F : Fits X Try.prog C1 ⟨lookT tis, fun c => Nat.ble c 4, []⟩ [] 6 (ClP e) := by
    subst hX
    exact ⟨rfl, rfl, rfl, rfl, rfl, rfl, ⟨tab1 _, zero1 _, cod1, hA, mix1⟩, fun c h hc => (hS.anch c h hc).1⟩
  have hPE : ∀ ch fr H, ¬ X.PE ch fr H := by subst hX; exact fun _ _ _ h => h
  have hfn : X.fn = Try.f56 := by subst hX; rfl
  have hds : X.ds = [] := by subst hX; rfl
  have hf : X.P.funcs[56]? = some X.fn := by subst hX; exact Try.func56
  have hS' : Sat X.C X.E M (ClH 0) := by subst hX; exact hS
  have hPo : X.Post = ClP e := F.Post
  have hC : X.C = C1 := F.C
  have hE : X.E = E := by subst hX; rfl
  have hP : X.P = Try.prog := F.P
  have hb : X.fn.body = Try.f56.body := by rw [hfn]
  have hH : Holds X [.code (.skip)] [] [] → True := fun _ => trivial
  refine hP ▸ CallsD.mono (callsD_rec (X := X) (fr := [.ptr 0 0, .ptr 1 0] ++ (anys 3 ++ (.iface 100 (.agg [.int .i64 e]) :: anys 13))) (H := ClH 0) (v := .iface 100 (.agg #[.int .i64 e]))
    (u1 := .panicking [{ v := .iface 100 (.agg #[.int .i64 e]), recovered := true }]) hf (hb.trans (show Try.f56.body = some _ from rfl)) (fun ρ w => ?_) rfl hds (fun c0 cs hu => ?_) ?_ hS' ?_) ?_
  · simp [go_sem]
  · simp [recoverD, hu]
  · clear hS hS' h4 h5 hX
    obtain ⟨A, hA⟩ : ∃ A, A = Leaf.std := ⟨_, rfl⟩
    refine F.hold hA 2000 ?_
    cbv
    repeat' (first
      | refine OK.drawn (by decide +kernel) ?_
      | refine OK.tree ⟨lookT tis, fun _ => true, []⟩ (by decide +kernel) ?_
      | refine OK.both ?_ ?_
      | refine OK.need (by first | assumption | (rw [hA]; first | (show (_ : Int) ≠ _; decide) | (show (0 : Int) ≤ _; decide) | (show (0 : Int) ≤ _ ∧ _ < (256 : Int); decide))) ?_
      | refine OK.need ?_ ?_
      | (refine OK.branch ?_ ?_ <;> intro h)
      | (refine F.hold hA 2000 ?_; cbv))
    all_goals exact F.ret (rs' := []) (H' := ClH e) (F.cv ⟨rfl⟩ (.nil _) (.eq rfl (.eq rfl (.gone (.gone (.gone (.gone (.nil _)))))))) rfl ⟨rfl, rfl⟩
  · rw [hC]
    exact clo_fr h4 h5 (by rw [hfn]; rfl)
  · rintro x u' w' ⟨hu, h⟩
    refine ⟨hu, ?_⟩
    cases x with
    | returned r =>
      obtain ⟨rs, H', M', h1, h2, h3, _⟩ := h
      rw [hPo] at h1
      obtain ⟨_, rfl⟩ := h1
      rw [hC, hE] at h2
      exact ⟨⟨_, rfl⟩, M', h2, h3⟩
    | panicked ch => obtain ⟨fr, H', M', h1, _⟩ := h; exact (hPE _ _ _ h1).elim
    | outgrown => exact h.elim
theorem inflate_ok (xs : List UInt8) (lim : Int) (hp : InfP xs lim) :
    FOK Try.prog C1 46 (fun _ => false) [.ro (.bytes xs), .int .i64 lim] []
    (InflIs xs lim) := by
  refine fokd_of (B := ⟨lookT tis, fun _ => false, []⟩) (B2 := ⟨lookT tis, fun c => Nat.ble c 4, [4, 5]⟩) (pre := [_, _]) (t := 13) (caps := [4, 5]) (g := 56) (Bk := InBk xs lim) (PE2 := InPE xs lim) (tab1 _) (zero1 _) (tab1 _) (zero1 _) cod1 mix1 Try.func46 (by kernel_rfl) rfl rfl rfl (fun _ h => nomatch h) inv56 (fun X F => ?_) ?_ ?_ (fun fr H1 hB X F hX => ?_) (fun vals w _ => idle56 vals w) ?_
  · obtain ⟨A, hA⟩ : ∃ A, A = Leaf.std := ⟨_, rfl⟩
    refine F.hold hA 2000 ?_
    cbv
    refine F.call [] (newReader_ok xs (by have := hp.l; omega)) rfl rfl rfl fun rs H' hq => ?_
    obtain ⟨rfl, rfl⟩ := hq
    refine ⟨rfl, ?_⟩
    repeat (first
      | refine OK.drawn (by decide +kernel) ?_
      | refine OK.tree ⟨lookT tis, fun _ => true, []⟩ (by decide +kernel) ?_
      | refine OK.need (by first | assumption | (rw [hA]; first | (show (_ : Int) ≠ _; decide) | (show (0 : Int) ≤ _; decide) | (show (0 : Int) ≤ _ ∧ _ < (256 : Int); decide))) ?_
      | (refine F.hold hA 2000 ?_; cbv))
    refine OK.back ⟨_, 0, ?_, rfl, rfl⟩
    subst hA
    show (if lim < 0 then 0 else lim) = max lim 0
    split <;> omega
  · rintro fr H1 ⟨L, g, _, rfl, _⟩
    exact Nat.le_of_ble_eq_true rfl
  · intro Q a w ht h
    refine wp_region_list ?_
    simp [wpList, go_sem, Region.wanted, ht]
    simp [capV, Act.put] at h
    exact .inl (.inl h)
  · obtain ⟨L, g, hL, rfl, rfl⟩ := hB
    obtain ⟨A, hA⟩ : ∃ A, A = Leaf.std := ⟨_, rfl⟩
    refine F.hold hA 2000 ?_
    cbv
    refine OK.loopCv (Cv.adoptIn F.cod 4 2 5 (ek := .byte) rfl rfl rfl) ?_
    refine F.loop (V := Int × List UInt8 × Int × Int) [4, 5, 6] (InfI xs lim) (fun w => (8 * xs.length - w.1).toNat) (fun w => []) (fun w => [(3, .cells 82 [.ro (.bytes xs), .int .i64 w.1]), (4, .cells 98 [.ptr 3 0, .int .i64 L, .own 5, .int .i64 0, .int .i64 w.2.2.1, .int .i64 w.2.2.2]), (5, .row 5 (.bytes w.2.1))]) (_, _, _, _) (by cbv; repeat (first | exact WkH.nil _ | apply WkH.gone | refine WkH.eq rfl ?_)) (by cbv; repeat (first | apply WkL.any | exact WkL.nil _ | refine WkL.eq rfl ?_ | refine WkL.bool rfl ?_)) (by cbv; exact ⟨rfl⟩) ?_ ?_
    · exact infSt hp
    rintro ⟨p, out, k, b⟩ hI Bk hBk
    have hat := infAt hp hI
    rw [← hL] at hat
    repeat (first
      | refine OK.drawn (by decide +kernel) ?_
      | refine OK.tree ⟨lookT tis, fun _ => true, []⟩ (by decide +kernel) ?_
      | refine OK.need (by first | assumption | (rw [hA]; first | (show (_ : Int) ≠ _; decide) | (show (0 : Int) ≤ _; decide) | (show (0 : Int) ≤ _ ∧ _ < (256 : Int); decide))) ?_
      | (refine F.hold hA 2000 ?_; cbv))
    refine F.callp [4, 3, 5] (block_ok6 xs out L 0 k b p hat.st hat.bp) rfl rfl rfl (fun ch hch => ?_) (fun rs H' hq => ?_)
    · rw [hX]
      obtain ⟨e, he, hf⟩ := hch
      exact ⟨rfl, rfl, ⟨e, hat.er e he, hf⟩, rfl⟩
    obtain ⟨last, p', out', k', b', rfl, rfl, h1, hb'⟩ := hq
    refine ⟨rfl, ?_⟩
    repeat (first
      | refine OK.drawn (by decide +kernel) ?_
      | refine OK.tree ⟨lookT tis, fun _ => true, []⟩ (by decide +kernel) ?_
      | refine OK.need (by first | assumption | (rw [hA]; first | (show (_ : Int) ≠ _; decide) | (show (0 : Int) ≤ _; decide) | (show (0 : Int) ≤ _ ∧ _ < (256 : Int); decide))) ?_
      | (refine F.hold hA 2000 ?_; cbv))
    refine OK.branch (fun b1 => ?_) (fun b1 => ?_)
    · have hnx := hat.nx p' out' k' (by have e : last = false := (by subst hA; cases last <;> first | rfl | cases b1); subst e; exact h1)
      rw [← hb'] at hnx
      repeat (first
        | refine OK.drawn (by decide +kernel) ?_
        | refine OK.tree ⟨lookT tis, fun _ => true, []⟩ (by decide +kernel) ?_
        | refine OK.need (by first | assumption | (rw [hA]; first | (show (_ : Int) ≠ _; decide) | (show (0 : Int) ≤ _; decide) | (show (0 : Int) ≤ _ ∧ _ < (256 : Int); decide))) ?_
        | (refine F.hold hA 2000 ?_; cbv))
      refine OK.back (hBk _ _ (_, _, _, _) (by cbv; repeat (first | exact WkH.nil _ | apply WkH.gone | refine WkH.eq rfl ?_)) (by cbv; repeat (first | apply WkL.any | exact WkL.nil _ | refine WkL.eq rfl ?_ | refine WkL.bool rfl ?_)) (by cbv; exact ⟨rfl⟩) ?_ ?_)
      · exact hnx.1
      · exact hnx.2
    · have hfin := hat.fin p' out' k' (by have e : last = true := (by subst hA; cases last <;> first | rfl | cases b1); subst e; exact h1)
      rw [← hb'] at hfin
      have eu := usedE hA (h1.s.s)
      rw [← eu] at hfin
      repeat (first
        | refine OK.drawn (by decide +kernel) ?_
        | refine OK.tree ⟨lookT tis, fun _ => true, []⟩ (by decide +kernel) ?_
        | refine OK.need (by first | assumption | (rw [hA]; first | (show (_ : Int) ≠ _; decide) | (show (0 : Int) ≤ _; decide) | (show (0 : Int) ≤ _ ∧ _ < (256 : Int); decide))) ?_
        | (refine F.hold hA 2000 ?_; cbv))
      refine F.call [3] (at_ok xs p') rfl rfl rfl fun rs H' hq => ?_
      obtain ⟨rfl, rfl⟩ := hq
      refine ⟨rfl, ?_⟩
      repeat (first
        | refine OK.drawn (by decide +kernel) ?_
        | refine OK.tree ⟨lookT tis, fun _ => true, []⟩ (by decide +kernel) ?_
        | refine OK.need (by first | assumption | (rw [hA]; first | (show (_ : Int) ≠ _; decide) | (show (0 : Int) ≤ _; decide) | (show (0 : Int) ≤ _ ∧ _ < (256 : Int); decide))) ?_
        | (refine F.hold hA 2000 ?_; cbv))
      exact F.ret (rs' := [_, _]) (H' := [.gone, .gone, .gone, .gone, .gone, _]) (F.cv ⟨rfl⟩ (.eq rfl (.eq rfl (.nil _))) (.gone (.gone (.gone (.gone (.gone (.eq rfl (.nil _)))))))) rfl (.inl ⟨_, _, _, _, hfin, rfl, rfl⟩)
  · rintro fr1 H1 hB E M1 M fr H' ch a a1 ⟨hf4, hf5, ⟨e, he, hch⟩, rfl⟩ hF1 hA1 hA2 hS hkp
    obtain ⟨L, g, hL, rfl, rfl⟩ := hB
    have h4 : DenV C1 M (.ptr 0 0) (a1.tmps.getD 4 undef) := ptr_anch (hF1.2 4 (.ptr 0 0) rfl) (hA2 0 (Nat.le_of_ble_eq_true rfl) rfl) hS
    have h5 : DenV C1 M (.ptr 1 0) (a1.tmps.getD 5 undef) := ptr_anch (hF1.2 5 (.ptr 1 0) rfl) (hA2 1 (Nat.le_of_ble_eq_true rfl) rfl) hS
    have k4 : DenV C1 M (.ptr 0 0) (a.tmps.getD 4 undef) := hkp 4 (by decide) _ (by rw [← nth_eq]; exact hf4)
    have k5 : DenV C1 M (.ptr 1 0) (a.tmps.getD 5 undef) := hkp 5 (by decide) _ (by rw [← nth_eq]; exact hf5)
    have a0 : E.A 0 = some (M.ρ 0) := hS.anchor (hA2 0 (Nat.le_of_ble_eq_true rfl) rfl)
    have a1' : E.A 1 = some (M.ρ 1) := hS.anchor (hA2 1 (Nat.le_of_ble_eq_true rfl) rfl)
    rw [hch]
    refine (clo_ok (e := e) hS hA1 h4 h5).mono ?_
    rintro x u' w' ⟨rfl, hx, M', hS', rfl⟩
    refine ⟨hx, rfl, ?_⟩
    obtain ⟨X, hX⟩ : ∃ X : Ctx T1, X = ⟨Try.prog, C1, ⟨lookT tis, fun c => Nat.ble c 4, []⟩, E, Try.f46, 6, InflIs xs lim, fun _ _ _ => False, []⟩ := ⟨_, rfl⟩
    have F : Fits X Try.prog C1 ⟨lookT tis, fun c => Nat.ble c 4, []⟩ Try.f46.results.toList 6 (InflIs xs lim) := by
      subst hX
      exact ⟨rfl, rfl, rfl, rfl, rfl, rfl, ⟨tab1 _, zero1 _, cod1, hA1, mix1⟩, fun c h hc => (hS'.anch c h hc).1⟩
    obtain ⟨_, v, rs, H', M'', h6, h7, h8, h9, h10⟩ : QK X [] .ret { tmps := a.tmps, defers := [] } M'.w := by
      refine ret_ok (H := ClH e) (fr := [.any, .any, .any, .any, .ptr 0 0, .ptr 1 0]) (rs := [.agg [.val (.slice none 0 0), .int .i64 0, .int .i64 0, .int .i64 0], .int .i64 e]) F.giv ?_ ⟨[.agg [.val (.slice none 0 0), .int .i64 0, .int .i64 0, .int .i64 0], .int .i64 e], [.gone, .gone, .gone, .gone, .gone, .gone], rfl, F.cv ⟨rfl⟩ (.eq rfl (.eq rfl (.nil _))) (.gone (.gone (.gone (.gone (.gone (.gone (.nil _))))))), ?_⟩ ?_ ?_ ?_
      · subst hX; rfl
      · rw [F.Post]; exact .inr ⟨e, he, rfl, rfl⟩
      · subst hX; exact hS'
      · rw [F.C]
        refine ⟨?_, fun i s hi => ?_⟩
        · have := ptr_lt k5
          show 6 ≤ a.tmps.size
          omega
        · rcases i with _ | _ | _ | _ | _ | _ | i
          · cases hi; exact trivial
          · cases hi; exact trivial
          · cases hi; exact trivial
          · cases hi; exact trivial
          · cases hi; exact ptr_anch k4 a0 hS'
          · cases hi; exact ptr_anch k5 a1' hS'
          · cases hi
      · subst hX; rfl
    subst hX
    exact ⟨v, by rw [← h7] at h6 ⊢; exact h6, rs, H', M'', h8, h9, h7, h10⟩
end Go.L1

-- D17
namespace Go.L1
open Go Go.Sx Go.Proofs Go.Huff
set_option maxRecDepth 20000
set_option linter.unusedVariables false
set_option linter.unusedSimpArgs false
theorem al1 : inflR [75, 4, 0] 9 = .ok ([97], 3, 2, 1) := by kernel_rfl
theorem al2 : inflR [1, 2, 0, 253, 255, 7, 8, 99] 2 = .ok ([7, 8], 7, 2, 1) := by kernel_rfl
theorem al3 : inflR [1, 2, 0, 253, 255, 7, 8] 1 = .error 14 := by kernel_rfl
theorem al4 : inflR [7] 1 = .error 10 := by kernel_rfl
theorem al5 : lenR 270 = .ok (23, 2) := by kernel_rfl
theorem al6 : distR 29 = .ok (24577, 13) := by kernel_rfl
def Infd (xs : List UInt8) (lim : Int) (out : List UInt8) (used k b : Int) (rs : List (SV T1)) (H : List (Ch T1)) : Prop := rs = [.agg [.own 5, .int .i64 used, .int .i64 k, .int .i64 b], .int .i64 0] ∧ H = [.gone, .gone, .gone, .gone, .gone, .row 5 (.bytes out)]
def InfE (e : Int) (rs : List (SV T1)) (H : List (Ch T1)) : Prop := rs = [.agg [.val (.slice none 0 0), .int .i64 0, .int .i64 0, .int .i64 0], .int .i64 e] ∧ H = [.gone, .gone, .gone, .gone, .gone, .gone]
theorem InflIs.isOk {xs : List UInt8} {lim : Int} {out : List UInt8} {used k b : Int} {rs : List (SV T1)} {H : List (Ch T1)} (h : InflIs xs lim rs H) (he : inflR xs lim = .ok (out, used, k, b)) : Infd xs lim out used k b rs H := by
  rcases h with ⟨out', used', k', b', h1, h2, h3⟩ | ⟨e, h1, _⟩
  · have := h1.e
    rw [he] at this
    cases this
    exact ⟨h2, h3⟩
  · rw [he] at h1; cases h1
theorem InflIs.isErr {xs : List UInt8} {lim e : Int} {rs : List (SV T1)} {H : List (Ch T1)} (h : InflIs xs lim rs H) (he : inflR xs lim = .error e) : InfE e rs H := by
  rcases h with ⟨out', used', k', b', h1, h2, h3⟩ | ⟨e', h1, h2⟩
  · have := h1.e
    rw [he] at this
    cases this
  · rw [he] at h1
    cases h1
    exact h2
theorem al_len {base extra : Int} {ok : Bool} (h : LngIs 270 base extra ok) : base = 23 ∧ extra = 2 ∧ ok = true := by
  rcases h with ⟨h1, h2, _, _, _, h⟩ | ⟨_, _, _, h⟩
  · rw [al5] at h
    simp only [Except.ok.injEq, Prod.mk.injEq] at h
    exact ⟨h.1.symm, by omega, h1⟩
  · rw [al5] at h; cases h
theorem al_dist {base extra : Int} {ok : Bool} (h : DstIs 29 base extra ok) : base = 24577 ∧ extra = 13 ∧ ok = true := by
  rcases h with ⟨h1, h2, _, _, _, h⟩ | ⟨_, _, _, h⟩
  · rw [al6] at h
    simp only [Except.ok.injEq, Prod.mk.injEq] at h
    exact ⟨h.1.symm, by omega, h1⟩
  · rw [al6] at h; cases h
theorem isb_lit {A : Leaf} {n : Int} (hA : A = .std) (h : decide (0 ≤ n ∧ n < 256) = true) : A.isB n := by subst hA; exact of_decide_eq_true (p := 0 ≤ n ∧ n < 256) h
theorem eql_self {A : Leaf} {n : Int} (hA : A = .std) (h : A.cmp .eql n n = false) : False := by
  subst hA
  have h : (n == n) = false := h
  simp at h
theorem isb2 {p q : Prop} (hp : p) (hq : q) : p ∧ q := ⟨hp, hq⟩
set_option maxHeartbeats 4000000 in
theorem alive6_ok : FOK Try.prog C1 36 (fun _ => false) [] [] (fun rs H => ∃ b, rs = [.bool (.e b)] ∧ H = [] ∧ b = true) := by
  refine fok_of (B := ⟨lookT tis, fun _ => false, []⟩) (tab1 _) (zero1 _) cod1 mix1 Try.func36 (by kernel_rfl) rfl rfl rfl fun X F => ?_
  obtain ⟨A, hA⟩ : ∃ A, A = Leaf.std := ⟨_, rfl⟩
  refine F.hold hA 2000 ?_
  cbv
  repeat' (first
    | refine OK.drawn (by decide +kernel) ?_
    | refine OK.tree ⟨lookT tis, fun _ => true, []⟩ (by decide +kernel) ?_
    | refine OK.both ?_ ?_
    | refine OK.need (by first | assumption | (rw [hA]; first | (show (_ : Int) ≠ _; decide) | (show (0 : Int) ≤ _; decide) | (show (0 : Int) ≤ _ ∧ _ < (256 : Int); decide))) ?_
    | refine OK.need ?_ ?_
    | (refine OK.branch ?_ ?_ <;> intro h)
    | (refine F.hold hA 2000 ?_; cbv))
  · repeat' with_reducible apply isb2
    all_goals exact isb_lit hA (by decide)
  refine F.callFrz 0 rfl rfl rfl rfl ?_
  refine F.call [] (inflate_ok [_, _, _] 9 ⟨Nat.le_of_ble_eq_true rfl, by decide⟩) rfl rfl rfl fun rs H' hq => ?_
  obtain ⟨rfl, rfl⟩ := hq.isOk (by subst hA; exact al1)
  refine ⟨rfl, ?_⟩
  clear hq
  repeat' (first
    | refine OK.drawn (by decide +kernel) ?_
    | refine OK.tree ⟨lookT tis, fun _ => true, []⟩ (by decide +kernel) ?_
    | refine OK.both ?_ ?_
    | refine OK.need (by first | assumption | (rw [hA]; first | (show (_ : Int) ≠ _; decide) | (show (0 : Int) ≤ _; decide) | (show (0 : Int) ≤ _ ∧ _ < (256 : Int); decide))) ?_
    | refine OK.need ?_ ?_
    | (refine OK.branch ?_ ?_ <;> intro h)
    | (refine F.hold hA 2000 ?_; cbv))
  · repeat' with_reducible apply isb2
    all_goals exact isb_lit hA (by decide)
  refine F.callFrz 8 rfl rfl rfl rfl ?_
  refine F.call [] (inflate_ok [_, _, _, _, _, _, _, _] 2 ⟨Nat.le_of_ble_eq_true rfl, by decide⟩) rfl rfl rfl fun rs H' hq => ?_
  obtain ⟨rfl, rfl⟩ := hq.isOk (by subst hA; exact al2)
  refine ⟨rfl, ?_⟩
  clear hq
  repeat' (first
    | refine OK.drawn (by decide +kernel) ?_
    | refine OK.tree ⟨lookT tis, fun _ => true, []⟩ (by decide +kernel) ?_
    | refine OK.both ?_ ?_
    | refine OK.need (by first | assumption | (rw [hA]; first | (show (_ : Int) ≠ _; decide) | (show (0 : Int) ≤ _; decide) | (show (0 : Int) ≤ _ ∧ _ < (256 : Int); decide))) ?_
    | refine OK.need ?_ ?_
    | (refine OK.branch ?_ ?_ <;> intro h)
    | (refine F.hold hA 2000 ?_; cbv))
  · repeat' with_reducible apply isb2
    all_goals exact isb_lit hA (by decide)
  refine F.callFrz 16 rfl rfl rfl rfl ?_
  refine F.call [] (inflate_ok [_, _, _, _, _, _, _] 1 ⟨Nat.le_of_ble_eq_true rfl, by decide⟩) rfl rfl rfl fun rs H' hq => ?_
  obtain ⟨rfl, rfl⟩ := hq.isErr (by subst hA; exact al3)
  refine ⟨rfl, ?_⟩
  clear hq
  repeat' (first
    | refine OK.drawn (by decide +kernel) ?_
    | refine OK.tree ⟨lookT tis, fun _ => true, []⟩ (by decide +kernel) ?_
    | refine OK.both ?_ ?_
    | refine OK.need (by first | assumption | (rw [hA]; first | (show (_ : Int) ≠ _; decide) | (show (0 : Int) ≤ _; decide) | (show (0 : Int) ≤ _ ∧ _ < (256 : Int); decide))) ?_
    | refine OK.need ?_ ?_
    | (refine OK.branch ?_ ?_ <;> intro h)
    | (refine F.hold hA 2000 ?_; cbv))
  refine F.callFrz 24 rfl rfl rfl rfl ?_
  refine F.call [] (inflate_ok [_] 1 ⟨Nat.le_of_ble_eq_true rfl, by decide⟩) rfl rfl rfl fun rs H' hq => ?_
  obtain ⟨rfl, rfl⟩ := hq.isErr (by subst hA; exact al4)
  refine ⟨rfl, ?_⟩
  clear hq
  repeat' (first
    | refine OK.drawn (by decide +kernel) ?_
    | refine OK.tree ⟨lookT tis, fun _ => true, []⟩ (by decide +kernel) ?_
    | refine OK.both ?_ ?_
    | refine OK.need (by first | assumption | (rw [hA]; first | (show (_ : Int) ≠ _; decide) | (show (0 : Int) ≤ _; decide) | (show (0 : Int) ≤ _ ∧ _ < (256 : Int); decide))) ?_
    | refine OK.need ?_ ?_
    | (refine OK.branch ?_ ?_ <;> intro h)
    | (refine F.hold hA 2000 ?_; cbv))
  refine F.call [] (length_ok 270) rfl rfl rfl fun rs H' hq => ?_
  obtain ⟨base, extra, ok, rfl, rfl, hr⟩ := hq
  refine ⟨rfl, ?_⟩
  obtain ⟨rfl, rfl, rfl⟩ := al_len hr
  clear hr
  repeat' (first
    | refine OK.drawn (by decide +kernel) ?_
    | refine OK.tree ⟨lookT tis, fun _ => true, []⟩ (by decide +kernel) ?_
    | refine OK.both ?_ ?_
    | refine OK.need (by first | assumption | (rw [hA]; first | (show (_ : Int) ≠ _; decide) | (show (0 : Int) ≤ _; decide) | (show (0 : Int) ≤ _ ∧ _ < (256 : Int); decide))) ?_
    | refine OK.need ?_ ?_
    | (refine OK.branch ?_ ?_ <;> intro h)
    | (refine F.hold hA 2000 ?_; cbv))
  refine F.call [] (distance_ok 29) rfl rfl rfl fun rs H' hq => ?_
  obtain ⟨base, extra, ok, rfl, rfl, hr⟩ := hq
  refine ⟨rfl, ?_⟩
  obtain ⟨rfl, rfl, rfl⟩ := al_dist hr
  clear hr
  repeat' (first
    | contradiction
    | exact (eql_self hA (by assumption)).elim
    | refine OK.drawn (by decide +kernel) ?_
    | refine OK.tree ⟨lookT tis, fun _ => true, []⟩ (by decide +kernel) ?_
    | refine OK.both ?_ ?_
    | refine OK.need (by first | assumption | (rw [hA]; first | (show (_ : Int) ≠ _; decide) | (show (0 : Int) ≤ _; decide) | (show (0 : Int) ≤ _ ∧ _ < (256 : Int); decide))) ?_
    | refine OK.need ?_ ?_
    | (refine OK.branch ?_ ?_ <;> intro h)
    | (refine F.hold hA 2000 ?_; cbv))
  refine F.callFrz 6 rfl rfl rfl rfl ?_
  refine F.call [] (same_ok _ _ (Nat.le_of_ble_eq_true rfl)) rfl rfl rfl fun rs H' hq => ?_
  obtain ⟨r, rfl, rfl, hr⟩ := hq
  obtain rfl : r = true := hr.2 (by subst hA; kernel_rfl)
  refine ⟨rfl, ?_⟩
  clear hr
  repeat' (first
    | contradiction
    | exact (eql_self hA (by assumption)).elim
    | refine OK.drawn (by decide +kernel) ?_
    | refine OK.tree ⟨lookT tis, fun _ => true, []⟩ (by decide +kernel) ?_
    | refine OK.both ?_ ?_
    | refine OK.need (by first | assumption | (rw [hA]; first | (show (_ : Int) ≠ _; decide) | (show (0 : Int) ≤ _; decide) | (show (0 : Int) ≤ _ ∧ _ < (256 : Int); decide))) ?_
    | refine OK.need ?_ ?_
    | (refine OK.branch ?_ ?_ <;> intro h)
    | (refine F.hold hA 2000 ?_; cbv))
  · repeat' with_reducible apply isb2
    all_goals exact isb_lit hA (by decide)
  refine F.callFrz 14 rfl rfl rfl rfl ?_
  refine F.callFrz 33 rfl rfl rfl rfl ?_
  refine F.call [] (same_ok _ _ (Nat.le_of_ble_eq_true rfl)) rfl rfl rfl fun rs H' hq => ?_
  obtain ⟨r, rfl, rfl, hr⟩ := hq
  obtain rfl : r = true := hr.2 (by subst hA; kernel_rfl)
  refine ⟨rfl, ?_⟩
  clear hr
  repeat' (first
    | contradiction
    | exact (eql_self hA (by assumption)).elim
    | refine OK.drawn (by decide +kernel) ?_
    | refine OK.tree ⟨lookT tis, fun _ => true, []⟩ (by decide +kernel) ?_
    | refine OK.both ?_ ?_
    | refine OK.need (by first | assumption | (rw [hA]; first | (show (_ : Int) ≠ _; decide) | (show (0 : Int) ≤ _; decide) | (show (0 : Int) ≤ _ ∧ _ < (256 : Int); decide))) ?_
    | refine OK.need ?_ ?_
    | (refine OK.branch ?_ ?_ <;> intro h)
    | (refine F.hold hA 2000 ?_; cbv))
  exact F.ret (H' := []) (F.cv ⟨rfl⟩ (.eq rfl (.nil _)) (.nil _)) rfl ⟨_, rfl, rfl, by subst hA; rfl⟩
end Go.L1

-- H9
namespace Go.L1
open Go Go.Sx Go.Proofs Go.Huff
set_option linter.unusedVariables false
set_option linter.unusedSimpArgs false
set_option maxRecDepth 4000
/-- A computation that ends well ends within the bound as it did, or has this error. -/
def Sim {α : Type} (q : α → Int) (p b E : Int) (P : Prop) (c c' : Er α) : Prop := ∀ r, c = .ok r → p ≤ q r ∧ (q r ≤ b → c' = .ok r) ∧ (P → p ≤ b → b < q r → c' = .error E)
theorem Sim.bind {α β : Type} {q : α → Int} {q2 : β → Int} {p b E : Int} {P : Prop} {c c' : Er α} {g g' : α → Er β} (h : Sim q p b E P c c') (hg : ∀ r, c = .ok r → p ≤ q r → Sim q2 (q r) b E P (g r) (g' r)) : Sim q2 p b E P (c >>= g) (c' >>= g') := by
  intro r2 hr
  obtain ⟨r, h1, h2⟩ := er_bind.1 hr
  obtain ⟨a1, a2, a3⟩ := h r h1
  obtain ⟨b1, b2, b3⟩ := hg r h1 a1 r2 h2
  refine ⟨by omega, fun hb => ?_, fun hP hpb hb => ?_⟩
  · rw [a2 (by omega)]
    exact b2 hb
  · by_cases hq : q r ≤ b
    · rw [a2 hq]
      exact b3 hP hq hb
    · rw [a3 hP hpb (by omega)]
      rfl
theorem Sim.same {α : Type} {p b E : Int} {P : Prop} (c : Er α) : Sim (fun _ => p) p b E P c c := fun r hr => ⟨Int.le_refl _, fun _ => hr, fun _ h1 h2 => by simp only at h2; omega⟩
theorem Sim.okk {α : Type} {q : α → Int} {p b E : Int} {P : Prop} {r : α} (h : q r = p) : Sim q p b E P (.ok r) (.ok r) := fun r' hr => by
  cases hr
  exact ⟨by omega, fun _ => rfl, fun _ h1 h2 => by omega⟩
theorem Sim.err {α : Type} {q : α → Int} {p b E e : Int} {P : Prop} {c' : Er α} : Sim q p b E P (.error e) c' := fun r hr => by cases hr
theorem Sim.ite {α : Type} {q : α → Int} {p b E : Int} {P : Prop} {c : Prop} [Decidable c] {x y x' y' : Er α} (h1 : c → Sim q p b E P x x') (h2 : ¬ c → Sim q p b E P y y') : Sim q p b E P (if c then x else y) (if c then x' else y') := by
  by_cases h : c
  · rw [if_pos h, if_pos h]; exact h1 h
  · rw [if_neg h, if_neg h]; exact h2 h
/-- Two rows begin with the same so many bytes. -/
structure Agr (xs xs' : List UInt8) (k : Nat) : Prop where
  l : k ≤ xs.length
  l' : k ≤ xs'.length
  e : xs'.take k = xs.take k
theorem div_mod_agree {V V' m p n : Nat} (h : V % 2 ^ m = V' % 2 ^ m) (hp : p + n ≤ m) : V / 2 ^ p % 2 ^ n = V' / 2 ^ p % 2 ^ n := by
  apply Nat.eq_of_testBit_eq
  intro i
  rw [Nat.testBit_mod_two_pow, Nat.testBit_mod_two_pow, Nat.testBit_div_two_pow, Nat.testBit_div_two_pow]
  by_cases hi : i < n
  · have h1 := congrArg (fun x => Nat.testBit x (i + p)) h
    simp only [Nat.testBit_mod_two_pow, show i + p < m from by omega, decide_true, Bool.true_and] at h1
    simp [hi, h1]
  · simp [hi]
theorem Agr.bits {xs xs' : List UInt8} {k : Nat} (h : Agr xs xs' k) {p : Int} {n : Nat} (h0 : 0 ≤ p) (hp : p + n ≤ 8 * k) : bitsV xs p % 2 ^ n = bitsV xs' p % 2 ^ n := by
  unfold bitsV
  refine div_mod_agree (m := 8 * k) ?_ (by omega)
  have e1 := valBytes_take xs k
  have e2 := valBytes_take xs' k
  rw [h.e, e1] at e2
  have e3 : (256 : Nat) ^ k = 2 ^ (8 * k) := by rw [Nat.pow_mul]
  rwa [e3] at e2
theorem revN_agree {n V V' : Nat} (h : V % 2 ^ n = V' % 2 ^ n) : revN n V = revN n V' := by
  apply Nat.eq_of_testBit_eq
  intro i
  rw [revN_bit, revN_bit]
  by_cases hi : i < n
  · have h1 := congrArg (fun x => Nat.testBit x (n - 1 - i)) h
    simp only [Nat.testBit_mod_two_pow, show n - 1 - i < n from by omega, decide_true, Bool.true_and] at h1
    rw [h1]
  · simp [hi]
abbrev Loc {α : Type} (xs xs' : List UInt8) (k : Nat) (q : α → Int) (p : Int) (c c' : Er α) : Prop := Sim q p (8 * k) 15 (xs' = xs.take k) c c'
theorem num_loc {xs xs' : List UInt8} {k : Nat} (hA : Agr xs xs' k) {p : Int} (h0 : 0 ≤ p) (n : Nat) : Loc xs xs' k (fun r => r.2) p (numR xs p n) (numR xs' p n) := by
  have h1 := hA.l
  have h2 := hA.l'
  rintro ⟨v, p'⟩ hr
  unfold numR at hr
  split at hr
  · obtain ⟨rfl, rfl⟩ := Prod.mk.inj (Except.ok.inj hr)
    refine ⟨by simp only; omega, fun hb => ?_, fun hP hpb hb => ?_⟩
    · simp only at hb
      unfold numR
      rw [if_pos (by omega), hA.bits h0 (by omega)]
    · subst hP
      simp only at hb
      unfold numR
      rw [if_neg (by rw [List.length_take]; omega)]
  · cases hr
theorem hit_agree {ls : List Int} {V V' left left' s : Nat} (h : Hit ls V left s) (hl : len ls s ≤ left') (hv : V % 2 ^ len ls s = V' % 2 ^ len ls s) : Hit ls V' left' s := by
  obtain ⟨a, b, c, d⟩ := h
  exact ⟨a, b, hl, d.trans (revN_agree hv)⟩
theorem symR_hit {ls : List Int} {xs : List UInt8} {p : Int} {s : Nat} (hi : InB ls) (h : Hit ls (bitsV xs p) (leftN xs p) s) : symR ls xs p = .ok ((s : Int), p + (len ls s : Nat)) := by
  have h3 := symR_is ls xs p
  cases hr : symR ls xs p with
  | ok x =>
    obtain ⟨s2, p2⟩ := x
    rw [hr] at h3
    obtain ⟨m, h4, h5⟩ := h3
    obtain ⟨h6, h7, _⟩ := NextIs.uniq hi h4 (.inl ⟨rfl, s, h, rfl, rfl⟩)
    rw [h5, h6, h7]
  | error e =>
    rw [hr] at h3
    exact absurd (NextIs.uniq hi h3.1 (.inl ⟨rfl, s, h, rfl, rfl⟩)).2.2 h3.2
theorem sym_loc {xs xs' : List UInt8} {k : Nat} (hA : Agr xs xs' k) {ls : List Int} (hi : InB ls) {p : Int} (h0 : 0 ≤ p) : Loc xs xs' k (fun r => r.2) p (symR ls xs p) (symR ls xs' p) := by
  have h1 := hA.l
  have h2 := hA.l'
  rintro ⟨s, p'⟩ hr
  have h3 := symR_is ls xs p
  rw [hr] at h3
  obtain ⟨m, h4, h5⟩ := h3
  rcases h4 with ⟨_, t, ht, rfl, rfl⟩ | ⟨_, _, _, h | h⟩
  case inr.inl => exact absurd h.1 (by decide)
  case inr.inr => exact absurd h.1 (by decide)
  have ht3 := ht.2.2.1
  subst h5
  refine ⟨by simp only; omega, fun hb => ?_, fun hP hpb hb => ?_⟩
  · simp only at hb
    exact symR_hit hi (hit_agree ht (by unfold leftN; omega) (hA.bits h0 (by omega)))
  · subst hP
    simp only at hb
    have hleft : leftN (xs.take k) p = (8 * k - p).toNat := by unfold leftN; rw [List.length_take]; congr 1; omega
    have hno : ∀ u, ¬ Hit ls (bitsV (xs.take k) p) (leftN (xs.take k) p) u := by
      intro u hu
      have hu3 := hu.2.2.1
      rw [hleft] at hu3
      have hu' : Hit ls (bitsV xs p) (leftN xs p) u := hit_agree hu (by unfold leftN; omega) (hA.bits h0 (by omega)).symm
      have := hu'.uniq hi ht
      subst this
      omega
    have h7 := symR_is ls (xs.take k) p
    have h8 : NextIs ls (bitsV (xs.take k) p) (leftN (xs.take k) p) 0 0 15 := by
      refine .inr ⟨hno, rfl, rfl, .inl ⟨rfl, ?_⟩⟩
      by_cases hl0 : leftN (xs.take k) p = 0
      · exact .inl hl0
      · refine .inr ⟨t, ht.1, by rw [hleft]; omega, ?_⟩
        have h9 := ht.2.2.2
        rw [h9]
        have h10 := revN_pre (leftN (xs.take k) p) (len ls t - leftN (xs.take k) p) (bitsV xs p)
        rw [show leftN (xs.take k) p + (len ls t - leftN (xs.take k) p) = len ls t from by rw [hleft]; omega] at h10
        rw [h10]
        exact revN_agree (hA.bits h0 (by rw [hleft]; omega))
    cases hr2 : symR ls (xs.take k) p with
    | ok x =>
      obtain ⟨s2, p2⟩ := x
      rw [hr2] at h7
      obtain ⟨m, h9, _⟩ := h7
      exact absurd (NextIs.uniq hi h9 h8).2.2 (by decide)
    | error e =>
      rw [hr2] at h7
      rw [(NextIs.uniq hi h7.1 h8).2.2]
theorem Sim.from {α : Type} {q : α → Int} {p p1 b E : Int} {P : Prop} {c c' : Er α} (h : Sim q p1 b E P c c') (h1 : p ≤ p1) (h2 : p ≤ b → p1 ≤ b) : Sim q p b E P c c' := fun r hr => by
  obtain ⟨a1, a2, a3⟩ := h r hr
  exact ⟨by omega, a2, fun hP hpb hb => a3 hP (h2 hpb) hb⟩
theorem Sim.pre {α β : Type} {q2 : β → Int} {p b E : Int} {P : Prop} {c : Er α} {g g' : α → Er β} (hg : ∀ r, c = .ok r → Sim q2 p b E P (g r) (g' r)) : Sim q2 p b E P (c >>= g) (c >>= g') :=
  Sim.bind (Sim.same c) fun r hr _ => hg r hr
theorem num_nn {xs : List UInt8} {p : Int} {n : Nat} {v p' : Int} (h : numR xs p n = .ok (v, p')) : 0 ≤ v ∧ p' = p + n ∧ p' ≤ 8 * xs.length := by
  unfold numR at h
  split at h
  · cases h
    exact ⟨Int.natCast_nonneg _, rfl, by omega⟩
  · cases h
theorem stored_loc {xs xs' : List UInt8} {k : Nat} (hA : Agr xs xs' k) (lim : Int) {p : Int} (h0 : 0 ≤ p) (out : List UInt8) : Loc xs xs' k (fun r => r.1) p (storedR xs lim p out) (storedR xs' lim p out) := by
  have hl := hA.l
  have hl' := hA.l'
  unfold storedR
  refine Sim.from (p1 := 8 * ((p + 7) / 8)) ?_ (by omega) (by omega)
  refine Sim.bind (num_loc hA (by omega) 16) ?_
  rintro ⟨n, p1⟩ h1 hp1
  have e1 := num_nn h1
  refine Sim.bind (num_loc hA (by simp only at hp1 ⊢; omega) 16) ?_
  rintro ⟨t, p2⟩ h2 hp2
  have e2 := num_nn h2
  simp only at hp1 hp2 ⊢
  refine Sim.ite (fun _ => ?_) fun _ => Sim.err
  rintro ⟨p3, out3, n3⟩ hr
  split at hr
  case isFalse => cases hr
  rename_i hn
  obtain ⟨u, hu1, hu2⟩ := er_bind.1 hr
  simp only [Except.ok.injEq, Prod.mk.injEq] at hu2
  obtain ⟨rfl, rfl, rfl⟩ := hu2
  refine ⟨by simp only; omega, fun hb => ?_, fun hP hpb hb => ?_⟩
  · simp only at hb
    rw [if_pos (by omega)]
    refine er_bind.2 ⟨u, hu1, ?_⟩
    congr 3
    have e3 : ∀ l : List UInt8, (l.drop ((p2 + 7) / 8).toNat).take n.toNat = ((l.take k).drop ((p2 + 7) / 8).toNat).take n.toNat := fun l => by
      rw [List.drop_take, List.take_take, Nat.min_eq_left (by omega)]
    rw [e3 xs', hA.e, ← e3 xs]
  · simp only at hb
    subst hP
    rw [List.length_take, Nat.min_eq_left hl, if_neg (by omega)]
theorem back_loc {xs xs' : List UInt8} {k : Nat} (hA : Agr xs xs' k) {other : List Int} (hi : InB other) (lim s : Int) {p : Int} (h0 : 0 ≤ p) (out : List UInt8) : Loc xs xs' k (fun r => r.1) p (backR other xs lim s p out) (backR other xs' lim s p out) := by
  unfold backR
  refine Sim.pre ?_
  rintro ⟨base, e⟩ _
  refine Sim.bind (num_loc hA h0 e) ?_
  rintro ⟨x, p1⟩ h1 hp1
  simp only at hp1 ⊢
  refine Sim.bind (sym_loc hA hi (by omega)) ?_
  rintro ⟨d, p2⟩ h2 hp2
  simp only at hp2 ⊢
  refine Sim.pre ?_
  rintro ⟨far, e2⟩ _
  refine Sim.bind (num_loc hA (by omega) e2) ?_
  rintro ⟨y, p3⟩ h3 hp3
  simp only at hp3 ⊢
  refine Sim.ite (fun _ => ?_) fun _ => Sim.err
  refine Sim.pre ?_
  rintro ⟨⟩ _
  exact Sim.okk rfl
theorem syms_loc {xs xs' : List UInt8} {k : Nat} (hA : Agr xs xs' k) {first other : List Int} (hf : InB first) (ho : InB other) (lim : Int) : ∀ (f : Nat) {p : Int} (h0 : 0 ≤ p) (out : List UInt8) (n : Int),
    Loc xs xs' k (fun r => r.1) p (symsR first other xs lim f p out n) (symsR first other xs' lim f p out n)
  | 0, p, h0, out, n => Sim.err
  | f + 1, p, h0, out, n => by
    unfold symsR
    refine Sim.bind (sym_loc hA hf h0) ?_
    rintro ⟨s, p1⟩ h1 hp1
    simp only at hp1 ⊢
    refine Sim.ite (fun _ => Sim.okk rfl) fun _ => Sim.ite (fun _ => ?_) fun _ => ?_
    · refine Sim.pre ?_
      rintro ⟨⟩ _
      exact syms_loc hA hf ho lim f (by omega) _ _
    · refine Sim.bind (back_loc hA ho lim s (by omega) out) ?_
      rintro ⟨p2, out2⟩ h2 hp2
      simp only at hp2 ⊢
      exact syms_loc hA hf ho lim f (by omega) _ _
theorem item_loc {xs xs' : List UInt8} {k : Nat} (hA : Agr xs xs' k) {ls : List Int} (hi : InB ls) {p : Int} (h0 : 0 ≤ p) (hv : Int) : Loc xs xs' k (fun r => r.1) p (itemR ls xs p hv) (itemR ls xs' p hv) := by
  unfold itemR
  refine Sim.bind (sym_loc hA hi h0) ?_
  rintro ⟨s, p1⟩ h1 hp1
  simp only at hp1 ⊢
  refine Sim.ite (fun _ => ?_) fun _ => Sim.ite (fun _ => ?_) fun _ => Sim.ite (fun _ => ?_) fun _ => Sim.okk rfl
  · refine Sim.bind (num_loc hA (by omega) 2) ?_
    rintro ⟨x, p2⟩ h2 hp2
    simp only at hp2 ⊢
    exact Sim.ite (fun _ => Sim.okk rfl) fun _ => Sim.err
  · refine Sim.bind (num_loc hA (by omega) 3) ?_
    rintro ⟨x, p2⟩ h2 hp2
    exact Sim.okk rfl
  · refine Sim.bind (num_loc hA (by omega) 7) ?_
    rintro ⟨x, p2⟩ h2 hp2
    exact Sim.okk rfl
theorem items_loc {xs xs' : List UInt8} {k : Nat} (hA : Agr xs xs' k) {ls : List Int} (hi : InB ls) (n : Int) : ∀ (f : Nat) {p : Int} (h0 : 0 ≤ p) (its : List (Int × Int)) (hv : Int),
    Loc xs xs' k (fun r => r.1) p (itemsR ls xs n f p its hv) (itemsR ls xs' n f p its hv)
  | 0, p, h0, its, hv => Sim.err
  | f + 1, p, h0, its, hv => by
    unfold itemsR
    refine Sim.ite (fun _ => ?_) fun _ => Sim.okk rfl
    refine Sim.bind (item_loc hA hi h0 hv) ?_
    rintro ⟨p1, x, h⟩ h1 hp1
    simp only at hp1 ⊢
    exact items_loc hA hi n f (by omega) _ _
theorem rows_loc {xs xs' : List UInt8} {k : Nat} (hA : Agr xs xs' k) {ls : List Int} (hi : InB ls) (n : Int) {p : Int} (h0 : 0 ≤ p) : Loc xs xs' k (fun r => r.1) p (rowsR ls xs n p) (rowsR ls xs' n p) := by
  unfold rowsR
  refine Sim.bind (items_loc hA hi n fuel h0 _ _) ?_
  rintro ⟨p1, its, h⟩ h1 hp1
  simp only at hp1 ⊢
  refine Sim.ite (fun _ => ?_) fun _ => Sim.err
  cases unpackR its [] with
  | some all => exact Sim.okk rfl
  | none => exact Sim.err
theorem own_loc {xs xs' : List UInt8} {k : Nat} (hA : Agr xs xs' k) : ∀ (l : List Nat) {p : Int} (h0 : 0 ≤ p) (own : List Int), Loc xs xs' k (fun r => r.1) p (ownR xs l p own) (ownR xs' l p own)
  | [], p, h0, own => Sim.okk rfl
  | i :: l, p, h0, own => by
    unfold ownR
    refine Sim.bind (num_loc hA h0 3) ?_
    rintro ⟨x, p1⟩ h1 hp1
    simp only at hp1 ⊢
    exact own_loc hA l (by omega) _
theorem codeR_inb {l : List Int} {a b : Bool} {u : Unit} (h : codeR l a b = .ok u) : InB l := by
  unfold codeR at h
  split at h
  · rename_i hc
    have h1 := hc.1
    unfold okLen at h1
    simp only [Bool.and_eq_true, List.all_eq_true, decide_eq_true_eq] at h1
    exact fun x hx => h1.1.2 x hx
  · cases h
theorem codes_inb {xs : List UInt8} {p p' : Int} {first other : List Int} (h : codesR xs p = .ok (p', first, other)) : InB first ∧ InB other := by
  unfold codesR at h
  obtain ⟨⟨l, p1⟩, _, h⟩ := er_bind.1 h
  obtain ⟨⟨d, p2⟩, _, h⟩ := er_bind.1 h
  obtain ⟨⟨n, p3⟩, _, h⟩ := er_bind.1 h
  simp only at h
  split at h
  case isFalse => cases h
  obtain ⟨⟨p4, own⟩, _, h⟩ := er_bind.1 h
  obtain ⟨_, _, h⟩ := er_bind.1 h
  obtain ⟨⟨p5, all⟩, _, h⟩ := er_bind.1 h
  simp only at h
  split at h
  case isFalse => cases h
  obtain ⟨_, h1, h⟩ := er_bind.1 h
  obtain ⟨_, h2, h⟩ := er_bind.1 h
  simp only [Except.ok.injEq, Prod.mk.injEq] at h
  obtain ⟨_, rfl, rfl⟩ := h
  exact ⟨codeR_inb h1, codeR_inb h2⟩
theorem codes_loc {xs xs' : List UInt8} {k : Nat} (hA : Agr xs xs' k) {p : Int} (h0 : 0 ≤ p) : Loc xs xs' k (fun r => r.1) p (codesR xs p) (codesR xs' p) := by
  unfold codesR
  refine Sim.bind (num_loc hA h0 5) ?_
  rintro ⟨l, p1⟩ h1 hp1
  simp only at hp1 ⊢
  refine Sim.bind (num_loc hA (by omega) 5) ?_
  rintro ⟨d, p2⟩ h2 hp2
  simp only at hp2 ⊢
  refine Sim.bind (num_loc hA (by omega) 4) ?_
  rintro ⟨n, p3⟩ h3 hp3
  simp only at hp3 ⊢
  refine Sim.ite (fun _ => ?_) fun _ => Sim.err
  refine Sim.bind (own_loc hA _ (by omega) _) ?_
  rintro ⟨p4, own⟩ h4 hp4
  simp only at hp4 ⊢
  refine Sim.pre ?_
  intro u hu
  refine Sim.bind (rows_loc hA (codeR_inb hu) _ (by omega)) ?_
  rintro ⟨p5, all⟩ h5 hp5
  simp only at hp5 ⊢
  refine Sim.ite (fun _ => ?_) fun _ => Sim.err
  refine Sim.pre ?_
  intro u1 hu1
  refine Sim.pre ?_
  intro u2 hu2
  exact Sim.okk rfl
theorem fixA_inb : InB fixA := by
  have : ∀ x ∈ fixA, 0 ≤ x ∧ x ≤ 15 := by decide +kernel
  exact this
theorem fixB_inb : InB fixB := by
  have : ∀ x ∈ fixB, 0 ≤ x ∧ x ≤ 15 := by decide +kernel
  exact this
theorem block_loc {xs xs' : List UInt8} {k : Nat} (hA : Agr xs xs' k) (lim : Int) {p : Int} (h0 : 0 ≤ p) (out : List UInt8) (n : Int) : Loc xs xs' k (fun r => r.2.1) p (blockR xs lim p out n) (blockR xs' lim p out n) := by
  unfold blockR
  refine Sim.bind (num_loc hA h0 1) ?_
  rintro ⟨last, p1⟩ h1 hp1
  simp only at hp1 ⊢
  refine Sim.bind (num_loc hA (by omega) 2) ?_
  rintro ⟨kind, p2⟩ h2 hp2
  simp only at hp2 ⊢
  refine Sim.ite (fun _ => ?_) fun _ => Sim.ite (fun _ => ?_) fun _ => Sim.ite (fun _ => ?_) fun _ => Sim.err
  · refine Sim.bind (stored_loc hA lim (by omega) out) ?_
    rintro ⟨p3, out3, n3⟩ h3 hp3
    exact Sim.okk rfl
  · refine Sim.bind (syms_loc hA fixA_inb fixB_inb lim fuel (by omega) out n) ?_
    rintro ⟨p3, out3, n3⟩ h3 hp3
    exact Sim.okk rfl
  · refine Sim.bind (codes_loc hA (by omega)) ?_
    rintro ⟨p3, first, other⟩ h3 hp3
    simp only at hp3 ⊢
    obtain ⟨i1, i2⟩ := codes_inb h3
    refine Sim.bind (syms_loc hA i1 i2 lim fuel (by omega) out n) ?_
    rintro ⟨p4, out4, n4⟩ h4 hp4
    exact Sim.okk rfl
theorem blocks_loc {xs xs' : List UInt8} {k : Nat} (hA : Agr xs xs' k) (lim : Int) : ∀ (f : Nat) {p : Int} (h0 : 0 ≤ p) (out : List UInt8) (n b : Int), Loc xs xs' k (fun r => r.1) p (blocksR xs lim f p out n b) (blocksR xs' lim f p out n b)
  | 0, p, h0, out, n, b => Sim.err
  | f + 1, p, h0, out, n, b => by
    unfold blocksR
    refine Sim.bind (block_loc hA lim h0 out n) ?_
    rintro ⟨last, p1, out1, n1⟩ h1 hp1
    simp only at hp1 ⊢
    refine Sim.ite (fun _ => Sim.okk rfl) fun _ => blocks_loc hA lim f (by omega) _ _ _
theorem infl_loc {xs xs' : List UInt8} {k : Nat} (hA : Agr xs xs' k) {lim : Int} {out : List UInt8} {used n b : Int} (h : inflR xs lim = .ok (out, used, n, b)) :
    (used ≤ k → inflR xs' lim = .ok (out, used, n, b)) ∧ (xs' = xs.take k → k < used → inflR xs' lim = .error 15) := by
  unfold inflR at h
  obtain ⟨⟨p, out1, n1, b1⟩, h1, h2⟩ := er_bind.1 h
  simp only [Except.ok.injEq, Prod.mk.injEq] at h2
  obtain ⟨rfl, rfl, rfl, rfl⟩ := h2
  obtain ⟨a1, a2, a3⟩ := blocks_loc hA (max lim 0) fuel (Int.le_refl 0) [] 0 0 _ h1
  simp only at a1 a2 a3
  refine ⟨fun hk => ?_, fun hP hk => ?_⟩
  · unfold inflR
    rw [a2 (by omega)]
    rfl
  · unfold inflR
    rw [a3 hP (by omega) (by omega)]
    rfl
end Go.L1

-- H10
namespace Go.L1
open Go Go.Sx Go.Proofs Go.Huff
set_option linter.unusedVariables false
set_option linter.unusedSimpArgs false
set_option maxRecDepth 4000
abbrev Lm {α : Type} (lim' : Int) (q : α → Int) (p : Int) (c c' : Er α) : Prop := Sim q p lim' 14 True c c'
theorem room_lm (lim lim' : Int) (out : List UInt8) {n : Int} (h : 0 ≤ n) : Lm lim' (fun _ => out.length + n) out.length (roomR lim out n) (roomR lim' out n) := by
  rintro ⟨⟩ hr
  refine ⟨by simp only; omega, fun hb => ?_, fun _ hpb hb => ?_⟩
  · simp only at hb
    unfold roomR
    rw [if_pos (by omega)]
  · simp only at hb
    unfold roomR
    rw [if_neg (by omega)]
theorem stored_lm (xs : List UInt8) (lim lim' : Int) {p : Int} (h0 : 0 ≤ p) (out : List UInt8) : Lm lim' (fun r => r.2.1.length) out.length (storedR xs lim p out) (storedR xs lim' p out) := by
  unfold storedR
  refine Sim.pre ?_
  rintro ⟨n, p1⟩ h1
  have e1 := num_nn h1
  simp only
  refine Sim.pre ?_
  rintro ⟨t, p2⟩ h2
  have e2 := num_nn h2
  simp only
  refine Sim.ite (fun _ => Sim.ite (fun hn => ?_) fun _ => Sim.err) fun _ => Sim.err
  refine Sim.bind (room_lm lim lim' out e1.1) ?_
  rintro ⟨⟩ _ _
  exact Sim.okk (by simp only [List.length_append, List.length_take, List.length_drop]; omega)
theorem lenR_nn {s b : Int} {e : Nat} (h : lenR s = .ok (b, e)) : 0 ≤ b := by
  unfold lenR at h
  split at h
  · cases h
  split at h
  · simp only [Except.ok.injEq, Prod.mk.injEq] at h; omega
  split at h
  · simp only [Except.ok.injEq, Prod.mk.injEq] at h; omega
  · simp only [Except.ok.injEq, Prod.mk.injEq] at h
    have : (0 : Int) ≤ (4 + (s - 257) % 4) * 2 ^ ((s - 257) / 4 - 1).toNat := Int.mul_nonneg (by omega) (by
      have e : (2 : Int) ^ ((s - 257) / 4 - 1).toNat = ((2 ^ ((s - 257) / 4 - 1).toNat : Nat) : Int) := by simp
      rw [e]; exact Int.natCast_nonneg _)
    omega
theorem back_lm {other : List Int} (xs : List UInt8) (lim lim' s p : Int) (out : List UInt8) : Lm lim' (fun r => r.2.length) out.length (backR other xs lim s p out) (backR other xs lim' s p out) := by
  unfold backR
  refine Sim.pre ?_
  rintro ⟨base, e⟩ h1
  have hb := lenR_nn h1
  refine Sim.pre ?_
  rintro ⟨x, p1⟩ h1
  have hx := num_nn h1
  refine Sim.pre ?_
  rintro ⟨d, p2⟩ _
  refine Sim.pre ?_
  rintro ⟨far, e2⟩ _
  refine Sim.pre ?_
  rintro ⟨y, p3⟩ _
  simp only
  refine Sim.ite (fun _ => ?_) fun _ => Sim.err
  refine Sim.bind (room_lm lim lim' out (by omega)) ?_
  rintro ⟨⟩ _ _
  exact Sim.okk (by simp only [copyN_len]; omega)
theorem syms_lm {first other : List Int} (xs : List UInt8) (lim lim' : Int) : ∀ (f : Nat) (p : Int) (out : List UInt8) (n : Int), Lm lim' (fun r => r.2.1.length) out.length (symsR first other xs lim f p out n) (symsR first other xs lim' f p out n)
  | 0, p, out, n => Sim.err
  | f + 1, p, out, n => by
    unfold symsR
    refine Sim.pre ?_
    rintro ⟨s, p1⟩ _
    simp only
    refine Sim.ite (fun _ => Sim.okk rfl) fun _ => Sim.ite (fun _ => ?_) fun _ => ?_
    · refine Sim.bind (room_lm lim lim' out (by omega)) ?_
      rintro ⟨⟩ _ _
      have := syms_lm (first := first) (other := other) xs lim lim' f p1 (out ++ [UInt8.ofNat s.toNat]) (n + 1)
      rw [List.length_append] at this
      exact this
    · refine Sim.bind (back_lm xs lim lim' s p1 out) ?_
      rintro ⟨p2, out2⟩ _ _
      exact syms_lm xs lim lim' f _ _ _
theorem block_lm (xs : List UInt8) (lim lim' : Int) {p : Int} (h0 : 0 ≤ p) (out : List UInt8) (n : Int) : Lm lim' (fun r => r.2.2.1.length) out.length (blockR xs lim p out n) (blockR xs lim' p out n) := by
  unfold blockR
  refine Sim.pre ?_
  rintro ⟨last, p1⟩ h1
  have e1 := num_nn h1
  refine Sim.pre ?_
  rintro ⟨kind, p2⟩ h2
  have e2 := num_nn h2
  simp only
  refine Sim.ite (fun _ => ?_) fun _ => Sim.ite (fun _ => ?_) fun _ => Sim.ite (fun _ => ?_) fun _ => Sim.err
  · refine Sim.bind (stored_lm xs lim lim' (by omega) out) ?_
    rintro ⟨p3, out3, n3⟩ h3 hp3
    exact Sim.okk rfl
  · refine Sim.bind (syms_lm xs lim lim' fuel _ out n) ?_
    rintro ⟨p3, out3, n3⟩ h3 hp3
    exact Sim.okk rfl
  · refine Sim.pre ?_
    rintro ⟨p3, first, other⟩ h3
    refine Sim.bind (syms_lm xs lim lim' fuel _ out n) ?_
    rintro ⟨p4, out4, n4⟩ h4 hp4
    exact Sim.okk rfl
theorem blocks_lm (xs : List UInt8) (lim lim' : Int) : ∀ (f : Nat) {p : Int} (h0 : 0 ≤ p) (out : List UInt8) (n b : Int), Lm lim' (fun r => r.2.1.length) out.length (blocksR xs lim f p out n b) (blocksR xs lim' f p out n b)
  | 0, p, h0, out, n, b => Sim.err
  | f + 1, p, h0, out, n, b => by
    unfold blocksR
    refine Sim.bind (block_lm xs lim lim' h0 out n) ?_
    rintro ⟨last, p1, out1, n1⟩ h1 hp1
    have hp := ((block_loc (k := xs.length) ⟨Nat.le_refl _, Nat.le_refl _, rfl⟩ lim h0 out n) _ h1).1
    simp only at hp hp1 ⊢
    exact Sim.ite (fun _ => Sim.okk rfl) fun _ => blocks_lm xs lim lim' f (by omega) _ _ _
theorem infl_lm {xs : List UInt8} {lim lim' : Int} {out : List UInt8} {used n b : Int} (h : inflR xs lim = .ok (out, used, n, b)) (h0 : 0 ≤ lim') :
    (out.length ≤ lim' → inflR xs lim' = .ok (out, used, n, b)) ∧ (lim' < out.length → inflR xs lim' = .error 14) := by
  unfold inflR at h
  obtain ⟨⟨p, out1, n1, b1⟩, h1, h2⟩ := er_bind.1 h
  simp only [Except.ok.injEq, Prod.mk.injEq] at h2
  obtain ⟨rfl, rfl, rfl, rfl⟩ := h2
  obtain ⟨a1, a2, a3⟩ := blocks_lm xs (max lim 0) lim' fuel (Int.le_refl 0) [] 0 0 _ h1
  simp only at a1 a2 a3
  have e : max lim' 0 = lim' := by omega
  refine ⟨fun hk => ?_, fun hk => ?_⟩
  · unfold inflR
    rw [e, a2 hk]
    rfl
  · unfold inflR
    rw [e, a3 trivial (by simpa using h0) hk]
    rfl
end Go.L1

-- H11
namespace Go.L1
open Go Go.Sx Go.Proofs Go.Huff
set_option linter.unusedVariables false
set_option linter.unusedSimpArgs false
set_option maxRecDepth 4000
/-- No error 0, which stands for rounds that are used up. -/
def N0 {α : Type} (c : Er α) : Prop := c ≠ .error 0
theorem N0.bind {α β : Type} {c : Er α} {g : α → Er β} (h : N0 c) (hg : ∀ r, c = .ok r → N0 (g r)) : N0 (c >>= g) := by
  cases hc : c with
  | ok r => exact hg r hc
  | error e => rw [hc] at h; exact fun he => h (by injection he with he; rw [he])
theorem N0.ok {α : Type} (r : α) : N0 (.ok r : Er α) := fun h => by cases h
theorem N0.err {α : Type} {e : Int} (h : e ≠ 0) : N0 (.error e : Er α) := fun he => h (by injection he)
theorem N0.ite {α : Type} {c : Prop} [Decidable c] {x y : Er α} (h1 : c → N0 x) (h2 : ¬ c → N0 y) : N0 (if c then x else y) := by
  by_cases h : c
  · rw [if_pos h]; exact h1 h
  · rw [if_neg h]; exact h2 h
theorem num_n0 (xs : List UInt8) (p : Int) (n : Nat) : N0 (numR xs p n) := by
  unfold numR
  exact N0.ite (fun _ => N0.ok _) fun _ => N0.err (by decide)
theorem sym_n0 (ls : List Int) (xs : List UInt8) (p : Int) : N0 (symR ls xs p) := by
  unfold symR
  split
  · exact N0.ok _
  · exact N0.ite (fun _ => N0.err (by decide)) fun _ => N0.err (by decide)
theorem room_n0 (lim : Int) (out : List UInt8) (n : Int) : N0 (roomR lim out n) := by
  unfold roomR
  exact N0.ite (fun _ => N0.ok _) fun _ => N0.err (by decide)
theorem len_n0 (s : Int) : N0 (lenR s) := by
  unfold lenR
  exact N0.ite (fun _ => N0.err (by decide)) fun _ => N0.ite (fun _ => N0.ok _) fun _ => N0.ite (fun _ => N0.ok _) fun _ => N0.ok _
theorem dist_n0 (s : Int) : N0 (distR s) := by
  unfold distR
  exact N0.ite (fun _ => N0.err (by decide)) fun _ => N0.ite (fun _ => N0.ok _) fun _ => N0.ok _
theorem code_n0 (l : List Int) (a b : Bool) : N0 (codeR l a b) := by
  unfold codeR
  exact N0.ite (fun _ => N0.ok _) fun _ => N0.err (by decide)
theorem sym_fwd {ls : List Int} {xs : List UInt8} {p s p' : Int} (h : symR ls xs p = .ok (s, p')) (h0 : p ≤ 8 * xs.length) (h1 : 0 ≤ p) : p < p' ∧ p' ≤ 8 * xs.length := by
  have h3 := symR_is ls xs p
  rw [h] at h3
  obtain ⟨m, h4, h5⟩ := h3
  rcases h4 with ⟨_, t, ht, rfl, rfl⟩ | ⟨_, _, _, h | h⟩
  case inr.inl => exact absurd h.1 (by decide)
  case inr.inr => exact absurd h.1 (by decide)
  have a1 := ht.2.1
  have a2 := ht.2.2.1
  unfold leftN at a2
  omega
theorem stored_n0 (xs : List UInt8) (lim p : Int) (out : List UInt8) : N0 (storedR xs lim p out) := by
  unfold storedR
  refine N0.bind (num_n0 _ _ _) ?_
  rintro ⟨n, p1⟩ _
  refine N0.bind (num_n0 _ _ _) ?_
  rintro ⟨t, p2⟩ _
  refine N0.ite (fun _ => N0.ite (fun _ => ?_) fun _ => N0.err (by decide)) fun _ => N0.err (by decide)
  exact N0.bind (room_n0 _ _ _) fun _ _ => N0.ok _
theorem back_n0 (other : List Int) (xs : List UInt8) (lim s p : Int) (out : List UInt8) : N0 (backR other xs lim s p out) := by
  unfold backR
  refine N0.bind (len_n0 _) ?_
  rintro ⟨base, e⟩ _
  refine N0.bind (num_n0 _ _ _) ?_
  rintro ⟨x, p1⟩ _
  refine N0.bind (sym_n0 _ _ _) ?_
  rintro ⟨d, p2⟩ _
  refine N0.bind (dist_n0 _) ?_
  rintro ⟨far, e2⟩ _
  refine N0.bind (num_n0 _ _ _) ?_
  rintro ⟨y, p3⟩ _
  refine N0.ite (fun _ => ?_) fun _ => N0.err (by decide)
  exact N0.bind (room_n0 _ _ _) fun _ _ => N0.ok _
theorem back_fwd {other : List Int} {xs : List UInt8} {lim s p p' : Int} {out out' : List UInt8} (h : backR other xs lim s p out = .ok (p', out')) (h0 : 0 ≤ p) (h1 : p ≤ 8 * xs.length) : p ≤ p' ∧ p' ≤ 8 * xs.length := by
  unfold backR at h
  obtain ⟨⟨base, e⟩, _, h⟩ := er_bind.1 h
  obtain ⟨⟨x, p1⟩, a1, h⟩ := er_bind.1 h
  obtain ⟨⟨d, p2⟩, a2, h⟩ := er_bind.1 h
  obtain ⟨⟨far, e2⟩, _, h⟩ := er_bind.1 h
  obtain ⟨⟨y, p3⟩, a3, h⟩ := er_bind.1 h
  simp only at h a1 a2 a3
  split at h
  case isFalse => cases h
  obtain ⟨_, _, h⟩ := er_bind.1 h
  simp only [Except.ok.injEq, Prod.mk.injEq] at h
  obtain ⟨rfl, _⟩ := h
  have b1 := num_nn a1
  have b2 := sym_fwd a2 b1.2.2 (by omega)
  have b3 := num_nn a3
  omega
theorem syms_n0 (first other : List Int) (xs : List UInt8) (lim : Int) : ∀ (f : Nat) {p : Int} (h0 : 0 ≤ p) (h1 : p ≤ 8 * xs.length) (hf : 8 * (xs.length : Int) < f + p) (out : List UInt8) (n : Int), N0 (symsR first other xs lim f p out n)
  | 0, p, h0, h1, hf, out, n => by omega
  | f + 1, p, h0, h1, hf, out, n => by
    unfold symsR
    refine N0.bind (sym_n0 _ _ _) ?_
    rintro ⟨s, p1⟩ a1
    have b1 := sym_fwd a1 h1 h0
    simp only
    refine N0.ite (fun _ => N0.ok _) fun _ => N0.ite (fun _ => ?_) fun _ => ?_
    · exact N0.bind (room_n0 _ _ _) fun _ _ => syms_n0 first other xs lim f (by omega) (by omega) (by omega) _ _
    · refine N0.bind (back_n0 _ _ _ _ _ _) ?_
      rintro ⟨p2, out2⟩ a2
      have b2 := back_fwd a2 (by omega) b1.2
      exact syms_n0 first other xs lim f (by omega) (by omega) (by omega) _ _
theorem syms_fwd {first other : List Int} {xs : List UInt8} {lim : Int} : ∀ {f : Nat} {p : Int} {out : List UInt8} {n p' : Int} {out' : List UInt8} {n' : Int} (h0 : 0 ≤ p) (h1 : p ≤ 8 * xs.length) (h : symsR first other xs lim f p out n = .ok (p', out', n')), p ≤ p' ∧ p' ≤ 8 * xs.length
  | 0, p, out, n, p', out', n', h0, h1, h => by cases h
  | f + 1, p, out, n, p', out', n', h0, h1, h => by
    unfold symsR at h
    obtain ⟨⟨s, p1⟩, a1, h⟩ := er_bind.1 h
    have b1 := sym_fwd a1 h1 h0
    simp only at h
    split at h
    · simp only [Except.ok.injEq, Prod.mk.injEq] at h
      omega
    split at h
    · obtain ⟨_, _, h⟩ := er_bind.1 h
      have := syms_fwd (by omega) b1.2 h
      omega
    · obtain ⟨⟨p2, out2⟩, a2, h⟩ := er_bind.1 h
      have b2 := back_fwd a2 (by omega) b1.2
      have := syms_fwd (by omega) b2.2 h
      omega
theorem item_n0 (ls : List Int) (xs : List UInt8) (p hv : Int) : N0 (itemR ls xs p hv) := by
  unfold itemR
  refine N0.bind (sym_n0 _ _ _) ?_
  rintro ⟨s, p1⟩ _
  refine N0.ite (fun _ => ?_) fun _ => N0.ite (fun _ => ?_) fun _ => N0.ite (fun _ => ?_) fun _ => N0.ok _
  · exact N0.bind (num_n0 _ _ _) fun _ _ => N0.ite (fun _ => N0.ok _) fun _ => N0.err (by decide)
  · exact N0.bind (num_n0 _ _ _) fun _ _ => N0.ok _
  · exact N0.bind (num_n0 _ _ _) fun _ _ => N0.ok _
theorem item_fwd {ls : List Int} {xs : List UInt8} {p hv p' : Int} {x : Int × Int} {h' : Int} (h : itemR ls xs p hv = .ok (p', x, h')) (h0 : 0 ≤ p) (h1 : p ≤ 8 * xs.length) : p < p' ∧ p' ≤ 8 * xs.length := by
  unfold itemR at h
  obtain ⟨⟨s, p1⟩, a1, h⟩ := er_bind.1 h
  have b1 := sym_fwd a1 h1 h0
  simp only at h
  split at h
  · obtain ⟨⟨y, p2⟩, a2, h⟩ := er_bind.1 h
    have b2 := num_nn a2
    simp only at h
    split at h
    · simp only [Except.ok.injEq, Prod.mk.injEq] at h; omega
    · cases h
  split at h
  · obtain ⟨⟨y, p2⟩, a2, h⟩ := er_bind.1 h
    have b2 := num_nn a2
    simp only [Except.ok.injEq, Prod.mk.injEq] at h; omega
  split at h
  · obtain ⟨⟨y, p2⟩, a2, h⟩ := er_bind.1 h
    have b2 := num_nn a2
    simp only [Except.ok.injEq, Prod.mk.injEq] at h; omega
  · simp only [Except.ok.injEq, Prod.mk.injEq] at h; omega
theorem items_n0 (ls : List Int) (xs : List UInt8) (n : Int) : ∀ (f : Nat) {p : Int} (h0 : 0 ≤ p) (h1 : p ≤ 8 * xs.length) (hf : 8 * (xs.length : Int) < f + p) (its : List (Int × Int)) (hv : Int), N0 (itemsR ls xs n f p its hv)
  | 0, p, h0, h1, hf, its, hv => by omega
  | f + 1, p, h0, h1, hf, its, hv => by
    unfold itemsR
    refine N0.ite (fun _ => ?_) fun _ => N0.ok _
    refine N0.bind (item_n0 _ _ _ _) ?_
    rintro ⟨p1, x, h⟩ a1
    have b1 := item_fwd a1 h0 h1
    exact items_n0 ls xs n f (by omega) (by omega) (by omega) _ _
theorem items_fwd {ls : List Int} {xs : List UInt8} {n : Int} : ∀ {f : Nat} {p : Int} {its : List (Int × Int)} {hv p' : Int} {its' : List (Int × Int)} {h' : Int} (h0 : 0 ≤ p) (h1 : p ≤ 8 * xs.length) (h : itemsR ls xs n f p its hv = .ok (p', its', h')), p ≤ p' ∧ p' ≤ 8 * xs.length
  | 0, p, its, hv, p', its', h', h0, h1, h => by cases h
  | f + 1, p, its, hv, p', its', h', h0, h1, h => by
    unfold itemsR at h
    split at h
    · obtain ⟨⟨p1, x, h2⟩, a1, h⟩ := er_bind.1 h
      have b1 := item_fwd a1 h0 h1
      have := items_fwd (by omega) b1.2 h
      omega
    · simp only [Except.ok.injEq, Prod.mk.injEq] at h; omega
theorem own_n0 (xs : List UInt8) : ∀ (l : List Nat) (p : Int) (own : List Int), N0 (ownR xs l p own)
  | [], p, own => N0.ok _
  | i :: l, p, own => by
    unfold ownR
    refine N0.bind (num_n0 _ _ _) ?_
    rintro ⟨x, p1⟩ _
    exact own_n0 xs l _ _
theorem own_fwd {xs : List UInt8} : ∀ {l : List Nat} {p : Int} {own : List Int} {p' : Int} {own' : List Int} (h1 : p ≤ 8 * xs.length) (h : ownR xs l p own = .ok (p', own')), p ≤ p' ∧ p' ≤ 8 * xs.length
  | [], p, own, p', own', h1, h => by simp only [ownR, Except.ok.injEq, Prod.mk.injEq] at h; omega
  | i :: l, p, own, p', own', h1, h => by
    unfold ownR at h
    obtain ⟨⟨x, p1⟩, a1, h⟩ := er_bind.1 h
    have b1 := num_nn a1
    have := own_fwd b1.2.2 h
    omega
theorem rows_n0 (ls : List Int) (xs : List UInt8) (n : Int) {p : Int} (h0 : 0 ≤ p) (h1 : p ≤ 8 * xs.length) (hl : xs.length ≤ 100000) : N0 (rowsR ls xs n p) := by
  unfold rowsR
  refine N0.bind (items_n0 ls xs n fuel h0 h1 (by unfold fuel; omega) _ _) ?_
  rintro ⟨p1, its, h⟩ _
  simp only
  refine N0.ite (fun _ => ?_) fun _ => N0.err (by decide)
  cases unpackR its [] with
  | some all => exact N0.ok _
  | none => exact N0.err (by decide)
theorem rows_fwd {ls : List Int} {xs : List UInt8} {n p p' : Int} {all : List Int} (h : rowsR ls xs n p = .ok (p', all)) (h0 : 0 ≤ p) (h1 : p ≤ 8 * xs.length) : p ≤ p' ∧ p' ≤ 8 * xs.length := by
  unfold rowsR at h
  obtain ⟨⟨p1, its, h2⟩, a1, h⟩ := er_bind.1 h
  have b1 := items_fwd h0 h1 a1
  simp only at h
  split at h
  case isFalse => cases h
  split at h
  · simp only [Except.ok.injEq, Prod.mk.injEq] at h; omega
  · cases h
theorem codes_n0 (xs : List UInt8) {p : Int} (h0 : 0 ≤ p) (hl : xs.length ≤ 100000) : N0 (codesR xs p) := by
  unfold codesR
  refine N0.bind (num_n0 _ _ _) ?_
  rintro ⟨l, p1⟩ a1
  refine N0.bind (num_n0 _ _ _) ?_
  rintro ⟨d, p2⟩ a2
  refine N0.bind (num_n0 _ _ _) ?_
  rintro ⟨n, p3⟩ a3
  have b1 := num_nn a1
  have b2 := num_nn a2
  have b3 := num_nn a3
  refine N0.ite (fun _ => ?_) fun _ => N0.err (by decide)
  refine N0.bind (own_n0 _ _ _ _) ?_
  rintro ⟨p4, own⟩ a4
  have b4 := own_fwd b3.2.2 a4
  refine N0.bind (code_n0 _ _ _) fun _ _ => ?_
  refine N0.bind (rows_n0 _ _ _ (by omega) b4.2 hl) ?_
  rintro ⟨p5, all⟩ a5
  refine N0.ite (fun _ => ?_) fun _ => N0.err (by decide)
  refine N0.bind (code_n0 _ _ _) fun _ _ => ?_
  exact N0.bind (code_n0 _ _ _) fun _ _ => N0.ok _
theorem codes_fwd {xs : List UInt8} {p p' : Int} {first other : List Int} (h : codesR xs p = .ok (p', first, other)) (h0 : 0 ≤ p) : p ≤ p' ∧ p' ≤ 8 * xs.length := by
  unfold codesR at h
  obtain ⟨⟨l, p1⟩, a1, h⟩ := er_bind.1 h
  obtain ⟨⟨d, p2⟩, a2, h⟩ := er_bind.1 h
  obtain ⟨⟨n, p3⟩, a3, h⟩ := er_bind.1 h
  have b1 := num_nn a1
  have b2 := num_nn a2
  have b3 := num_nn a3
  simp only at h
  split at h
  case isFalse => cases h
  obtain ⟨⟨p4, own⟩, a4, h⟩ := er_bind.1 h
  have b4 := own_fwd b3.2.2 a4
  obtain ⟨_, _, h⟩ := er_bind.1 h
  obtain ⟨⟨p5, all⟩, a5, h⟩ := er_bind.1 h
  have b5 := rows_fwd a5 (by omega) b4.2
  simp only at h
  split at h
  case isFalse => cases h
  obtain ⟨_, _, h⟩ := er_bind.1 h
  obtain ⟨_, _, h⟩ := er_bind.1 h
  simp only [Except.ok.injEq, Prod.mk.injEq] at h
  omega
theorem block_n0 (xs : List UInt8) (lim : Int) {p : Int} (h0 : 0 ≤ p) (hl : xs.length ≤ 100000) (out : List UInt8) (n : Int) : N0 (blockR xs lim p out n) := by
  unfold blockR
  refine N0.bind (num_n0 _ _ _) ?_
  rintro ⟨last, p1⟩ a1
  refine N0.bind (num_n0 _ _ _) ?_
  rintro ⟨kind, p2⟩ a2
  have b1 := num_nn a1
  have b2 := num_nn a2
  refine N0.ite (fun _ => ?_) fun _ => N0.ite (fun _ => ?_) fun _ => N0.ite (fun _ => ?_) fun _ => N0.err (by decide)
  · exact N0.bind (stored_n0 _ _ _ _) fun _ _ => N0.ok _
  · exact N0.bind (syms_n0 fixA fixB xs lim fuel (by omega) b2.2.2 (by unfold fuel; omega) out n) fun _ _ => N0.ok _
  · refine N0.bind (codes_n0 xs (by omega) hl) ?_
    rintro ⟨p3, first, other⟩ a3
    have b3 := codes_fwd a3 (by omega)
    exact N0.bind (syms_n0 first other xs lim fuel (by omega) b3.2 (by unfold fuel; omega) out n) fun _ _ => N0.ok _
theorem stored_fwd {xs : List UInt8} {lim p p' : Int} {out out' : List UInt8} {n : Int} (h : storedR xs lim p out = .ok (p', out', n)) (h0 : 0 ≤ p) : p ≤ p' ∧ p' ≤ 8 * xs.length := by
  unfold storedR at h
  obtain ⟨⟨m, p1⟩, a1, h⟩ := er_bind.1 h
  obtain ⟨⟨t, p2⟩, a2, h⟩ := er_bind.1 h
  have b1 := num_nn a1
  have b2 := num_nn a2
  simp only at h
  split at h
  case isFalse => cases h
  split at h
  case isFalse => cases h
  obtain ⟨_, _, h⟩ := er_bind.1 h
  simp only [Except.ok.injEq, Prod.mk.injEq] at h
  omega
theorem block_fwd {xs : List UInt8} {lim p : Int} {out : List UInt8} {n : Int} {last : Bool} {p' : Int} {out' : List UInt8} {n' : Int} (h : blockR xs lim p out n = .ok (last, p', out', n')) (h0 : 0 ≤ p) : p + 3 ≤ p' ∧ p' ≤ 8 * xs.length := by
  unfold blockR at h
  obtain ⟨⟨lst, p1⟩, a1, h⟩ := er_bind.1 h
  obtain ⟨⟨kind, p2⟩, a2, h⟩ := er_bind.1 h
  have b1 := num_nn a1
  have b2 := num_nn a2
  simp only at h
  split at h
  · obtain ⟨⟨p3, out3, n3⟩, a3, h⟩ := er_bind.1 h
    have b3 := stored_fwd a3 (by omega)
    simp only [Except.ok.injEq, Prod.mk.injEq] at h
    omega
  split at h
  · obtain ⟨⟨p3, out3, n3⟩, a3, h⟩ := er_bind.1 h
    have b3 := syms_fwd (by omega) b2.2.2 a3
    simp only [Except.ok.injEq, Prod.mk.injEq] at h
    omega
  split at h
  · obtain ⟨⟨p3, first, other⟩, a3, h⟩ := er_bind.1 h
    have b3 := codes_fwd a3 (by omega)
    obtain ⟨⟨p4, out4, n4⟩, a4, h⟩ := er_bind.1 h
    have b4 := syms_fwd (by omega) b3.2 a4
    simp only [Except.ok.injEq, Prod.mk.injEq] at h
    omega
  · cases h
theorem blocks_n0 (xs : List UInt8) (lim : Int) (hl : xs.length ≤ 100000) : ∀ (f : Nat) {p : Int} (h0 : 0 ≤ p) (h1 : p ≤ 8 * xs.length) (hf : 8 * (xs.length : Int) < f + p) (out : List UInt8) (n b : Int), N0 (blocksR xs lim f p out n b)
  | 0, p, h0, h1, hf, out, n, b => by omega
  | f + 1, p, h0, h1, hf, out, n, b => by
    unfold blocksR
    refine N0.bind (block_n0 xs lim h0 hl out n) ?_
    rintro ⟨last, p1, out1, n1⟩ a1
    have b1 := block_fwd a1 h0
    exact N0.ite (fun _ => N0.ok _) fun _ => blocks_n0 xs lim hl f (by omega) b1.2 (by omega) _ _ _
theorem infl_n0 {xs : List UInt8} {lim : Int} (hl : xs.length ≤ 100000) : inflR xs lim ≠ .error 0 := by
  unfold inflR
  exact N0.bind (blocks_n0 xs (max lim 0) hl fuel (Int.le_refl 0) (by omega) (by unfold fuel; omega) [] 0 0) fun _ _ => N0.ok _
end Go.L1
