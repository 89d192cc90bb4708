/-
  The law TimerDoes returns true for every input, and leaves its arguments as they were. No condition is laid on the input.
-/
import Derived.Test.YtmaapcppefbccaaRows
import Derived.Test.YtmaapcppefbccaaTl
import Derived.WalkKit
import Derived.ProofKit
import Derived.OpenShut
import Derived.ShutString
import Derived.ChangeOld
import Derived.Below
import Derived.SizedLaws
namespace Go.Proofs.Ytmaapcppefbccaa.timerDoes
open Go.ChangeShapes Go.WideShapes Go.ChangeAt Go.RowKit Go.Proofs.Ytmaapcppefbccaa.Sl
set_option linter.unusedVariables false
set_option linter.unusedSimpArgs false
theorem own_ : ownKnob Try.prog.godebug = none := by kernel_rfl
theorem laidOut : laidOutB Try.prog = true := by kernel_rfl
set_option maxRecDepth 100000 in
theorem lifted (os : Os) (started : os.Started) (H : Type) (enc : TypeId × Value → H) :
    ReturnsInHanded {} Try.checked os 3 .any (Rows.timerDoesSpec.pre6 enc Try.prog Try.f3 Rows.timerDoesRow.domain false) (Rows.timerDoesSpec.post enc Try.prog Try.f3 false true false false) := by
  refine returnsInHanded_of_change_sized (C := Try.checked) own_ started (by kernel_rfl) Try.func3
    (ChangeSpec.witness6 (enc := enc) (C := Try.checked) false ⟨#[], #[.agg #[.bool false, .bool false, .int .i64 0], .slice none 0 0, .int .i64 0, .int .i64 0], []⟩ 8 (by kernel_rfl) (by kernel_rfl) (by kernel_rfl) (by kernel_rfl)) ?_
  intro W base args ds gs before hval0 hW hcnd hsz0 _
  have hval : ∀ (j : Nat) t v, Try.f3.params[j]? = some t → args[j]? = some v → Value.okWide Try.prog W .any base t v := hval0
  have hW' := hW
  obtain ⟨p, q, hA0, hV, rfl, hfz, hnd⟩ := hW
  have hA : DataW.TrodAll enc Try.prog W 0 (fun _ => true) true Try.f3.params.toList args.toList ds p := hA0
  rw [Try.params3] at hA hval
  obtain ⟨v0, vs0, d0, ds0, p0, q0, hargs, rfl, rfl, h0, r0⟩ := trodAll_cons hA
  obtain ⟨v1, vs1, d1, ds1, p1, q1, rfl, rfl, rfl, h1, r1⟩ := trodAll_cons r0
  obtain ⟨v2, vs2, d2, ds2, p2, q2, rfl, rfl, rfl, h2, r2⟩ := trodAll_cons r1
  obtain ⟨v3, vs3, d3, ds3, p3, q3, rfl, rfl, rfl, h3, r3⟩ := trodAll_cons r2
  obtain ⟨rfl, rfl, rfl⟩ := trodAll_nil r3
  obtain rfl : args = #[v0, v1, v2, v3] := by cases args; simp_all
  obtain ⟨rfl, rfl⟩ := trodVars_none hV
  have k0 := h0
  have lt0 : ∀ x ∈ p0, x.block < W.heap.size := by obtain ⟨m, hm⟩ := k0; exact DataW.trod_lt m _ _ _ hm
  obtain ⟨cs0, rfl, hs0, hf0⟩ := open_struct Try.underlying23 (by kernel_rfl) (by kernel_rfl) (hval 0 23 v0 rfl rfl) h0
  obtain ⟨u0_0, e0_0, y0_0⟩ := hf0 0 _ rfl
  obtain ⟨x0_0, rfl⟩ := isK_bool Try.underlying4 y0_0
  obtain ⟨u0_1, e0_1, y0_1⟩ := hf0 1 _ rfl
  obtain ⟨x0_1, rfl⟩ := isK_bool Try.underlying4 y0_1
  obtain ⟨u0_2, e0_2, y0_2⟩ := hf0 2 _ rfl
  obtain ⟨x0_2, rfl, b0_2⟩ := isK_int Try.underlying3 y0_2
  obtain rfl := arr3 hs0 e0_0 e0_1 e0_2
  have k1 := h1
  have lt1 : ∀ x ∈ p1, x.block < W.heap.size := by obtain ⟨m, hm⟩ := k1; exact DataW.trod_lt m _ _ _ hm
  obtain ⟨fu1, hfu1⟩ := h1
  obtain ⟨sa1, sl1, sc1, rfl⟩ := okWide_slice Try.underlying24 (hval 1 24 v1 rfl rfl)
  obtain ⟨pp1, n1, c1, cl1, A1, hv1, hn1, hr1, he1, hf1⟩ := open_slc Try.underlying24 Try.underlying37 (by kernel_rfl) (by kernel_rfl) (by decide) rfl hfu1
  obtain ⟨rfl, rfl, rfl⟩ : pp1 = sa1 ∧ n1 = sl1 ∧ c1 = sc1 := by simpa [eq_comm] using hv1
  clear hv1 hfu1
  have k2 := h2
  have lt2 : ∀ x ∈ p2, x.block < W.heap.size := by obtain ⟨m, hm⟩ := k2; exact DataW.trod_lt m _ _ _ hm
  obtain ⟨a2, rfl, _, _, w2⟩ := open_int Try.underlying25 (hval 2 25 v2 rfl rfl) h2
  have b2 : IntKind.i64.min ≤ a2 ∧ a2 ≤ IntKind.i64.max := by simpa [Lit.wf] using w2
  have k3 := h3
  have lt3 : ∀ x ∈ p3, x.block < W.heap.size := by obtain ⟨m, hm⟩ := k3; exact DataW.trod_lt m _ _ _ hm
  obtain ⟨a3, rfl, _, _, w3⟩ := open_int Try.underlying3 (hval 3 3 v3 rfl rfl) h3
  have b3 : IntKind.i64.min ≤ a3 ∧ a3 ≤ IntKind.i64.max := by simpa [Lit.wf] using w3
  have hr1 : RdS W pp1 n1 3 cl1 A1 := hr1
  obtain ⟨ts1, tl1, rfl, tp1⟩ := Sl.decode (α := Int × Int × Int) Sl.acC (fun t => IntKind.u64.min ≤ t.2.2 ∧ t.2.2 ≤ IntKind.u64.max) 3 n1 cl1 hr1.1 (fun i hi => by
    obtain ⟨u0, e0, y0⟩ := hf1 i hi 0 _ rfl
    obtain ⟨x0, rfl, b0⟩ := isK_int Try.underlying25 y0
    obtain ⟨u1, e1, y1⟩ := hf1 i hi 1 _ rfl
    obtain ⟨x1, rfl, b1⟩ := isK_int Try.underlying3 y1
    obtain ⟨u2, e2, y2⟩ := hf1 i hi 2 _ rfl
    obtain ⟨x2, rfl, b2⟩ := isK_int Try.underlying29 y2
    exact ⟨(x0, x1, x2), b2, take3 e0 e1 e2⟩)
  refine ((Sl.law_does W hr1 hn1 (fun a ha => by have := tp1 a ha; simp [IntKind.min, IntKind.max, IntKind.signed, IntKind.bits] at this; omega) x0_0 x0_1 x0_2 a2 a3).calls he1).mono fun e W' ⟨v, A', he, bel, hv, _⟩ => ?_
  subst hv
  subst he
  exact ⟨_, rfl, _, _, _, [], _, [], hW', trodAll_mk1 (shut_bool Try.underlying4 _), (trodAll_cons_mk (Below.trod laidOut (by kernel_rfl) (of_decide_eq_true (by kernel_rfl)) k0 bel lt0) (trodAll_cons_mk (Below.trod laidOut (by kernel_rfl) (of_decide_eq_true (by kernel_rfl)) k1 bel lt1) (trodAll_cons_mk (Below.trod laidOut (by kernel_rfl) (of_decide_eq_true (by kernel_rfl)) k2 bel lt2) (trodAll_cons_mk (Below.trod laidOut (by kernel_rfl) (of_decide_eq_true (by kernel_rfl)) k3 bel lt3) trodAll_mk0)))), rfl, bel.frame _, fun h => by cases h⟩
theorem over : Rows.timerDoesRow.holds Try.pinned (OpenSpec.ofChange Rows.timerDoesSpec) :=
  OpenClaim.holds_of_wide 3 Try.f3 rfl rfl rfl rfl rfl rfl rfl ⟨rfl, rfl, rfl, rfl, rfl⟩ rfl rfl rfl rfl rfl (by kernel_rfl) Try.func3 (by kernel_rfl)
    (of_decide_eq_true (by kernel_rfl)) (by unfold Func.isWrapper; first | (rw [if_pos (by decide +kernel)]; kernel_rfl) | (rw [if_neg (by decide +kernel)]; exact ⟨rfl, rfl⟩))
    (fun os started H enc _ => lifted os started H enc)
theorem proved : Rows.TimerDoesSaid := over
end Go.Proofs.Ytmaapcppefbccaa.timerDoes
namespace Go.Proofs.Ytmaapcppefbccaa
/-- The row, under a short name, for the claim. -/
theorem timerDoes_holds : Rows.TimerDoesSaid := timerDoes.proved
end Go.Proofs.Ytmaapcppefbccaa
