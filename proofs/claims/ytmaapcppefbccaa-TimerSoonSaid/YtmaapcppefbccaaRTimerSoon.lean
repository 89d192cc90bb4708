/-
  The law TimerSoon returns true for every input, and leaves its arguments as they were. No condition is laid on the input.
-/
import Derived.Test.YtmaapcppefbccaaRows
import Derived.Test.YtmaapcppefbccaaTk
import Derived.WalkKit
import Derived.ProofKit
import Derived.OpenShut
import Derived.ShutString
import Derived.ChangeOld
import Derived.Below
import Derived.SizedLaws
namespace Go.Proofs.Ytmaapcppefbccaa.timerSoon
open Go.ChangeShapes Go.WideShapes Go.ChangeAt Go.RowKit Go.Proofs.Ytmaapcppefbccaa.Sl
set_option linter.unusedVariables false
set_option linter.unusedSimpArgs false
theorem own_ : ownKnob Try.prog.godebug = none := by kernel_rfl
theorem laidOut : laidOutB Try.prog = true := by kernel_rfl
set_option maxRecDepth 100000 in
theorem lifted (os : Os) (started : os.Started) (H : Type) (enc : TypeId × Value → H) :
    ReturnsInHanded {} Try.checked os 8 .any (Rows.timerSoonSpec.pre6 enc Try.prog Try.f8 Rows.timerSoonRow.domain false) (Rows.timerSoonSpec.post enc Try.prog Try.f8 false true false false) := by
  refine returnsInHanded_of_change_sized (C := Try.checked) own_ started (by kernel_rfl) Try.func8
    (ChangeSpec.witness6 (enc := enc) (C := Try.checked) false ⟨#[], #[.slice none 0 0, .int .i64 0, .int .i64 0], []⟩ 8 (by kernel_rfl) (by kernel_rfl) (by kernel_rfl) (by kernel_rfl)) ?_
  intro W base args ds gs before hval0 hW hcnd hsz0 _
  have hval : ∀ (j : Nat) t v, Try.f8.params[j]? = some t → args[j]? = some v → Value.okWide Try.prog W .any base t v := hval0
  have hW' := hW
  obtain ⟨p, q, hA0, hV, rfl, hfz, hnd⟩ := hW
  have hA : DataW.TrodAll enc Try.prog W 0 (fun _ => true) true Try.f8.params.toList args.toList ds p := hA0
  rw [Try.params8] at hA hval
  obtain ⟨v0, vs0, d0, ds0, p0, q0, hargs, rfl, rfl, h0, r0⟩ := trodAll_cons hA
  obtain ⟨v1, vs1, d1, ds1, p1, q1, rfl, rfl, rfl, h1, r1⟩ := trodAll_cons r0
  obtain ⟨v2, vs2, d2, ds2, p2, q2, rfl, rfl, rfl, h2, r2⟩ := trodAll_cons r1
  obtain ⟨rfl, rfl, rfl⟩ := trodAll_nil r2
  obtain rfl : args = #[v0, v1, v2] := by cases args; simp_all
  obtain ⟨rfl, rfl⟩ := trodVars_none hV
  have k0 := h0
  have lt0 : ∀ x ∈ p0, x.block < W.heap.size := by obtain ⟨m, hm⟩ := k0; exact DataW.trod_lt m _ _ _ hm
  obtain ⟨fu0, hfu0⟩ := h0
  obtain ⟨sa0, sl0, sc0, rfl⟩ := okWide_slice Try.underlying48 (hval 0 48 v0 rfl rfl)
  obtain ⟨pp0, n0, c0, cl0, A0, hv0, hn0, hr0, he0, hf0⟩ := open_slc Try.underlying48 Try.underlying23 (by kernel_rfl) (by kernel_rfl) (by decide) rfl hfu0
  obtain ⟨rfl, rfl, rfl⟩ : pp0 = sa0 ∧ n0 = sl0 ∧ c0 = sc0 := by simpa [eq_comm] using hv0
  clear hv0 hfu0
  have k1 := h1
  have lt1 : ∀ x ∈ p1, x.block < W.heap.size := by obtain ⟨m, hm⟩ := k1; exact DataW.trod_lt m _ _ _ hm
  obtain ⟨a1, rfl, _, _, w1⟩ := open_int Try.underlying3 (hval 1 3 v1 rfl rfl) h1
  have b1 : IntKind.i64.min ≤ a1 ∧ a1 ≤ IntKind.i64.max := by simpa [Lit.wf] using w1
  have k2 := h2
  have lt2 : ∀ x ∈ p2, x.block < W.heap.size := by obtain ⟨m, hm⟩ := k2; exact DataW.trod_lt m _ _ _ hm
  obtain ⟨a2, rfl, _, _, w2⟩ := open_int Try.underlying3 (hval 2 3 v2 rfl rfl) h2
  have b2 : IntKind.i64.min ≤ a2 ∧ a2 ≤ IntKind.i64.max := by simpa [Lit.wf] using w2
  have hr0 : RdS W pp0 n0 3 cl0 A0 := hr0
  obtain ⟨ts0, tl0, rfl, tp0⟩ := Sl.decode (α := Sl.Tm) Sl.tmC (fun t => t.2.2 ≤ IntKind.i64.max) 3 n0 cl0 hr0.1 (fun i hi => by
    obtain ⟨u0, e0, y0⟩ := hf0 i hi 0 _ rfl
    obtain ⟨x0, rfl⟩ := isK_bool Try.underlying4 y0
    obtain ⟨u1, e1, y1⟩ := hf0 i hi 1 _ rfl
    obtain ⟨x1, rfl⟩ := isK_bool Try.underlying4 y1
    obtain ⟨u2, e2, y2⟩ := hf0 i hi 2 _ rfl
    obtain ⟨x2, rfl, b2⟩ := isK_int Try.underlying3 y2
    exact ⟨(x0, x1, x2), b2.2, take3 e0 e1 e2⟩)
  refine ((Sl.law_soon W hr0 hn0 a1 a2 (fun t ht => by have := (tp0 t ht); simp [IntKind.max, IntKind.signed, IntKind.bits] at this; omega) (by have := b1.1; simp [IntKind.min, IntKind.signed, IntKind.bits] at this; omega)).calls he0).mono fun e W' ⟨v, A', he, bel, hv, _⟩ => ?_
  subst hv
  subst he
  exact ⟨_, rfl, _, _, _, [], _, [], hW', trodAll_mk1 (shut_bool Try.underlying4 _), (trodAll_cons_mk (Below.trod laidOut (by kernel_rfl) (of_decide_eq_true (by kernel_rfl)) k0 bel lt0) (trodAll_cons_mk (Below.trod laidOut (by kernel_rfl) (of_decide_eq_true (by kernel_rfl)) k1 bel lt1) (trodAll_cons_mk (Below.trod laidOut (by kernel_rfl) (of_decide_eq_true (by kernel_rfl)) k2 bel lt2) trodAll_mk0))), rfl, bel.frame _, fun h => by cases h⟩
theorem over : Rows.timerSoonRow.holds Try.pinned (OpenSpec.ofChange Rows.timerSoonSpec) :=
  OpenClaim.holds_of_wide 8 Try.f8 rfl rfl rfl rfl rfl rfl rfl ⟨rfl, rfl, rfl, rfl, rfl⟩ rfl rfl rfl rfl rfl (by kernel_rfl) Try.func8 (by kernel_rfl)
    (of_decide_eq_true (by kernel_rfl)) (by unfold Func.isWrapper; first | (rw [if_pos (by decide +kernel)]; kernel_rfl) | (rw [if_neg (by decide +kernel)]; exact ⟨rfl, rfl⟩))
    (fun os started H enc _ => lifted os started H enc)
theorem proved : Rows.TimerSoonSaid := over
end Go.Proofs.Ytmaapcppefbccaa.timerSoon
namespace Go.Proofs.Ytmaapcppefbccaa
/-- The row, under a short name, for the claim. -/
theorem timerSoon_holds : Rows.TimerSoonSaid := timerSoon.proved
end Go.Proofs.Ytmaapcppefbccaa
