/-
  The law FrameOnly returns true for every input, and leaves its arguments as they were. No condition is laid on the input.
-/
import Derived.Test.YtmaheecbohbilaaRows
import Derived.Test.YtmaheecbohbilaaGl
import Derived.Test.YtmaheecbohbilaaL4
import Derived.WalkKit
import Derived.ProofKit
import Derived.OpenShut
import Derived.ShutString
import Derived.ChangeOld
import Derived.Below
import Derived.SizedLaws
namespace Go.Proofs.Ytmaheecbohbilaa.frameOnly
open Go.ChangeShapes Go.WideShapes Go.ChangeAt Go.RowKit Go.Proofs.Ytmaheecbohbilaa.Sl
set_option linter.unusedVariables false
set_option linter.unusedSimpArgs false
theorem own_ : ownKnob Try.prog.godebug = none := by kernel_rfl
theorem laidOut : laidOutB Try.prog = true := by kernel_rfl
set_option maxRecDepth 100000 in
theorem lifted (os : Os) (started : os.Started) (H : Type) (enc : TypeId × Value → H) :
    ReturnsInHanded {} Try.checked os 8 .any (Rows.frameOnlySpec.pre6 enc Try.prog Try.f8 Rows.frameOnlyRow.domain false) (Rows.frameOnlySpec.post enc Try.prog Try.f8 false true false false) := by
  refine returnsInHanded_of_change_sized (C := Try.checked) own_ started (by kernel_rfl) Try.func8
    (ChangeSpec.witness6 (enc := enc) (C := Try.checked) false ⟨#[], #[.int .u8 0, .int .u8 0, .slice none 0 0, .slice none 0 0, .int .i64 0], []⟩ 8 (by kernel_rfl) (by kernel_rfl) (by kernel_rfl) (by kernel_rfl)) ?_
  intro W base args ds gs before hval0 hW hcnd hsz0 _
  have hval : ∀ (j : Nat) t v, Try.f8.params[j]? = some t → args[j]? = some v → Value.okWide Try.prog W .any base t v := hval0
  have hW' := hW
  obtain ⟨p, q, hA0, hV, rfl, hfz, hnd⟩ := hW
  have hA : DataW.TrodAll enc Try.prog W 0 (fun _ => true) true Try.f8.params.toList args.toList ds p := hA0
  rw [Try.params8] at hA hval
  obtain ⟨v0, vs0, d0, ds0, p0, q0, hargs, rfl, rfl, h0, r0⟩ := trodAll_cons hA
  obtain ⟨v1, vs1, d1, ds1, p1, q1, rfl, rfl, rfl, h1, r1⟩ := trodAll_cons r0
  obtain ⟨v2, vs2, d2, ds2, p2, q2, rfl, rfl, rfl, h2, r2⟩ := trodAll_cons r1
  obtain ⟨v3, vs3, d3, ds3, p3, q3, rfl, rfl, rfl, h3, r3⟩ := trodAll_cons r2
  obtain ⟨v4, vs4, d4, ds4, p4, q4, rfl, rfl, rfl, h4, r4⟩ := trodAll_cons r3
  obtain ⟨rfl, rfl, rfl⟩ := trodAll_nil r4
  obtain rfl : args = #[v0, v1, v2, v3, v4] := by cases args; simp_all
  obtain ⟨rfl, rfl⟩ := trodVars_none hV
  have k0 := h0
  have lt0 : ∀ x ∈ p0, x.block < W.heap.size := by obtain ⟨m, hm⟩ := k0; exact DataW.trod_lt m _ _ _ hm
  obtain ⟨a0, rfl, _, _, w0⟩ := open_int Try.underlying5 (hval 0 5 v0 rfl rfl) h0
  have b0 : IntKind.u8.min ≤ a0 ∧ a0 ≤ IntKind.u8.max := by simpa [Lit.wf] using w0
  have k1 := h1
  have lt1 : ∀ x ∈ p1, x.block < W.heap.size := by obtain ⟨m, hm⟩ := k1; exact DataW.trod_lt m _ _ _ hm
  obtain ⟨a1, rfl, _, _, w1⟩ := open_int Try.underlying5 (hval 1 5 v1 rfl rfl) h1
  have b1 : IntKind.u8.min ≤ a1 ∧ a1 ≤ IntKind.u8.max := by simpa [Lit.wf] using w1
  have k2 := h2
  have lt2 : ∀ x ∈ p2, x.block < W.heap.size := by obtain ⟨m, hm⟩ := k2; exact DataW.trod_lt m _ _ _ hm
  obtain ⟨fu2, hfu2⟩ := h2
  obtain ⟨sa2, sl2, sc2, rfl⟩ := okWide_slice Try.underlying22 (hval 2 22 v2 rfl rfl)
  obtain ⟨pp2, n2, c2, cl2, A2, hv2, hn2, hr2, he2, hf2⟩ := open_slc Try.underlying22 Try.underlying46 (by kernel_rfl) (by kernel_rfl) (by decide) rfl hfu2
  obtain ⟨rfl, rfl, rfl⟩ : pp2 = sa2 ∧ n2 = sl2 ∧ c2 = sc2 := by simpa [eq_comm] using hv2
  clear hv2 hfu2
  have k3 := h3
  have lt3 : ∀ x ∈ p3, x.block < W.heap.size := by obtain ⟨m, hm⟩ := k3; exact DataW.trod_lt m _ _ _ hm
  obtain ⟨fu3, hfu3⟩ := h3
  obtain ⟨sa3, sl3, sc3, rfl⟩ := okWide_slice Try.underlying56 (hval 3 56 v3 rfl rfl)
  obtain ⟨pp3, n3, c3, cl3, A3, hv3, hn3, hr3, he3, hf3⟩ := open_slc1 Try.underlying56 (by kernel_rfl) rfl hfu3
  obtain ⟨rfl, rfl, rfl⟩ : pp3 = sa3 ∧ n3 = sl3 ∧ c3 = sc3 := by simpa [eq_comm] using hv3
  clear hv3 hfu3
  have k4 := h4
  have lt4 : ∀ x ∈ p4, x.block < W.heap.size := by obtain ⟨m, hm⟩ := k4; exact DataW.trod_lt m _ _ _ hm
  obtain ⟨a4, rfl, _, _, w4⟩ := open_int Try.underlying3 (hval 4 3 v4 rfl rfl) h4
  have b4 : IntKind.i64.min ≤ a4 ∧ a4 ≤ IntKind.i64.max := by simpa [Lit.wf] using w4
  have hr2 : RdS W pp2 n2 5 cl2 A2 := hr2
  obtain ⟨ts2, tl2, rfl, tp2⟩ := Sl.decode (α := Sl.Ac) Sl.acC (fun t => t.2.2.1 ≤ IntKind.i64.max ∧ IntKind.u64.min ≤ t.2.2.2.1 ∧ t.2.2.2.1 ≤ IntKind.u64.max) 5 n2 cl2 hr2.1 (fun i hi => by
    obtain ⟨u0, e0, y0⟩ := hf2 i hi 0 _ rfl
    obtain ⟨x0, rfl, b0⟩ := isK_int Try.underlying3 y0
    obtain ⟨u1, e1, y1⟩ := hf2 i hi 1 _ rfl
    obtain ⟨x1, rfl, b1⟩ := isK_int Try.underlying3 y1
    obtain ⟨u2, e2, y2⟩ := hf2 i hi 2 _ rfl
    obtain ⟨x2, rfl, b2⟩ := isK_int Try.underlying3 y2
    obtain ⟨u3, e3, y3⟩ := hf2 i hi 3 _ rfl
    obtain ⟨x3, rfl, b3⟩ := isK_int Try.underlying30 y3
    obtain ⟨u4, e4, y4⟩ := hf2 i hi 4 _ rfl
    obtain ⟨x4, rfl, b4⟩ := isK_int Try.underlying44 y4
    exact ⟨(x0, x1, x2, x3, x4), ⟨b2.2, b3.1, b3.2⟩, take5 e0 e1 e2 e3 e4⟩)
  have hr3 : RdS W pp3 n3 1 cl3 A3 := hr3
  obtain ⟨ts3, tl3, rfl, tp3⟩ := Sl.decode (α := Int) Sl.i1C (fun _ => True) 1 n3 cl3 hr3.1 (fun i hi => by
    obtain ⟨u0, e0, y0⟩ := hf3 i hi
    obtain ⟨x0, rfl, b0⟩ := isK_int Try.underlying3 y0
    exact ⟨x0, trivial, take1 (by simpa using e0)⟩)
  refine ((Sl.law_only W hr2 (by simp [maxLen] at hn2; omega) (fun t ht => by have := tp2 t ht; simp [IntKind.max, IntKind.min, IntKind.signed, IntKind.bits] at this; exact ⟨by omega, by omega, by omega⟩) (by have := b0.1; simp [IntKind.min, IntKind.signed, IntKind.bits] at this; omega) (by have := b0.2; simp [IntKind.max, IntKind.signed, IntKind.bits] at this; omega) (by have := b1.1; simp [IntKind.min, IntKind.signed, IntKind.bits] at this; omega) (by have := b1.2; simp [IntKind.max, IntKind.signed, IntKind.bits] at this; omega) hr3 (by simp [maxLen] at hn3; omega) a4).calls (Ent.append (L := []) (M := []) he2 he3)).mono fun e W' ⟨v, A', he, bel, hv, _⟩ => ?_
  subst hv
  subst he
  exact ⟨_, rfl, _, _, _, [], _, [], hW', trodAll_mk1 (shut_bool Try.underlying4 _), (trodAll_cons_mk (Below.trod laidOut (by kernel_rfl) (of_decide_eq_true (by kernel_rfl)) k0 bel lt0) (trodAll_cons_mk (Below.trod laidOut (by kernel_rfl) (of_decide_eq_true (by kernel_rfl)) k1 bel lt1) (trodAll_cons_mk (Below.trod laidOut (by kernel_rfl) (of_decide_eq_true (by kernel_rfl)) k2 bel lt2) (trodAll_cons_mk (Below.trod laidOut (by kernel_rfl) (of_decide_eq_true (by kernel_rfl)) k3 bel lt3) (trodAll_cons_mk (Below.trod laidOut (by kernel_rfl) (of_decide_eq_true (by kernel_rfl)) k4 bel lt4) trodAll_mk0))))), rfl, bel.frame _, fun h => by cases h⟩
theorem over : Rows.frameOnlyRow.holds Try.pinned (OpenSpec.ofChange Rows.frameOnlySpec) :=
  OpenClaim.holds_of_wide 8 Try.f8 rfl rfl rfl rfl rfl rfl rfl ⟨rfl, rfl, rfl, rfl, rfl⟩ rfl rfl rfl rfl rfl (by kernel_rfl) Try.func8 (by kernel_rfl)
    (of_decide_eq_true (by kernel_rfl)) (by unfold Func.isWrapper; first | (rw [if_pos (by decide +kernel)]; kernel_rfl) | (rw [if_neg (by decide +kernel)]; exact ⟨rfl, rfl⟩))
    (fun os started H enc _ => lifted os started H enc)
theorem proved : Rows.FrameOnlySaid := over
end Go.Proofs.Ytmaheecbohbilaa.frameOnly
namespace Go.Proofs.Ytmaheecbohbilaa
/-- The row, under a short name, for the claim. -/
theorem frameOnly_holds : Rows.FrameOnlySaid := frameOnly.proved
end Go.Proofs.Ytmaheecbohbilaa
