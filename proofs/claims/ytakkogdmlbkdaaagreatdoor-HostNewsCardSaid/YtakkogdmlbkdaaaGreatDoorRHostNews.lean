/-
  The law HostNews returns true for every input, and leaves its arguments as they were. No condition is laid on the input.
-/
import Derived.Test.YtakkogdmlbkdaaaGreatDoorRows
import Derived.Test.YtakkogdmlbkdaaaGreatDoorM5
import Derived.Test.YtakkogdmlbkdaaaGreatDoorL6
import Derived.Test.YtakkogdmlbkdaaaGreatDoorTie
import Derived.Test.YtakkogdmlbkdaaaGreatDoorCards
import Derived.WalkKit
import Derived.ProofKit
import Derived.OpenShut
import Derived.ShutString
import Derived.ChangeOld
import Derived.Below
import Derived.SizedLaws
namespace Go.Proofs.YtakkogdmlbkdaaaGreatDoor.hostNews
open Go.ChangeShapes Go.WideShapes Go.ChangeAt Go.RowKit Go.Proofs.YtakkogdmlbkdaaaGreatDoor.Sl
set_option linter.unusedVariables false
set_option linter.unusedSimpArgs false
theorem own_ : ownKnob Tryz.prog.godebug = none := by kernel_rfl
theorem laidOut : laidOutB Tryz.prog = true := by kernel_rfl
set_option maxRecDepth 100000 in
theorem lifted (os : Os) (started : os.Started) (H : Type) (enc : TypeId × Value → H) :
    ReturnsInHanded {} Tryz.checked os 3 .any (fun w args => (Rows.hostNewsSpec.pre enc Tryz.prog Tryz.f3 [] false w args ∧ laidMetH Tryz.prog Sl.It.laidL w) ∧ sizedMet enc Tryz.prog Tryz.f3 (OpenSpec.ofChange Rows.hostNewsSpec) false w args) (Rows.hostNewsSpec.post enc Tryz.prog Tryz.f3 false true false false) := by
  refine returnsInHanded_of_change_and (C := Tryz.checked) (X := fun w _ => laidMetH Tryz.prog Sl.It.laidL w) (fun _ _ _ hh h => h.of_heap hh) own_ started (by kernel_rfl) Tryz.func3
    (ChangeSpec.witness_at (enc := enc) (C := Tryz.checked) (os := os) (X := fun w _ => laidMetH Tryz.prog Sl.It.laidL w) false (Sl.It.laidWorld os) #[.int .i64 0, .int .i64 0, .int .i64 0, .agg #[.int .i64 0, .int .i64 0, .int .i64 0, .int .i64 0, .bool false]] 8 rfl (by kernel_rfl) (by kernel_rfl) (by kernel_rfl) (by kernel_rfl) (by kernel_rfl) (Sl.It.laidWorld_met os _)) ?_
  intro W base args ds gs before hval0 hW hcnd hsz0 hL _
  have hval : ∀ (j : Nat) t v, Tryz.f3.params[j]? = some t → args[j]? = some v → Value.okWide Tryz.prog W .any base t v := hval0
  have hW' := hW
  obtain ⟨p, q, hA0, hV, rfl, hfz, hnd⟩ := hW
  have hA : DataW.TrodAll enc Tryz.prog W 0 (fun _ => true) true Tryz.f3.params.toList args.toList ds p := hA0
  rw [Tryz.params3] at hA hval
  obtain ⟨v0, vs0, d0, ds0, p0, q0, hargs, rfl, rfl, h0, r0⟩ := trodAll_cons hA
  obtain ⟨v1, vs1, d1, ds1, p1, q1, rfl, rfl, rfl, h1, r1⟩ := trodAll_cons r0
  obtain ⟨v2, vs2, d2, ds2, p2, q2, rfl, rfl, rfl, h2, r2⟩ := trodAll_cons r1
  obtain ⟨v3, vs3, d3, ds3, p3, q3, rfl, rfl, rfl, h3, r3⟩ := trodAll_cons r2
  obtain ⟨rfl, rfl, rfl⟩ := trodAll_nil r3
  obtain rfl : args = #[v0, v1, v2, v3] := by cases args; simp_all
  obtain ⟨rfl, rfl⟩ := trodVars_none hV
  have k0 := h0
  have lt0 : ∀ x ∈ p0, x.block < W.heap.size := by obtain ⟨m, hm⟩ := k0; exact DataW.trod_lt m _ _ _ hm
  obtain ⟨a0, rfl, _, _, w0⟩ := open_int Tryz.underlying3 (hval 0 3 v0 rfl rfl) h0
  have b0 : IntKind.i64.min ≤ a0 ∧ a0 ≤ IntKind.i64.max := by simpa [Lit.wf] using w0
  have k1 := h1
  have lt1 : ∀ x ∈ p1, x.block < W.heap.size := by obtain ⟨m, hm⟩ := k1; exact DataW.trod_lt m _ _ _ hm
  obtain ⟨a1, rfl, _, _, w1⟩ := open_int Tryz.underlying3 (hval 1 3 v1 rfl rfl) h1
  have b1 : IntKind.i64.min ≤ a1 ∧ a1 ≤ IntKind.i64.max := by simpa [Lit.wf] using w1
  have k2 := h2
  have lt2 : ∀ x ∈ p2, x.block < W.heap.size := by obtain ⟨m, hm⟩ := k2; exact DataW.trod_lt m _ _ _ hm
  obtain ⟨a2, rfl, _, _, w2⟩ := open_int Tryz.underlying3 (hval 2 3 v2 rfl rfl) h2
  have b2 : IntKind.i64.min ≤ a2 ∧ a2 ≤ IntKind.i64.max := by simpa [Lit.wf] using w2
  have k3 := h3
  have lt3 : ∀ x ∈ p3, x.block < W.heap.size := by obtain ⟨m, hm⟩ := k3; exact DataW.trod_lt m _ _ _ hm
  obtain ⟨cs3, rfl, hs3, hf3⟩ := open_structL (L := [3, 3, 3, 3, 4]) Tryz.underlying25 (by kernel_rfl) (hval 3 25 v3 rfl rfl) h3
  obtain ⟨u3_0, e3_0, y3_0⟩ := hf3 0 _ rfl
  obtain ⟨x3_0, rfl, b3_0⟩ := isK_int Tryz.underlying3 y3_0
  obtain ⟨u3_1, e3_1, y3_1⟩ := hf3 1 _ rfl
  obtain ⟨x3_1, rfl, b3_1⟩ := isK_int Tryz.underlying3 y3_1
  obtain ⟨u3_2, e3_2, y3_2⟩ := hf3 2 _ rfl
  obtain ⟨x3_2, rfl, b3_2⟩ := isK_int Tryz.underlying3 y3_2
  obtain ⟨u3_3, e3_3, y3_3⟩ := hf3 3 _ rfl
  obtain ⟨x3_3, rfl, b3_3⟩ := isK_int Tryz.underlying3 y3_3
  obtain ⟨u3_4, e3_4, y3_4⟩ := hf3 4 _ rfl
  obtain ⟨x3_4, rfl⟩ := isK_bool Tryz.underlying4 y3_4
  obtain rfl := arr5 hs3 e3_0 e3_1 e3_2 e3_3 e3_4
  refine ((Sl.It.law_news W (Sl.It.tab_of_laid hL) a0 a1 a2 (x3_0, x3_1, x3_2, x3_3, x3_4) ⟨(by have := b3_1.1; simp [IntKind.min, IntKind.signed, IntKind.bits] at this; show -9223372036854775808 ≤ x3_1; omega), (by have := b3_1.2; simp [IntKind.max, IntKind.signed, IntKind.bits] at this; show x3_1 < 9223372036854775808; omega)⟩).calls (Ent.refl [])).mono fun e W' ⟨v, A', he, bel, hv, _⟩ => ?_
  subst hv
  subst he
  exact ⟨_, rfl, _, _, _, [], _, [], hW', trodAll_mk1 (shut_bool Tryz.underlying4 _), (trodAll_cons_mk (Below.trod laidOut (by kernel_rfl) (of_decide_eq_true (by kernel_rfl)) k0 bel lt0) (trodAll_cons_mk (Below.trod laidOut (by kernel_rfl) (of_decide_eq_true (by kernel_rfl)) k1 bel lt1) (trodAll_cons_mk (Below.trod laidOut (by kernel_rfl) (of_decide_eq_true (by kernel_rfl)) k2 bel lt2) (trodAll_cons_mk (Below.trod laidOut (by kernel_rfl) (of_decide_eq_true (by kernel_rfl)) k3 bel lt3) trodAll_mk0)))), rfl, bel.frame _, fun h => by cases h⟩
theorem over : Rows.hostNewsRow.holds Tryz.pinned (OpenSpec.ofChange Rows.hostNewsSpec) :=
  OpenClaim.holds_of_wide 3 Tryz.f3 rfl rfl rfl rfl rfl rfl rfl ⟨rfl, rfl, rfl, rfl, rfl⟩ rfl rfl rfl rfl rfl (by kernel_rfl) Tryz.func3 (by kernel_rfl)
    (of_decide_eq_true (by kernel_rfl)) (by unfold Func.isWrapper; first | (rw [if_pos (by decide +kernel)]; kernel_rfl) | (rw [if_neg (by decide +kernel)]; exact ⟨rfl, rfl⟩))
    (fun os started H enc _ => lifted os started H enc)
theorem proved : Rows.HostNewsSaid := over
end Go.Proofs.YtakkogdmlbkdaaaGreatDoor.hostNews
namespace Go.Proofs.YtakkogdmlbkdaaaGreatDoor
/-- The row, under a short name, for the claim. -/
theorem hostNews_row : Rows.HostNewsSaid := hostNews.proved
/-- The card: the row, with what it lists tied to the program's text. -/
theorem hostNews_holds : Rows.HostNewsCardSaid :=
  Claim7.holds_tied_plain_at .later [] [.data] true (true, "454d82305c91318bb33524456962d31546a67009f313a1441e97f81d9bb9fd0b") false
    hostNews_row (fun _ h => by cases h) (by kernel_rfl) (fun _ h => by cases h) hostNews_row_tie rfl ⟨rfl, rfl⟩ (by kernel_rfl) rfl
    (fun f fn hf hfn => by
      obtain rfl : f = 3 := Option.some.inj ((show Tryz.prog.funcNamed Rows.hostNewsRow.func = some 3 by kernel_rfl).symm.trans hf) |>.symm
      obtain rfl : fn = Tryz.f3 := (Option.some.inj (Tryz.func3.symm.trans hfn)).symm
      exact ⟨by kernel_rfl, fun j t ht => by
        rw [Tryz.params3] at ht
        have hm : t ∈ [3, 3, 3, 25] := by simpa using Array.mem_of_getElem? ht
        have hall : ([3, 3, 3, 25].all fun u => !Tryz.prog.wantsStandIn u) = true := by kernel_rfl
        exact (show Tryz.prog.wantsStandIn t = false by simpa using List.all_eq_true.1 hall t hm)⟩)
    (by kernel_rfl)
end Go.Proofs.YtakkogdmlbkdaaaGreatDoor
