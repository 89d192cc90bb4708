/-
  The law HostDoes returns true for every input, and leaves its arguments as they were. No condition is laid on the input.
-/
import Derived.Test.YtakkogdmlbkdaaaGreatDoorRows
import Derived.Test.YtakkogdmlbkdaaaGreatDoorM5
import Derived.Test.YtakkogdmlbkdaaaGreatDoorL6
import Derived.Test.YtakkogdmlbkdaaaGreatDoorTie
import Derived.Test.YtakkogdmlbkdaaaGreatDoorCards
import Derived.WalkKit
import Derived.ProofKit
import Derived.OpenShut
import Derived.ShutString
import Derived.ChangeOld
import Derived.Below
import Derived.SizedLaws
namespace Go.Proofs.YtakkogdmlbkdaaaGreatDoor.hostDoes
open Go.ChangeShapes Go.WideShapes Go.ChangeAt Go.RowKit Go.Proofs.YtakkogdmlbkdaaaGreatDoor.Sl
set_option linter.unusedVariables false
set_option linter.unusedSimpArgs false
theorem own_ : ownKnob Tryz.prog.godebug = none := by kernel_rfl
theorem laidOut : laidOutB Tryz.prog = true := by kernel_rfl
set_option maxRecDepth 100000 in
theorem lifted (os : Os) (started : os.Started) (H : Type) (enc : TypeId × Value → H) :
    ReturnsInHanded {} Tryz.checked os 9 .any (fun w args => (Rows.hostDoesSpec.pre enc Tryz.prog Tryz.f9 [] false w args ∧ laidMetH Tryz.prog Sl.It.laidL w) ∧ sizedMet enc Tryz.prog Tryz.f9 (OpenSpec.ofChange Rows.hostDoesSpec) false w args) (Rows.hostDoesSpec.post enc Tryz.prog Tryz.f9 false true false false) := by
  refine returnsInHanded_of_change_and (C := Tryz.checked) (X := fun w _ => laidMetH Tryz.prog Sl.It.laidL w) (fun _ _ _ hh h => h.of_heap hh) own_ started (by kernel_rfl) Tryz.func9
    (ChangeSpec.witness_at (enc := enc) (C := Tryz.checked) (os := os) (X := fun w _ => laidMetH Tryz.prog Sl.It.laidL w) false (Sl.It.laidWorld os) #[.int .u8 0, .int .u8 0, .slice none 0 0] 8 rfl (by kernel_rfl) (by kernel_rfl) (by kernel_rfl) (by kernel_rfl) (by kernel_rfl) (Sl.It.laidWorld_met os _)) ?_
  intro W base args ds gs before hval0 hW hcnd hsz0 hL _
  have hval : ∀ (j : Nat) t v, Tryz.f9.params[j]? = some t → args[j]? = some v → Value.okWide Tryz.prog W .any base t v := hval0
  have hW' := hW
  obtain ⟨p, q, hA0, hV, rfl, hfz, hnd⟩ := hW
  have hA : DataW.TrodAll enc Tryz.prog W 0 (fun _ => true) true Tryz.f9.params.toList args.toList ds p := hA0
  rw [Tryz.params9] at hA hval
  obtain ⟨v0, vs0, d0, ds0, p0, q0, hargs, rfl, rfl, h0, r0⟩ := trodAll_cons hA
  obtain ⟨v1, vs1, d1, ds1, p1, q1, rfl, rfl, rfl, h1, r1⟩ := trodAll_cons r0
  obtain ⟨v2, vs2, d2, ds2, p2, q2, rfl, rfl, rfl, h2, r2⟩ := trodAll_cons r1
  obtain ⟨rfl, rfl, rfl⟩ := trodAll_nil r2
  obtain rfl : args = #[v0, v1, v2] := by cases args; simp_all
  obtain ⟨rfl, rfl⟩ := trodVars_none hV
  have k0 := h0
  have lt0 : ∀ x ∈ p0, x.block < W.heap.size := by obtain ⟨m, hm⟩ := k0; exact DataW.trod_lt m _ _ _ hm
  obtain ⟨a0, rfl, _, _, w0⟩ := open_int Tryz.underlying5 (hval 0 5 v0 rfl rfl) h0
  have b0 : IntKind.u8.min ≤ a0 ∧ a0 ≤ IntKind.u8.max := by simpa [Lit.wf] using w0
  have k1 := h1
  have lt1 : ∀ x ∈ p1, x.block < W.heap.size := by obtain ⟨m, hm⟩ := k1; exact DataW.trod_lt m _ _ _ hm
  obtain ⟨a1, rfl, _, _, w1⟩ := open_int Tryz.underlying5 (hval 1 5 v1 rfl rfl) h1
  have b1 : IntKind.u8.min ≤ a1 ∧ a1 ≤ IntKind.u8.max := by simpa [Lit.wf] using w1
  have k2 := h2
  have lt2 : ∀ x ∈ p2, x.block < W.heap.size := by obtain ⟨m, hm⟩ := k2; exact DataW.trod_lt m _ _ _ hm
  obtain ⟨fu2, hfu2⟩ := h2
  obtain ⟨sa2, sl2, sc2, rfl⟩ := okWide_slice Tryz.underlying53 (hval 2 53 v2 rfl rfl)
  obtain ⟨pp2, n2, c2, cl2, A2, hv2, hn2, hr2, he2, hf2⟩ := open_slcL (L := [3, 3, 3, 3, 4]) Tryz.underlying53 (by kernel_rfl) (by kernel_rfl) (by decide) rfl hfu2
  obtain ⟨rfl, rfl, rfl⟩ : pp2 = sa2 ∧ n2 = sl2 ∧ c2 = sc2 := by simpa [eq_comm] using hv2
  clear hv2 hfu2
  obtain ⟨m0, rfl⟩ : ∃ m : Nat, a0 = (m : Int) := ⟨a0.toNat, by have := b0.1; simp [IntKind.min, IntKind.signed] at this; omega⟩
  obtain ⟨m1, rfl⟩ : ∃ m : Nat, a1 = (m : Int) := ⟨a1.toNat, by have := b1.1; simp [IntKind.min, IntKind.signed] at this; omega⟩
  have hr2 : RdS W pp2 n2 5 cl2 A2 := hr2
  obtain ⟨ts2, tl2, rfl, tp2⟩ := Sl.decode (α := Sl.It.At) Sl.It.atC (Sl.It.atOk) 5 n2 cl2 hr2.1 (fun i hi => by
    obtain ⟨u0, e0, y0⟩ := hf2 i hi 0 _ rfl
    obtain ⟨x0, rfl, b0⟩ := isK_int Tryz.underlying3 y0
    obtain ⟨u1, e1, y1⟩ := hf2 i hi 1 _ rfl
    obtain ⟨x1, rfl, b1⟩ := isK_int Tryz.underlying3 y1
    obtain ⟨u2, e2, y2⟩ := hf2 i hi 2 _ rfl
    obtain ⟨x2, rfl, b2⟩ := isK_int Tryz.underlying3 y2
    obtain ⟨u3, e3, y3⟩ := hf2 i hi 3 _ rfl
    obtain ⟨x3, rfl, b3⟩ := isK_int Tryz.underlying3 y3
    obtain ⟨u4, e4, y4⟩ := hf2 i hi 4 _ rfl
    obtain ⟨x4, rfl⟩ := isK_bool Tryz.underlying4 y4
    exact ⟨((x0, x1, x2, x3, x4)), ⟨(by have := b1.1; simp [IntKind.min, IntKind.signed, IntKind.bits] at this; show -9223372036854775808 ≤ x1; omega), (by have := b1.2; simp [IntKind.max, IntKind.signed, IntKind.bits] at this; show x1 < 9223372036854775808; omega)⟩, take5 e0 e1 e2 e3 e4⟩)
  subst tl2
  refine ((Sl.It.law_does W (Sl.It.tab_of_laid hL) (by have := b0.2; simp [IntKind.max, IntKind.signed, IntKind.bits] at this; omega) (by have := b1.2; simp [IntKind.max, IntKind.signed, IntKind.bits] at this; omega) _ hr2.slr tp2 (by simp [maxLen] at hn2; omega)).calls he2).mono fun e W' ⟨v, A', he, bel, hv, _⟩ => ?_
  subst hv
  subst he
  exact ⟨_, rfl, _, _, _, [], _, [], hW', trodAll_mk1 (shut_bool Tryz.underlying4 _), (trodAll_cons_mk (Below.trod laidOut (by kernel_rfl) (of_decide_eq_true (by kernel_rfl)) k0 bel lt0) (trodAll_cons_mk (Below.trod laidOut (by kernel_rfl) (of_decide_eq_true (by kernel_rfl)) k1 bel lt1) (trodAll_cons_mk (Below.trod laidOut (by kernel_rfl) (of_decide_eq_true (by kernel_rfl)) k2 bel lt2) trodAll_mk0))), rfl, bel.frame _, fun h => by cases h⟩
theorem over : Rows.hostDoesRow.holds Tryz.pinned (OpenSpec.ofChange Rows.hostDoesSpec) :=
  OpenClaim.holds_of_wide 9 Tryz.f9 rfl rfl rfl rfl rfl rfl rfl ⟨rfl, rfl, rfl, rfl, rfl⟩ rfl rfl rfl rfl rfl (by kernel_rfl) Tryz.func9 (by kernel_rfl)
    (of_decide_eq_true (by kernel_rfl)) (by unfold Func.isWrapper; first | (rw [if_pos (by decide +kernel)]; kernel_rfl) | (rw [if_neg (by decide +kernel)]; exact ⟨rfl, rfl⟩))
    (fun os started H enc _ => lifted os started H enc)
theorem proved : Rows.HostDoesSaid := over
end Go.Proofs.YtakkogdmlbkdaaaGreatDoor.hostDoes
namespace Go.Proofs.YtakkogdmlbkdaaaGreatDoor
/-- The row, under a short name, for the claim. -/
theorem hostDoes_row : Rows.HostDoesSaid := hostDoes.proved
/-- The card: the row, with what it lists tied to the program's text. -/
theorem hostDoes_holds : Rows.HostDoesCardSaid :=
  Claim7.holds_tied_plain_at .later [] [.data] true (true, "454d82305c91318bb33524456962d31546a67009f313a1441e97f81d9bb9fd0b") false
    hostDoes_row (fun _ h => by cases h) (by kernel_rfl) (fun _ h => by cases h) hostDoes_row_tie rfl ⟨rfl, rfl⟩ (by kernel_rfl) rfl
    (fun f fn hf hfn => by
      obtain rfl : f = 9 := Option.some.inj ((show Tryz.prog.funcNamed Rows.hostDoesRow.func = some 9 by kernel_rfl).symm.trans hf) |>.symm
      obtain rfl : fn = Tryz.f9 := (Option.some.inj (Tryz.func9.symm.trans hfn)).symm
      exact ⟨by kernel_rfl, fun j t ht => by
        rw [Tryz.params9] at ht
        have hm : t ∈ [5, 5, 53] := by simpa using Array.mem_of_getElem? ht
        have hall : ([5, 5, 53].all fun u => !Tryz.prog.wantsStandIn u) = true := by kernel_rfl
        exact (show Tryz.prog.wantsStandIn t = false by simpa using List.all_eq_true.1 hall t hm)⟩)
    (by kernel_rfl)
end Go.Proofs.YtakkogdmlbkdaaaGreatDoor
