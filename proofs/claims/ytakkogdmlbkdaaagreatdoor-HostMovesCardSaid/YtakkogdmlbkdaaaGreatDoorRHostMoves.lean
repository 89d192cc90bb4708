/-
  The law HostMoves returns true for every input, and leaves its arguments as they were. No condition is laid on the input.
-/
import Derived.Test.YtakkogdmlbkdaaaGreatDoorRows
import Derived.Test.YtakkogdmlbkdaaaGreatDoorM7
import Derived.Test.YtakkogdmlbkdaaaGreatDoorL6
import Derived.Test.YtakkogdmlbkdaaaGreatDoorTie
import Derived.Test.YtakkogdmlbkdaaaGreatDoorCards
import Derived.WalkKit
import Derived.ProofKit
import Derived.OpenShut
import Derived.ShutString
import Derived.ChangeOld
import Derived.Below
import Derived.SizedLaws
namespace Go.Proofs.YtakkogdmlbkdaaaGreatDoor.hostMoves
open Go.ChangeShapes Go.WideShapes Go.ChangeAt Go.RowKit Go.Proofs.YtakkogdmlbkdaaaGreatDoor.Sl
set_option linter.unusedVariables false
set_option linter.unusedSimpArgs false
theorem own_ : ownKnob Tryz.prog.godebug = none := by kernel_rfl
theorem laidOut : laidOutB Tryz.prog = true := by kernel_rfl
set_option maxRecDepth 100000 in
theorem lifted (os : Os) (started : os.Started) (H : Type) (enc : TypeId × Value → H) :
    ReturnsInHanded {} Tryz.checked os 7 .any (fun w args => (Rows.hostMovesSpec.pre enc Tryz.prog Tryz.f7 [] false w args ∧ laidMetH Tryz.prog Sl.It.laidL w) ∧ sizedMet enc Tryz.prog Tryz.f7 (OpenSpec.ofChange Rows.hostMovesSpec) false w args) (Rows.hostMovesSpec.post enc Tryz.prog Tryz.f7 false true false false) := by
  refine returnsInHanded_of_change_and (C := Tryz.checked) (X := fun w _ => laidMetH Tryz.prog Sl.It.laidL w) (fun _ _ _ hh h => h.of_heap hh) own_ started (by kernel_rfl) Tryz.func7
    (ChangeSpec.witness_at (enc := enc) (C := Tryz.checked) (os := os) (X := fun w _ => laidMetH Tryz.prog Sl.It.laidL w) false (Sl.It.laidWorld os) #[.int .u8 0, .slice none 0 0, .agg #[.int .i64 0, .int .i64 0], .int .i64 0] 8 rfl (by kernel_rfl) (by kernel_rfl) (by kernel_rfl) (by kernel_rfl) (by kernel_rfl) (Sl.It.laidWorld_met os _)) ?_
  intro W base args ds gs before hval0 hW hcnd hsz0 hL _
  have hval : ∀ (j : Nat) t v, Tryz.f7.params[j]? = some t → args[j]? = some v → Value.okWide Tryz.prog W .any base t v := hval0
  have hW' := hW
  obtain ⟨p, q, hA0, hV, rfl, hfz, hnd⟩ := hW
  have hA : DataW.TrodAll enc Tryz.prog W 0 (fun _ => true) true Tryz.f7.params.toList args.toList ds p := hA0
  rw [Tryz.params7] at hA hval
  obtain ⟨v0, vs0, d0, ds0, p0, q0, hargs, rfl, rfl, h0, r0⟩ := trodAll_cons hA
  obtain ⟨v1, vs1, d1, ds1, p1, q1, rfl, rfl, rfl, h1, r1⟩ := trodAll_cons r0
  obtain ⟨v2, vs2, d2, ds2, p2, q2, rfl, rfl, rfl, h2, r2⟩ := trodAll_cons r1
  obtain ⟨v3, vs3, d3, ds3, p3, q3, rfl, rfl, rfl, h3, r3⟩ := trodAll_cons r2
  obtain ⟨rfl, rfl, rfl⟩ := trodAll_nil r3
  obtain rfl : args = #[v0, v1, v2, v3] := by cases args; simp_all
  obtain ⟨rfl, rfl⟩ := trodVars_none hV
  have k0 := h0
  have lt0 : ∀ x ∈ p0, x.block < W.heap.size := by obtain ⟨m, hm⟩ := k0; exact DataW.trod_lt m _ _ _ hm
  obtain ⟨a0, rfl, _, _, w0⟩ := open_int Tryz.underlying5 (hval 0 5 v0 rfl rfl) h0
  have b0 : IntKind.u8.min ≤ a0 ∧ a0 ≤ IntKind.u8.max := by simpa [Lit.wf] using w0
  have k1 := h1
  have lt1 : ∀ x ∈ p1, x.block < W.heap.size := by obtain ⟨m, hm⟩ := k1; exact DataW.trod_lt m _ _ _ hm
  obtain ⟨fu1, hfu1⟩ := h1
  obtain ⟨sa1, sl1, sc1, rfl⟩ := okWide_slice Tryz.underlying53 (hval 1 53 v1 rfl rfl)
  obtain ⟨pp1, n1, c1, cl1, A1, hv1, hn1, hr1, he1, hf1⟩ := open_slcL (L := [3, 3, 3, 3, 4]) Tryz.underlying53 (by kernel_rfl) (by kernel_rfl) (by decide) rfl hfu1
  obtain ⟨rfl, rfl, rfl⟩ : pp1 = sa1 ∧ n1 = sl1 ∧ c1 = sc1 := by simpa [eq_comm] using hv1
  clear hv1 hfu1
  have k2 := h2
  have lt2 : ∀ x ∈ p2, x.block < W.heap.size := by obtain ⟨m, hm⟩ := k2; exact DataW.trod_lt m _ _ _ hm
  obtain ⟨cs2, rfl, hs2, hf2⟩ := open_structL (L := [3, 3]) Tryz.underlying23 (by kernel_rfl) (hval 2 23 v2 rfl rfl) h2
  obtain ⟨u2_0, e2_0, y2_0⟩ := hf2 0 _ rfl
  obtain ⟨x2_0, rfl, b2_0⟩ := isK_int Tryz.underlying3 y2_0
  obtain ⟨u2_1, e2_1, y2_1⟩ := hf2 1 _ rfl
  obtain ⟨x2_1, rfl, b2_1⟩ := isK_int Tryz.underlying3 y2_1
  obtain rfl := arr2 hs2 e2_0 e2_1
  have k3 := h3
  have lt3 : ∀ x ∈ p3, x.block < W.heap.size := by obtain ⟨m, hm⟩ := k3; exact DataW.trod_lt m _ _ _ hm
  obtain ⟨a3, rfl, _, _, w3⟩ := open_int Tryz.underlying3 (hval 3 3 v3 rfl rfl) h3
  have b3 : IntKind.i64.min ≤ a3 ∧ a3 ≤ IntKind.i64.max := by simpa [Lit.wf] using w3
  obtain ⟨m0, rfl⟩ : ∃ m : Nat, a0 = (m : Int) := ⟨a0.toNat, by have := b0.1; simp [IntKind.min, IntKind.signed] at this; omega⟩
  have hr1 : RdS W pp1 n1 5 cl1 A1 := hr1
  obtain ⟨ts1, tl1, rfl, tp1⟩ := Sl.decode (α := Sl.It.At) Sl.It.atC (Sl.It.atOk) 5 n1 cl1 hr1.1 (fun i hi => by
    obtain ⟨u0, e0, y0⟩ := hf1 i hi 0 _ rfl
    obtain ⟨x0, rfl, b0⟩ := isK_int Tryz.underlying3 y0
    obtain ⟨u1, e1, y1⟩ := hf1 i hi 1 _ rfl
    obtain ⟨x1, rfl, b1⟩ := isK_int Tryz.underlying3 y1
    obtain ⟨u2, e2, y2⟩ := hf1 i hi 2 _ rfl
    obtain ⟨x2, rfl, b2⟩ := isK_int Tryz.underlying3 y2
    obtain ⟨u3, e3, y3⟩ := hf1 i hi 3 _ rfl
    obtain ⟨x3, rfl, b3⟩ := isK_int Tryz.underlying3 y3
    obtain ⟨u4, e4, y4⟩ := hf1 i hi 4 _ rfl
    obtain ⟨x4, rfl⟩ := isK_bool Tryz.underlying4 y4
    exact ⟨((x0, x1, x2, x3, x4)), ⟨(by have := b1.1; simp [IntKind.min, IntKind.signed, IntKind.bits] at this; show -9223372036854775808 ≤ x1; omega), (by have := b1.2; simp [IntKind.max, IntKind.signed, IntKind.bits] at this; show x1 < 9223372036854775808; omega)⟩, take5 e0 e1 e2 e3 e4⟩)
  subst tl1
  refine ((Sl.It.law_moves W (Sl.It.tab_of_laid hL) (by have := b0.2; simp [IntKind.max, IntKind.signed, IntKind.bits] at this; omega) _ hr1.slr tp1 (by simp [maxLen] at hn1; omega) x2_0 x2_1 a3).calls he1).mono fun e W' ⟨v, A', he, bel, hv, _⟩ => ?_
  subst hv
  subst he
  exact ⟨_, rfl, _, _, _, [], _, [], hW', trodAll_mk1 (shut_bool Tryz.underlying4 _), (trodAll_cons_mk (Below.trod laidOut (by kernel_rfl) (of_decide_eq_true (by kernel_rfl)) k0 bel lt0) (trodAll_cons_mk (Below.trod laidOut (by kernel_rfl) (of_decide_eq_true (by kernel_rfl)) k1 bel lt1) (trodAll_cons_mk (Below.trod laidOut (by kernel_rfl) (of_decide_eq_true (by kernel_rfl)) k2 bel lt2) (trodAll_cons_mk (Below.trod laidOut (by kernel_rfl) (of_decide_eq_true (by kernel_rfl)) k3 bel lt3) trodAll_mk0)))), rfl, bel.frame _, fun h => by cases h⟩
theorem over : Rows.hostMovesRow.holds Tryz.pinned (OpenSpec.ofChange Rows.hostMovesSpec) :=
  OpenClaim.holds_of_wide 7 Tryz.f7 rfl rfl rfl rfl rfl rfl rfl ⟨rfl, rfl, rfl, rfl, rfl⟩ rfl rfl rfl rfl rfl (by kernel_rfl) Tryz.func7 (by kernel_rfl)
    (of_decide_eq_true (by kernel_rfl)) (by unfold Func.isWrapper; first | (rw [if_pos (by decide +kernel)]; kernel_rfl) | (rw [if_neg (by decide +kernel)]; exact ⟨rfl, rfl⟩))
    (fun os started H enc _ => lifted os started H enc)
theorem proved : Rows.HostMovesSaid := over
end Go.Proofs.YtakkogdmlbkdaaaGreatDoor.hostMoves
namespace Go.Proofs.YtakkogdmlbkdaaaGreatDoor
/-- The row, under a short name, for the claim. -/
theorem hostMoves_row : Rows.HostMovesSaid := hostMoves.proved
/-- The card: the row, with what it lists tied to the program's text. -/
theorem hostMoves_holds : Rows.HostMovesCardSaid :=
  Claim7.holds_tied_plain_at .later [] [.data] true (true, "454d82305c91318bb33524456962d31546a67009f313a1441e97f81d9bb9fd0b") false
    hostMoves_row (fun _ h => by cases h) (by kernel_rfl) (fun _ h => by cases h) hostMoves_row_tie rfl ⟨rfl, rfl⟩ (by kernel_rfl) rfl
    (fun f fn hf hfn => by
      obtain rfl : f = 7 := Option.some.inj ((show Tryz.prog.funcNamed Rows.hostMovesRow.func = some 7 by kernel_rfl).symm.trans hf) |>.symm
      obtain rfl : fn = Tryz.f7 := (Option.some.inj (Tryz.func7.symm.trans hfn)).symm
      exact ⟨by kernel_rfl, fun j t ht => by
        rw [Tryz.params7] at ht
        have hm : t ∈ [5, 53, 23, 3] := by simpa using Array.mem_of_getElem? ht
        have hall : ([5, 53, 23, 3].all fun u => !Tryz.prog.wantsStandIn u) = true := by kernel_rfl
        exact (show Tryz.prog.wantsStandIn t = false by simpa using List.all_eq_true.1 hall t hm)⟩)
    (by kernel_rfl)
end Go.Proofs.YtakkogdmlbkdaaaGreatDoor
