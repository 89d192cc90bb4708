/-
  The law ItsSteps returns true for every input, and leaves its arguments as they were. No condition is laid on the input.
-/
import Derived.Test.YthhfoppaaehepaaGreatDoorRows
import Derived.Test.YthhfoppaaehepaaGreatDoorM5
import Derived.Test.YthhfoppaaehepaaGreatDoorL6
import Derived.Test.YthhfoppaaehepaaGreatDoorTie
import Derived.Test.YthhfoppaaehepaaGreatDoorCards
import Derived.WalkKit
import Derived.ProofKit
import Derived.OpenShut
import Derived.ShutString
import Derived.ChangeOld
import Derived.Below
import Derived.SizedLaws
namespace Go.Proofs.YthhfoppaaehepaaGreatDoor.itsSteps
open Go.ChangeShapes Go.WideShapes Go.ChangeAt Go.RowKit Go.Proofs.YthhfoppaaehepaaGreatDoor.Sl
set_option linter.unusedVariables false
set_option linter.unusedSimpArgs false
theorem own_ : ownKnob Tryz.prog.godebug = none := by kernel_rfl
theorem laidOut : laidOutB Tryz.prog = true := by kernel_rfl
theorem take9 {cells : List Value} {k : Nat} {a0 a1 a2 a3 a4 a5 a6 a7 a8 : Value} (h0 : cells[k + 0]? = some a0) (h1 : cells[k + 1]? = some a1) (h2 : cells[k + 2]? = some a2) (h3 : cells[k + 3]? = some a3) (h4 : cells[k + 4]? = some a4) (h5 : cells[k + 5]? = some a5) (h6 : cells[k + 6]? = some a6) (h7 : cells[k + 7]? = some a7) (h8 : cells[k + 8]? = some a8) : (cells.drop k).take 9 = [a0, a1, a2, a3, a4, a5, a6, a7, a8] := by
  have l := (List.getElem?_eq_some_iff.1 h8).1
  rw [List.drop_eq_getElem_cons (by omega), List.drop_eq_getElem_cons (by omega), List.drop_eq_getElem_cons (by omega), List.drop_eq_getElem_cons (by omega), List.drop_eq_getElem_cons (by omega), List.drop_eq_getElem_cons (by omega), List.drop_eq_getElem_cons (by omega), List.drop_eq_getElem_cons (by omega), List.drop_eq_getElem_cons (by omega)]
  have e0 := (List.getElem?_eq_some_iff.1 h0).2
  have e1 := (List.getElem?_eq_some_iff.1 h1).2
  have e2 := (List.getElem?_eq_some_iff.1 h2).2
  have e3 := (List.getElem?_eq_some_iff.1 h3).2
  have e4 := (List.getElem?_eq_some_iff.1 h4).2
  have e5 := (List.getElem?_eq_some_iff.1 h5).2
  have e6 := (List.getElem?_eq_some_iff.1 h6).2
  have e7 := (List.getElem?_eq_some_iff.1 h7).2
  have e8 := (List.getElem?_eq_some_iff.1 h8).2
  simp only [Nat.add_zero] at e0
  simp [e0, e1, e2, e3, e4, e5, e6, e7, e8]
theorem arr9 {cs : Array Value} {a0 a1 a2 a3 a4 a5 a6 a7 a8 : Value} (hs : cs.size = 9) (h0 : cs[0]? = some a0) (h1 : cs[1]? = some a1) (h2 : cs[2]? = some a2) (h3 : cs[3]? = some a3) (h4 : cs[4]? = some a4) (h5 : cs[5]? = some a5) (h6 : cs[6]? = some a6) (h7 : cs[7]? = some a7) (h8 : cs[8]? = some a8) : cs = #[a0, a1, a2, a3, a4, a5, a6, a7, a8] := by
  apply Array.ext_getElem?
  intro i
  match i with
  | 0 => simpa using h0
  | 1 => simpa using h1
  | 2 => simpa using h2
  | 3 => simpa using h3
  | 4 => simpa using h4
  | 5 => simpa using h5
  | 6 => simpa using h6
  | 7 => simpa using h7
  | 8 => simpa using h8
  | i + 9 => simp [Array.getElem?_eq_none (show cs.size ≤ i + 9 by omega)]
theorem take13 {cells : List Value} {k : Nat} {a0 a1 a2 a3 a4 a5 a6 a7 a8 a9 a10 a11 a12 : Value} (h0 : cells[k + 0]? = some a0) (h1 : cells[k + 1]? = some a1) (h2 : cells[k + 2]? = some a2) (h3 : cells[k + 3]? = some a3) (h4 : cells[k + 4]? = some a4) (h5 : cells[k + 5]? = some a5) (h6 : cells[k + 6]? = some a6) (h7 : cells[k + 7]? = some a7) (h8 : cells[k + 8]? = some a8) (h9 : cells[k + 9]? = some a9) (h10 : cells[k + 10]? = some a10) (h11 : cells[k + 11]? = some a11) (h12 : cells[k + 12]? = some a12) : (cells.drop k).take 13 = [a0, a1, a2, a3, a4, a5, a6, a7, a8, a9, a10, a11, a12] := by
  have l := (List.getElem?_eq_some_iff.1 h12).1
  rw [List.drop_eq_getElem_cons (by omega), List.drop_eq_getElem_cons (by omega), List.drop_eq_getElem_cons (by omega), List.drop_eq_getElem_cons (by omega), List.drop_eq_getElem_cons (by omega), List.drop_eq_getElem_cons (by omega), List.drop_eq_getElem_cons (by omega), List.drop_eq_getElem_cons (by omega), List.drop_eq_getElem_cons (by omega), List.drop_eq_getElem_cons (by omega), List.drop_eq_getElem_cons (by omega), List.drop_eq_getElem_cons (by omega), List.drop_eq_getElem_cons (by omega)]
  have e0 := (List.getElem?_eq_some_iff.1 h0).2
  have e1 := (List.getElem?_eq_some_iff.1 h1).2
  have e2 := (List.getElem?_eq_some_iff.1 h2).2
  have e3 := (List.getElem?_eq_some_iff.1 h3).2
  have e4 := (List.getElem?_eq_some_iff.1 h4).2
  have e5 := (List.getElem?_eq_some_iff.1 h5).2
  have e6 := (List.getElem?_eq_some_iff.1 h6).2
  have e7 := (List.getElem?_eq_some_iff.1 h7).2
  have e8 := (List.getElem?_eq_some_iff.1 h8).2
  have e9 := (List.getElem?_eq_some_iff.1 h9).2
  have e10 := (List.getElem?_eq_some_iff.1 h10).2
  have e11 := (List.getElem?_eq_some_iff.1 h11).2
  have e12 := (List.getElem?_eq_some_iff.1 h12).2
  simp only [Nat.add_zero] at e0
  simp [e0, e1, e2, e3, e4, e5, e6, e7, e8, e9, e10, e11, e12]
theorem arr13 {cs : Array Value} {a0 a1 a2 a3 a4 a5 a6 a7 a8 a9 a10 a11 a12 : Value} (hs : cs.size = 13) (h0 : cs[0]? = some a0) (h1 : cs[1]? = some a1) (h2 : cs[2]? = some a2) (h3 : cs[3]? = some a3) (h4 : cs[4]? = some a4) (h5 : cs[5]? = some a5) (h6 : cs[6]? = some a6) (h7 : cs[7]? = some a7) (h8 : cs[8]? = some a8) (h9 : cs[9]? = some a9) (h10 : cs[10]? = some a10) (h11 : cs[11]? = some a11) (h12 : cs[12]? = some a12) : cs = #[a0, a1, a2, a3, a4, a5, a6, a7, a8, a9, a10, a11, a12] := by
  apply Array.ext_getElem?
  intro i
  match i with
  | 0 => simpa using h0
  | 1 => simpa using h1
  | 2 => simpa using h2
  | 3 => simpa using h3
  | 4 => simpa using h4
  | 5 => simpa using h5
  | 6 => simpa using h6
  | 7 => simpa using h7
  | 8 => simpa using h8
  | 9 => simpa using h9
  | 10 => simpa using h10
  | 11 => simpa using h11
  | 12 => simpa using h12
  | i + 13 => simp [Array.getElem?_eq_none (show cs.size ≤ i + 13 by omega)]
set_option maxRecDepth 100000 in
theorem lifted (os : Os) (started : os.Started) (H : Type) (enc : TypeId × Value → H) :
    ReturnsInHanded {} Tryz.checked os 5 .any (fun w args => (Rows.itsStepsSpec.pre enc Tryz.prog Tryz.f5 [] false w args ∧ laidMetH Tryz.prog laidL w) ∧ sizedMet enc Tryz.prog Tryz.f5 (OpenSpec.ofChange Rows.itsStepsSpec) false w args) (Rows.itsStepsSpec.post enc Tryz.prog Tryz.f5 false true false false) := by
  refine returnsInHanded_of_change_and (C := Tryz.checked) (X := fun w _ => laidMetH Tryz.prog laidL w) (fun _ _ _ hh h => h.of_heap hh) own_ started (by kernel_rfl) Tryz.func5
    (ChangeSpec.witness_at (enc := enc) (C := Tryz.checked) (os := os) (X := fun w _ => laidMetH Tryz.prog laidL w) false (laidWorld os) #[.bool false, .slice none 0 0, .slice none 0 0] 8 rfl (by kernel_rfl) (by kernel_rfl) (by kernel_rfl) (by kernel_rfl) (by kernel_rfl) (laidWorld_met os _)) ?_
  intro W base args ds gs before hval0 hW hcnd hsz0 hL _
  have hval : ∀ (j : Nat) t v, Tryz.f5.params[j]? = some t → args[j]? = some v → Value.okWide Tryz.prog W .any base t v := hval0
  have hW' := hW
  obtain ⟨p, q, hA0, hV, rfl, hfz, hnd⟩ := hW
  have hA : DataW.TrodAll enc Tryz.prog W 0 (fun _ => true) true Tryz.f5.params.toList args.toList ds p := hA0
  rw [Tryz.params5] at hA hval
  obtain ⟨v0, vs0, d0, ds0, p0, q0, hargs, rfl, rfl, h0, r0⟩ := trodAll_cons hA
  obtain ⟨v1, vs1, d1, ds1, p1, q1, rfl, rfl, rfl, h1, r1⟩ := trodAll_cons r0
  obtain ⟨v2, vs2, d2, ds2, p2, q2, rfl, rfl, rfl, h2, r2⟩ := trodAll_cons r1
  obtain ⟨rfl, rfl, rfl⟩ := trodAll_nil r2
  obtain rfl : args = #[v0, v1, v2] := by cases args; simp_all
  obtain ⟨rfl, rfl⟩ := trodVars_none hV
  have k0 := h0
  have lt0 : ∀ x ∈ p0, x.block < W.heap.size := by obtain ⟨m, hm⟩ := k0; exact DataW.trod_lt m _ _ _ hm
  obtain ⟨a0, rfl, _, _⟩ := open_bool Tryz.underlying4 (hval 0 4 v0 rfl rfl) h0
  have k1 := h1
  have lt1 : ∀ x ∈ p1, x.block < W.heap.size := by obtain ⟨m, hm⟩ := k1; exact DataW.trod_lt m _ _ _ hm
  obtain ⟨fu1, hfu1⟩ := h1
  obtain ⟨sa1, sl1, sc1, rfl⟩ := okWide_slice Tryz.underlying22 (hval 1 22 v1 rfl rfl)
  obtain ⟨pp1, n1, c1, cl1, A1, hv1, hn1, hr1, he1, hf1⟩ := open_slcL (L := [3, 3, 23, 3, 3, 3, 3, 3, 3, 3, 4, 4, 80]) Tryz.underlying22 (by kernel_rfl) (by kernel_rfl) (by decide) rfl hfu1
  obtain ⟨rfl, rfl, rfl⟩ : pp1 = sa1 ∧ n1 = sl1 ∧ c1 = sc1 := by simpa [eq_comm] using hv1
  clear hv1 hfu1
  have k2 := h2
  have lt2 : ∀ x ∈ p2, x.block < W.heap.size := by obtain ⟨m, hm⟩ := k2; exact DataW.trod_lt m _ _ _ hm
  obtain ⟨fu2, hfu2⟩ := h2
  obtain ⟨sa2, sl2, sc2, rfl⟩ := okWide_slice Tryz.underlying67 (hval 2 67 v2 rfl rfl)
  obtain ⟨pp2, n2, c2, cl2, A2, hv2, hn2, hr2, he2, hf2⟩ := open_slcL (L := [23, 3, 3, 3, 3, 3, 3, 3, 4]) Tryz.underlying67 (by kernel_rfl) (by kernel_rfl) (by decide) rfl hfu2
  obtain ⟨rfl, rfl, rfl⟩ : pp2 = sa2 ∧ n2 = sl2 ∧ c2 = sc2 := by simpa [eq_comm] using hv2
  clear hv2 hfu2
  have hr1 : RdS W pp1 n1 13 cl1 A1 := hr1
  obtain ⟨ts1, tl1, rfl, tp1⟩ := Sl.decode (α := Sl.Ac) Sl.acC (fun _ => True) 13 n1 cl1 hr1.1 (fun i hi => by
    obtain ⟨u0, e0, y0⟩ := hf1 i hi 0 _ rfl
    obtain ⟨x0, rfl, b0⟩ := isK_int Tryz.underlying3 y0
    obtain ⟨u1, e1, y1⟩ := hf1 i hi 1 _ rfl
    obtain ⟨x1, rfl, b1⟩ := isK_int Tryz.underlying3 y1
    obtain ⟨u2, e2, y2⟩ := hf1 i hi 2 _ rfl
    obtain ⟨x2, rfl, b2⟩ := isK_int Tryz.underlying23 y2
    obtain ⟨u3, e3, y3⟩ := hf1 i hi 3 _ rfl
    obtain ⟨x3, rfl, b3⟩ := isK_int Tryz.underlying3 y3
    obtain ⟨u4, e4, y4⟩ := hf1 i hi 4 _ rfl
    obtain ⟨x4, rfl, b4⟩ := isK_int Tryz.underlying3 y4
    obtain ⟨u5, e5, y5⟩ := hf1 i hi 5 _ rfl
    obtain ⟨x5, rfl, b5⟩ := isK_int Tryz.underlying3 y5
    obtain ⟨u6, e6, y6⟩ := hf1 i hi 6 _ rfl
    obtain ⟨x6, rfl, b6⟩ := isK_int Tryz.underlying3 y6
    obtain ⟨u7, e7, y7⟩ := hf1 i hi 7 _ rfl
    obtain ⟨x7, rfl, b7⟩ := isK_int Tryz.underlying3 y7
    obtain ⟨u8, e8, y8⟩ := hf1 i hi 8 _ rfl
    obtain ⟨x8, rfl, b8⟩ := isK_int Tryz.underlying3 y8
    obtain ⟨u9, e9, y9⟩ := hf1 i hi 9 _ rfl
    obtain ⟨x9, rfl, b9⟩ := isK_int Tryz.underlying3 y9
    obtain ⟨u10, e10, y10⟩ := hf1 i hi 10 _ rfl
    obtain ⟨x10, rfl⟩ := isK_bool Tryz.underlying4 y10
    obtain ⟨u11, e11, y11⟩ := hf1 i hi 11 _ rfl
    obtain ⟨x11, rfl⟩ := isK_bool Tryz.underlying4 y11
    obtain ⟨u12, e12, y12⟩ := hf1 i hi 12 _ rfl
    obtain ⟨x12, rfl, b12⟩ := isK_int Tryz.underlying80 y12
    exact ⟨(⟨x0, x1, (x2, x3, x4, x5, x6, x7, x8, x9, x10), x11, x12⟩), trivial, take13 e0 e1 e2 e3 e4 e5 e6 e7 e8 e9 e10 e11 e12⟩)
  have hr2 : RdS W pp2 n2 9 cl2 A2 := hr2
  obtain ⟨ts2, tl2, rfl, tp2⟩ := Sl.decode (α := Sl.Cm) Sl.cmC (fun _ => True) 9 n2 cl2 hr2.1 (fun i hi => by
    obtain ⟨u0, e0, y0⟩ := hf2 i hi 0 _ rfl
    obtain ⟨x0, rfl, b0⟩ := isK_int Tryz.underlying23 y0
    obtain ⟨u1, e1, y1⟩ := hf2 i hi 1 _ rfl
    obtain ⟨x1, rfl, b1⟩ := isK_int Tryz.underlying3 y1
    obtain ⟨u2, e2, y2⟩ := hf2 i hi 2 _ rfl
    obtain ⟨x2, rfl, b2⟩ := isK_int Tryz.underlying3 y2
    obtain ⟨u3, e3, y3⟩ := hf2 i hi 3 _ rfl
    obtain ⟨x3, rfl, b3⟩ := isK_int Tryz.underlying3 y3
    obtain ⟨u4, e4, y4⟩ := hf2 i hi 4 _ rfl
    obtain ⟨x4, rfl, b4⟩ := isK_int Tryz.underlying3 y4
    obtain ⟨u5, e5, y5⟩ := hf2 i hi 5 _ rfl
    obtain ⟨x5, rfl, b5⟩ := isK_int Tryz.underlying3 y5
    obtain ⟨u6, e6, y6⟩ := hf2 i hi 6 _ rfl
    obtain ⟨x6, rfl, b6⟩ := isK_int Tryz.underlying3 y6
    obtain ⟨u7, e7, y7⟩ := hf2 i hi 7 _ rfl
    obtain ⟨x7, rfl, b7⟩ := isK_int Tryz.underlying3 y7
    obtain ⟨u8, e8, y8⟩ := hf2 i hi 8 _ rfl
    obtain ⟨x8, rfl⟩ := isK_bool Tryz.underlying4 y8
    exact ⟨((x0, x1, x2, x3, x4, x5, x6, x7, x8)), trivial, take9 e0 e1 e2 e3 e4 e5 e6 e7 e8⟩)
  refine ((Sl.law_steps W (tab_of_laid hL) a0 hr1.slr tl1 (by simp [maxLen] at hn1; omega) hr2.slr tl2 (by simp [maxLen] at hn2; omega)).calls (Ent.append he1 he2)).mono fun e W' ⟨v, A', he, bel, hv, _⟩ => ?_
  subst hv
  subst he
  exact ⟨_, rfl, _, _, _, [], _, [], hW', trodAll_mk1 (shut_bool Tryz.underlying4 _), (trodAll_cons_mk (Below.trod laidOut (by kernel_rfl) (of_decide_eq_true (by kernel_rfl)) k0 bel lt0) (trodAll_cons_mk (Below.trod laidOut (by kernel_rfl) (of_decide_eq_true (by kernel_rfl)) k1 bel lt1) (trodAll_cons_mk (Below.trod laidOut (by kernel_rfl) (of_decide_eq_true (by kernel_rfl)) k2 bel lt2) trodAll_mk0))), rfl, bel.frame _, fun h => by cases h⟩
theorem over : Rows.itsStepsRow.holds Tryz.pinned (OpenSpec.ofChange Rows.itsStepsSpec) :=
  OpenClaim.holds_of_wide 5 Tryz.f5 rfl rfl rfl rfl rfl rfl rfl ⟨rfl, rfl, rfl, rfl, rfl⟩ rfl rfl rfl rfl rfl (by kernel_rfl) Tryz.func5 (by kernel_rfl)
    (of_decide_eq_true (by kernel_rfl)) (by unfold Func.isWrapper; first | (rw [if_pos (by decide +kernel)]; kernel_rfl) | (rw [if_neg (by decide +kernel)]; exact ⟨rfl, rfl⟩))
    (fun os started H enc _ => lifted os started H enc)
theorem proved : Rows.ItsStepsSaid := over
end Go.Proofs.YthhfoppaaehepaaGreatDoor.itsSteps
namespace Go.Proofs.YthhfoppaaehepaaGreatDoor
/-- The row, under a short name, for the claim. -/
theorem itsSteps_row : Rows.ItsStepsSaid := itsSteps.proved
/-- The card: the row, with what it lists tied to the program's text. -/
theorem itsSteps_holds : Rows.ItsStepsCardSaid :=
  Claim7.holds_tied_plain_at .later [] [.data] true (true, "283f196f4ea650de2151b98360c33ffa1b97361e6bfc35bfb46c4b540a3a23f6") false
    itsSteps_row (fun _ h => by cases h) (by kernel_rfl) (fun _ h => by cases h) itsSteps_row_tie rfl ⟨rfl, rfl⟩ (by kernel_rfl) rfl
    (fun f fn hf hfn => by
      obtain rfl : f = 5 := Option.some.inj ((show Tryz.prog.funcNamed Rows.itsStepsRow.func = some 5 by kernel_rfl).symm.trans hf) |>.symm
      obtain rfl : fn = Tryz.f5 := (Option.some.inj (Tryz.func5.symm.trans hfn)).symm
      exact ⟨by kernel_rfl, fun j t ht => by
        rw [Tryz.params5] at ht
        have hm : t ∈ [4, 22, 67] := by simpa using Array.mem_of_getElem? ht
        have hall : ([4, 22, 67].all fun u => !Tryz.prog.wantsStandIn u) = true := by kernel_rfl
        exact (show Tryz.prog.wantsStandIn t = false by simpa using List.all_eq_true.1 hall t hm)⟩)
    (by kernel_rfl)
end Go.Proofs.YthhfoppaaehepaaGreatDoor
