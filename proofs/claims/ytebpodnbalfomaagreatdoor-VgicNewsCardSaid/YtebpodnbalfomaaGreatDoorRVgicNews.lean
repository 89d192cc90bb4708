/-
  The law VgicNews returns true for every input, and leaves its arguments as they were. No condition is laid on the input.
-/
import Derived.Test.YtebpodnbalfomaaGreatDoorRows
import Derived.Test.YtebpodnbalfomaaGreatDoorM4
import Derived.Test.YtebpodnbalfomaaGreatDoorL6
import Derived.Test.YtebpodnbalfomaaGreatDoorTie
import Derived.Test.YtebpodnbalfomaaGreatDoorCards
import Derived.WalkKit
import Derived.ProofKit
import Derived.OpenShut
import Derived.ShutString
import Derived.ChangeOld
import Derived.Below
import Derived.SizedLaws
namespace Go.Proofs.YtebpodnbalfomaaGreatDoor.vgicNews
open Go.ChangeShapes Go.WideShapes Go.ChangeAt Go.RowKit Go.Proofs.YtebpodnbalfomaaGreatDoor.Sl
set_option linter.unusedVariables false
set_option linter.unusedSimpArgs false
theorem own_ : ownKnob Tryz.prog.godebug = none := by kernel_rfl
theorem laidOut : laidOutB Tryz.prog = true := by kernel_rfl
theorem take19 {cells : List Value} {k : Nat} {a0 a1 a2 a3 a4 a5 a6 a7 a8 a9 a10 a11 a12 a13 a14 a15 a16 a17 a18 : Value} (h0 : cells[k + 0]? = some a0) (h1 : cells[k + 1]? = some a1) (h2 : cells[k + 2]? = some a2) (h3 : cells[k + 3]? = some a3) (h4 : cells[k + 4]? = some a4) (h5 : cells[k + 5]? = some a5) (h6 : cells[k + 6]? = some a6) (h7 : cells[k + 7]? = some a7) (h8 : cells[k + 8]? = some a8) (h9 : cells[k + 9]? = some a9) (h10 : cells[k + 10]? = some a10) (h11 : cells[k + 11]? = some a11) (h12 : cells[k + 12]? = some a12) (h13 : cells[k + 13]? = some a13) (h14 : cells[k + 14]? = some a14) (h15 : cells[k + 15]? = some a15) (h16 : cells[k + 16]? = some a16) (h17 : cells[k + 17]? = some a17) (h18 : cells[k + 18]? = some a18) : (cells.drop k).take 19 = [a0, a1, a2, a3, a4, a5, a6, a7, a8, a9, a10, a11, a12, a13, a14, a15, a16, a17, a18] := by
  have l := (List.getElem?_eq_some_iff.1 h18).1
  rw [List.drop_eq_getElem_cons (by omega), List.drop_eq_getElem_cons (by omega), List.drop_eq_getElem_cons (by omega), List.drop_eq_getElem_cons (by omega), List.drop_eq_getElem_cons (by omega), List.drop_eq_getElem_cons (by omega), List.drop_eq_getElem_cons (by omega), List.drop_eq_getElem_cons (by omega), List.drop_eq_getElem_cons (by omega), List.drop_eq_getElem_cons (by omega), List.drop_eq_getElem_cons (by omega), List.drop_eq_getElem_cons (by omega), List.drop_eq_getElem_cons (by omega), List.drop_eq_getElem_cons (by omega), List.drop_eq_getElem_cons (by omega), List.drop_eq_getElem_cons (by omega), List.drop_eq_getElem_cons (by omega), List.drop_eq_getElem_cons (by omega), List.drop_eq_getElem_cons (by omega)]
  have e0 := (List.getElem?_eq_some_iff.1 h0).2
  have e1 := (List.getElem?_eq_some_iff.1 h1).2
  have e2 := (List.getElem?_eq_some_iff.1 h2).2
  have e3 := (List.getElem?_eq_some_iff.1 h3).2
  have e4 := (List.getElem?_eq_some_iff.1 h4).2
  have e5 := (List.getElem?_eq_some_iff.1 h5).2
  have e6 := (List.getElem?_eq_some_iff.1 h6).2
  have e7 := (List.getElem?_eq_some_iff.1 h7).2
  have e8 := (List.getElem?_eq_some_iff.1 h8).2
  have e9 := (List.getElem?_eq_some_iff.1 h9).2
  have e10 := (List.getElem?_eq_some_iff.1 h10).2
  have e11 := (List.getElem?_eq_some_iff.1 h11).2
  have e12 := (List.getElem?_eq_some_iff.1 h12).2
  have e13 := (List.getElem?_eq_some_iff.1 h13).2
  have e14 := (List.getElem?_eq_some_iff.1 h14).2
  have e15 := (List.getElem?_eq_some_iff.1 h15).2
  have e16 := (List.getElem?_eq_some_iff.1 h16).2
  have e17 := (List.getElem?_eq_some_iff.1 h17).2
  have e18 := (List.getElem?_eq_some_iff.1 h18).2
  simp only [Nat.add_zero] at e0
  simp [e0, e1, e2, e3, e4, e5, e6, e7, e8, e9, e10, e11, e12, e13, e14, e15, e16, e17, e18]
theorem arr19 {cs : Array Value} {a0 a1 a2 a3 a4 a5 a6 a7 a8 a9 a10 a11 a12 a13 a14 a15 a16 a17 a18 : Value} (hs : cs.size = 19) (h0 : cs[0]? = some a0) (h1 : cs[1]? = some a1) (h2 : cs[2]? = some a2) (h3 : cs[3]? = some a3) (h4 : cs[4]? = some a4) (h5 : cs[5]? = some a5) (h6 : cs[6]? = some a6) (h7 : cs[7]? = some a7) (h8 : cs[8]? = some a8) (h9 : cs[9]? = some a9) (h10 : cs[10]? = some a10) (h11 : cs[11]? = some a11) (h12 : cs[12]? = some a12) (h13 : cs[13]? = some a13) (h14 : cs[14]? = some a14) (h15 : cs[15]? = some a15) (h16 : cs[16]? = some a16) (h17 : cs[17]? = some a17) (h18 : cs[18]? = some a18) : cs = #[a0, a1, a2, a3, a4, a5, a6, a7, a8, a9, a10, a11, a12, a13, a14, a15, a16, a17, a18] := by
  apply Array.ext_getElem?
  intro i
  match i with
  | 0 => simpa using h0
  | 1 => simpa using h1
  | 2 => simpa using h2
  | 3 => simpa using h3
  | 4 => simpa using h4
  | 5 => simpa using h5
  | 6 => simpa using h6
  | 7 => simpa using h7
  | 8 => simpa using h8
  | 9 => simpa using h9
  | 10 => simpa using h10
  | 11 => simpa using h11
  | 12 => simpa using h12
  | 13 => simpa using h13
  | 14 => simpa using h14
  | 15 => simpa using h15
  | 16 => simpa using h16
  | 17 => simpa using h17
  | 18 => simpa using h18
  | i + 19 => simp [Array.getElem?_eq_none (show cs.size ≤ i + 19 by omega)]
set_option maxRecDepth 100000 in
theorem lifted (os : Os) (started : os.Started) (H : Type) (enc : TypeId × Value → H) :
    ReturnsInHanded {} Tryz.checked os 8 .any (fun w args => (Rows.vgicNewsSpec.pre enc Tryz.prog Tryz.f8 [] false w args ∧ laidMetH Tryz.prog laidL w) ∧ sizedMet enc Tryz.prog Tryz.f8 (OpenSpec.ofChange Rows.vgicNewsSpec) false w args) (Rows.vgicNewsSpec.post enc Tryz.prog Tryz.f8 false true false false) := by
  refine returnsInHanded_of_change_and (C := Tryz.checked) (X := fun w _ => laidMetH Tryz.prog laidL w) (fun _ _ _ hh h => h.of_heap hh) own_ started (by kernel_rfl) Tryz.func8
    (ChangeSpec.witness_at (enc := enc) (C := Tryz.checked) (os := os) (X := fun w _ => laidMetH Tryz.prog laidL w) false (laidWorld os) #[.int .i64 0, .int .i64 0, .int .i64 0, .agg #[.int .i64 0, .int .i64 0, .int .i64 0, .int .i64 0, .int .i64 0, .int .i64 0, .int .u64 0, .bool false, .int .i64 0, .int .i64 0, .int .i64 0, .int .i64 0, .int .u64 0, .int .i64 0, .bool false, .bool false, .bool false, .bool false, .bool false]] 8 rfl (by kernel_rfl) (by kernel_rfl) (by kernel_rfl) (by kernel_rfl) (by kernel_rfl) (laidWorld_met os _)) ?_
  intro W base args ds gs before hval0 hW hcnd hsz0 hL _
  have hval : ∀ (j : Nat) t v, Tryz.f8.params[j]? = some t → args[j]? = some v → Value.okWide Tryz.prog W .any base t v := hval0
  have hW' := hW
  obtain ⟨p, q, hA0, hV, rfl, hfz, hnd⟩ := hW
  have hA : DataW.TrodAll enc Tryz.prog W 0 (fun _ => true) true Tryz.f8.params.toList args.toList ds p := hA0
  rw [Tryz.params8] at hA hval
  obtain ⟨v0, vs0, d0, ds0, p0, q0, hargs, rfl, rfl, h0, r0⟩ := trodAll_cons hA
  obtain ⟨v1, vs1, d1, ds1, p1, q1, rfl, rfl, rfl, h1, r1⟩ := trodAll_cons r0
  obtain ⟨v2, vs2, d2, ds2, p2, q2, rfl, rfl, rfl, h2, r2⟩ := trodAll_cons r1
  obtain ⟨v3, vs3, d3, ds3, p3, q3, rfl, rfl, rfl, h3, r3⟩ := trodAll_cons r2
  obtain ⟨rfl, rfl, rfl⟩ := trodAll_nil r3
  obtain rfl : args = #[v0, v1, v2, v3] := by cases args; simp_all
  obtain ⟨rfl, rfl⟩ := trodVars_none hV
  have k0 := h0
  have lt0 : ∀ x ∈ p0, x.block < W.heap.size := by obtain ⟨m, hm⟩ := k0; exact DataW.trod_lt m _ _ _ hm
  obtain ⟨a0, rfl, _, _, w0⟩ := open_int Tryz.underlying3 (hval 0 3 v0 rfl rfl) h0
  have b0 : IntKind.i64.min ≤ a0 ∧ a0 ≤ IntKind.i64.max := by simpa [Lit.wf] using w0
  have k1 := h1
  have lt1 : ∀ x ∈ p1, x.block < W.heap.size := by obtain ⟨m, hm⟩ := k1; exact DataW.trod_lt m _ _ _ hm
  obtain ⟨a1, rfl, _, _, w1⟩ := open_int Tryz.underlying3 (hval 1 3 v1 rfl rfl) h1
  have b1 : IntKind.i64.min ≤ a1 ∧ a1 ≤ IntKind.i64.max := by simpa [Lit.wf] using w1
  have k2 := h2
  have lt2 : ∀ x ∈ p2, x.block < W.heap.size := by obtain ⟨m, hm⟩ := k2; exact DataW.trod_lt m _ _ _ hm
  obtain ⟨a2, rfl, _, _, w2⟩ := open_int Tryz.underlying3 (hval 2 3 v2 rfl rfl) h2
  have b2 : IntKind.i64.min ≤ a2 ∧ a2 ≤ IntKind.i64.max := by simpa [Lit.wf] using w2
  have k3 := h3
  have lt3 : ∀ x ∈ p3, x.block < W.heap.size := by obtain ⟨m, hm⟩ := k3; exact DataW.trod_lt m _ _ _ hm
  obtain ⟨cs3, rfl, hs3, hf3⟩ := open_structL (L := [3, 3, 3, 3, 3, 60, 44, 4, 3, 3, 3, 3, 44, 75, 4, 4, 4, 4, 4]) Tryz.underlying81 (by kernel_rfl) (hval 3 81 v3 rfl rfl) h3
  obtain ⟨u3_0, e3_0, y3_0⟩ := hf3 0 _ rfl
  obtain ⟨x3_0, rfl, b3_0⟩ := isK_int Tryz.underlying3 y3_0
  obtain ⟨u3_1, e3_1, y3_1⟩ := hf3 1 _ rfl
  obtain ⟨x3_1, rfl, b3_1⟩ := isK_int Tryz.underlying3 y3_1
  obtain ⟨u3_2, e3_2, y3_2⟩ := hf3 2 _ rfl
  obtain ⟨x3_2, rfl, b3_2⟩ := isK_int Tryz.underlying3 y3_2
  obtain ⟨u3_3, e3_3, y3_3⟩ := hf3 3 _ rfl
  obtain ⟨x3_3, rfl, b3_3⟩ := isK_int Tryz.underlying3 y3_3
  obtain ⟨u3_4, e3_4, y3_4⟩ := hf3 4 _ rfl
  obtain ⟨x3_4, rfl, b3_4⟩ := isK_int Tryz.underlying3 y3_4
  obtain ⟨u3_5, e3_5, y3_5⟩ := hf3 5 _ rfl
  obtain ⟨x3_5, rfl, b3_5⟩ := isK_int Tryz.underlying60 y3_5
  obtain ⟨u3_6, e3_6, y3_6⟩ := hf3 6 _ rfl
  obtain ⟨x3_6, rfl, b3_6⟩ := isK_int Tryz.underlying44 y3_6
  obtain ⟨u3_7, e3_7, y3_7⟩ := hf3 7 _ rfl
  obtain ⟨x3_7, rfl⟩ := isK_bool Tryz.underlying4 y3_7
  obtain ⟨u3_8, e3_8, y3_8⟩ := hf3 8 _ rfl
  obtain ⟨x3_8, rfl, b3_8⟩ := isK_int Tryz.underlying3 y3_8
  obtain ⟨u3_9, e3_9, y3_9⟩ := hf3 9 _ rfl
  obtain ⟨x3_9, rfl, b3_9⟩ := isK_int Tryz.underlying3 y3_9
  obtain ⟨u3_10, e3_10, y3_10⟩ := hf3 10 _ rfl
  obtain ⟨x3_10, rfl, b3_10⟩ := isK_int Tryz.underlying3 y3_10
  obtain ⟨u3_11, e3_11, y3_11⟩ := hf3 11 _ rfl
  obtain ⟨x3_11, rfl, b3_11⟩ := isK_int Tryz.underlying3 y3_11
  obtain ⟨u3_12, e3_12, y3_12⟩ := hf3 12 _ rfl
  obtain ⟨x3_12, rfl, b3_12⟩ := isK_int Tryz.underlying44 y3_12
  obtain ⟨u3_13, e3_13, y3_13⟩ := hf3 13 _ rfl
  obtain ⟨x3_13, rfl, b3_13⟩ := isK_int Tryz.underlying75 y3_13
  obtain ⟨u3_14, e3_14, y3_14⟩ := hf3 14 _ rfl
  obtain ⟨x3_14, rfl⟩ := isK_bool Tryz.underlying4 y3_14
  obtain ⟨u3_15, e3_15, y3_15⟩ := hf3 15 _ rfl
  obtain ⟨x3_15, rfl⟩ := isK_bool Tryz.underlying4 y3_15
  obtain ⟨u3_16, e3_16, y3_16⟩ := hf3 16 _ rfl
  obtain ⟨x3_16, rfl⟩ := isK_bool Tryz.underlying4 y3_16
  obtain ⟨u3_17, e3_17, y3_17⟩ := hf3 17 _ rfl
  obtain ⟨x3_17, rfl⟩ := isK_bool Tryz.underlying4 y3_17
  obtain ⟨u3_18, e3_18, y3_18⟩ := hf3 18 _ rfl
  obtain ⟨x3_18, rfl⟩ := isK_bool Tryz.underlying4 y3_18
  obtain rfl := arr19 hs3 e3_0 e3_1 e3_2 e3_3 e3_4 e3_5 e3_6 e3_7 e3_8 e3_9 e3_10 e3_11 e3_12 e3_13 e3_14 e3_15 e3_16 e3_17 e3_18
  obtain ⟨m3_6, rfl⟩ : ∃ m : Nat, x3_6 = (m : Int) := ⟨x3_6.toNat, by have := b3_6.1; simp [IntKind.min, IntKind.signed] at this; omega⟩
  obtain ⟨m3_12, rfl⟩ : ∃ m : Nat, x3_12 = (m : Int) := ⟨x3_12.toNat, by have := b3_12.1; simp [IntKind.min, IntKind.signed] at this; omega⟩
  refine ((Sl.law_news W (tab_of_laid hL) a0 a1 a2 ⟨x3_0, x3_1, x3_2, x3_3, x3_4, x3_5, m3_6, x3_7, (x3_8, x3_9, x3_10, x3_11, m3_12, x3_13, (x3_14, x3_15, x3_16, x3_17), x3_18)⟩ ⟨(by have := b3_3.2; simp [IntKind.max, IntKind.signed, IntKind.bits] at this; show x3_3 < 9223372036854775808; omega), (by have := b3_6.2; simp [IntKind.max, IntKind.signed, IntKind.bits] at this; show m3_6 < 2 ^ 64; omega), (by have := b3_11.2; simp [IntKind.max, IntKind.signed, IntKind.bits] at this; show x3_11 < 9223372036854775808; omega), (by have := b3_12.2; simp [IntKind.max, IntKind.signed, IntKind.bits] at this; show m3_12 < 2 ^ 64; omega)⟩).calls (Ent.refl [])).mono fun e W' ⟨v, A', he, bel, hv, _⟩ => ?_
  subst hv
  subst he
  exact ⟨_, rfl, _, _, _, [], _, [], hW', trodAll_mk1 (shut_bool Tryz.underlying4 _), (trodAll_cons_mk (Below.trod laidOut (by kernel_rfl) (of_decide_eq_true (by kernel_rfl)) k0 bel lt0) (trodAll_cons_mk (Below.trod laidOut (by kernel_rfl) (of_decide_eq_true (by kernel_rfl)) k1 bel lt1) (trodAll_cons_mk (Below.trod laidOut (by kernel_rfl) (of_decide_eq_true (by kernel_rfl)) k2 bel lt2) (trodAll_cons_mk (Below.trod laidOut (by kernel_rfl) (of_decide_eq_true (by kernel_rfl)) k3 bel lt3) trodAll_mk0)))), rfl, bel.frame _, fun h => by cases h⟩
theorem over : Rows.vgicNewsRow.holds Tryz.pinned (OpenSpec.ofChange Rows.vgicNewsSpec) :=
  OpenClaim.holds_of_wide 8 Tryz.f8 rfl rfl rfl rfl rfl rfl rfl ⟨rfl, rfl, rfl, rfl, rfl⟩ rfl rfl rfl rfl rfl (by kernel_rfl) Tryz.func8 (by kernel_rfl)
    (of_decide_eq_true (by kernel_rfl)) (by unfold Func.isWrapper; first | (rw [if_pos (by decide +kernel)]; kernel_rfl) | (rw [if_neg (by decide +kernel)]; exact ⟨rfl, rfl⟩))
    (fun os started H enc _ => lifted os started H enc)
theorem proved : Rows.VgicNewsSaid := over
end Go.Proofs.YtebpodnbalfomaaGreatDoor.vgicNews
namespace Go.Proofs.YtebpodnbalfomaaGreatDoor
/-- The row, under a short name, for the claim. -/
theorem vgicNews_row : Rows.VgicNewsSaid := vgicNews.proved
/-- The card: the row, with what it lists tied to the program's text. -/
theorem vgicNews_holds : Rows.VgicNewsCardSaid :=
  Claim7.holds_tied_plain_at .later [] [.data] true (true, "edd4e86b91c59d118d9e5f01844e720af46ec8cba84d8c4c30208c92c6b98c46") false
    vgicNews_row (fun _ h => by cases h) (by kernel_rfl) (fun _ h => by cases h) vgicNews_row_tie rfl ⟨rfl, rfl⟩ (by kernel_rfl) rfl
    (fun f fn hf hfn => by
      obtain rfl : f = 8 := Option.some.inj ((show Tryz.prog.funcNamed Rows.vgicNewsRow.func = some 8 by kernel_rfl).symm.trans hf) |>.symm
      obtain rfl : fn = Tryz.f8 := (Option.some.inj (Tryz.func8.symm.trans hfn)).symm
      exact ⟨by kernel_rfl, fun j t ht => by
        rw [Tryz.params8] at ht
        have hm : t ∈ [3, 3, 3, 81] := by simpa using Array.mem_of_getElem? ht
        have hall : ([3, 3, 3, 81].all fun u => !Tryz.prog.wantsStandIn u) = true := by kernel_rfl
        exact (show Tryz.prog.wantsStandIn t = false by simpa using List.all_eq_true.1 hall t hm)⟩)
    (by kernel_rfl)
end Go.Proofs.YtebpodnbalfomaaGreatDoor
