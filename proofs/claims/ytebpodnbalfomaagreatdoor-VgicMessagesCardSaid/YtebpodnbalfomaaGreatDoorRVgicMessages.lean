/-
  The law VgicMessages returns true for every input, and leaves its arguments as they were. No condition is laid on the input.
-/
import Derived.Test.YtebpodnbalfomaaGreatDoorRows
import Derived.Test.YtebpodnbalfomaaGreatDoorM5
import Derived.Test.YtebpodnbalfomaaGreatDoorL6
import Derived.Test.YtebpodnbalfomaaGreatDoorTie
import Derived.Test.YtebpodnbalfomaaGreatDoorCards
import Derived.WalkKit
import Derived.ProofKit
import Derived.OpenShut
import Derived.ShutString
import Derived.ChangeOld
import Derived.Below
import Derived.SizedLaws
namespace Go.Proofs.YtebpodnbalfomaaGreatDoor.vgicMessages
open Go.ChangeShapes Go.WideShapes Go.ChangeAt Go.RowKit Go.Proofs.YtebpodnbalfomaaGreatDoor.Sl
set_option linter.unusedVariables false
set_option linter.unusedSimpArgs false
theorem own_ : ownKnob Tryz.prog.godebug = none := by kernel_rfl
theorem laidOut : laidOutB Tryz.prog = true := by kernel_rfl
theorem take19 {cells : List Value} {k : Nat} {a0 a1 a2 a3 a4 a5 a6 a7 a8 a9 a10 a11 a12 a13 a14 a15 a16 a17 a18 : Value} (h0 : cells[k + 0]? = some a0) (h1 : cells[k + 1]? = some a1) (h2 : cells[k + 2]? = some a2) (h3 : cells[k + 3]? = some a3) (h4 : cells[k + 4]? = some a4) (h5 : cells[k + 5]? = some a5) (h6 : cells[k + 6]? = some a6) (h7 : cells[k + 7]? = some a7) (h8 : cells[k + 8]? = some a8) (h9 : cells[k + 9]? = some a9) (h10 : cells[k + 10]? = some a10) (h11 : cells[k + 11]? = some a11) (h12 : cells[k + 12]? = some a12) (h13 : cells[k + 13]? = some a13) (h14 : cells[k + 14]? = some a14) (h15 : cells[k + 15]? = some a15) (h16 : cells[k + 16]? = some a16) (h17 : cells[k + 17]? = some a17) (h18 : cells[k + 18]? = some a18) : (cells.drop k).take 19 = [a0, a1, a2, a3, a4, a5, a6, a7, a8, a9, a10, a11, a12, a13, a14, a15, a16, a17, a18] := by
  have l := (List.getElem?_eq_some_iff.1 h18).1
  rw [List.drop_eq_getElem_cons (by omega), List.drop_eq_getElem_cons (by omega), List.drop_eq_getElem_cons (by omega), List.drop_eq_getElem_cons (by omega), List.drop_eq_getElem_cons (by omega), List.drop_eq_getElem_cons (by omega), List.drop_eq_getElem_cons (by omega), List.drop_eq_getElem_cons (by omega), List.drop_eq_getElem_cons (by omega), List.drop_eq_getElem_cons (by omega), List.drop_eq_getElem_cons (by omega), List.drop_eq_getElem_cons (by omega), List.drop_eq_getElem_cons (by omega), List.drop_eq_getElem_cons (by omega), List.drop_eq_getElem_cons (by omega), List.drop_eq_getElem_cons (by omega), List.drop_eq_getElem_cons (by omega), List.drop_eq_getElem_cons (by omega), List.drop_eq_getElem_cons (by omega)]
  have e0 := (List.getElem?_eq_some_iff.1 h0).2
  have e1 := (List.getElem?_eq_some_iff.1 h1).2
  have e2 := (List.getElem?_eq_some_iff.1 h2).2
  have e3 := (List.getElem?_eq_some_iff.1 h3).2
  have e4 := (List.getElem?_eq_some_iff.1 h4).2
  have e5 := (List.getElem?_eq_some_iff.1 h5).2
  have e6 := (List.getElem?_eq_some_iff.1 h6).2
  have e7 := (List.getElem?_eq_some_iff.1 h7).2
  have e8 := (List.getElem?_eq_some_iff.1 h8).2
  have e9 := (List.getElem?_eq_some_iff.1 h9).2
  have e10 := (List.getElem?_eq_some_iff.1 h10).2
  have e11 := (List.getElem?_eq_some_iff.1 h11).2
  have e12 := (List.getElem?_eq_some_iff.1 h12).2
  have e13 := (List.getElem?_eq_some_iff.1 h13).2
  have e14 := (List.getElem?_eq_some_iff.1 h14).2
  have e15 := (List.getElem?_eq_some_iff.1 h15).2
  have e16 := (List.getElem?_eq_some_iff.1 h16).2
  have e17 := (List.getElem?_eq_some_iff.1 h17).2
  have e18 := (List.getElem?_eq_some_iff.1 h18).2
  simp only [Nat.add_zero] at e0
  simp [e0, e1, e2, e3, e4, e5, e6, e7, e8, e9, e10, e11, e12, e13, e14, e15, e16, e17, e18]
theorem arr19 {cs : Array Value} {a0 a1 a2 a3 a4 a5 a6 a7 a8 a9 a10 a11 a12 a13 a14 a15 a16 a17 a18 : Value} (hs : cs.size = 19) (h0 : cs[0]? = some a0) (h1 : cs[1]? = some a1) (h2 : cs[2]? = some a2) (h3 : cs[3]? = some a3) (h4 : cs[4]? = some a4) (h5 : cs[5]? = some a5) (h6 : cs[6]? = some a6) (h7 : cs[7]? = some a7) (h8 : cs[8]? = some a8) (h9 : cs[9]? = some a9) (h10 : cs[10]? = some a10) (h11 : cs[11]? = some a11) (h12 : cs[12]? = some a12) (h13 : cs[13]? = some a13) (h14 : cs[14]? = some a14) (h15 : cs[15]? = some a15) (h16 : cs[16]? = some a16) (h17 : cs[17]? = some a17) (h18 : cs[18]? = some a18) : cs = #[a0, a1, a2, a3, a4, a5, a6, a7, a8, a9, a10, a11, a12, a13, a14, a15, a16, a17, a18] := by
  apply Array.ext_getElem?
  intro i
  match i with
  | 0 => simpa using h0
  | 1 => simpa using h1
  | 2 => simpa using h2
  | 3 => simpa using h3
  | 4 => simpa using h4
  | 5 => simpa using h5
  | 6 => simpa using h6
  | 7 => simpa using h7
  | 8 => simpa using h8
  | 9 => simpa using h9
  | 10 => simpa using h10
  | 11 => simpa using h11
  | 12 => simpa using h12
  | 13 => simpa using h13
  | 14 => simpa using h14
  | 15 => simpa using h15
  | 16 => simpa using h16
  | 17 => simpa using h17
  | 18 => simpa using h18
  | i + 19 => simp [Array.getElem?_eq_none (show cs.size ≤ i + 19 by omega)]
set_option maxRecDepth 100000 in
theorem lifted (os : Os) (started : os.Started) (H : Type) (enc : TypeId × Value → H) :
    ReturnsInHanded {} Tryz.checked os 4 .any (fun w args => (Rows.vgicMessagesSpec.pre enc Tryz.prog Tryz.f4 [] false w args ∧ laidMetH Tryz.prog laidL w) ∧ sizedMet enc Tryz.prog Tryz.f4 (OpenSpec.ofChange Rows.vgicMessagesSpec) false w args) (Rows.vgicMessagesSpec.post enc Tryz.prog Tryz.f4 false true false false) := by
  refine returnsInHanded_of_change_and (C := Tryz.checked) (X := fun w _ => laidMetH Tryz.prog laidL w) (fun _ _ _ hh h => h.of_heap hh) own_ started (by kernel_rfl) Tryz.func4
    (ChangeSpec.witness_at (enc := enc) (C := Tryz.checked) (os := os) (X := fun w _ => laidMetH Tryz.prog laidL w) false (laidWorld os) #[.int .u8 0, .int .u8 0, .slice none 0 0, .int .u8 0, .int .u8 0, .int .u8 0] 8 rfl (by kernel_rfl) (by kernel_rfl) (by kernel_rfl) (by kernel_rfl) (by kernel_rfl) (laidWorld_met os _)) ?_
  intro W base args ds gs before hval0 hW hcnd hsz0 hL _
  have hval : ∀ (j : Nat) t v, Tryz.f4.params[j]? = some t → args[j]? = some v → Value.okWide Tryz.prog W .any base t v := hval0
  have hW' := hW
  obtain ⟨p, q, hA0, hV, rfl, hfz, hnd⟩ := hW
  have hA : DataW.TrodAll enc Tryz.prog W 0 (fun _ => true) true Tryz.f4.params.toList args.toList ds p := hA0
  rw [Tryz.params4] at hA hval
  obtain ⟨v0, vs0, d0, ds0, p0, q0, hargs, rfl, rfl, h0, r0⟩ := trodAll_cons hA
  obtain ⟨v1, vs1, d1, ds1, p1, q1, rfl, rfl, rfl, h1, r1⟩ := trodAll_cons r0
  obtain ⟨v2, vs2, d2, ds2, p2, q2, rfl, rfl, rfl, h2, r2⟩ := trodAll_cons r1
  obtain ⟨v3, vs3, d3, ds3, p3, q3, rfl, rfl, rfl, h3, r3⟩ := trodAll_cons r2
  obtain ⟨v4, vs4, d4, ds4, p4, q4, rfl, rfl, rfl, h4, r4⟩ := trodAll_cons r3
  obtain ⟨v5, vs5, d5, ds5, p5, q5, rfl, rfl, rfl, h5, r5⟩ := trodAll_cons r4
  obtain ⟨rfl, rfl, rfl⟩ := trodAll_nil r5
  obtain rfl : args = #[v0, v1, v2, v3, v4, v5] := by cases args; simp_all
  obtain ⟨rfl, rfl⟩ := trodVars_none hV
  have k0 := h0
  have lt0 : ∀ x ∈ p0, x.block < W.heap.size := by obtain ⟨m, hm⟩ := k0; exact DataW.trod_lt m _ _ _ hm
  obtain ⟨a0, rfl, _, _, w0⟩ := open_int Tryz.underlying5 (hval 0 5 v0 rfl rfl) h0
  have b0 : IntKind.u8.min ≤ a0 ∧ a0 ≤ IntKind.u8.max := by simpa [Lit.wf] using w0
  have k1 := h1
  have lt1 : ∀ x ∈ p1, x.block < W.heap.size := by obtain ⟨m, hm⟩ := k1; exact DataW.trod_lt m _ _ _ hm
  obtain ⟨a1, rfl, _, _, w1⟩ := open_int Tryz.underlying5 (hval 1 5 v1 rfl rfl) h1
  have b1 : IntKind.u8.min ≤ a1 ∧ a1 ≤ IntKind.u8.max := by simpa [Lit.wf] using w1
  have k2 := h2
  have lt2 : ∀ x ∈ p2, x.block < W.heap.size := by obtain ⟨m, hm⟩ := k2; exact DataW.trod_lt m _ _ _ hm
  obtain ⟨fu2, hfu2⟩ := h2
  obtain ⟨sa2, sl2, sc2, rfl⟩ := okWide_slice Tryz.underlying22 (hval 2 22 v2 rfl rfl)
  obtain ⟨pp2, n2, c2, cl2, A2, hv2, hn2, hr2, he2, hf2⟩ := open_slcL (L := [3, 3, 3, 3, 3, 60, 44, 4, 3, 3, 3, 3, 44, 75, 4, 4, 4, 4, 4]) Tryz.underlying22 (by kernel_rfl) (by kernel_rfl) (by decide) rfl hfu2
  obtain ⟨rfl, rfl, rfl⟩ : pp2 = sa2 ∧ n2 = sl2 ∧ c2 = sc2 := by simpa [eq_comm] using hv2
  clear hv2 hfu2
  have k3 := h3
  have lt3 : ∀ x ∈ p3, x.block < W.heap.size := by obtain ⟨m, hm⟩ := k3; exact DataW.trod_lt m _ _ _ hm
  obtain ⟨a3, rfl, _, _, w3⟩ := open_int Tryz.underlying5 (hval 3 5 v3 rfl rfl) h3
  have b3 : IntKind.u8.min ≤ a3 ∧ a3 ≤ IntKind.u8.max := by simpa [Lit.wf] using w3
  have k4 := h4
  have lt4 : ∀ x ∈ p4, x.block < W.heap.size := by obtain ⟨m, hm⟩ := k4; exact DataW.trod_lt m _ _ _ hm
  obtain ⟨a4, rfl, _, _, w4⟩ := open_int Tryz.underlying5 (hval 4 5 v4 rfl rfl) h4
  have b4 : IntKind.u8.min ≤ a4 ∧ a4 ≤ IntKind.u8.max := by simpa [Lit.wf] using w4
  have k5 := h5
  have lt5 : ∀ x ∈ p5, x.block < W.heap.size := by obtain ⟨m, hm⟩ := k5; exact DataW.trod_lt m _ _ _ hm
  obtain ⟨a5, rfl, _, _, w5⟩ := open_int Tryz.underlying5 (hval 5 5 v5 rfl rfl) h5
  have b5 : IntKind.u8.min ≤ a5 ∧ a5 ≤ IntKind.u8.max := by simpa [Lit.wf] using w5
  have hr2 : RdS W pp2 n2 19 cl2 A2 := hr2
  obtain ⟨ts2, tl2, rfl, tp2⟩ := Sl.decode (α := Sl.VA) Sl.vaC (Sl.vaOk) 19 n2 cl2 hr2.1 (fun i hi => by
    obtain ⟨u0, e0, y0⟩ := hf2 i hi 0 _ rfl
    obtain ⟨x0, rfl, b0⟩ := isK_int Tryz.underlying3 y0
    obtain ⟨u1, e1, y1⟩ := hf2 i hi 1 _ rfl
    obtain ⟨x1, rfl, b1⟩ := isK_int Tryz.underlying3 y1
    obtain ⟨u2, e2, y2⟩ := hf2 i hi 2 _ rfl
    obtain ⟨x2, rfl, b2⟩ := isK_int Tryz.underlying3 y2
    obtain ⟨u3, e3, y3⟩ := hf2 i hi 3 _ rfl
    obtain ⟨x3, rfl, b3⟩ := isK_int Tryz.underlying3 y3
    obtain ⟨u4, e4, y4⟩ := hf2 i hi 4 _ rfl
    obtain ⟨x4, rfl, b4⟩ := isK_int Tryz.underlying3 y4
    obtain ⟨u5, e5, y5⟩ := hf2 i hi 5 _ rfl
    obtain ⟨x5, rfl, b5⟩ := isK_int Tryz.underlying60 y5
    obtain ⟨u6, e6, y6⟩ := hf2 i hi 6 _ rfl
    obtain ⟨x6, rfl, b6⟩ := isK_int Tryz.underlying44 y6
    obtain ⟨u7, e7, y7⟩ := hf2 i hi 7 _ rfl
    obtain ⟨x7, rfl⟩ := isK_bool Tryz.underlying4 y7
    obtain ⟨u8, e8, y8⟩ := hf2 i hi 8 _ rfl
    obtain ⟨x8, rfl, b8⟩ := isK_int Tryz.underlying3 y8
    obtain ⟨u9, e9, y9⟩ := hf2 i hi 9 _ rfl
    obtain ⟨x9, rfl, b9⟩ := isK_int Tryz.underlying3 y9
    obtain ⟨u10, e10, y10⟩ := hf2 i hi 10 _ rfl
    obtain ⟨x10, rfl, b10⟩ := isK_int Tryz.underlying3 y10
    obtain ⟨u11, e11, y11⟩ := hf2 i hi 11 _ rfl
    obtain ⟨x11, rfl, b11⟩ := isK_int Tryz.underlying3 y11
    obtain ⟨u12, e12, y12⟩ := hf2 i hi 12 _ rfl
    obtain ⟨x12, rfl, b12⟩ := isK_int Tryz.underlying44 y12
    obtain ⟨u13, e13, y13⟩ := hf2 i hi 13 _ rfl
    obtain ⟨x13, rfl, b13⟩ := isK_int Tryz.underlying75 y13
    obtain ⟨u14, e14, y14⟩ := hf2 i hi 14 _ rfl
    obtain ⟨x14, rfl⟩ := isK_bool Tryz.underlying4 y14
    obtain ⟨u15, e15, y15⟩ := hf2 i hi 15 _ rfl
    obtain ⟨x15, rfl⟩ := isK_bool Tryz.underlying4 y15
    obtain ⟨u16, e16, y16⟩ := hf2 i hi 16 _ rfl
    obtain ⟨x16, rfl⟩ := isK_bool Tryz.underlying4 y16
    obtain ⟨u17, e17, y17⟩ := hf2 i hi 17 _ rfl
    obtain ⟨x17, rfl⟩ := isK_bool Tryz.underlying4 y17
    obtain ⟨u18, e18, y18⟩ := hf2 i hi 18 _ rfl
    obtain ⟨x18, rfl⟩ := isK_bool Tryz.underlying4 y18
    obtain ⟨m6, rfl⟩ : ∃ m : Nat, x6 = (m : Int) := ⟨x6.toNat, by have := b6.1; simp [IntKind.min, IntKind.signed] at this; omega⟩
    obtain ⟨m12, rfl⟩ : ∃ m : Nat, x12 = (m : Int) := ⟨x12.toNat, by have := b12.1; simp [IntKind.min, IntKind.signed] at this; omega⟩
    exact ⟨(⟨x0, x1, x2, x3, x4, x5, m6, x7, (x8, x9, x10, x11, m12, x13, (x14, x15, x16, x17), x18)⟩), ⟨(by have := b3.2; simp [IntKind.max, IntKind.signed, IntKind.bits] at this; show x3 < 9223372036854775808; omega), (by have := b6.2; simp [IntKind.max, IntKind.signed, IntKind.bits] at this; show m6 < 2 ^ 64; omega), (by have := b11.2; simp [IntKind.max, IntKind.signed, IntKind.bits] at this; show x11 < 9223372036854775808; omega), (by have := b12.2; simp [IntKind.max, IntKind.signed, IntKind.bits] at this; show m12 < 2 ^ 64; omega)⟩, take19 e0 e1 e2 e3 e4 e5 e6 e7 e8 e9 e10 e11 e12 e13 e14 e15 e16 e17 e18⟩)
  refine ((Sl.law_messages W (tab_of_laid hL) hr2 (by simp [maxLen] at hn2; omega) tp2 (by have := b0.1; simp [IntKind.min, IntKind.signed, IntKind.bits] at this; omega) (by have := b0.2; simp [IntKind.max, IntKind.signed, IntKind.bits] at this; omega) (by have := b1.1; simp [IntKind.min, IntKind.signed, IntKind.bits] at this; omega) (by have := b1.2; simp [IntKind.max, IntKind.signed, IntKind.bits] at this; omega) (by have := b3.1; simp [IntKind.min, IntKind.signed, IntKind.bits] at this; omega) (by have := b3.2; simp [IntKind.max, IntKind.signed, IntKind.bits] at this; omega) (by have := b4.1; simp [IntKind.min, IntKind.signed, IntKind.bits] at this; omega) (by have := b4.2; simp [IntKind.max, IntKind.signed, IntKind.bits] at this; omega) (by have := b5.1; simp [IntKind.min, IntKind.signed, IntKind.bits] at this; omega) (by have := b5.2; simp [IntKind.max, IntKind.signed, IntKind.bits] at this; omega)).calls he2).mono fun e W' ⟨v, A', he, bel, hv, _⟩ => ?_
  subst hv
  subst he
  exact ⟨_, rfl, _, _, _, [], _, [], hW', trodAll_mk1 (shut_bool Tryz.underlying4 _), (trodAll_cons_mk (Below.trod laidOut (by kernel_rfl) (of_decide_eq_true (by kernel_rfl)) k0 bel lt0) (trodAll_cons_mk (Below.trod laidOut (by kernel_rfl) (of_decide_eq_true (by kernel_rfl)) k1 bel lt1) (trodAll_cons_mk (Below.trod laidOut (by kernel_rfl) (of_decide_eq_true (by kernel_rfl)) k2 bel lt2) (trodAll_cons_mk (Below.trod laidOut (by kernel_rfl) (of_decide_eq_true (by kernel_rfl)) k3 bel lt3) (trodAll_cons_mk (Below.trod laidOut (by kernel_rfl) (of_decide_eq_true (by kernel_rfl)) k4 bel lt4) (trodAll_cons_mk (Below.trod laidOut (by kernel_rfl) (of_decide_eq_true (by kernel_rfl)) k5 bel lt5) trodAll_mk0)))))), rfl, bel.frame _, fun h => by cases h⟩
theorem over : Rows.vgicMessagesRow.holds Tryz.pinned (OpenSpec.ofChange Rows.vgicMessagesSpec) :=
  OpenClaim.holds_of_wide 4 Tryz.f4 rfl rfl rfl rfl rfl rfl rfl ⟨rfl, rfl, rfl, rfl, rfl⟩ rfl rfl rfl rfl rfl (by kernel_rfl) Tryz.func4 (by kernel_rfl)
    (of_decide_eq_true (by kernel_rfl)) (by unfold Func.isWrapper; first | (rw [if_pos (by decide +kernel)]; kernel_rfl) | (rw [if_neg (by decide +kernel)]; exact ⟨rfl, rfl⟩))
    (fun os started H enc _ => lifted os started H enc)
theorem proved : Rows.VgicMessagesSaid := over
end Go.Proofs.YtebpodnbalfomaaGreatDoor.vgicMessages
namespace Go.Proofs.YtebpodnbalfomaaGreatDoor
/-- The row, under a short name, for the claim. -/
theorem vgicMessages_row : Rows.VgicMessagesSaid := vgicMessages.proved
/-- The card: the row, with what it lists tied to the program's text. -/
theorem vgicMessages_holds : Rows.VgicMessagesCardSaid :=
  Claim7.holds_tied_plain_at .later [] [.data] true (true, "edd4e86b91c59d118d9e5f01844e720af46ec8cba84d8c4c30208c92c6b98c46") false
    vgicMessages_row (fun _ h => by cases h) (by kernel_rfl) (fun _ h => by cases h) vgicMessages_row_tie rfl ⟨rfl, rfl⟩ (by kernel_rfl) rfl
    (fun f fn hf hfn => by
      obtain rfl : f = 4 := Option.some.inj ((show Tryz.prog.funcNamed Rows.vgicMessagesRow.func = some 4 by kernel_rfl).symm.trans hf) |>.symm
      obtain rfl : fn = Tryz.f4 := (Option.some.inj (Tryz.func4.symm.trans hfn)).symm
      exact ⟨by kernel_rfl, fun j t ht => by
        rw [Tryz.params4] at ht
        have hm : t ∈ [5, 5, 22, 5, 5, 5] := by simpa using Array.mem_of_getElem? ht
        have hall : ([5, 5, 22, 5, 5, 5].all fun u => !Tryz.prog.wantsStandIn u) = true := by kernel_rfl
        exact (show Tryz.prog.wantsStandIn t = false by simpa using List.all_eq_true.1 hall t hm)⟩)
    (by kernel_rfl)
end Go.Proofs.YtebpodnbalfomaaGreatDoor
