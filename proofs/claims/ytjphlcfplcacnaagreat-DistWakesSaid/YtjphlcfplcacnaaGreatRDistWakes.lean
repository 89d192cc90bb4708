/-
  The law DistWakes returns true for every input, and leaves its arguments as they were. No condition is laid on the input.
-/
import Derived.Test.YtjphlcfplcacnaaGreatRows
import Derived.Test.YtjphlcfplcacnaaGreatM4
import Derived.Test.YtjphlcfplcacnaaGreatL6
import Derived.WalkKit
import Derived.ProofKit
import Derived.OpenShut
import Derived.ShutString
import Derived.ChangeOld
import Derived.Below
import Derived.SizedLaws
namespace Go.Proofs.YtjphlcfplcacnaaGreat.distWakes
open Go.ChangeShapes Go.WideShapes Go.ChangeAt Go.RowKit Go.Proofs.YtjphlcfplcacnaaGreat.Sl
set_option linter.unusedVariables false
set_option linter.unusedSimpArgs false
theorem own_ : ownKnob Tryz.prog.godebug = none := by kernel_rfl
theorem laidOut : laidOutB Tryz.prog = true := by kernel_rfl
theorem take11 {cells : List Value} {k : Nat} {a0 a1 a2 a3 a4 a5 a6 a7 a8 a9 a10 : Value} (h0 : cells[k + 0]? = some a0) (h1 : cells[k + 1]? = some a1) (h2 : cells[k + 2]? = some a2) (h3 : cells[k + 3]? = some a3) (h4 : cells[k + 4]? = some a4) (h5 : cells[k + 5]? = some a5) (h6 : cells[k + 6]? = some a6) (h7 : cells[k + 7]? = some a7) (h8 : cells[k + 8]? = some a8) (h9 : cells[k + 9]? = some a9) (h10 : cells[k + 10]? = some a10) : (cells.drop k).take 11 = [a0, a1, a2, a3, a4, a5, a6, a7, a8, a9, a10] := by
  have l := (List.getElem?_eq_some_iff.1 h10).1
  rw [List.drop_eq_getElem_cons (by omega), List.drop_eq_getElem_cons (by omega), List.drop_eq_getElem_cons (by omega), List.drop_eq_getElem_cons (by omega), List.drop_eq_getElem_cons (by omega), List.drop_eq_getElem_cons (by omega), List.drop_eq_getElem_cons (by omega), List.drop_eq_getElem_cons (by omega), List.drop_eq_getElem_cons (by omega), List.drop_eq_getElem_cons (by omega), List.drop_eq_getElem_cons (by omega)]
  have e0 := (List.getElem?_eq_some_iff.1 h0).2
  have e1 := (List.getElem?_eq_some_iff.1 h1).2
  have e2 := (List.getElem?_eq_some_iff.1 h2).2
  have e3 := (List.getElem?_eq_some_iff.1 h3).2
  have e4 := (List.getElem?_eq_some_iff.1 h4).2
  have e5 := (List.getElem?_eq_some_iff.1 h5).2
  have e6 := (List.getElem?_eq_some_iff.1 h6).2
  have e7 := (List.getElem?_eq_some_iff.1 h7).2
  have e8 := (List.getElem?_eq_some_iff.1 h8).2
  have e9 := (List.getElem?_eq_some_iff.1 h9).2
  have e10 := (List.getElem?_eq_some_iff.1 h10).2
  simp only [Nat.add_zero] at e0
  simp [e0, e1, e2, e3, e4, e5, e6, e7, e8, e9, e10]
theorem arr11 {cs : Array Value} {a0 a1 a2 a3 a4 a5 a6 a7 a8 a9 a10 : Value} (hs : cs.size = 11) (h0 : cs[0]? = some a0) (h1 : cs[1]? = some a1) (h2 : cs[2]? = some a2) (h3 : cs[3]? = some a3) (h4 : cs[4]? = some a4) (h5 : cs[5]? = some a5) (h6 : cs[6]? = some a6) (h7 : cs[7]? = some a7) (h8 : cs[8]? = some a8) (h9 : cs[9]? = some a9) (h10 : cs[10]? = some a10) : cs = #[a0, a1, a2, a3, a4, a5, a6, a7, a8, a9, a10] := by
  apply Array.ext_getElem?
  intro i
  match i with
  | 0 => simpa using h0
  | 1 => simpa using h1
  | 2 => simpa using h2
  | 3 => simpa using h3
  | 4 => simpa using h4
  | 5 => simpa using h5
  | 6 => simpa using h6
  | 7 => simpa using h7
  | 8 => simpa using h8
  | 9 => simpa using h9
  | 10 => simpa using h10
  | i + 11 => simp [Array.getElem?_eq_none (show cs.size ≤ i + 11 by omega)]
set_option maxRecDepth 100000 in
theorem lifted (os : Os) (started : os.Started) (H : Type) (enc : TypeId × Value → H) :
    ReturnsInHanded {} Tryz.checked os 8 .any (Rows.distWakesSpec.pre6 enc Tryz.prog Tryz.f8 Rows.distWakesRow.domain false) (Rows.distWakesSpec.post enc Tryz.prog Tryz.f8 false true false false) := by
  refine returnsInHanded_of_change_sized (C := Tryz.checked) own_ started (by kernel_rfl) Tryz.func8
    (ChangeSpec.witness6 (enc := enc) (C := Tryz.checked) false ⟨#[], #[.int .u8 0, .slice none 0 0, .int .u8 0], []⟩ 8 (by kernel_rfl) (by kernel_rfl) (by kernel_rfl) (by kernel_rfl)) ?_
  intro W base args ds gs before hval0 hW hcnd hsz0 _
  have hval : ∀ (j : Nat) t v, Tryz.f8.params[j]? = some t → args[j]? = some v → Value.okWide Tryz.prog W .any base t v := hval0
  have hW' := hW
  obtain ⟨p, q, hA0, hV, rfl, hfz, hnd⟩ := hW
  have hA : DataW.TrodAll enc Tryz.prog W 0 (fun _ => true) true Tryz.f8.params.toList args.toList ds p := hA0
  rw [Tryz.params8] at hA hval
  obtain ⟨v0, vs0, d0, ds0, p0, q0, hargs, rfl, rfl, h0, r0⟩ := trodAll_cons hA
  obtain ⟨v1, vs1, d1, ds1, p1, q1, rfl, rfl, rfl, h1, r1⟩ := trodAll_cons r0
  obtain ⟨v2, vs2, d2, ds2, p2, q2, rfl, rfl, rfl, h2, r2⟩ := trodAll_cons r1
  obtain ⟨rfl, rfl, rfl⟩ := trodAll_nil r2
  obtain rfl : args = #[v0, v1, v2] := by cases args; simp_all
  obtain ⟨rfl, rfl⟩ := trodVars_none hV
  have k0 := h0
  have lt0 : ∀ x ∈ p0, x.block < W.heap.size := by obtain ⟨m, hm⟩ := k0; exact DataW.trod_lt m _ _ _ hm
  obtain ⟨a0, rfl, _, _, w0⟩ := open_int Tryz.underlying5 (hval 0 5 v0 rfl rfl) h0
  have b0 : IntKind.u8.min ≤ a0 ∧ a0 ≤ IntKind.u8.max := by simpa [Lit.wf] using w0
  have k1 := h1
  have lt1 : ∀ x ∈ p1, x.block < W.heap.size := by obtain ⟨m, hm⟩ := k1; exact DataW.trod_lt m _ _ _ hm
  obtain ⟨fu1, hfu1⟩ := h1
  obtain ⟨sa1, sl1, sc1, rfl⟩ := okWide_slice Tryz.underlying39 (hval 1 39 v1 rfl rfl)
  obtain ⟨pp1, n1, c1, cl1, A1, hv1, hn1, hr1, he1, hf1⟩ := open_slcL (L := [3, 3, 3, 3, 32, 33, 4, 4, 4, 4, 4]) Tryz.underlying39 (by kernel_rfl) (by kernel_rfl) (by decide) rfl hfu1
  obtain ⟨rfl, rfl, rfl⟩ : pp1 = sa1 ∧ n1 = sl1 ∧ c1 = sc1 := by simpa [eq_comm] using hv1
  clear hv1 hfu1
  have k2 := h2
  have lt2 : ∀ x ∈ p2, x.block < W.heap.size := by obtain ⟨m, hm⟩ := k2; exact DataW.trod_lt m _ _ _ hm
  obtain ⟨a2, rfl, _, _, w2⟩ := open_int Tryz.underlying5 (hval 2 5 v2 rfl rfl) h2
  have b2 : IntKind.u8.min ≤ a2 ∧ a2 ≤ IntKind.u8.max := by simpa [Lit.wf] using w2
  have hr1 : RdS W pp1 n1 11 cl1 A1 := hr1
  obtain ⟨ts1, tl1, rfl, tp1⟩ := Sl.decode (α := Sl.Ac) Sl.acC (Sl.acOk) 11 n1 cl1 hr1.1 (fun i hi => by
    obtain ⟨u0, e0, y0⟩ := hf1 i hi 0 _ rfl
    obtain ⟨x0, rfl, b0⟩ := isK_int Tryz.underlying3 y0
    obtain ⟨u1, e1, y1⟩ := hf1 i hi 1 _ rfl
    obtain ⟨x1, rfl, b1⟩ := isK_int Tryz.underlying3 y1
    obtain ⟨u2, e2, y2⟩ := hf1 i hi 2 _ rfl
    obtain ⟨x2, rfl, b2⟩ := isK_int Tryz.underlying3 y2
    obtain ⟨u3, e3, y3⟩ := hf1 i hi 3 _ rfl
    obtain ⟨x3, rfl, b3⟩ := isK_int Tryz.underlying3 y3
    obtain ⟨u4, e4, y4⟩ := hf1 i hi 4 _ rfl
    obtain ⟨x4, rfl, b4⟩ := isK_int Tryz.underlying32 y4
    obtain ⟨u5, e5, y5⟩ := hf1 i hi 5 _ rfl
    obtain ⟨x5, rfl, b5⟩ := isK_int Tryz.underlying33 y5
    obtain ⟨u6, e6, y6⟩ := hf1 i hi 6 _ rfl
    obtain ⟨x6, rfl⟩ := isK_bool Tryz.underlying4 y6
    obtain ⟨u7, e7, y7⟩ := hf1 i hi 7 _ rfl
    obtain ⟨x7, rfl⟩ := isK_bool Tryz.underlying4 y7
    obtain ⟨u8, e8, y8⟩ := hf1 i hi 8 _ rfl
    obtain ⟨x8, rfl⟩ := isK_bool Tryz.underlying4 y8
    obtain ⟨u9, e9, y9⟩ := hf1 i hi 9 _ rfl
    obtain ⟨x9, rfl⟩ := isK_bool Tryz.underlying4 y9
    obtain ⟨u10, e10, y10⟩ := hf1 i hi 10 _ rfl
    obtain ⟨x10, rfl⟩ := isK_bool Tryz.underlying4 y10
    obtain ⟨m4, rfl⟩ : ∃ m : Nat, x4 = (m : Int) := ⟨x4.toNat, by have := b4.1; simp [IntKind.min, IntKind.signed] at this; omega⟩
    exact ⟨(x0, x1, x2, x3, m4, x5, (x6, x7, x8, x9), x10), ⟨(by have := b3.2; simp [IntKind.max, IntKind.signed, IntKind.bits] at this; show x3 < 9223372036854775808; omega), (by have := b4.2; simp [IntKind.max, IntKind.signed, IntKind.bits] at this; show m4 < 2 ^ 64; omega)⟩, take11 e0 e1 e2 e3 e4 e5 e6 e7 e8 e9 e10⟩)
  refine ((Sl.law_wakes W hr1 (by simp [maxLen] at hn1; omega) tp1 (by have := b0.1; simp [IntKind.min, IntKind.signed, IntKind.bits] at this; omega) (by have := b0.2; simp [IntKind.max, IntKind.signed, IntKind.bits] at this; omega) (by have := b2.1; simp [IntKind.min, IntKind.signed, IntKind.bits] at this; omega) (by have := b2.2; simp [IntKind.max, IntKind.signed, IntKind.bits] at this; omega)).calls he1).mono fun e W' ⟨v, A', he, bel, hv, _⟩ => ?_
  subst hv
  subst he
  exact ⟨_, rfl, _, _, _, [], _, [], hW', trodAll_mk1 (shut_bool Tryz.underlying4 _), (trodAll_cons_mk (Below.trod laidOut (by kernel_rfl) (of_decide_eq_true (by kernel_rfl)) k0 bel lt0) (trodAll_cons_mk (Below.trod laidOut (by kernel_rfl) (of_decide_eq_true (by kernel_rfl)) k1 bel lt1) (trodAll_cons_mk (Below.trod laidOut (by kernel_rfl) (of_decide_eq_true (by kernel_rfl)) k2 bel lt2) trodAll_mk0))), rfl, bel.frame _, fun h => by cases h⟩
theorem over : Rows.distWakesRow.holds Tryz.pinned (OpenSpec.ofChange Rows.distWakesSpec) :=
  OpenClaim.holds_of_wide 8 Tryz.f8 rfl rfl rfl rfl rfl rfl rfl ⟨rfl, rfl, rfl, rfl, rfl⟩ rfl rfl rfl rfl rfl (by kernel_rfl) Tryz.func8 (by kernel_rfl)
    (of_decide_eq_true (by kernel_rfl)) (by unfold Func.isWrapper; first | (rw [if_pos (by decide +kernel)]; kernel_rfl) | (rw [if_neg (by decide +kernel)]; exact ⟨rfl, rfl⟩))
    (fun os started H enc _ => lifted os started H enc)
theorem proved : Rows.DistWakesSaid := over
end Go.Proofs.YtjphlcfplcacnaaGreat.distWakes
namespace Go.Proofs.YtjphlcfplcacnaaGreat
/-- The row, under a short name, for the claim. -/
theorem distWakes_holds : Rows.DistWakesSaid := distWakes.proved
end Go.Proofs.YtjphlcfplcacnaaGreat
