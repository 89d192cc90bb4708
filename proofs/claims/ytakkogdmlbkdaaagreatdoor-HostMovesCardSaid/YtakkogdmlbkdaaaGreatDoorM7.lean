/-
  Part 7 of the proof: contracts of the code's functions, and what is plain.
-/
import Derived.Test.YtakkogdmlbkdaaaGreatDoorM6
import Derived.Test.YtakkogdmlbkdaaaGreatDoorM4
import Derived.Test.YtakkogdmlbkdaaaGreatDoorM2
import Derived.Test.YtakkogdmlbkdaaaGreatDoorRows
import Derived.LaidLaws
import Derived.LaidMore
import Derived.LaidHandle
import Derived.MakeChecks
import Derived.OpenShut
set_option linter.unusedVariables false
set_option linter.unusedSimpArgs false
set_option maxRecDepth 10000
open Go Go.RowKit Go.Proofs
namespace Go.Proofs.YtakkogdmlbkdaaaGreatDoor.Sl
open Go Go.RowKit Go.Proofs Go.ChangeShapes Go.WideShapes Go.Deep
end Go.Proofs.YtakkogdmlbkdaaaGreatDoor.Sl
namespace Go.Proofs.YtakkogdmlbkdaaaGreatDoor.Sl.It
attribute [local irreducible] CW Tri OW
attribute [local irreducible] invK enK enV waitL
variable {T nc ns : Nat}
def evM (d e : Int) (s : Bool × Int) (y : Int × Int) : Bool × Int := if unkV y.1 = (d, e) then (true, 8192 + y.2) else s
theorem fold_M (d e v : Int) : ∀ (l : List (Int × Int)) (s : Bool × Int), (∀ y ∈ l, unkV y.1 = (d, e) → y.2 = v) → ((∃ y ∈ l, unkV y.1 = (d, e)) ∧ l.foldl (evM d e) s = (true, 8192 + v)) ∨ ((¬ ∃ y ∈ l, unkV y.1 = (d, e)) ∧ l.foldl (evM d e) s = s)
 | [], s, _ => .inr ⟨by simp, rfl⟩
 | y :: l, s, h => by
  rw [List.foldl_cons]
  rcases fold_M d e v l (evM d e s y) (fun z hz => h z (by simp [hz])) with ⟨⟨z, hz, hz2⟩, h2⟩ | ⟨h1, h2⟩
  ·exact .inl ⟨⟨z, by simp [hz], hz2⟩, h2⟩
  ·rw [h2]
   by_cases hy : unkV y.1 = (d, e)
   ·left
    refine ⟨⟨y, by simp, hy⟩, ?_⟩
    unfold evM
    rw [if_pos hy, h y (by simp) hy]
   ·right
    refine ⟨?_, ?_⟩
    ·rintro ⟨z, hz, hz2⟩
     rcases List.mem_cons.1 hz with rfl | hz
     ·exact hy hz2
     ·exact h1 ⟨z, hz, hz2⟩
    ·unfold evM
     rw [if_neg hy]
theorem SR.find {S : Sh} {de ev : List Int} (h : SR S de ev) (d e : Int) : S.ns.foldl (evM d e) (false, 0) = match fnd de ev d e with
  | some n => (true, 8192 + (n : Int))
  | none => (false, 0) := by
 have key : ∀ y ∈ S.ns, unkV y.1 = (d, e) → ∃ n : Nat, fnd de ev d e = some n ∧ y.2 = n := fun y hy hu => by
  have hk := h.kn y hy
  unfold unkV at hu
  rw [Int.tdiv_eq_ediv_of_nonneg (by omega), Int.tmod_eq_emod_of_nonneg (by omega), wrap_id (by omega) (by omega)] at hu
  simp only [Prod.mk.injEq] at hu
  obtain ⟨h1, h2⟩ := hu
  have hm : mayE d e = true := may_of (by omega)
  have hg := h.ns d e hm
  rw [ky_may hm, show 16 * d + e = y.1 by omega, (get_mem h.bn.1).2 (show (y.1, y.2) ∈ S.ns from hy)] at hg
  cases hf : fnd de ev d e with
  | none => rw [hf] at hg; cases hg
  | some n =>
   rw [hf] at hg
   exact ⟨n, rfl, by simpa using hg⟩
 cases hf : fnd de ev d e with
 | none =>
  rcases fold_M d e 0 S.ns (false, 0) (fun y hy hu => by obtain ⟨n, h1, _⟩ := key y hy hu; rw [hf] at h1; cases h1) with ⟨⟨y, hy, hu⟩, _⟩ | ⟨_, h2⟩
  ·obtain ⟨n, h1, _⟩ := key y hy hu; rw [hf] at h1; cases h1
  ·exact h2
 | some n =>
  rcases fold_M d e n S.ns (false, 0) (fun y hy hu => by obtain ⟨m, h1, h2⟩ := key y hy hu; rw [hf] at h1; cases h1; exact h2) with ⟨_, h2⟩ | ⟨h1, _⟩
  ·exact h2
  ·exfalso
   obtain ⟨hm, _, _, _⟩ := (fnd_iff h.un).1 hf
   have hl := may_lt hm
   have hg := h.ns d e hm
   rw [hf] at hg
   have hg2 : getB S.ns (kyV d e) = some (n : Int) := hg
   rw [ky_may hm] at hg2
   refine h1 ⟨(16 * d + e, n), (get_mem h.bn.1).1 hg2, ?_⟩
   unfold unkV
   simp only
   rw [Int.tdiv_eq_ediv_of_nonneg (by omega), Int.tmod_eq_emod_of_nonneg (by omega), wrap_id (by omega) (by omega)]
   exact Prod.ext (by simp only; omega) (by simp only; omega)
theorem bind_facts {R : Rx} (hu : Uni R.de R.ev) (k : R.ok ns nc) (hwa : ∀ n, n < 512 → R.wait.getD n false = true → 0 ≤ R.de.getD n 0) (d e c : Int) :
  ((R.bindV nc d e c).2.2 ≠ 0 ∧ (R.bindV nc d e c).2.1 = 0 ∧ (R.bindV nc d e c).1 = R) ∨
  (∃ n : Nat, (R.bindV nc d e c).2 = (8192 + (n : Int), 0) ∧ fnd R.de R.ev d e = some n ∧ (R.bindV nc d e c).1.wtsV d e = (match R.wts d e with | some _ => ibV (c, true) | none => ibV (0, false))) ∨
  (∃ n : Nat, (R.bindV nc d e c).2 = (8192 + (n : Int), 0) ∧ fnd R.de R.ev d e = none ∧ (R.bindV nc d e c).1.wtsV d e = ibV (0, false)) := by
 unfold Rx.bindV
 cases hr : rightV nc c with
 | false => exact .inl ⟨show (130 : Int) ≠ 0 by decide, rfl, rfl⟩
 | true =>
  simp only [if_true]
  cases hm : mayE d e with
  | false => exact .inl ⟨show (1 : Int) ≠ 0 by decide, rfl, rfl⟩
  | true =>
   simp only [if_true]
   cases hf : fnd R.de R.ev d e with
   | some n =>
    refine .inr (.inl ⟨n, rfl, rfl, ?_⟩)
    have hn := (fnd_eq hf).2.1
    unfold Rx.wtsV Rx.wts
    simp only
    rw [hf]
    simp only
    cases hw : R.wait.getD n false with
    | false => rfl
    | true =>
     simp only [if_true]
     rw [getI_set (by rw [k.core]; exact hn), if_pos rfl]
   | none =>
    simp only
    cases hi : frI R.de with
    | none => exact .inl ⟨show (2 : Int) ≠ 0 by decide, rfl, rfl⟩
    | some i =>
     obtain ⟨i5, ineg, _⟩ := frI_eq hi
     refine .inr (.inr ⟨i, rfl, trivial, ?_⟩)
     unfold Rx.wtsV Rx.wts
     simp only
     rw [fnd_bind k.de k.ev hu hm hf i5 ineg, if_pos ⟨rfl, rfl⟩]
     simp only
     rw [getB_set (by rw [k.wait]; exact i5), if_pos rfl]
     rfl
set_option maxHeartbeats 8000000 in
theorem law_moves (β : Base) (hG : TabOk β) {c : Nat} (hc : c < 256) {A : Atom} {q : Option Addr} {al : List At} (cp : Nat) (hS : SlR β A q al.length 5 (al.flatMap atC)) (hal : ∀ a ∈ al, atOk a) (hl : al.length ≤ 9223372036854775807) (d e co : Int) :
  Tri Tryz.prog β 7 [.int .u8 (c : Int), .slice q al.length cp, evX d e, .int .i64 co] [A] (fun v L => v = .bool true ∧ L = []) := by
 have c0 := awake10 β hG
 have c1 := played16 β hG (c := c) (s := 0) hc (by omega) cp hS hal hl
 rw [show ((0 : Nat) : Int) = 0 from rfl] at c1
 refine Tri.intro tt_ok Tryz.func7 rfl rfl Tryz.ntmps7 rfl fun F => ?_
 simp only [Nat.zero_mod] at c1
 generalize 1 + c % 8 = nc at c1
 (refine G tt_ok [] ?_; repeat (refine G1 tt_ok [] ?_; intro _))
 rename_i c6
 refine ke rfl rfl (c0) ?_
 refine G tt_ok [] ?_
 (refine ka rfl rfl (c1) ?_; rintro _ _ ⟨h, x, ⟨R, dm, hr⟩, rfl, rfl⟩; refine w_ ?_)
 refine G tt_ok [] ?_
 have t1 := hwaits22 β h x hr.hx d e
 rw [hr.wtv] at t1
 obtain ⟨z1, hz⟩ : ∃ z1, R.wtsV d e = ibV (z1, (R.wts d e).isSome) := by
  unfold Rx.wtsV
  cases R.wts d e with
  | none => exact ⟨_, rfl⟩
  | some n => exact ⟨_, rfl⟩
 rw [hz] at t1
 refine ke rfl rfl (t1) ?_
 (refine G tt_ok [] ?_; repeat (refine G1 tt_ok [] ?_; intro _))
 rename_i c14 c15
 (refine ka rfl rfl (events29 β h x hr.hx) ?_; rintro _ _ ⟨b3, b1, b2, r, dd, r2, d2, rfl, rfl⟩; refine w_ ?_)
 refine G tt_ok [] ?_
 have hI := iter122 β b3 b1 b2 r dd r2 d2 (bs := x.S.ns) (by have := hr.sr.ok.1; omega)
 have hfind := hr.sr.find d e
 have hsv : ∀ y ∈ x.S.ns, 0 ≤ y.2 ∧ y.2 < 512 := fun y hy => hr.sr.sv y.1 y.2 ((get_mem hr.sr.bn.1).2 hy)
 generalize x.S.ns = bs at hI hfind hsv ⊢
 unfold seL thL at hI ⊢
 refine CW.rangeA rfl hI (by repeat (first | exact .n | exact Rm.h | apply Tk.c | apply Rm.t)) (fun pre => [pt c14 [.bool (pre.foldl (evM d e) (false, 0)).1], pt c15 [.int .i64 (pre.foldl (evM d e) (false, 0)).2], pt c6 [.int .i64 d, .int .i64 e], hoA h nc x]) (fun _ _ => False) pk_ (fun _ => rfl) (by decide) ?_ ?_ (fun _ _ h => h.elim)
 ·intro pre y hpre lp fm rec1
  have hy5 := hsv y (hpre.subset (by simp))
  have hst : (pre ++ [y]).foldl (evM d e) (false, 0) = evM d e (pre.foldl (evM d e) (false, 0)) y := by rw [List.foldl_append]; rfl
  rw [hst]
  generalize pre.foldl (evM d e) (false, 0) = st
  obtain ⟨s1, s2⟩ := st
  unfold evM
  generalize hw : unkV y.1 = u
  obtain ⟨u1, u2⟩ := u
  simp only
  (refine G tt_ok [] ?_; repeat (refine G1 tt_ok [] ?_; intro _))
  intro fm2 rec2
  refine G tt_ok [] ?_
  refine SQ.eqs' tt_ok rfl rfl rfl (by kernel_rfl) (by kernel_rfl) (decide ((u1, u2) = (d, e))) (by rw [Bool.eq_iff_iff]; simp [hw]) ?_
  by_cases he : (u1, u2) = (d, e)
  ·rw [decide_eq_true he, if_pos he]
   refine G tt_ok [] ?_
   rw [show IntKind.i64.wrap (8192 + y.2) = 8192 + y.2 by rw [wrap_id (by omega) (by omega)]]
   exact pk_
  ·rw [decide_eq_false he, if_neg he]
   refine G tt_ok [] ?_
   exact pk_
 rw [hfind]
 have t2 := hbind30 β h x hr.hx d e co
 obtain ⟨dm2, r2, a2⟩ := hr.bind d e co
 rw [a2] at t2
 have t3 := hwaits22 β h _ r2.hx d e
 rw [r2.wtv] at t3
 rcases bind_facts hr.sr.un hr.rx hr.wa d e co with ⟨f1, f2, f3⟩ | ⟨n, f1, f2, f3⟩ | ⟨n, f1, f2, f3⟩
 ·rw [f3, hz] at t3
  generalize (R.bindV nc d e co).2 = p at t2 f1 f2
  obtain ⟨p1, p2⟩ := p
  simp only at f1 f2
  subst f2
  generalize (R.wts d e).isSome = w9 at t3 hz ⊢
  generalize hm9 : (match fnd R.de R.ev d e with | some n => (true, 8192 + (n : Int)) | none => (false, 0)) = m9
  obtain ⟨m1, m2⟩ := m9
  simp only
  refine G tt_ok [] ?_
  refine ke rfl rfl (t2) ?_
  refine G tt_ok [] ?_
  refine ke rfl rfl (t3) ?_
  refine G tt_ok [] ?_
  rw [show (p2 != 0) = true by simp [f1]]
  refine G tt_ok [] ?_
  rw [show (w9 == w9) = true by cases w9 <;> rfl]
  refine G tt_ok [] ?_
  exact CW.ret (fin_ret rfl (A := []) (Ent.dropAll _) ⟨rfl, rfl⟩)
 ·rw [f1] at t2
  rw [f2]
  simp only
  rw [f3] at t3
  cases hw : R.wts d e with
  | none =>
   rw [hw] at t3
   simp only at t3
   refine G tt_ok [] ?_
   refine ke rfl rfl (t2) ?_
   refine G tt_ok [] ?_
   refine ke rfl rfl (t3) ?_
   refine G tt_ok [] ?_
   rw [show (8192 + (n : Int) == 8192 + (n : Int)) = true by simp]
   refine G tt_ok [] ?_
   exact CW.ret (fin_ret rfl (A := []) (Ent.dropAll _) ⟨rfl, rfl⟩)
  | some m =>
   rw [hw] at t3
   simp only at t3
   refine G tt_ok [] ?_
   refine ke rfl rfl (t2) ?_
   refine G tt_ok [] ?_
   refine ke rfl rfl (t3) ?_
   refine G tt_ok [] ?_
   rw [show (co == co) = true by simp]
   refine G tt_ok [] ?_
   rw [show (8192 + (n : Int) == 8192 + (n : Int)) = true by simp]
   refine G tt_ok [] ?_
   exact CW.ret (fin_ret rfl (A := []) (Ent.dropAll _) ⟨rfl, rfl⟩)
 ·rw [f1] at t2
  have hw : R.wts d e = none := by unfold Rx.wts; rw [f2]
  rw [f2, hw]
  simp only
  rw [f3] at t3
  refine G tt_ok [] ?_
  refine ke rfl rfl (t2) ?_
  refine G tt_ok [] ?_
  refine ke rfl rfl (t3) ?_
  refine G tt_ok [] ?_
  exact CW.ret (fin_ret rfl (A := []) (Ent.dropAll _) ⟨rfl, rfl⟩)
end Go.Proofs.YtakkogdmlbkdaaaGreatDoor.Sl.It
namespace Go.Proofs.YtakkogdmlbkdaaaGreatDoor.Sl.It
set_option maxRecDepth 100000
theorem bys_get : ∀ (B : List Nat) (i : Nat), (bys B)[i]? = B[i]?.map fun b => Value.int .u8 (b : Int)
 | [], i => by simp [bys]
 | b :: r, 0 => rfl
 | b :: r, i + 1 => by
  have := bys_get r i
  show (bys r)[i]? = _
  rw [this]; rfl
@[reducible] def laidL : List (String × DataW Unit) := [("math/bits.deBruijn64tab", Rows.laid_math_bits_deBruijn64tab)]
theorem gTab : Tryz.prog.globalNamed "math/bits.deBruijn64tab" = some 0 := by kernel_rfl
theorem tTab : (Tryz.prog.globals[0]?).map (·.type) = some 313 := by kernel_rfl
theorem cTab : Tryz.prog.cellsOf 313 = 64 := by kernel_rfl
theorem cTab5 : Tryz.prog.cellsOf 5 = 1 := by kernel_rfl
theorem laid_is : (Rows.laid_math_bits_deBruijn64tab : DataW Unit) = .agg (tzT.map fun n : Nat => .lit (.int .u8 (n : Int))) := rfl
theorem tab_of_laid {W : World} (h : laidMetH Tryz.prog laidL W) : TabOk W := by
 rw [MakeChecks.laidMetH_plain _ _ _ (by kernel_rfl)] at h
 obtain ⟨ps, ⟨g, t, cs, fu, p, q, hg, ht, hv, hd, _, _⟩, _, _⟩ := h
 obtain rfl := Option.some.inj (gTab.symm.trans hg)
 obtain rfl := Option.some.inj (tTab.symm.trans ht)
 obtain ⟨xs, m, rfl, hx, hlen, hn, hel⟩ := DataW.trod_array Tryz.underlying313 hd
 rw [cTab] at hlen
 have hxs : xs.map (·.1) = tzT.map fun n : Nat => DataW.lit (.int .u8 (n : Int)) := by
  rw [laid_is] at hx
  injection hx with h1 _
  injection h1 with h1
  exact h1.symm
 have hcs : cs.toList = bys tzT := by
  apply List.ext_getElem?
  intro i
  rw [bys_get]
  by_cases hi : i < 64
  ·have h1 := hel i hi
   rw [cTab5] at h1
   obtain ⟨x, hx1⟩ : ∃ x, xs[i]? = some x := ⟨_, List.getElem?_eq_getElem (by rw [hn]; exact hi)⟩
   rw [hx1] at h1
   obtain ⟨n, e1, e2, _⟩ := DataW.trod_int Tryz.underlying5 h1
   have h2 : (xs.map (·.1))[i]? = some (.lit (.int .u8 n)) := by rw [List.getElem?_map, hx1, e2]; rfl
   rw [hxs, List.getElem?_map] at h2
   have h3 : cs.toList[i]? = some (.int .u8 n) := by
    have : ((cs.toList.drop (i * 1)).take 1)[0]? = some (.int .u8 n) := by rw [e1]; rfl
    rw [List.getElem?_take_of_lt (by omega), List.getElem?_drop] at this
    simpa using this
   rw [h3]
   cases hz : tzT[i]? with
   | none => rw [hz] at h2; cases h2
   | some z =>
    rw [hz] at h2
    simp only [Option.map_some, Option.some.injEq, DataW.lit.injEq, Lit.int.injEq, true_and] at h2
    rw [← h2]; rfl
  ·rw [List.getElem?_eq_none (by omega), List.getElem?_eq_none (by have : tzT.length = 64 := rfl; omega)]; rfl
 unfold World.var? at hv
 rw [gTab] at hv
 simp only [Option.bind_some] at hv
 cases hh : W.heap[0]? with
 | none => rw [hh] at hv; cases hv
 | some o =>
  rw [hh] at hv
  cases o with
  | cells c t fz =>
   simp only [Option.some.injEq] at hv
   subst hv
   refine ⟨(Array.getElem?_eq_some_iff.1 hh).1, t, fz, ?_⟩
   rw [hh, ← hcs]
  | _ => cases hv
noncomputable def laidWorld (os : Os) : World :=
 let w0 := World.holding Tryz.prog os ⟨#[], #[], []⟩
 { w0 with heap := w0.heap.modify 0 fun
   | .cells _ t frozen => .cells (bys tzT).toArray t frozen
   | o => o }
theorem laidWorld_met (os : Os) (args : Array Value) : laidMetH Tryz.prog laidL ((laidWorld os).forCall (fun _ _ => 0) ⟨#[], args, []⟩).memory := by
 rw [MakeChecks.laidMetH_plain _ _ _ (by kernel_rfl)]
 exact laidMet_of_run' 8 (by kernel_rfl) (by kernel_rfl)
end Go.Proofs.YtakkogdmlbkdaaaGreatDoor.Sl.It
