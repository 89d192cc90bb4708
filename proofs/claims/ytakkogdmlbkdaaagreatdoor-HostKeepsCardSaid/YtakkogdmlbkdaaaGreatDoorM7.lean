/-
  Part 7 of the proof: contracts of the code's functions, and what is plain.
-/
import Derived.Test.YtakkogdmlbkdaaaGreatDoorM6
import Derived.Test.YtakkogdmlbkdaaaGreatDoorM4
import Derived.Test.YtakkogdmlbkdaaaGreatDoorM2
import Derived.Test.YtakkogdmlbkdaaaGreatDoorRows
import Derived.LaidLaws
import Derived.LaidMore
import Derived.LaidHandle
import Derived.MakeChecks
import Derived.OpenShut
set_option linter.unusedVariables false
set_option linter.unusedSimpArgs false
set_option maxRecDepth 10000
open Go Go.RowKit Go.Proofs
namespace Go.Proofs.YtakkogdmlbkdaaaGreatDoor.Sl
open Go Go.RowKit Go.Proofs Go.ChangeShapes Go.WideShapes Go.Deep
theorem slc_cap {H : Type} {enc : TypeId × Value → H} {P : Program} {W : World} {t e : TypeId} {fuel : Nat} {v : Value} {x : DataW H × List MemPlace} {base : Nat} {spare : Nat → Bool} {held : Bool} (ht : P.underlying t = some (.slice e))
  (hv : v.cells.toList = [v]) (h : DataW.trod enc P W base spare held fuel t v.cells.toList = some x) {p : Option Addr} {n c : Nat} (hs : v = .slice p n c) : n ≤ c := by
 rw [hv] at h
 rcases open_slice ht h with ⟨h0, _⟩ | ⟨a, len, cap, m, k, D, Pl, hcs, hb, hl, hm, hmm, hx, hi⟩
 ·simp only [List.cons.injEq, and_true] at h0
  rw [hs] at h0
  injection h0 with _ h1 h2; omega
 ·simp only [List.cons.injEq, and_true] at hcs
  rw [hs] at hcs
  injection hcs with _ h1 h2; omega
theorem sliced_0 (q : Option Addr) (hi c sz : Nat) : sliced q 0 hi c sz = .slice q hi c := by
 unfold sliced
 have : q.map (·.add (0 * sz)) = q := by
  cases q with
  | none => rfl
  | some a => obtain ⟨b, o, s⟩ := a; simp [Addr.add]
 rw [this]; simp
theorem slr_take {β : Base} {A : Atom} {q : Option Addr} {n m sz : Nat} {cs : List Value} (h : SlR β A q n sz cs) (hm : m ≤ n) : SlR β A q m sz (cs.take (m * sz)) := fun hp a => by
 rcases h hp a with h0 | ⟨g, off, cur, hq, ht, hh⟩
 ·exact .inl (by omega)
 ·refine .inr ⟨g, off, cur, hq, ?_, hh⟩
  rw [← ht, List.take_take, Nat.min_eq_left (Nat.mul_le_mul_right sz hm)]
end Go.Proofs.YtakkogdmlbkdaaaGreatDoor.Sl
namespace Go.Proofs.YtakkogdmlbkdaaaGreatDoor.Sl.It
attribute [local irreducible] CW Tri OW
attribute [local irreducible] invK enK enV waitL
variable {T nc ns : Nat}
theorem bys_map (B : List Nat) : bys B = (B.map fun (b : Nat) => (b : Int)).map (Value.int .u8) := by
 unfold bys
 induction B with
 | nil => rfl
 | cons b B ih => rw [List.flatMap_cons, ih]; rfl
theorem bys_take (B : List Nat) (m : Nat) : (bys B).take (m * 1) = bys (B.take m) := by
 rw [bys_map, bys_map, Nat.mul_one, List.map_take, List.map_take]
theorem putN_ks {B : List Nat} {A : Nat} {C : List Nat} (h : A + C.length ≤ B.length) : KS (fun a => a < A) B (putN B A C) := by
 refine ⟨putN_len h, fun i hi => ?_⟩
 unfold putN
 rw [List.append_assoc, List.getElem?_append_left (by simp; omega), List.getElem?_take_of_lt hi]
theorem putN_by {B : List Nat} {A : Nat} {C : List Nat} (hB : byOk B) (hC : byOk C) : byOk (putN B A C) := fun b hb => by
 unfold putN at hb
 rcases List.mem_append.1 hb with hb | hb
 ·rcases List.mem_append.1 hb with hb | hb
  ·exact hB b (List.mem_of_mem_take hb)
  ·exact hC b hb
 ·exact hB b (List.mem_of_mem_drop hb)
theorem Rel.put {x : Hx} {R : Rx} {dm : Nat → Bool} {Z : List Nat} (h : Rel T ns nc x R dm Z) {C : List Nat} (hC : 11264 + C.length ≤ T) (hb : byOk C) : Rel T ns nc (x.setW ⟨putN x.iw.w.B 11264 C, x.iw.w.cs⟩) R dm ((putN x.iw.w.B 11264 C).drop 11264) := by
 have hl := h.wr.ok.1
 have ks := putN_ks (B := x.iw.w.B) (A := 11264) (C := C) (by rw [hl.1]; exact hC)
 refine ⟨h.rx, h.n1, h.st, h.ij, h.j32, ⟨⟨by show okT T (putN x.iw.w.B 11264 C).length; rw [ks.1]; exact hl, putN_by h.wr.ok.2.1 hb, h.wr.ok.2.2⟩, h.wr.n8, h.wr.mt.ks ks (fun a h1 h2 => by omega) h.wr.n8, fun k hk => ?_, h.wr.cf, rfl⟩, h.dr, h.fl, h.fs, h.sr, h.co, h.wa⟩
 exact WtK.congr (w' := ⟨putN x.iw.w.B 11264 C, x.iw.w.cs⟩) (h.wr.wt k hk) rfl rfl (ks.mono fun a ha => by omega) (ok_at h.wr.ok hk).2.2
end Go.Proofs.YtakkogdmlbkdaaaGreatDoor.Sl.It
namespace Go.Proofs.YtakkogdmlbkdaaaGreatDoor.Sl.It
attribute [local irreducible] CW Tri OW
@[reducible] def pk6 : List (Nat × Plan) := [(8, [(0, 0, []), (1, 0, []), (2, 0, []), (3, 0, []), (4, 0, []), (5, 0, []), (6, 0, []), (7, 0, []), (8, 0, []), (9, 0, []), (10, 0, []), (11, 0, []), (12, 1, [3, 4, 9])]), (9, [(0, 0, []), (1, 0, []), (2, 0, []), (3, 0, []), (4, 0, []), (5, 1, [3, 4]), (6, 0, []), (7, 0, []), (8, 0, []), (9, 0, []), (10, 0, [])]), (14, [(0, 0, []), (1, 0, []), (2, 0, []), (3, 0, []), (4, 0, []), (5, 1, [3, 4]), (6, 0, []), (7, 0, []), (8, 0, []), (9, 0, []), (10, 0, [])])]
attribute [local irreducible] invK enK enV waitL
variable {T nc ns : Nat}
set_option maxHeartbeats 16000000 in
theorem law_keeps (β : Base) (hG : TabOk β) {c s : Nat} (hc : c < 256) (hs : s < 256) {A : Atom} {q : Option Addr} {al : List At} (cp : Nat) (hS : SlR β A q al.length 5 (al.flatMap atC)) (hal : ∀ a ∈ al, atOk a) (hl : al.length ≤ 9223372036854775807)
  {A2 : Atom} {q2 : Option Addr} {C : List Nat} (cp2 : Nat) (hS2 : SlR β A2 q2 C.length 1 (bys C)) (hC : byOk C) (hcp : C.length ≤ cp2) (hl2 : C.length ≤ 9223372036854775807) :
  Tri Tryz.prog β 6 [.int .u8 (c : Int), .int .u8 (s : Int), .slice q al.length cp, .slice q2 C.length cp2] [A, A2] (fun v L => v = .bool true ∧ L = []) := by
 have c0 := awake10 β hG
 have c1 := both25 β hc hs
 have hat : ∀ k, k < al.length → ∃ a, al[k]? = some a ∧ atOk a := fun k hk => ⟨al[k], List.getElem?_eq_getElem hk, hal _ (List.getElem_mem hk)⟩
 obtain ⟨C', hC'⟩ : ∃ C', C' = C.take (min C.length 736) := ⟨_, rfl⟩
 have hCl : C'.length = min C.length 736 := by rw [hC', List.length_take]; omega
 have hCb : byOk C' := fun b hb => by rw [hC'] at hb; exact hC b (List.mem_of_mem_take hb)
 have hS3 : SlR β A2 q2 C'.length 1 (bys C') := by
  have h1 := slr_take hS2 (m := min C.length 736) (by omega)
  rw [bys_take, ← hC', ← hCl] at h1
  exact h1
 refine Tri.intro tt_ok Tryz.func6 rfl rfl Tryz.ntmps6 rfl fun F => ?_
 generalize hn : al.length = n at hS hl hat ⊢
 generalize hns : s % 65 = ns at c1
 generalize hnc : 1 + c % 8 = nc at c1
 refine G tt_ok pk6 ?_
 refine ke rfl rfl (c0) ?_
 refine G tt_ok pk6 ?_
 (refine ka rfl rfl (c1) ?_; rintro _ _ ⟨h, r, x0, hr0, rfl, rfl⟩; refine w_ ?_)
 refine G tt_ok pk6 ?_
 refine SQ.ent _ (rm_ (A := hoA h nc x0) (Ent.refl _)) ?_
 unfold hoA
 refine SQ.open_ fun a => ?_
 refine SQ.pure_ fun ha => ?_
 unfold hL hRow
 have hB := hr0.wr.ok.1
 have hput := mput26 β a.m a.g (B := x0.iw.w.B) (A := 11264) (W := 736) (S := A2) (q := q2) (C := C') (by omega) (by omega) cp2 hS3 (by omega) (by omega)
 unfold memA at hput
 have hcl : (putN x0.iw.w.B 11264 C').length = x0.iw.w.B.length := putN_len (by omega)
 rw [hcl] at hput
 have hrel := hr0.put (C := C') (by omega) hCb
 have hby := mbytes27 β a.m a.g (B := putN x0.iw.w.B 11264 C') (A := 11264) (W := 736) (by omega) (by omega) (by omega)
 unfold memA at hby
 rw [hcl] at hby
 rw [show ((11264 : Nat) : Int) = 11264 from rfl, show ((736 : Nat) : Int) = 736 from rfl] at hput hby
 obtain ⟨B1, hB1⟩ : ∃ B1, B1 = putN x0.iw.w.B 11264 C' := ⟨_, rfl⟩
 rw [← hB1] at hput hby hrel hcl
 obtain ⟨Z1, hZ1⟩ : ∃ Z1, Z1 = B1.drop 11264 := ⟨_, rfl⟩
 rw [← hZ1] at hrel hby
 have hZl : Z1.length = 736 := by rw [hZ1, List.length_drop, hcl]; omega
 have hmin : (if (736 : Int) < (C.length : Int) then (736 : Int) else (C.length : Int)) = ((min C.length 736 : Nat) : Int) := by split <;> omega
 (refine G tt_ok pk6 ?_; repeat (refine G1 tt_ok pk6 ?_; intro _))
 rename_i c12
 rw [hmin]
 refine SQ.slcH tt_ok rfl rfl (min C.length 736) rfl (by omega) (sliced_0 _ _ _ _) ?_
 rw [← hCl]
 refine G tt_ok pk6 ?_
 refine ke rfl rfl (hput) ?_
 refine G tt_ok pk6 ?_
 (refine ka rfl rfl (hby) ?_; rintro _ _ ⟨b1, X1, rfl, rfl⟩; refine w_ ?_)
 refine G tt_ok pk6 ?_
 refine CW.loop (α := Nat × Hx × Rx × (Nat → Bool)) (fun y => y.1 ≤ n ∧ Rel 12000 ns nc y.2.1 y.2.2.1 y.2.2.2 Z1) (fun y => [(15, .int .i64 y.1), (10, .pointer (some ⟨h, 0, none⟩)), (11, .pointer (some ⟨r, 0, none⟩)), (2, .slice q n cp), (12, .pointer (some ⟨c12, 0, none⟩)), (13, .slice (some ⟨b1, 0, none⟩) 736 (736 + X1.length)), (14, .int .i64 0)])
  (fun y => [hoA h nc y.2.1, rfA r ns nc y.2.2.1, A, pt c12 [.int .i64 11264, .int .i64 736], pt b1 (bys (Z1.take 736) ++ X1)]) (fun y => n - y.1) (0, x0.setW ⟨B1, x0.iw.w.cs⟩, _, _) ⟨Nat.zero_le _, hrel⟩ ⟨rfl, rfl, rfl, rfl, rfl, rfl, rfl, trivial⟩ ?_ ?_
 ·refine Ent.trans (M := hL h a nc (x0.setW ⟨B1, x0.iw.w.cs⟩) ++ [rfA r ns nc (rx0 ns nc), A, pt c12 [.int .i64 11264, .int .i64 736], pt b1 (bys (Z1.take 736) ++ X1)]) ?_ (Ent.append (ho_shut ha) (Ent.refl _))
  unfold hL hRow Hx.setW
  dsimp only
  rw [hcl]
  exact pk_
 rintro ⟨k, x, R, dm⟩ ⟨hk, hr⟩
 simp only at hk hr ⊢
 refine G tt_ok pk6 ?_
 by_cases hlt : k < n
 ·rw [decide_eq_true (show (k : Int) < (n : Int) by omega)]
  have hwr : IntKind.i64.wrap ((k : Int) + 1) = ((k + 1 : Nat) : Int) := by rw [wrap_id (by omega) (by omega)]; simp
  obtain ⟨a', hka, hok⟩ := hat k hlt
  obtain ⟨dm', hr'⟩ := hr.act a'
  have cd := does28 β hG h r hr a' hok.2
  refine G tt_ok pk6 ?_
  (refine SQ.idxG tt_ok rfl rfl (hS) (by repeat (first | exact .h | apply AtA.t)) (k) (rfl) (hlt) rfl ?_)
  refine G tt_ok pk6 ?_
  (refine SQ.ldG tt_ok rfl rfl (hS) (by repeat (first | exact .h | apply AtA.t)) (by omega) (fun cur hcs => at_cur hcs hka) ?_)
  refine G tt_ok pk6 ?_
  refine ke rfl rfl (cd) ?_
  refine G tt_ok pk6 ?_
  exact ⟨(k + 1, x.act nc a', R.actR ns nc a', dm'), ⟨by simp only; omega, hr'⟩, by simp only; omega, ⟨by rw [← hwr]; rfl, rfl, rfl, rfl, rfl, rfl, rfl, trivial⟩, pk_⟩
 ·rw [decide_eq_false (show ¬ (k : Int) < (n : Int) by omega)]
  refine G tt_ok pk6 ?_
  refine CW.exit ?_
  refine G tt_ok pk6 ?_
  refine SQ.ent _ (rm_ (A := hoA h nc x) (Ent.refl _)) ?_
  unfold hoA
  refine SQ.open_ fun g => ?_
  refine SQ.pure_ fun hg => ?_
  unfold hL hRow
  have hB2 := hr.wr.ok.1
  have hby2 := mbytes27 β g.m g.g (B := x.iw.w.B) (A := 11264) (W := 736) (by omega) (by omega) (by omega)
  unfold memA at hby2
  rw [show ((11264 : Nat) : Int) = 11264 from rfl, show ((736 : Nat) : Int) = 736 from rfl, hr.wr.zz] at hby2
  refine G tt_ok pk6 ?_
  (refine ka rfl rfl (hby2) ?_; rintro _ _ ⟨b2, X2, rfl, rfl⟩; refine w_ ?_)
  refine G tt_ok pk6 ?_
  have hl9 : ((Z1.take 736).map fun (b : Nat) => (b : Int)).length = 736 := by rw [List.length_map, List.length_take]; omega
  have hsl : ∀ (b : Nat) (X : List Value), SlR β (pt b (bys (Z1.take 736) ++ X)) (some ⟨b, 0, none⟩) 736 1 (((Z1.take 736).map fun (b : Nat) => (b : Int)).map (Value.int .u8)) := fun b X => slr_pt (by
   rw [← bys_map, List.drop_zero]
   have : (bys (Z1.take 736)).length = 736 := by rw [bys_len, List.length_take]; omega
   generalize bys (Z1.take 736) = Y at this
   rw [← this]; exact List.take_left)
  refine SQ.bstr tt_ok rfl rfl (hsl b1 X1) (by repeat (first | exact .h | apply AtA.t)) hl9 (by exact trivial) ?_
  refine G tt_ok pk6 ?_
  refine SQ.bstr tt_ok rfl rfl (hsl b2 X2) (by repeat (first | exact .h | apply AtA.t)) hl9 (by exact trivial) ?_
  refine G tt_ok pk6 ?_
  rw [beq_self_eq_true]
  refine G tt_ok pk6 ?_
  exact CW.ret (fin_ret rfl (A := []) (Ent.dropAll _) ⟨rfl, rfl⟩)
end Go.Proofs.YtakkogdmlbkdaaaGreatDoor.Sl.It
namespace Go.Proofs.YtakkogdmlbkdaaaGreatDoor.Sl.It
set_option maxRecDepth 100000
theorem bys_get : ∀ (B : List Nat) (i : Nat), (bys B)[i]? = B[i]?.map fun b => Value.int .u8 (b : Int)
 | [], i => by simp [bys]
 | b :: r, 0 => rfl
 | b :: r, i + 1 => by
  have := bys_get r i
  show (bys r)[i]? = _
  rw [this]; rfl
@[reducible] def laidL : List (String × DataW Unit) := [("math/bits.deBruijn64tab", Rows.laid_math_bits_deBruijn64tab)]
theorem gTab : Tryz.prog.globalNamed "math/bits.deBruijn64tab" = some 0 := by kernel_rfl
theorem tTab : (Tryz.prog.globals[0]?).map (·.type) = some 313 := by kernel_rfl
theorem cTab : Tryz.prog.cellsOf 313 = 64 := by kernel_rfl
theorem cTab5 : Tryz.prog.cellsOf 5 = 1 := by kernel_rfl
theorem laid_is : (Rows.laid_math_bits_deBruijn64tab : DataW Unit) = .agg (tzT.map fun n : Nat => .lit (.int .u8 (n : Int))) := rfl
theorem tab_of_laid {W : World} (h : laidMetH Tryz.prog laidL W) : TabOk W := by
 rw [MakeChecks.laidMetH_plain _ _ _ (by kernel_rfl)] at h
 obtain ⟨ps, ⟨g, t, cs, fu, p, q, hg, ht, hv, hd, _, _⟩, _, _⟩ := h
 obtain rfl := Option.some.inj (gTab.symm.trans hg)
 obtain rfl := Option.some.inj (tTab.symm.trans ht)
 obtain ⟨xs, m, rfl, hx, hlen, hn, hel⟩ := DataW.trod_array Tryz.underlying313 hd
 rw [cTab] at hlen
 have hxs : xs.map (·.1) = tzT.map fun n : Nat => DataW.lit (.int .u8 (n : Int)) := by
  rw [laid_is] at hx
  injection hx with h1 _
  injection h1 with h1
  exact h1.symm
 have hcs : cs.toList = bys tzT := by
  apply List.ext_getElem?
  intro i
  rw [bys_get]
  by_cases hi : i < 64
  ·have h1 := hel i hi
   rw [cTab5] at h1
   obtain ⟨x, hx1⟩ : ∃ x, xs[i]? = some x := ⟨_, List.getElem?_eq_getElem (by rw [hn]; exact hi)⟩
   rw [hx1] at h1
   obtain ⟨n, e1, e2, _⟩ := DataW.trod_int Tryz.underlying5 h1
   have h2 : (xs.map (·.1))[i]? = some (.lit (.int .u8 n)) := by rw [List.getElem?_map, hx1, e2]; rfl
   rw [hxs, List.getElem?_map] at h2
   have h3 : cs.toList[i]? = some (.int .u8 n) := by
    have : ((cs.toList.drop (i * 1)).take 1)[0]? = some (.int .u8 n) := by rw [e1]; rfl
    rw [List.getElem?_take_of_lt (by omega), List.getElem?_drop] at this
    simpa using this
   rw [h3]
   cases hz : tzT[i]? with
   | none => rw [hz] at h2; cases h2
   | some z =>
    rw [hz] at h2
    simp only [Option.map_some, Option.some.injEq, DataW.lit.injEq, Lit.int.injEq, true_and] at h2
    rw [← h2]; rfl
  ·rw [List.getElem?_eq_none (by omega), List.getElem?_eq_none (by have : tzT.length = 64 := rfl; omega)]; rfl
 unfold World.var? at hv
 rw [gTab] at hv
 simp only [Option.bind_some] at hv
 cases hh : W.heap[0]? with
 | none => rw [hh] at hv; cases hv
 | some o =>
  rw [hh] at hv
  cases o with
  | cells c t fz =>
   simp only [Option.some.injEq] at hv
   subst hv
   refine ⟨(Array.getElem?_eq_some_iff.1 hh).1, t, fz, ?_⟩
   rw [hh, ← hcs]
  | _ => cases hv
noncomputable def laidWorld (os : Os) : World :=
 let w0 := World.holding Tryz.prog os ⟨#[], #[], []⟩
 { w0 with heap := w0.heap.modify 0 fun
   | .cells _ t frozen => .cells (bys tzT).toArray t frozen
   | o => o }
theorem laidWorld_met (os : Os) (args : Array Value) : laidMetH Tryz.prog laidL ((laidWorld os).forCall (fun _ _ => 0) ⟨#[], args, []⟩).memory := by
 rw [MakeChecks.laidMetH_plain _ _ _ (by kernel_rfl)]
 exact laidMet_of_run' 8 (by kernel_rfl) (by kernel_rfl)
end Go.Proofs.YtakkogdmlbkdaaaGreatDoor.Sl.It
