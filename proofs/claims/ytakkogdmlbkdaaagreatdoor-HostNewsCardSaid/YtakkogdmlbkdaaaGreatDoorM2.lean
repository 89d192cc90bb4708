/-
  Part 2 of the proof: contracts of the code's functions, and what is plain.
-/
import Derived.Test.YtakkogdmlbkdaaaGreatDoorM1
import Derived.Test.YtakkogdmlbkdaaaGreatDoorL9
import Derived.Shelf.GgSortFunc.InsertionK
import Derived.Shelf.Spec.SlicesInsertGrow
import Derived.Shelf.Slices.Cells
import Derived.Shelf.Slices.SearchI
import Derived.Shelf.Slices.Empties
import Derived.Test.YtakkogdmlbkdaaaGreatDoorProg
import Derived.Laws.CopyRow
import Derived.Laws.IdiomCopy
import Derived.Laws.Slices
set_option linter.unusedVariables false
set_option linter.unusedSimpArgs false
set_option maxRecDepth 10000
open Go Go.RowKit Go.Proofs
namespace Go.Proofs.YtakkogdmlbkdaaaGreatDoor.Sl.It
attribute [local irreducible] CW Tri OW
@[reducible] def pk221 : List (Nat × Plan) := [(1, [(0, 0, []), (1, 0, []), (2, 0, []), (3, 0, []), (4, 0, []), (5, 0, []), (6, 0, []), (7, 1, [0, 3, 4, 6]), (8, 0, []), (9, 0, []), (10, 0, []), (11, 2, []), (12, 1, []), (13, 0, [])]), (5, [(0, 0, []), (1, 0, []), (2, 0, []), (3, 1, [1, 2]), (4, 0, []), (5, 0, []), (6, 2, []), (7, 1, [])]), (6, [(0, 0, []), (1, 0, []), (2, 0, []), (3, 0, []), (4, 0, []), (5, 1, [1, 3, 4]), (6, 0, []), (7, 0, []), (8, 0, []), (9, 0, []), (10, 0, []), (11, 0, []), (12, 0, []), (13, 0, []), (14, 1, [1, 3, 4, 8, 9, 13]), (15, 0, []), (16, 0, []), (17, 0, []), (18, 0, []), (19, 0, []), (20, 0, []), (21, 0, []), (22, 1, [1, 3, 4, 8, 9, 13, 17, 18, 21]), (23, 0, []), (24, 0, []), (25, 0, []), (26, 0, []), (27, 0, []), (28, 0, []), (29, 0, []), (30, 0, []), (31, 1, [1, 3, 4, 8, 9, 13, 17, 18, 21, 25, 26, 30]), (32, 0, []), (33, 0, [])]), (15, [(0, 0, []), (1, 0, []), (2, 0, []), (3, 0, []), (4, 0, []), (5, 0, []), (6, 0, []), (7, 0, []), (8, 1, [0, 3, 4, 6, 7]), (9, 0, [])])]
attribute [local irreducible] invK enK enV waitL
variable {T nc : Nat}
def badW (n : Nat) (v : Bool) (b a : Int) : Bool := v && (!holdsV n a (8 * evN b) || (meetV a (8 * evN b) 1024 256 || (meetV a (8 * evN b) 1792 64 || meetV a (8 * evN b) 0 1024)))
def fgA (d : Dv) (w : SW) : SW := if d.1 then (routesL d (fgV d) (evC d) w).foldl (fgV d) w else w
theorem fgA_ok {d : Dv} (hd : okDv d) {w : SW} (hw : w.ok T nc) : (fgA d w).ok T nc := by
  unfold fgA
  split
  · exact foldE_ok (fun w x h0 h1 h2 h => fgV_ok hd w x h0 h1 h2 h) hw (routesL_in d _ _ _)
  · exact hw
def wpV (v : Bool) (b a : Int) (B : List Nat) : List Nat := if v then wipeN B a.toNat (8 * evN b).toNat else B
def mapdV (p : Int) (w : SW) (c : Cm) : SW × Int := if (tabGet w.B 1024 256 p c.2.1).2 ≠ 0 then (w, (tabGet w.B 1024 256 p c.2.1).2) else
  if badW w.B.length c.2.2.2.2.2.2.2.2 c.2.2.2.2.2.2.1 c.2.2.2.2.2.2.2.1 then (w, 180) else
  (⟨(tabPut (wpV c.2.2.2.2.2.2.2.2 c.2.2.2.2.2.2.1 c.2.2.2.2.2.2.2.1 (fgA (tabGet w.B 1024 256 p c.2.1).1 w).B) 1024 256 p c.2.1 (c.2.2.2.2.2.2.2.2, c.2.2.2.2.2.2.1, c.2.2.2.2.2.2.2.1)).1, (fgA (tabGet w.B 1024 256 p c.2.1).1 w).cs⟩,
   (tabPut (wpV c.2.2.2.2.2.2.2.2 c.2.2.2.2.2.2.1 c.2.2.2.2.2.2.2.1 (fgA (tabGet w.B 1024 256 p c.2.1).1 w).B) 1024 256 p c.2.1 (c.2.2.2.2.2.2.2.2, c.2.2.2.2.2.2.1, c.2.2.2.2.2.2.2.1)).2)
theorem holds_in {n : Nat} {a s : Int} (h : holdsV n a s = true) (hs : 0 < s) : ∃ A W : Nat, a = (A : Int) ∧ s = (W : Int) ∧ 0 < W ∧ A + W ≤ n := by
  unfold holdsV at h
  simp only [Bool.and_eq_true, decide_eq_true_eq] at h
  exact ⟨a.toNat, s.toNat, by omega, by omega, by omega, by omega⟩
theorem holds_dv {n : Nat} (h : okT T n) : holdsV n 1024 256 = true := by
  unfold holdsV; simp; omega
theorem wipe_ok {B : List Nat} (hb : byOk B) {A W : Nat} : byOk (wipeN B A W) := fun b h => by
  unfold wipeN at h
  simp only [List.mem_append, List.mem_replicate] at h
  rcases h with (h | h) | h
  · exact hb b (List.mem_of_mem_take h)
  · omega
  · exact hb b (List.mem_of_mem_drop h)
set_option maxHeartbeats 8000000 in
theorem mapd33 (β : Base) (s : Sr) (m : Nat) (g : Gr) {ps : List Nat} {A : Atom} {q : Option Addr} (cp : Nat) (hS : TsOk β A q ps nc) {p : Int} (hp : p = 0 ∨ p = 64) {w : SW} (hw : w.ok T nc) (on st : Bool) (i j : Nat) (c : Cm) (hb0 : 0 ≤ c.2.2.2.2.2.2.1) (hb1 : c.2.2.2.2.2.2.1 ≤ 31) (hpt : okPut (c.2.2.2.2.2.2.2.2, c.2.2.2.2.2.2.1, c.2.2.2.2.2.2.2.1)) :
    Tri Tryz.prog β 221 [.pointer (some ⟨s.1, 4, none⟩), .pointer (some ⟨m, 0, none⟩), .slice q nc cp, .agg #[.int .i64 c.1, .int .i64 c.2.1, .int .i64 c.2.2.1, .int .i64 c.2.2.2.1, .int .i64 c.2.2.2.2.1, .int .i64 c.2.2.2.2.2.1, .int .i64 c.2.2.2.2.2.2.1, .int .i64 c.2.2.2.2.2.2.2.1, .bool c.2.2.2.2.2.2.2.2]] (pt s.1 (itH s.2 on st i j p) :: A :: swA m g ps w) (fun u L => u = .int .i64 (mapdV p w c).2 ∧ L = pt s.1 (itH s.2 on st i j p) :: A :: swA m g ps (mapdV p w c).1) := by
  refine Tri.intro tt_ok Tryz.func221 rfl rfl Tryz.ntmps221 rfl fun F => ?_
  obtain ⟨op, dev, ev, num, coll, tgt, b, a, v⟩ := c
  unfold mapdV
  simp only at hb0 hb1 hpt ⊢
  have hwB := hw.1
  have hh : holdsV w.B.length 1024 256 = true := holds_dv hwB
  have hev := evN_le hb1
  have hW : IntKind.i64.wrap (8 * evN b) = 8 * evN b := wrap_id (by omega) (by omega)
  (refine G tt_ok pk221 ?_; repeat (refine G1 tt_ok pk221 ?_; intro _))
  rename_i c4 c5 c6 c7
  refine ke rfl rfl (get75 β m g w.B (by have := hw.1; omega) hw.2.1 hp hh dev) ?_
  have hdk := tabGet_ok w.B 1024 256 p dev
  have hfk := fgA_ok hdk hw
  generalize hgx : tabGet w.B 1024 256 p dev = x at hdk hfk ⊢
  obtain ⟨d, e⟩ := x
  simp only at hdk hfk ⊢
  (refine G tt_ok pk221 ?_; repeat (refine G1 tt_ok pk221 ?_; intro _))
  rename_i c9
  by_cases he : e = 0
  · subst he
    rw [if_neg (by simp)]
    (refine G tt_ok pk221 ?_; repeat (refine G1 tt_ok pk221 ?_; intro _))
    rename_i c11
    refine ke rfl rfl (events76 β v a hb0 hb1) ?_
    (refine G tt_ok pk221 ?_; repeat (refine G1 tt_ok pk221 ?_; intro _))
    rw [hW]
    refine G tt_ok pk221 ?_
    rename_i c12
    have hbw : badW w.B.length v b a = (v && (!holdsV w.B.length a (8 * evN b) || (meetV a (8 * evN b) 1024 256 || (meetV a (8 * evN b) 1792 64 || meetV a (8 * evN b) 0 1024)))) := rfl
    rw [hbw]
    unfold wpV
    cases v with
    | false =>
      rw [Bool.false_and, if_neg (by simp), if_neg (by simp)]
      refine G tt_ok pk221 ?_
      have hd1 : ∀ z, d.1 = z → (z, d.2) = d := fun z hz => by rw [← hz]
      cases hd : d.1 with
      | false =>
        have hfe : fgA d w = w := by unfold fgA; rw [hd]; rfl
        rw [hfe] at hfk ⊢
        refine G tt_ok pk221 ?_
        refine ke rfl rfl (put81 β m g (w).B (by have := hfk.1; omega) hfk.2.1 hp (holds_dv hfk.1) dev (false, b, a) hpt) ?_
        refine G tt_ok pk221 ?_
        exact CW.ret (fin_ret rfl pk_ ⟨rfl, rfl⟩)
      | true =>
        have hfe : fgA d w = (routesL d (fgV d) (evC d) w).foldl (fgV d) w := by unfold fgA; rw [hd]; rfl
        refine G tt_ok pk221 ?_
        have hr78 := routes78 β m d
        rw [hd] at hr78
        (refine ka rfl rfl (hr78) ?_; rintro _ _ ⟨b2, b3, rfl, rfl⟩; refine w_ ?_)
        refine G tt_ok pk221 ?_
        have hI := iter130 β m g b2 b3 ps (fun w x h0 h1 h2 h => fgV_ok hdk w x h0 h1 h2 h) hw d hdk
        rw [hd] at hI
        refine CW.ent (L' := (pt b2 [.bool true, .int .i64 d.2.1, .int .i64 d.2.2] :: pt b3 [.pointer (some ⟨m, 0, none⟩)] :: swA m g ps w) ++ [pt c4 [.pointer (some ⟨s.1, 4, none⟩)], pt c5 [.pointer (some ⟨m, 0, none⟩)], pt c6 [.slice q nc cp], pt c7 (cmC (op, dev, ev, num, coll, tgt, b, a, false)), pt c9 [.bool true, .int .i64 d.2.1, .int .i64 d.2.2], pt c11 [.bool false, .int .i64 b, .int .i64 a], pt c12 [.int .i64 a, .int .i64 (8 * evN b)], pt s.1 (itH s.2 on st i j p), A]) (by unfold swA; exact pk_) ?_
        refine CW.rangeFuncD rfl hI (List.replicate 5 0) (sel_front (pt b2 [.bool true, .int .i64 d.2.1, .int .i64 d.2.2] :: pt b3 [.pointer (some ⟨m, 0, none⟩)] :: swA m g ps w))
          (fun pre => [pt c4 [.pointer (some ⟨s.1, 4, none⟩)], pt c5 [.pointer (some ⟨m, 0, none⟩)], pt c6 [.slice q nc cp], pt c7 (cmC (op, dev, ev, num, coll, tgt, b, a, false)), pt c9 [.bool true, .int .i64 d.2.1, .int .i64 d.2.2], pt c11 [.bool false, .int .i64 b, .int .i64 a], pt c12 [.int .i64 a, .int .i64 (8 * evN b)], pt s.1 (itH s.2 on st i j p), A]) (fun _ _ => False) (Ent.refl _) (fun _ => rfl) (by decide) ?_ ?_ (fun _ _ _ h => h.elim)
        · intro pre x hpre lp fm rec1
          have hin := routesL_in d (fgV d) (evC d) w
          have hx := hin x (hpre.subset (by simp))
          have hok := foldE_ok (fun w x h0 h1 h2 h => fgV_ok hdk w x h0 h1 h2 h) hw (pre := pre) (fun y hy => hin y (hpre.subset (by simp [hy])))
          have e1 : (pre ++ [x]).foldl (fgV d) w = fgV d (pre.foldl (fgV d) w) x := by rw [List.foldl_append]; rfl
          simp only [e1]
          generalize pre.foldl (fgV d) w = u at hok ⊢
          (refine G tt_ok pk221 ?_; repeat (refine G1 tt_ok pk221 ?_; intro _))
          intro fm2 rec2
          refine G tt_ok pk221 ?_
          have hfg := forget79 β s m g cp hS hp hok on st i j hdk x hx.2.1
          rw [hd] at hfg
          refine ke rfl rfl (hfg) ?_
          refine G tt_ok pk221 ?_
          exact pk_
        · rw [← hfe]
          refine G tt_ok pk221 ?_
          refine ke rfl rfl (put81 β m g (fgA d w).B (by have := hfk.1; omega) hfk.2.1 hp (holds_dv hfk.1) dev (false, b, a) hpt) ?_
          refine G tt_ok pk221 ?_
          exact CW.ret (fin_ret rfl pk_ ⟨rfl, rfl⟩)
    | true =>
      rw [Bool.true_and, if_pos rfl]
      refine G tt_ok pk221 ?_
      refine ke rfl rfl (holds29 β m (some ⟨g.1, 0, none⟩) (n := w.B.length) (w.B.length + g.2.length) (by have := hw.1; omega) a (8 * evN b)) ?_
      cases hH : holdsV w.B.length a (8 * evN b) with
      | false =>
        rw [if_pos (by simp)]
        refine G tt_ok pk221 ?_
        exact CW.ret (fin_ret rfl pk_ ⟨rfl, rfl⟩)
      | true =>
        obtain ⟨aN, WN, rfl, hWN, hN0, hle⟩ := holds_in hH (by omega)
        rw [hWN] at hW ⊢
        simp only [Int.toNat_natCast]
        refine G tt_ok pk221 ?_
        refine ke rfl rfl (meet77 β aN WN 1024 256) ?_
        cases hM1 : meetV aN WN 1024 256 with
        | true =>
          rw [if_pos (by simp)]
          refine G tt_ok pk221 ?_
          exact CW.ret (fin_ret rfl pk_ ⟨rfl, rfl⟩)
        | false =>
          refine G tt_ok pk221 ?_
          refine ke rfl rfl (meet77 β aN WN 1792 64) ?_
          cases hM2 : meetV aN WN 1792 64 with
          | true =>
            rw [if_pos (by simp)]
            refine G tt_ok pk221 ?_
            exact CW.ret (fin_ret rfl pk_ ⟨rfl, rfl⟩)
          | false =>
            refine G tt_ok pk221 ?_
            refine ke rfl rfl (meet77 β aN WN 0 1024) ?_
            cases hM3 : meetV aN WN 0 1024 with
            | true =>
              rw [if_pos (by simp)]
              refine G tt_ok pk221 ?_
              exact CW.ret (fin_ret rfl pk_ ⟨rfl, rfl⟩)
            | false =>
              rw [if_neg (by simp)]
              refine G tt_ok pk221 ?_
              have hd1 : ∀ z, d.1 = z → (z, d.2) = d := fun z hz => by rw [← hz]
              cases hd : d.1 with
              | false =>
                have hfe : fgA d w = w := by unfold fgA; rw [hd]; rfl
                rw [hfe] at hfk ⊢
                refine G tt_ok pk221 ?_
                refine ke rfl rfl (wipe80 β m g (w).B (by have := hfk.1; omega) hN0 (by have := hfk.1; omega)) ?_
                refine G tt_ok pk221 ?_
                have hwl := wipe_len (B := (w).B) (A := aN) (W := WN) (by have := hfk.1; omega)
                refine ke rfl rfl (put81 β m g (wipeN (w).B aN WN) (by have := hfk.1; omega) (wipe_ok hfk.2.1) hp (by rw [hwl]; exact holds_dv hfk.1) dev (true, b, (aN : Int)) hpt) ?_
                refine G tt_ok pk221 ?_
                exact CW.ret (fin_ret rfl pk_ ⟨rfl, rfl⟩)
              | true =>
                have hfe : fgA d w = (routesL d (fgV d) (evC d) w).foldl (fgV d) w := by unfold fgA; rw [hd]; rfl
                refine G tt_ok pk221 ?_
                have hr78 := routes78 β m d
                rw [hd] at hr78
                (refine ka rfl rfl (hr78) ?_; rintro _ _ ⟨b2, b3, rfl, rfl⟩; refine w_ ?_)
                refine G tt_ok pk221 ?_
                have hI := iter130 β m g b2 b3 ps (fun w x h0 h1 h2 h => fgV_ok hdk w x h0 h1 h2 h) hw d hdk
                rw [hd] at hI
                refine CW.ent (L' := (pt b2 [.bool true, .int .i64 d.2.1, .int .i64 d.2.2] :: pt b3 [.pointer (some ⟨m, 0, none⟩)] :: swA m g ps w) ++ [pt c4 [.pointer (some ⟨s.1, 4, none⟩)], pt c5 [.pointer (some ⟨m, 0, none⟩)], pt c6 [.slice q nc cp], pt c7 (cmC (op, dev, ev, num, coll, tgt, b, (aN : Int), true)), pt c9 [.bool true, .int .i64 d.2.1, .int .i64 d.2.2], pt c11 [.bool true, .int .i64 b, .int .i64 (aN : Int)], pt c12 [.int .i64 (aN : Int), .int .i64 (WN : Int)], pt s.1 (itH s.2 on st i j p), A]) (by unfold swA; exact pk_) ?_
                refine CW.rangeFuncD rfl hI (List.replicate 5 0) (sel_front (pt b2 [.bool true, .int .i64 d.2.1, .int .i64 d.2.2] :: pt b3 [.pointer (some ⟨m, 0, none⟩)] :: swA m g ps w))
                  (fun pre => [pt c4 [.pointer (some ⟨s.1, 4, none⟩)], pt c5 [.pointer (some ⟨m, 0, none⟩)], pt c6 [.slice q nc cp], pt c7 (cmC (op, dev, ev, num, coll, tgt, b, (aN : Int), true)), pt c9 [.bool true, .int .i64 d.2.1, .int .i64 d.2.2], pt c11 [.bool true, .int .i64 b, .int .i64 (aN : Int)], pt c12 [.int .i64 (aN : Int), .int .i64 (WN : Int)], pt s.1 (itH s.2 on st i j p), A]) (fun _ _ => False) (Ent.refl _) (fun _ => rfl) (by decide) ?_ ?_ (fun _ _ _ h => h.elim)
                · intro pre x hpre lp fm rec1
                  have hin := routesL_in d (fgV d) (evC d) w
                  have hx := hin x (hpre.subset (by simp))
                  have hok := foldE_ok (fun w x h0 h1 h2 h => fgV_ok hdk w x h0 h1 h2 h) hw (pre := pre) (fun y hy => hin y (hpre.subset (by simp [hy])))
                  have e1 : (pre ++ [x]).foldl (fgV d) w = fgV d (pre.foldl (fgV d) w) x := by rw [List.foldl_append]; rfl
                  simp only [e1]
                  generalize pre.foldl (fgV d) w = u at hok ⊢
                  (refine G tt_ok pk221 ?_; repeat (refine G1 tt_ok pk221 ?_; intro _))
                  intro fm2 rec2
                  refine G tt_ok pk221 ?_
                  have hfg := forget79 β s m g cp hS hp hok on st i j hdk x hx.2.1
                  rw [hd] at hfg
                  refine ke rfl rfl (hfg) ?_
                  refine G tt_ok pk221 ?_
                  exact pk_
                · rw [← hfe]
                  refine G tt_ok pk221 ?_
                  refine ke rfl rfl (wipe80 β m g (fgA d w).B (by have := hfk.1; omega) hN0 (by have := hfk.1; omega)) ?_
                  refine G tt_ok pk221 ?_
                  have hwl := wipe_len (B := (fgA d w).B) (A := aN) (W := WN) (by have := hfk.1; omega)
                  refine ke rfl rfl (put81 β m g (wipeN (fgA d w).B aN WN) (by have := hfk.1; omega) (wipe_ok hfk.2.1) hp (by rw [hwl]; exact holds_dv hfk.1) dev (true, b, (aN : Int)) hpt) ?_
                  refine G tt_ok pk221 ?_
                  exact CW.ret (fin_ret rfl pk_ ⟨rfl, rfl⟩)
  · rw [show (e != 0) = true by simp [he], if_pos he]
    refine G tt_ok pk221 ?_
    exact CW.ret (fin_ret rfl pk_ ⟨rfl, rfl⟩)
end Go.Proofs.YtakkogdmlbkdaaaGreatDoor.Sl.It
namespace Go.Proofs.YtakkogdmlbkdaaaGreatDoor.Sl.It
attribute [local irreducible] CW Tri OW
@[reducible] def pk223 : List (Nat × Plan) := [(9, [(0, 0, []), (1, 0, []), (2, 0, []), (3, 0, []), (4, 0, []), (5, 0, []), (6, 0, []), (7, 1, [4, 6]), (8, 0, []), (9, 0, []), (10, 0, []), (11, 0, []), (12, 0, []), (13, 0, []), (14, 0, [])])]
attribute [local irreducible] invK enK enV waitL
variable {T nc : Nat}
def invS (w : SW) (c n : Int) : SW := match sideV w.cs.length w.B c with
  | (some k, _) => w.inv k n
  | (none, _) => w
theorem invS_ok {w : SW} (hw : w.ok T nc) (c n : Int) : (invS w c n).ok T nc := by
  unfold invS
  rw [hw.2.2.1]
  rcases sideV_cases nc w.B c with ⟨e, he, h⟩ | ⟨k, hk, h⟩
  · rw [h]; exact hw
  · rw [h]; exact SW.inv_ok hw hk n
def fgO (d : Dv) (w : SW) (x : Er) : SW := if x.2.2.2 then fgV d w x else w
def maptiV (p : Int) (w : SW) (c : Cm) (n : Int) : SW × Int := if (deviceV w.B p c.2.1).2 ≠ 0 then (w, (deviceV w.B p c.2.1).2) else
  if (devRt w.B (deviceV w.B p c.2.1).1 c.2.2.1).2 ≠ 0 then (w, (devRt w.B (deviceV w.B p c.2.1).1 c.2.2.1).2) else
  if n < 8192 ∨ n ≥ 16384 then (w, 150) else
  if (targetV w.B 1792 64 c.2.2.2.2.1).2.2 ≠ 0 then (w, (targetV w.B 1792 64 c.2.2.2.2.1).2.2) else
  (⟨(devSet (invS (fgO (deviceV w.B p c.2.1).1 w (c.2.2.1, (devRt w.B (deviceV w.B p c.2.1).1 c.2.2.1).1)) c.2.2.2.2.1 n).B (deviceV w.B p c.2.1).1 c.2.2.1 (n, c.2.2.2.2.1, true)).1, (invS (fgO (deviceV w.B p c.2.1).1 w (c.2.2.1, (devRt w.B (deviceV w.B p c.2.1).1 c.2.2.1).1)) c.2.2.2.2.1 n).cs⟩,
   (devSet (invS (fgO (deviceV w.B p c.2.1).1 w (c.2.2.1, (devRt w.B (deviceV w.B p c.2.1).1 c.2.2.1).1)) c.2.2.2.2.1 n).B (deviceV w.B p c.2.1).1 c.2.2.1 (n, c.2.2.2.2.1, true)).2)
set_option maxHeartbeats 8000000 in
theorem mapti35 (β : Base) (s : Sr) (m : Nat) (g : Gr) {ps : List Nat} {A : Atom} {q : Option Addr} (cp : Nat) (hS : TsOk β A q ps nc) {p : Int} (hp : p = 0 ∨ p = 64) {w : SW} (hw : w.ok T nc) (on st : Bool) (i j : Nat) (c : Cm) (n : Int) :
    Tri Tryz.prog β 223 [.pointer (some ⟨s.1, 4, none⟩), .pointer (some ⟨m, 0, none⟩), .slice q nc cp, .agg #[.int .i64 c.1, .int .i64 c.2.1, .int .i64 c.2.2.1, .int .i64 c.2.2.2.1, .int .i64 c.2.2.2.2.1, .int .i64 c.2.2.2.2.2.1, .int .i64 c.2.2.2.2.2.2.1, .int .i64 c.2.2.2.2.2.2.2.1, .bool c.2.2.2.2.2.2.2.2], .int .i64 n] (pt s.1 (itH s.2 on st i j p) :: A :: swA m g ps w) (fun u L => u = .int .i64 (maptiV p w c n).2 ∧ L = pt s.1 (itH s.2 on st i j p) :: A :: swA m g ps (maptiV p w c n).1) := by
  refine Tri.intro tt_ok Tryz.func223 rfl rfl Tryz.ntmps223 rfl fun F => ?_
  obtain ⟨op, dev, ev, num, coll, tgt, b, a, v⟩ := c
  unfold maptiV
  simp only
  (refine G tt_ok pk223 ?_; repeat (refine G1 tt_ok pk223 ?_; intro _))
  refine ke rfl rfl (device83 β s m g w.B hw.1 hw.2.1 on st i j hp dev) ?_
  have hd := deviceV_ok w.B p dev
  generalize deviceV w.B p dev = x at hd ⊢
  obtain ⟨d, e⟩ := x
  simp only at hd ⊢
  (refine G tt_ok pk223 ?_; repeat (refine G1 tt_ok pk223 ?_; intro _))
  by_cases he : e = 0
  · subst he
    rw [if_neg (by simp)]
    refine G tt_ok pk223 ?_
    refine ke rfl rfl (route84 β m g w.B (by have := hw.1; omega) hw.2.1 d hd ev) ?_
    have hlt := devRt_lt w.B d ev
    generalize devRt w.B d ev = y at hlt ⊢
    obtain ⟨⟨r0, r1, r2⟩, e⟩ := y
    simp only at hlt ⊢
    (refine G tt_ok pk223 ?_; repeat (refine G1 tt_ok pk223 ?_; intro _))
    by_cases he : e = 0
    · subst he
      rw [if_neg (by simp)]
      refine G tt_ok pk223 ?_
      by_cases hn1 : n < 8192
      · rw [decide_eq_true hn1, if_pos (.inl hn1)]
        refine G tt_ok pk223 ?_
        exact CW.ret (fin_ret rfl pk_ ⟨rfl, rfl⟩)
      · rw [decide_eq_false hn1]
        refine G tt_ok pk223 ?_
        by_cases hn2 : n ≥ 16384
        · rw [decide_eq_true hn2, if_pos (.inr hn2)]
          refine G tt_ok pk223 ?_
          exact CW.ret (fin_ret rfl pk_ ⟨rfl, rfl⟩)
        · rw [decide_eq_false hn2, if_neg (by omega)]
          refine G tt_ok pk223 ?_
          refine ke rfl rfl (target85 β m g w.B (by have := hw.1; omega) hw.2.1 1792 64 coll) ?_
          generalize targetV w.B 1792 64 coll = t
          obtain ⟨t0, t1, e⟩ := t
          simp only
          refine G tt_ok pk223 ?_
          by_cases he : e = 0
          · subst he
            rw [if_neg (by simp)]
            refine G tt_ok pk223 ?_
            have hok1 : (fgO d w (ev, (r0, r1, r2))).ok T nc := by
              unfold fgO
              cases r2 with
              | true => exact ⟨(devSet_in (fgW_ok hw hlt.2.1).1 (fgW_ok hw hlt.2.1).2.1 hd ev (0, 0, false)).1, (devSet_in (fgW_ok hw hlt.2.1).1 (fgW_ok hw hlt.2.1).2.1 hd ev (0, 0, false)).2, (fgW_ok hw hlt.2.1).2.2⟩
              | false => exact hw
            have hok2 := invS_ok hok1 coll n
            cases r2 with
            | true =>
              have e1 : fgO d w (ev, (r0, r1, true)) = fgV d w (ev, (r0, r1, true)) := rfl
              rw [e1] at hok1 hok2 ⊢
              refine G tt_ok pk223 ?_
              refine ke rfl rfl (forget79 β s m g cp hS hp hw on st i j hd (ev, (r0, r1, true)) hlt.2.1) ?_
              generalize fgV d w (ev, (r0, r1, true)) = w1 at hok1 hok2 ⊢
              refine G tt_ok pk223 ?_
              refine ke rfl rfl (side40 β s m g w1.B hok1.1 hok1.2.1 on st i j p (cp := cp) hS.hS hS.hl coll) ?_
              unfold invS at hok2 ⊢
              rw [hok1.2.2.1] at hok2 ⊢
              rcases sideV_cases nc w1.B coll with ⟨e, he, h⟩ | ⟨k, hk, h⟩
              · rw [h] at hok2 ⊢
                simp only at hok2 ⊢
                refine G tt_ok pk223 ?_
                rw [show (e == 0) = false by simp [he]]
                refine G tt_ok pk223 ?_
                refine ke rfl rfl (setRoute87 β m g w1.B (by have := hok2.1; omega) hok2.2.1 d hd ev (n, coll, true)) ?_
                refine G tt_ok pk223 ?_
                exact CW.ret (fin_ret rfl pk_ ⟨rfl, rfl⟩)
              · rw [h] at hok2 ⊢
                simp only at hok2 ⊢
                refine G tt_ok pk223 ?_
                refine ke rfl rfl (inv86C β m g ps hok1 hk (n := n) (by omega)) ?_
                refine G tt_ok pk223 ?_
                refine ke rfl rfl (setRoute87 β m g (w1.inv k n).B (by have := hok2.1; omega) hok2.2.1 d hd ev (n, coll, true)) ?_
                refine G tt_ok pk223 ?_
                exact CW.ret (fin_ret rfl pk_ ⟨rfl, rfl⟩)
            | false =>
              have e1 : fgO d w (ev, (r0, r1, false)) = w := rfl
              rw [e1] at hok1 hok2 ⊢
              refine G tt_ok pk223 ?_
              refine ke rfl rfl (side40 β s m g w.B hok1.1 hok1.2.1 on st i j p (cp := cp) hS.hS hS.hl coll) ?_
              unfold invS at hok2 ⊢
              rw [hok1.2.2.1] at hok2 ⊢
              rcases sideV_cases nc w.B coll with ⟨e, he, h⟩ | ⟨k, hk, h⟩
              · rw [h] at hok2 ⊢
                simp only at hok2 ⊢
                refine G tt_ok pk223 ?_
                rw [show (e == 0) = false by simp [he]]
                refine G tt_ok pk223 ?_
                refine ke rfl rfl (setRoute87 β m g w.B (by have := hok2.1; omega) hok2.2.1 d hd ev (n, coll, true)) ?_
                refine G tt_ok pk223 ?_
                exact CW.ret (fin_ret rfl pk_ ⟨rfl, rfl⟩)
              · rw [h] at hok2 ⊢
                simp only at hok2 ⊢
                refine G tt_ok pk223 ?_
                refine ke rfl rfl (inv86C β m g ps hok1 hk (n := n) (by omega)) ?_
                refine G tt_ok pk223 ?_
                refine ke rfl rfl (setRoute87 β m g (w.inv k n).B (by have := hok2.1; omega) hok2.2.1 d hd ev (n, coll, true)) ?_
                refine G tt_ok pk223 ?_
                exact CW.ret (fin_ret rfl pk_ ⟨rfl, rfl⟩)
          · rw [show (e != 0) = true by simp [he], if_pos he]
            refine G tt_ok pk223 ?_
            exact CW.ret (fin_ret rfl pk_ ⟨rfl, rfl⟩)
    · rw [show (e != 0) = true by simp [he], if_pos he]
      refine G tt_ok pk223 ?_
      exact CW.ret (fin_ret rfl pk_ ⟨rfl, rfl⟩)
  · rw [show (e != 0) = true by simp [he], if_pos he]
    refine G tt_ok pk223 ?_
    exact CW.ret (fin_ret rfl pk_ ⟨rfl, rfl⟩)
end Go.Proofs.YtakkogdmlbkdaaaGreatDoor.Sl.It
namespace Go.Proofs.YtakkogdmlbkdaaaGreatDoor.Sl.It
attribute [local irreducible] CW Tri OW
@[reducible] def pk224 : List (Nat × Plan) := []
@[reducible] def pk225 : List (Nat × Plan) := []
@[reducible] def pk226 : List (Nat × Plan) := []
@[reducible] def pk222 : List (Nat × Plan) := [(3, [(0, 0, []), (1, 0, []), (2, 0, []), (3, 0, []), (4, 0, []), (5, 0, []), (6, 0, []), (7, 0, []), (8, 0, []), (9, 0, []), (10, 0, []), (11, 1, [4, 6, 8, 10]), (12, 0, [])])]
@[reducible] def pk227 : List (Nat × Plan) := [(3, [(0, 0, []), (1, 0, []), (2, 0, []), (3, 0, []), (4, 0, []), (5, 0, []), (6, 0, []), (7, 0, []), (8, 0, []), (9, 0, []), (10, 0, []), (11, 1, [3, 5, 8, 10])])]
attribute [local irreducible] invK enK enV waitL
variable {T nc : Nat}
def mvO (w : SW) (c n : Int) (t : Nat) : SW := match sideV w.cs.length w.B c with
 | (some k, _) => w.move n k t
 | (none, _) => w
theorem mvO_ok {w : SW} (hw : w.ok T nc) (c : Int) {n : Int} (hn : n ≤ 9223372036854775807) {t : Nat} (ht : t < nc) : (mvO w c n t).ok T nc := by
 unfold mvO
 rw [hw.2.2.1]
 rcases sideV_cases nc w.B c with ⟨e, he, h⟩ | ⟨k, hk, h⟩
 ·rw [h]; exact hw
 ·rw [h]; exact SW.move_ok hw hn hk ht
def moviV (p : Int) (w : SW) (c : Cm) : SW × Int := if (eventV w.B p c.2.1 c.2.2.1).2 ≠ 0 then (w, (eventV w.B p c.2.1 c.2.2.1).2) else
 match sideV w.cs.length w.B c.2.2.2.2.1 with
 | (none, e) => (w, e)
 | (some t, _) => (⟨(devSet ((mvO w (eventV w.B p c.2.1 c.2.2.1).1.2.1 (eventV w.B p c.2.1 c.2.2.1).1.1 t).inv t (eventV w.B p c.2.1 c.2.2.1).1.1).B
    (deviceV ((mvO w (eventV w.B p c.2.1 c.2.2.1).1.2.1 (eventV w.B p c.2.1 c.2.2.1).1.1 t).inv t (eventV w.B p c.2.1 c.2.2.1).1.1).B p c.2.1).1 c.2.2.1 ((eventV w.B p c.2.1 c.2.2.1).1.1, c.2.2.2.2.1, (eventV w.B p c.2.1 c.2.2.1).1.2.2)).1,
   ((mvO w (eventV w.B p c.2.1 c.2.2.1).1.2.1 (eventV w.B p c.2.1 c.2.2.1).1.1 t).inv t (eventV w.B p c.2.1 c.2.2.1).1.1).cs⟩,
   (devSet ((mvO w (eventV w.B p c.2.1 c.2.2.1).1.2.1 (eventV w.B p c.2.1 c.2.2.1).1.1 t).inv t (eventV w.B p c.2.1 c.2.2.1).1.1).B
    (deviceV ((mvO w (eventV w.B p c.2.1 c.2.2.1).1.2.1 (eventV w.B p c.2.1 c.2.2.1).1.1 t).inv t (eventV w.B p c.2.1 c.2.2.1).1.1).B p c.2.1).1 c.2.2.1 ((eventV w.B p c.2.1 c.2.2.1).1.1, c.2.2.2.2.1, (eventV w.B p c.2.1 c.2.2.1).1.2.2)).2)
set_option maxHeartbeats 8000000 in
theorem movi36 (β : Base) (s : Sr) (m : Nat) (g : Gr) {ps : List Nat} {A : Atom} {q : Option Addr} (cp : Nat) (hS : TsOk β A q ps nc) {p : Int} (hp : p = 0 ∨ p = 64) {w : SW} (hw : w.ok T nc) (on st : Bool) (i j : Nat) (c : Cm) :
  Tri Tryz.prog β 224 [.pointer (some ⟨s.1, 4, none⟩), .pointer (some ⟨m, 0, none⟩), .slice q nc cp, .agg #[.int .i64 c.1, .int .i64 c.2.1, .int .i64 c.2.2.1, .int .i64 c.2.2.2.1, .int .i64 c.2.2.2.2.1, .int .i64 c.2.2.2.2.2.1, .int .i64 c.2.2.2.2.2.2.1, .int .i64 c.2.2.2.2.2.2.2.1, .bool c.2.2.2.2.2.2.2.2]] (pt s.1 (itH s.2 on st i j p) :: A :: swA m g ps w) (fun u L => u = .int .i64 (moviV p w c).2 ∧ L = pt s.1 (itH s.2 on st i j p) :: A :: swA m g ps (moviV p w c).1) := by
 refine Tri.intro tt_ok Tryz.func224 rfl rfl Tryz.ntmps224 rfl fun F => ?_
 obtain ⟨op, dev, ev, num, coll, tgt, b, a, v⟩ := c
 unfold moviV
 rw [hw.2.2.1]
 simp only
 (refine G tt_ok pk224 ?_; repeat (refine G1 tt_ok pk224 ?_; intro _))
 refine ke rfl rfl (event43 β s m g w.B hw.1 hw.2.1 on st i j hp dev ev) ?_
 have hlt := eventV_lt w.B p dev ev
 generalize eventV w.B p dev ev = x at hlt ⊢
 obtain ⟨⟨r0, r1, r2⟩, e⟩ := x
 simp only at hlt ⊢
 (refine G tt_ok pk224 ?_; repeat (refine G1 tt_ok pk224 ?_; intro _))
 by_cases he : e = 0
 ·subst he
  rw [if_neg (by simp)]
  refine G tt_ok pk224 ?_
  refine ke rfl rfl (side40 β s m g w.B hw.1 hw.2.1 on st i j p (cp := cp) hS.hS hS.hl coll) ?_
  rcases sideV_cases nc w.B coll with ⟨e, he, h⟩ | ⟨t, ht, h⟩
  ·rw [h]
   refine G tt_ok pk224 ?_
   rw [show (e != 0) = true by simp [he]]
   refine G tt_ok pk224 ?_
   exact CW.ret (fin_ret rfl pk_ ⟨rfl, rfl⟩)
  ·rw [h]
   simp only
   have hok1 := mvO_ok hw r1 (n := r0) hlt.2.1 ht
   have hok2 := SW.inv_ok hok1 ht r0
   refine G tt_ok pk224 ?_
   refine ke rfl rfl (side40 β s m g w.B hw.1 hw.2.1 on st i j p (cp := cp) hS.hS hS.hl r1) ?_
   unfold mvO at hok1 hok2 ⊢
   rw [hw.2.2.1] at hok1 hok2 ⊢
   rcases sideV_cases nc w.B r1 with ⟨e, he, h⟩ | ⟨k, hk, h⟩
   ·rw [h] at hok1 hok2 ⊢
    simp only at hok1 hok2 ⊢
    refine G tt_ok pk224 ?_
    rw [show (e == 0) = false by simp [he]]
    refine G tt_ok pk224 ?_
    refine ke rfl rfl (inv86C β m g ps hok1 ht (n := r0) hlt.2.1) ?_
    refine G tt_ok pk224 ?_
    refine ke rfl rfl (device83 β s m g (w.inv t r0).B hok2.1 hok2.2.1 on st i j hp dev) ?_
    (refine G tt_ok pk224 ?_; repeat (refine G1 tt_ok pk224 ?_; intro _))
    refine ke rfl rfl (setRoute87 β m g (w.inv t r0).B (by have := hok2.1; omega) hok2.2.1 (deviceV (w.inv t r0).B p dev).1 (deviceV_ok _ p dev) ev (r0, coll, r2)) ?_
    refine G tt_ok pk224 ?_
    exact CW.ret (fin_ret rfl pk_ ⟨rfl, rfl⟩)
   ·rw [h] at hok1 hok2 ⊢
    simp only at hok1 hok2 ⊢
    refine G tt_ok pk224 ?_
    refine ke rfl rfl (move88 β m g (by rw [hS.hl]) hS.hn hw hk ht (n := r0) hlt.2.1) ?_
    generalize w.moves r0 k t = mv
    generalize w.move r0 k t = w1 at hok1 hok2 ⊢
    refine G tt_ok pk224 ?_
    refine ke rfl rfl (inv86C β m g ps hok1 ht (n := r0) hlt.2.1) ?_
    refine G tt_ok pk224 ?_
    refine ke rfl rfl (device83 β s m g (w1.inv t r0).B hok2.1 hok2.2.1 on st i j hp dev) ?_
    (refine G tt_ok pk224 ?_; repeat (refine G1 tt_ok pk224 ?_; intro _))
    refine ke rfl rfl (setRoute87 β m g (w1.inv t r0).B (by have := hok2.1; omega) hok2.2.1 (deviceV (w1.inv t r0).B p dev).1 (deviceV_ok _ p dev) ev (r0, coll, r2)) ?_
    refine G tt_ok pk224 ?_
    exact CW.ret (fin_ret rfl pk_ ⟨rfl, rfl⟩)
 ·rw [show (e != 0) = true by simp [he], if_pos he]
  refine G tt_ok pk224 ?_
  exact CW.ret (fin_ret rfl pk_ ⟨rfl, rfl⟩)
def discardV (p : Int) (w : SW) (c : Cm) : SW × Int := if (eventV w.B p c.2.1 c.2.2.1).2 ≠ 0 then (w, (eventV w.B p c.2.1 c.2.2.1).2) else
 (fgV (deviceV w.B p c.2.1).1 w (c.2.2.1, (eventV w.B p c.2.1 c.2.2.1).1), 0)
set_option maxHeartbeats 8000000 in
theorem discard37 (β : Base) (s : Sr) (m : Nat) (g : Gr) {ps : List Nat} {A : Atom} {q : Option Addr} (cp : Nat) (hS : TsOk β A q ps nc) {p : Int} (hp : p = 0 ∨ p = 64) {w : SW} (hw : w.ok T nc) (on st : Bool) (i j : Nat) (c : Cm) :
  Tri Tryz.prog β 225 [.pointer (some ⟨s.1, 4, none⟩), .pointer (some ⟨m, 0, none⟩), .slice q nc cp, .agg #[.int .i64 c.1, .int .i64 c.2.1, .int .i64 c.2.2.1, .int .i64 c.2.2.2.1, .int .i64 c.2.2.2.2.1, .int .i64 c.2.2.2.2.2.1, .int .i64 c.2.2.2.2.2.2.1, .int .i64 c.2.2.2.2.2.2.2.1, .bool c.2.2.2.2.2.2.2.2]] (pt s.1 (itH s.2 on st i j p) :: A :: swA m g ps w) (fun u L => u = .int .i64 (discardV p w c).2 ∧ L = pt s.1 (itH s.2 on st i j p) :: A :: swA m g ps (discardV p w c).1) := by
 refine Tri.intro tt_ok Tryz.func225 rfl rfl Tryz.ntmps225 rfl fun F => ?_
 obtain ⟨op, dev, ev, num, coll, tgt, b, a, v⟩ := c
 unfold discardV
 simp only
 (refine G tt_ok pk225 ?_; repeat (refine G1 tt_ok pk225 ?_; intro _))
 refine ke rfl rfl (event43 β s m g w.B hw.1 hw.2.1 on st i j hp dev ev) ?_
 have hlt := eventV_lt w.B p dev ev
 generalize eventV w.B p dev ev = x at hlt ⊢
 obtain ⟨⟨r0, r1, r2⟩, e⟩ := x
 simp only at hlt ⊢
 (refine G tt_ok pk225 ?_; repeat (refine G1 tt_ok pk225 ?_; intro _))
 by_cases he : e = 0
 ·subst he
  rw [if_neg (by simp)]
  refine G tt_ok pk225 ?_
  refine ke rfl rfl (device83 β s m g w.B hw.1 hw.2.1 on st i j hp dev) ?_
  (refine G tt_ok pk225 ?_; repeat (refine G1 tt_ok pk225 ?_; intro _))
  refine ke rfl rfl (forget79 β s m g cp hS hp hw on st i j (deviceV_ok w.B p dev) (ev, (r0, r1, r2)) hlt.2.1) ?_
  refine G tt_ok pk225 ?_
  exact CW.ret (fin_ret rfl pk_ ⟨rfl, rfl⟩)
 ·rw [show (e != 0) = true by simp [he], if_pos he]
  refine G tt_ok pk225 ?_
  exact CW.ret (fin_ret rfl pk_ ⟨rfl, rfl⟩)
def invE (p : Int) (w : SW) (c : Cm) : SW × Int := if (eventV w.B p c.2.1 c.2.2.1).2 ≠ 0 then (w, (eventV w.B p c.2.1 c.2.2.1).2) else
 match sideV w.cs.length w.B (eventV w.B p c.2.1 c.2.2.1).1.2.1 with
 | (none, e) => (w, e)
 | (some k, _) => (w.inv k (eventV w.B p c.2.1 c.2.2.1).1.1, if idxV (eventV w.B p c.2.1 c.2.2.1).1.1 then 0 else 150)
set_option maxHeartbeats 8000000 in
theorem inv39 (β : Base) (s : Sr) (m : Nat) (g : Gr) {ps : List Nat} {A : Atom} {q : Option Addr} (cp : Nat) (hS : TsOk β A q ps nc) {p : Int} (hp : p = 0 ∨ p = 64) {w : SW} (hw : w.ok T nc) (on st : Bool) (i j : Nat) (c : Cm) :
  Tri Tryz.prog β 226 [.pointer (some ⟨s.1, 4, none⟩), .pointer (some ⟨m, 0, none⟩), .slice q nc cp, .agg #[.int .i64 c.1, .int .i64 c.2.1, .int .i64 c.2.2.1, .int .i64 c.2.2.2.1, .int .i64 c.2.2.2.2.1, .int .i64 c.2.2.2.2.2.1, .int .i64 c.2.2.2.2.2.2.1, .int .i64 c.2.2.2.2.2.2.2.1, .bool c.2.2.2.2.2.2.2.2]] (pt s.1 (itH s.2 on st i j p) :: A :: swA m g ps w) (fun u L => u = .int .i64 (invE p w c).2 ∧ L = pt s.1 (itH s.2 on st i j p) :: A :: swA m g ps (invE p w c).1) := by
 refine Tri.intro tt_ok Tryz.func226 rfl rfl Tryz.ntmps226 rfl fun F => ?_
 obtain ⟨op, dev, ev, num, coll, tgt, b, a, v⟩ := c
 unfold invE
 rw [hw.2.2.1]
 simp only
 (refine G tt_ok pk226 ?_; repeat (refine G1 tt_ok pk226 ?_; intro _))
 refine ke rfl rfl (event43 β s m g w.B hw.1 hw.2.1 on st i j hp dev ev) ?_
 have hlt := eventV_lt w.B p dev ev
 generalize eventV w.B p dev ev = x at hlt ⊢
 obtain ⟨⟨r0, r1, r2⟩, e⟩ := x
 simp only at hlt ⊢
 (refine G tt_ok pk226 ?_; repeat (refine G1 tt_ok pk226 ?_; intro _))
 by_cases he : e = 0
 ·subst he
  rw [if_neg (by simp)]
  refine G tt_ok pk226 ?_
  refine ke rfl rfl (side40 β s m g w.B hw.1 hw.2.1 on st i j p (cp := cp) hS.hS hS.hl r1) ?_
  rcases sideV_cases nc w.B r1 with ⟨e, he, h⟩ | ⟨k, hk, h⟩
  ·rw [h]
   refine G tt_ok pk226 ?_
   rw [show (e != 0) = true by simp [he]]
   refine G tt_ok pk226 ?_
   exact CW.ret (fin_ret rfl pk_ ⟨rfl, rfl⟩)
  ·rw [h]
   refine G tt_ok pk226 ?_
   refine ke rfl rfl (inv86C β m g ps hw hk (n := r0) hlt.2.1) ?_
   refine G tt_ok pk226 ?_
   exact CW.ret (fin_ret rfl pk_ ⟨rfl, rfl⟩)
 ·rw [show (e != 0) = true by simp [he], if_pos he]
  refine G tt_ok pk226 ?_
  exact CW.ret (fin_ret rfl pk_ ⟨rfl, rfl⟩)
def mapcV (w : SW) (c : Cm) : SW × Int := if c.2.2.2.2.2.2.2.2 = true ∧ c.2.2.2.2.2.1 ≥ (w.cs.length : Int) then (w, 130) else
 (⟨(setTg w.B 1792 64 c.2.2.2.2.1 c.2.2.2.2.2.1 c.2.2.2.2.2.2.2.2).1, w.cs⟩, (setTg w.B 1792 64 c.2.2.2.2.1 c.2.2.2.2.2.1 c.2.2.2.2.2.2.2.2).2)
set_option maxHeartbeats 8000000 in
theorem mapc34 (β : Base) (s : Sr) (m : Nat) (g : Gr) {ps : List Nat} {A : Atom} {q : Option Addr} (cp : Nat) (hS : TsOk β A q ps nc) {p : Int} (hp : p = 0 ∨ p = 64) {w : SW} (hw : w.ok T nc) (on st : Bool) (i j : Nat) (c : Cm) :
  Tri Tryz.prog β 222 [.pointer (some ⟨s.1, 4, none⟩), .pointer (some ⟨m, 0, none⟩), .slice q nc cp, .agg #[.int .i64 c.1, .int .i64 c.2.1, .int .i64 c.2.2.1, .int .i64 c.2.2.2.1, .int .i64 c.2.2.2.2.1, .int .i64 c.2.2.2.2.2.1, .int .i64 c.2.2.2.2.2.2.1, .int .i64 c.2.2.2.2.2.2.2.1, .bool c.2.2.2.2.2.2.2.2]] (pt s.1 (itH s.2 on st i j p) :: A :: swA m g ps w) (fun u L => u = .int .i64 (mapcV w c).2 ∧ L = pt s.1 (itH s.2 on st i j p) :: A :: swA m g ps (mapcV w c).1) := by
 refine Tri.intro tt_ok Tryz.func222 rfl rfl Tryz.ntmps222 rfl fun F => ?_
 obtain ⟨op, dev, ev, num, coll, tgt, b, a, v⟩ := c
 unfold mapcV
 rw [hw.2.2.1]
 simp only
 (refine G tt_ok pk222 ?_; repeat (refine G1 tt_ok pk222 ?_; intro _))
 cases v with
 | false =>
  rw [if_neg (by simp)]
  refine G tt_ok pk222 ?_
  refine ke rfl rfl (setTarget82 β m g w.B (by have := hw.1; omega) 1792 64 coll tgt false) ?_
  refine G tt_ok pk222 ?_
  exact CW.ret (fin_ret rfl pk_ ⟨rfl, rfl⟩)
 | true =>
  refine G tt_ok pk222 ?_
  by_cases ht : tgt ≥ (nc : Int)
  ·rw [if_pos ⟨rfl, ht⟩, decide_eq_true (show tgt ≥ ((nc : Nat) : Int) from ht)]
   refine G tt_ok pk222 ?_
   exact CW.ret (fin_ret rfl pk_ ⟨rfl, rfl⟩)
  ·rw [if_neg (fun h => ht h.2), decide_eq_false (show ¬ tgt ≥ ((nc : Nat) : Int) from ht)]
   refine G tt_ok pk222 ?_
   refine ke rfl rfl (setTarget82 β m g w.B (by have := hw.1; omega) 1792 64 coll tgt true) ?_
   refine G tt_ok pk222 ?_
   exact CW.ret (fin_ret rfl pk_ ⟨rfl, rfl⟩)
def movallV (w : SW) (c : Cm) : SW × Int := if c.2.2.2.2.2.1 ≥ (w.cs.length : Int) ∨ c.2.2.2.1 ≥ (w.cs.length : Int) then (w, 130) else (w.moveA c.2.2.2.2.2.1.toNat c.2.2.2.1.toNat, 0)
set_option maxHeartbeats 8000000 in
theorem movall42 (β : Base) (s : Sr) (m : Nat) (g : Gr) {ps : List Nat} {A : Atom} {q : Option Addr} (cp : Nat) (hS : TsOk β A q ps nc) {p : Int} (hp : p = 0 ∨ p = 64) {w : SW} (hw : w.ok T nc) (on st : Bool) (i j : Nat) (c : Cm) (ht : 0 ≤ c.2.2.2.2.2.1) (hn : 0 ≤ c.2.2.2.1) :
  Tri Tryz.prog β 227 [.pointer (some ⟨s.1, 4, none⟩), .pointer (some ⟨m, 0, none⟩), .slice q nc cp, .agg #[.int .i64 c.1, .int .i64 c.2.1, .int .i64 c.2.2.1, .int .i64 c.2.2.2.1, .int .i64 c.2.2.2.2.1, .int .i64 c.2.2.2.2.2.1, .int .i64 c.2.2.2.2.2.2.1, .int .i64 c.2.2.2.2.2.2.2.1, .bool c.2.2.2.2.2.2.2.2]] (pt s.1 (itH s.2 on st i j p) :: A :: swA m g ps w) (fun u L => u = .int .i64 (movallV w c).2 ∧ L = pt s.1 (itH s.2 on st i j p) :: A :: swA m g ps (movallV w c).1) := by
 refine Tri.intro tt_ok Tryz.func227 rfl rfl Tryz.ntmps227 rfl fun F => ?_
 obtain ⟨op, dev, ev, num, coll, tgt, b, a, v⟩ := c
 unfold movallV
 rw [hw.2.2.1]
 simp only at ht hn ⊢
 (refine G tt_ok pk227 ?_; repeat (refine G1 tt_ok pk227 ?_; intro _))
 by_cases h1 : tgt ≥ (nc : Int)
 ·rw [if_pos (.inl h1), decide_eq_true (show tgt ≥ ((nc : Nat) : Int) from h1)]
  refine G tt_ok pk227 ?_
  exact CW.ret (fin_ret rfl pk_ ⟨rfl, rfl⟩)
 ·rw [decide_eq_false (show ¬ tgt ≥ ((nc : Nat) : Int) from h1)]
  refine G tt_ok pk227 ?_
  by_cases h2 : num ≥ (nc : Int)
  ·rw [if_pos (.inr h2), decide_eq_true (show num ≥ ((nc : Nat) : Int) from h2)]
   refine G tt_ok pk227 ?_
   exact CW.ret (fin_ret rfl pk_ ⟨rfl, rfl⟩)
  ·rw [if_neg (by omega), decide_eq_false (show ¬ num ≥ ((nc : Nat) : Int) from h2)]
   obtain ⟨x, rfl⟩ : ∃ k : Nat, tgt = (k : Int) := ⟨tgt.toNat, by omega⟩
   obtain ⟨y, rfl⟩ : ∃ k : Nat, num = (k : Int) := ⟨num.toNat, by omega⟩
   have hx : x < nc := by omega
   have hy : y < nc := by omega
   obtain ⟨u, hu⟩ : ∃ u, ps[x]? = some u := ⟨_, List.getElem?_eq_getElem (by rw [hS.hl]; exact hx)⟩
   obtain ⟨z, hz⟩ : ∃ z, ps[y]? = some z := ⟨_, List.getElem?_eq_getElem (by rw [hS.hl]; exact hy)⟩
   have hgu : u = ps.getD x 0 := by rw [List.getD_eq_getElem?_getD, hu]; rfl
   have hgz : z = ps.getD y 0 := by rw [List.getD_eq_getElem?_getD, hz]; rfl
   refine G tt_ok pk227 ?_
   (refine SQ.idxG tt_ok rfl rfl (hS.hS) (by repeat (first | exact .h | apply AtA.t)) (x) (rfl) (hx) rfl ?_)
   refine G tt_ok pk227 ?_
   (refine SQ.ldG tt_ok rfl rfl (hS.hS) (by repeat (first | exact .h | apply AtA.t)) (by omega) (fun cur hcs => pt_cur hcs hu) ?_)
   refine G tt_ok pk227 ?_
   (refine SQ.idxG tt_ok rfl rfl (hS.hS) (by repeat (first | exact .h | apply AtA.t)) (y) (rfl) (hy) rfl ?_)
   refine G tt_ok pk227 ?_
   (refine SQ.ldG tt_ok rfl rfl (hS.hS) (by repeat (first | exact .h | apply AtA.t)) (by omega) (fun cur hcs => pt_cur hcs hz) ?_)
   refine G tt_ok pk227 ?_
   rw [hgu, hgz]
   (refine ka rfl rfl (moveAll90 β m g hS.hl hS.hn hw hx hy) ?_; rintro _ _ ⟨⟨n, rfl⟩, rfl⟩; refine ⟨(by repeat (first | exact trivial | refine ⟨trivial, ?_⟩ | refine ⟨RdAt.slr hS.hS (by repeat (first | exact .h | apply AtA.t)) (by omega) (fun cur hcs => hgz ▸ pt_cur hcs hz), ?_⟩ | refine ⟨RdAt.slr hS.hS (by repeat (first | exact .h | apply AtA.t)) (by omega) (fun cur hcs => hgu ▸ pt_cur hcs hu), ?_⟩ | refine ⟨wk (by repeat (first | exact .h | exact .q | apply At.t)) (by rfl), ?_⟩)), ?_⟩)
   refine G tt_ok pk227 ?_
   exact CW.ret (fin_ret rfl pk_ ⟨rfl, rfl⟩)
end Go.Proofs.YtakkogdmlbkdaaaGreatDoor.Sl.It
namespace Go.Proofs.YtakkogdmlbkdaaaGreatDoor.Sl.It
attribute [local irreducible] CW Tri OW
attribute [local irreducible] invK enK enV waitL
variable {T nc : Nat}
theorem encL_get (c : Cm) : ∀ {f : Nat} {W : List Nat}, encL c f = some W → ∀ g, g < f → ((partV' c.1 g).2 = false → getF c g = 0) ∧ 0 ≤ getF c g ∧ getF c g < ((2 ^ (partV' c.1 g).1.2.2 : Nat) : Int)
 | 0, _, _ => fun g hg => absurd hg (by omega)
 | f + 1, W, h => by
  unfold encL at h
  cases h1 : encL c f with
  | none => rw [h1] at h; cases h
  | some V =>
   rw [h1] at h
   simp only at h
   unfold encS at h
   split at h
   ·cases h
   ·rename_i hc
    intro g hg
    by_cases e : g = f
    ·subst e
     refine ⟨fun h2 => ?_, ?_, ?_⟩
     ·by_cases h3 : getF c g = 0
      ·exact h3
      ·exact absurd (.inl ⟨h2, h3⟩) hc
     ·by_cases h3 : getF c g < 0
      ·exact absurd (.inr (.inl h3)) hc
      ·omega
     ·by_cases h3 : getF c g ≥ ((2 ^ (partV' c.1 g).1.2.2 : Nat) : Int)
      ·exact absurd (.inr (.inr h3)) hc
      ·omega
    ·exact encL_get c h1 g (by omega)
theorem enc_get {c : Cm} (h : (encV c).2 = 0) : knownV c.1 = true ∧ c.2.2.2.2.2.2.2.1 % 256 = 0 ∧ ∀ g, g < 8 → ((partV' c.1 g).2 = false → getF c g = 0) ∧ 0 ≤ getF c g ∧ getF c g < ((2 ^ (partV' c.1 g).1.2.2 : Nat) : Int) := by
 unfold encV at h
 split at h
 ·rename_i hc
  refine ⟨hc.1, hc.2, ?_⟩
  cases h1 : encL c 8 with
  | none => rw [h1] at h; exact absurd h (by simp)
  | some W => exact encL_get c h1
 ·exact absurd h (by simp)
theorem enc_bits {c : Cm} (h : (encV c).2 = 0) : 0 ≤ c.2.2.2.2.2.2.1 ∧ c.2.2.2.2.2.2.1 ≤ 31 ∧ okPut (c.2.2.2.2.2.2.2.2, c.2.2.2.2.2.2.1, c.2.2.2.2.2.2.2.1) := by
 obtain ⟨_, h2, h3⟩ := enc_get h
 have h5 := (h3 5 (by omega)).2
 have h6 := (h3 6 (by omega)).2
 have e5 : (partV' c.1 5).1.2.2 = 5 := rfl
 have e6 : (partV' c.1 6).1.2.2 = 40 := rfl
 rw [e5] at h5
 rw [e6] at h6
 have g5 : getF c 5 = c.2.2.2.2.2.2.1 := rfl
 have g6 : getF c 6 = c.2.2.2.2.2.2.2.1 / 256 := rfl
 rw [g5] at h5
 rw [g6] at h6
 have h51 : c.2.2.2.2.2.2.1 ≤ 31 := by have := h5.2; omega
 refine ⟨h5.1, h51, fun _ => ⟨h5.1, h51, (c.2.2.2.2.2.2.2.1 / 256).toNat, ?_, ?_⟩⟩
 ·have := h6.2; omega
 ·simp only; omega
theorem enc_nums {c : Cm} (h : (encV c).2 = 0) : 0 ≤ c.2.1 ∧ c.2.1 < 4294967296 ∧ 0 ≤ c.2.2.1 ∧ c.2.2.1 < 4294967296 ∧ 0 ≤ c.2.2.2.1 ∧ 0 ≤ c.2.2.2.2.1 ∧ c.2.2.2.2.1 < 65536 ∧ 0 ≤ c.2.2.2.2.2.1 ∧ c.2.2.2.2.2.1 < 65536 := by
 obtain ⟨_, _, h3⟩ := enc_get h
 have h0 : 0 ≤ c.2.1 ∧ c.2.1 < ((2 ^ 32 : Nat) : Int) := (h3 0 (by omega)).2
 have h1 : 0 ≤ c.2.2.1 ∧ c.2.2.1 < ((2 ^ 32 : Nat) : Int) := (h3 1 (by omega)).2
 have h2 : 0 ≤ c.2.2.2.1 := (h3 2 (by omega)).2.1
 have h4 : 0 ≤ c.2.2.2.2.1 ∧ c.2.2.2.2.1 < ((2 ^ 16 : Nat) : Int) := (h3 3 (by omega)).2
 have h5 : 0 ≤ c.2.2.2.2.2.1 ∧ c.2.2.2.2.2.1 < ((2 ^ 16 : Nat) : Int) := (h3 4 (by omega)).2
 omega
theorem wrN_in {B : List Nat} (hB : okT T B.length) (hb : byOk B) {a w : Nat} (v : Nat) (h : a + w ≤ B.length) : okT T (wrN B a w v).length ∧ byOk (wrN B a w v) := ⟨by rw [wrN_len _ (by omega)]; exact hB, wrN_ok _ _ _ hb⟩
theorem tabPut_in {B : List Nat} (hB : okT T B.length) (hb : byOk B) (a s p id : Int) (d : Dv) : okT T (tabPut B a s p id d).1.length ∧ byOk (tabPut B a s p id d).1 := by
 unfold tabPut
 cases h : slotA B a s p id with
 | none => exact ⟨hB, hb⟩
 | some A => exact wrN_in hB hb _ (by have := slotA_in h; omega)
theorem setTg_in {B : List Nat} (hB : okT T B.length) (hb : byOk B) (c t : Int) (v : Bool) : okT T (setTg B 1792 64 c t v).1.length ∧ byOk (setTg B 1792 64 c t v).1 := by
 unfold setTg
 generalize (if v = true then 2 ^ 63 + t.toNat else 0) = x
 split
 ·exact ⟨hB, hb⟩
 ·split
  ·exact ⟨hB, hb⟩
  ·split
   ·exact ⟨hB, hb⟩
   ·simp only
    unfold memWr
    split
    ·rename_i h
     obtain ⟨A, W, h1, h2, h3, h4, _⟩ := acc_in (by omega) h
     rw [h1, h2]
     exact wrN_in hB hb _ (by simp only [Int.toNat_natCast]; omega)
    ·exact ⟨hB, hb⟩
theorem waitsV_ok {p : Int} {w : SW} (hw : w.ok T nc) (dev ev : Int) (v : Bool) : (waitsV p w dev ev v).1.ok T nc := by
 have hlt := eventV_lt w.B p dev ev
 unfold waitsV
 rw [hw.2.2.1]
 split
 ·exact hw
 ·rcases sideV_cases nc w.B (eventV w.B p dev ev).1.2.1 with ⟨e, he, h⟩ | ⟨k, hk, h⟩
  ·rw [h]; exact hw
  ·rw [h]; exact SW.set_ok hw hk hlt.2.1 v
theorem mapdV_ok {p : Int} {w : SW} (hw : w.ok T nc) {c : Cm} (h0 : 0 ≤ c.2.2.2.2.2.2.1) (h1 : c.2.2.2.2.2.2.1 ≤ 31) : (mapdV p w c).1.ok T nc := by
 unfold mapdV
 split
 ·exact hw
 ·split
  ·exact hw
  ·rename_i hbad
   have hk := fgA_ok (tabGet_ok w.B 1024 256 p c.2.1) hw
   have hwB := hw.1
   have hin : okT T (wpV c.2.2.2.2.2.2.2.2 c.2.2.2.2.2.2.1 c.2.2.2.2.2.2.2.1 (fgA (tabGet w.B 1024 256 p c.2.1).1 w).B).length ∧ byOk (wpV c.2.2.2.2.2.2.2.2 c.2.2.2.2.2.2.1 c.2.2.2.2.2.2.2.1 (fgA (tabGet w.B 1024 256 p c.2.1).1 w).B) := by
    unfold wpV
    split
    ·rename_i hv
     unfold badW at hbad
     rw [hv, Bool.true_and] at hbad
     have hev := evN_le h1
     have hh : holdsV w.B.length c.2.2.2.2.2.2.2.1 (8 * evN c.2.2.2.2.2.2.1) = true := by
      cases h : holdsV w.B.length c.2.2.2.2.2.2.2.1 (8 * evN c.2.2.2.2.2.2.1) with
      | true => rfl
      | false => rw [h] at hbad; simp at hbad
     obtain ⟨A, W, e1, e2, _, hle⟩ := holds_in hh (by omega)
     rw [e1, e2]
     simp only [Int.toNat_natCast]
     have hkB := hk.1
     exact ⟨by rw [wipe_len (by omega)]; exact hkB, wipe_ok hk.2.1⟩
    ·exact ⟨hk.1, hk.2.1⟩
   obtain ⟨hB, hb⟩ := tabPut_in hin.1 hin.2 1024 256 p c.2.1 (c.2.2.2.2.2.2.2.2, c.2.2.2.2.2.2.1, c.2.2.2.2.2.2.2.1)
   exact ⟨hB, hb, hk.2.2⟩
theorem fgO_ok {d : Dv} (hd : okDv d) {w : SW} (hw : w.ok T nc) {x : Er} (h1 : x.2.1 ≤ 9223372036854775807) : (fgO d w x).ok T nc := by
 unfold fgO
 split
 ·have h := fgW_ok hw h1
  obtain ⟨hB, hb⟩ := devSet_in h.1 h.2.1 hd x.1 (0, 0, false)
  exact ⟨hB, hb, h.2.2⟩
 ·exact hw
theorem maptiV_ok {p : Int} {w : SW} (hw : w.ok T nc) (c : Cm) (n : Int) : (maptiV p w c n).1.ok T nc := by
 have hd := deviceV_ok w.B p c.2.1
 unfold maptiV
 repeat' split
 all_goals first | exact hw | skip
 have hr := devRt_lt w.B (deviceV w.B p c.2.1).1 c.2.2.1
 have h1 := invS_ok (fgO_ok hd hw (x := (c.2.2.1, (devRt w.B (deviceV w.B p c.2.1).1 c.2.2.1).1)) hr.2.1) c.2.2.2.2.1 n
 obtain ⟨hB, hb⟩ := devSet_in h1.1 h1.2.1 hd c.2.2.1 (n, c.2.2.2.2.1, true)
 exact ⟨hB, hb, h1.2.2⟩
theorem moviV_ok {p : Int} {w : SW} (hw : w.ok T nc) (c : Cm) : (moviV p w c).1.ok T nc := by
 have hlt := eventV_lt w.B p c.2.1 c.2.2.1
 unfold moviV
 rw [hw.2.2.1]
 split
 ·exact hw
 ·rcases sideV_cases nc w.B c.2.2.2.2.1 with ⟨e, he, h⟩ | ⟨t, ht, h⟩
  ·rw [h]; exact hw
  ·rw [h]
   simp only
   have h1 := SW.inv_ok (mvO_ok hw (eventV w.B p c.2.1 c.2.2.1).1.2.1 hlt.2.1 ht) ht (eventV w.B p c.2.1 c.2.2.1).1.1
   obtain ⟨hB, hb⟩ := devSet_in h1.1 h1.2.1 (deviceV_ok _ p c.2.1) c.2.2.1 ((eventV w.B p c.2.1 c.2.2.1).1.1, c.2.2.2.2.1, (eventV w.B p c.2.1 c.2.2.1).1.2.2)
   exact ⟨hB, hb, h1.2.2⟩
theorem discardV_ok {p : Int} {w : SW} (hw : w.ok T nc) (c : Cm) : (discardV p w c).1.ok T nc := by
 have hlt := eventV_lt w.B p c.2.1 c.2.2.1
 unfold discardV
 split
 ·exact hw
 ·have h := fgW_ok hw (r := (eventV w.B p c.2.1 c.2.2.1).1) hlt.2.1
  obtain ⟨hB, hb⟩ := devSet_in h.1 h.2.1 (deviceV_ok w.B p c.2.1) c.2.2.1 (0, 0, false)
  exact ⟨hB, hb, h.2.2⟩
theorem invE_ok {p : Int} {w : SW} (hw : w.ok T nc) (c : Cm) : (invE p w c).1.ok T nc := by
 unfold invE
 rw [hw.2.2.1]
 split
 ·exact hw
 ·rcases sideV_cases nc w.B (eventV w.B p c.2.1 c.2.2.1).1.2.1 with ⟨e, he, h⟩ | ⟨k, hk, h⟩
  ·rw [h]; exact hw
  ·rw [h]; exact SW.inv_ok hw hk _
theorem mapcV_ok {w : SW} (hw : w.ok T nc) (c : Cm) : (mapcV w c).1.ok T nc := by
 unfold mapcV
 split
 ·exact hw
 ·obtain ⟨hB, hb⟩ := setTg_in hw.1 hw.2.1 c.2.2.2.2.1 c.2.2.2.2.2.1 c.2.2.2.2.2.2.2.2
  exact ⟨hB, hb, hw.2.2⟩
theorem movallV_ok {w : SW} (hw : w.ok T nc) {c : Cm} (h1 : 0 ≤ c.2.2.2.2.2.1) (h2 : 0 ≤ c.2.2.2.1) : (movallV w c).1.ok T nc := by
 unfold movallV
 rw [hw.2.2.1]
 split
 ·exact hw
 ·exact SW.moveA_ok hw (by omega) (by omega)
def invallV (w : SW) (c : Int) : SW × Int := match sideV w.cs.length w.B c with
 | (some k, _) => (w.invA k, 0)
 | (none, e) => (w, e)
def doV (p : Int) (w : SW) (c : Cm) : SW × Int := if (encV c).2 ≠ 0 then (w, (encV c).2) else if c.1 = 8 then mapdV p w c else if c.1 = 9 then mapcV w c else if c.1 = 10 then maptiV p w c c.2.2.2.1 else if c.1 = 11 then maptiV p w c (8192 + c.2.2.1) else
 if c.1 = 1 then moviV p w c else if c.1 = 15 then discardV p w c else if c.1 = 3 then waitsV p w c.2.1 c.2.2.1 true else if c.1 = 4 then waitsV p w c.2.1 c.2.2.1 false else if c.1 = 12 then invE p w c else
 if c.1 = 13 then invallV w c.2.2.2.2.1 else if c.1 = 14 then movallV w c else if c.1 = 5 then (w, if c.2.2.2.2.2.1 ≥ (w.cs.length : Int) then 130 else 0) else (w, 160)
theorem ite_ok {α : Type} {Q : α → Prop} {c : Prop} [Decidable c] {a b : α} (h1 : Q a) (h2 : Q b) : Q (if c then a else b) := by split <;> assumption
theorem doV_ok {p : Int} {w : SW} (hw : w.ok T nc) (c : Cm) : (doV p w c).1.ok T nc := by
 by_cases h : (encV c).2 ≠ 0
 ·unfold doV; rw [if_pos h]; exact hw
 ·unfold doV
  rw [if_neg h]
  have h0 : (encV c).2 = 0 := by omega
  have hbt := enc_bits h0
  have hnm := enc_nums h0
  have hinv : (invallV w c.2.2.2.2.1).1.ok T nc := by
   unfold invallV
   rw [hw.2.2.1]
   rcases sideV_cases nc w.B c.2.2.2.2.1 with ⟨e, he, h⟩ | ⟨k, hk, h⟩
   ·rw [h]; exact hw
   ·rw [h]; exact SW.invA_ok hw hk
  exact ite_ok (Q := fun r : SW × Int => r.1.ok T nc) (mapdV_ok hw hbt.1 hbt.2.1) (ite_ok (Q := fun r : SW × Int => r.1.ok T nc) (mapcV_ok hw c) (ite_ok (Q := fun r : SW × Int => r.1.ok T nc) (maptiV_ok hw c _) (ite_ok (Q := fun r : SW × Int => r.1.ok T nc) (maptiV_ok hw c _) (ite_ok (Q := fun r : SW × Int => r.1.ok T nc) (moviV_ok hw c) (ite_ok (Q := fun r : SW × Int => r.1.ok T nc) (discardV_ok hw c) (ite_ok (Q := fun r : SW × Int => r.1.ok T nc) (waitsV_ok hw _ _ _) (ite_ok (Q := fun r : SW × Int => r.1.ok T nc) (waitsV_ok hw _ _ _) (ite_ok (Q := fun r : SW × Int => r.1.ok T nc) (invE_ok hw c) (ite_ok (Q := fun r : SW × Int => r.1.ok T nc) (hinv) (ite_ok (Q := fun r : SW × Int => r.1.ok T nc) (movallV_ok hw (by omega) (by omega)) (ite_ok (Q := fun r : SW × Int => r.1.ok T nc) (hw) (hw))))))))))))
end Go.Proofs.YtakkogdmlbkdaaaGreatDoor.Sl.It
namespace Go.Proofs.YtakkogdmlbkdaaaGreatDoor.Sl.It
attribute [local irreducible] CW Tri OW
@[reducible] def pk203 : List (Nat × Plan) := []
@[reducible] def pk172 : List (Nat × Plan) := []
attribute [local irreducible] invK enK enV waitL
variable {T nc : Nat}
set_option maxHeartbeats 8000000 in
theorem do14 (β : Base) (s : Sr) (m : Nat) (g : Gr) {ps : List Nat} {A : Atom} {q : Option Addr} (cp : Nat) (hS : TsOk β A q ps nc) {p : Int} (hp : p = 0 ∨ p = 64) {w : SW} (hw : w.ok T nc) (on st : Bool) (i j : Nat) (c : Cm) :
  Tri Tryz.prog β 203 [.pointer (some ⟨s.1, 4, none⟩), .pointer (some ⟨m, 0, none⟩), .slice q nc cp, .agg #[.int .i64 c.1, .int .i64 c.2.1, .int .i64 c.2.2.1, .int .i64 c.2.2.2.1, .int .i64 c.2.2.2.2.1, .int .i64 c.2.2.2.2.2.1, .int .i64 c.2.2.2.2.2.2.1, .int .i64 c.2.2.2.2.2.2.2.1, .bool c.2.2.2.2.2.2.2.2]] (pt s.1 (itH s.2 on st i j p) :: A :: swA m g ps w) (fun u L => u = .int .i64 (doV p w c).2 ∧ L = pt s.1 (itH s.2 on st i j p) :: A :: swA m g ps (doV p w c).1) := by
 refine Tri.intro tt_ok Tryz.func203 rfl rfl Tryz.ntmps203 rfl fun F => ?_
 have hbt := enc_bits (c := c)
 have hnm := enc_nums (c := c)
 unfold doV
 rw [hw.2.2.1]
 obtain ⟨op, dev, ev, num, coll, tgt, b, a, v⟩ := c
 (refine G tt_ok pk203 ?_; repeat (refine G1 tt_ok pk203 ?_; intro _))
 refine ke rfl rfl (encode32 β (op, dev, ev, num, coll, tgt, b, a, v)) ?_
 generalize encV (op, dev, ev, num, coll, tgt, b, a, v) = x at hbt hnm ⊢
 obtain ⟨W, e⟩ := x
 simp only at hbt hnm ⊢
 (refine G tt_ok pk203 ?_; repeat (refine G1 tt_ok pk203 ?_; intro _))
 by_cases he : e = 0
 ·subst he
  have hbt := hbt rfl
  have hnm := hnm rfl
  rw [if_neg (by simp)]
  refine G tt_ok pk203 ?_
  by_cases h8 : op = 8
  ·subst h8
   rw [if_pos rfl]
   refine G tt_ok pk203 ?_
   refine ke rfl rfl (mapd33 β s m g cp hS hp hw on st i j (8, dev, ev, num, coll, tgt, b, a, v) hbt.1 hbt.2.1 hbt.2.2) ?_
   refine G tt_ok pk203 ?_
   exact CW.ret (fin_ret rfl pk_ ⟨rfl, rfl⟩)
  ·rw [if_neg h8, show (op == 8) = false by simp [h8]]
   refine G tt_ok pk203 ?_
   by_cases h9 : op = 9
   ·subst h9
    rw [if_pos rfl]
    refine G tt_ok pk203 ?_
    refine ke rfl rfl (mapc34 β s m g cp hS hp hw on st i j (9, dev, ev, num, coll, tgt, b, a, v)) ?_
    refine G tt_ok pk203 ?_
    exact CW.ret (fin_ret rfl pk_ ⟨rfl, rfl⟩)
   ·rw [if_neg h9, show (op == 9) = false by simp [h9]]
    refine G tt_ok pk203 ?_
    by_cases h10 : op = 10
    ·subst h10
     rw [if_pos rfl]
     refine G tt_ok pk203 ?_
     refine ke rfl rfl (mapti35 β s m g cp hS hp hw on st i j (10, dev, ev, num, coll, tgt, b, a, v) num) ?_
     refine G tt_ok pk203 ?_
     exact CW.ret (fin_ret rfl pk_ ⟨rfl, rfl⟩)
    ·rw [if_neg h10, show (op == 10) = false by simp [h10]]
     refine G tt_ok pk203 ?_
     by_cases h11 : op = 11
     ·subst h11
      rw [if_pos rfl]
      refine G tt_ok pk203 ?_
      rw [show IntKind.i64.wrap (8192 + ev) = 8192 + ev from wrap_id (by omega) (by omega)]
      refine G tt_ok pk203 ?_
      refine ke rfl rfl (mapti35 β s m g cp hS hp hw on st i j (11, dev, ev, num, coll, tgt, b, a, v) (8192 + ev)) ?_
      refine G tt_ok pk203 ?_
      exact CW.ret (fin_ret rfl pk_ ⟨rfl, rfl⟩)
     ·rw [if_neg h11, show (op == 11) = false by simp [h11]]
      refine G tt_ok pk203 ?_
      by_cases h1 : op = 1
      ·subst h1
       rw [if_pos rfl]
       refine G tt_ok pk203 ?_
       refine ke rfl rfl (movi36 β s m g cp hS hp hw on st i j (1, dev, ev, num, coll, tgt, b, a, v)) ?_
       refine G tt_ok pk203 ?_
       exact CW.ret (fin_ret rfl pk_ ⟨rfl, rfl⟩)
      ·rw [if_neg h1, show (op == 1) = false by simp [h1]]
       refine G tt_ok pk203 ?_
       by_cases h15 : op = 15
       ·subst h15
        rw [if_pos rfl]
        refine G tt_ok pk203 ?_
        refine ke rfl rfl (discard37 β s m g cp hS hp hw on st i j (15, dev, ev, num, coll, tgt, b, a, v)) ?_
        refine G tt_ok pk203 ?_
        exact CW.ret (fin_ret rfl pk_ ⟨rfl, rfl⟩)
       ·rw [if_neg h15, show (op == 15) = false by simp [h15]]
        refine G tt_ok pk203 ?_
        by_cases h3 : op = 3
        ·subst h3
         rw [if_pos rfl]
         refine G tt_ok pk203 ?_
         refine ke rfl rfl (waits38 β s m g cp hS hp hw on st i j dev ev true) ?_
         refine G tt_ok pk203 ?_
         exact CW.ret (fin_ret rfl pk_ ⟨rfl, rfl⟩)
        ·rw [if_neg h3, show (op == 3) = false by simp [h3]]
         refine G tt_ok pk203 ?_
         by_cases h4 : op = 4
         ·subst h4
          rw [if_pos rfl]
          refine G tt_ok pk203 ?_
          refine ke rfl rfl (waits38 β s m g cp hS hp hw on st i j dev ev false) ?_
          refine G tt_ok pk203 ?_
          exact CW.ret (fin_ret rfl pk_ ⟨rfl, rfl⟩)
         ·rw [if_neg h4, show (op == 4) = false by simp [h4]]
          refine G tt_ok pk203 ?_
          by_cases h12 : op = 12
          ·subst h12
           rw [if_pos rfl]
           refine G tt_ok pk203 ?_
           refine ke rfl rfl (inv39 β s m g cp hS hp hw on st i j (12, dev, ev, num, coll, tgt, b, a, v)) ?_
           refine G tt_ok pk203 ?_
           exact CW.ret (fin_ret rfl pk_ ⟨rfl, rfl⟩)
          ·rw [if_neg h12, show (op == 12) = false by simp [h12]]
           refine G tt_ok pk203 ?_
           by_cases h13 : op = 13
           ·subst h13
            rw [if_pos rfl]
            refine G tt_ok pk203 ?_
            refine ke rfl rfl (side40 β s m g w.B hw.1 hw.2.1 on st i j p (cp := cp) hS.hS hS.hl coll) ?_
            unfold invallV
            rw [hw.2.2.1]
            rcases sideV_cases nc w.B coll with ⟨e, he, h⟩ | ⟨k, hk, h⟩
            ·rw [h]
             refine G tt_ok pk203 ?_
             rw [show (e == 0) = false by simp [he]]
             refine G tt_ok pk203 ?_
             exact CW.ret (fin_ret rfl pk_ ⟨rfl, rfl⟩)
            ·rw [h]
             refine G tt_ok pk203 ?_
             refine ke rfl rfl (invAll41C β m g ps hw hk) ?_
             refine G tt_ok pk203 ?_
             exact CW.ret (fin_ret rfl pk_ ⟨rfl, rfl⟩)
           ·rw [if_neg h13, show (op == 13) = false by simp [h13]]
            refine G tt_ok pk203 ?_
            by_cases h14 : op = 14
            ·subst h14
             rw [if_pos rfl]
             refine G tt_ok pk203 ?_
             refine ke rfl rfl (movall42 β s m g cp hS hp hw on st i j (14, dev, ev, num, coll, tgt, b, a, v) (by simp only; omega) (by simp only; omega)) ?_
             refine G tt_ok pk203 ?_
             exact CW.ret (fin_ret rfl pk_ ⟨rfl, rfl⟩)
            ·rw [if_neg h14, show (op == 14) = false by simp [h14]]
             refine G tt_ok pk203 ?_
             by_cases h5 : op = 5
             ·subst h5
              rw [if_pos rfl]
              refine G tt_ok pk203 ?_
              by_cases ht : tgt ≥ (nc : Int)
              ·rw [if_pos ht, decide_eq_true (show tgt ≥ ((nc : Nat) : Int) from ht)]
               refine G tt_ok pk203 ?_
               exact CW.ret (fin_ret rfl pk_ ⟨rfl, rfl⟩)
              ·rw [if_neg ht, decide_eq_false (show ¬ tgt ≥ ((nc : Nat) : Int) from ht)]
               refine G tt_ok pk203 ?_
               exact CW.ret (fin_ret rfl pk_ ⟨rfl, rfl⟩)
             ·rw [if_neg h5, show (op == 5) = false by simp [h5]]
              refine G tt_ok pk203 ?_
              exact CW.ret (fin_ret rfl pk_ ⟨rfl, rfl⟩)
 ·rw [show (e != 0) = true by simp [he], if_pos he]
  refine G tt_ok pk203 ?_
  exact CW.ret (fin_ret rfl pk_ ⟨rfl, rfl⟩)
structure IW where
 w : SW
 st : Bool
 i : Nat
def IW.ok (T nc : Nat) (x : IW) : Prop := x.w.ok T nc ∧ x.i < 32
def nxI (i j : Nat) : Nat := if lefN i j = 0 then i else (i + 1) % 32
def stepV (p : Int) (on : Bool) (j : Nat) (x : IW) : IW × Cm × Int := if on = false then (x, cm0, 191) else if x.st then (x, cm0, 190) else
 if (headV x.w.B x.i j).2 = 170 then (x, cm0, 170) else if (headV x.w.B x.i j).2 ≠ 0 then (⟨x.w, true, x.i⟩, cm0, (headV x.w.B x.i j).2) else
 if (doV p x.w (headV x.w.B x.i j).1).2 ≠ 0 then (⟨(doV p x.w (headV x.w.B x.i j).1).1, true, x.i⟩, cm0, (doV p x.w (headV x.w.B x.i j).1).2) else
 (⟨(doV p x.w (headV x.w.B x.i j).1).1, false, nxI x.i j⟩, (headV x.w.B x.i j).1, 0)
theorem nxI_lt {i : Nat} (j : Nat) (h : i < 32) : nxI i j < 32 := by unfold nxI; split <;> omega
theorem stepV_ok {p : Int} {on : Bool} {j : Nat} {x : IW} (h : x.ok T nc) : (stepV p on j x).1.ok T nc := by
 unfold stepV
 repeat' split
 all_goals first | exact h | exact ⟨h.1, h.2⟩ | exact ⟨doV_ok h.1 _, h.2⟩ | exact ⟨doV_ok h.1 _, nxI_lt j h.2⟩
theorem headV_170 {B : List Nat} {i j : Nat} (h : (headV B i j).2 = 170) : (headV B i j).1 = cm0 ∧ lefN i j = 0 := by
 unfold headV at h ⊢
 split
 ·rename_i e; exact ⟨rfl, e⟩
 ·rename_i e
  rw [if_neg e] at h
  unfold decV at h
  split at h <;> exact absurd h (by simp)
set_option maxHeartbeats 8000000 in
theorem step22 (β : Base) (s : Sr) (m : Nat) (g : Gr) {ps : List Nat} {A : Atom} {q : Option Addr} (cp : Nat) (hS : TsOk β A q ps nc) {p : Int} (hp : p = 0 ∨ p = 64) {x : IW} (hx : x.ok T nc) (on : Bool) {j : Nat} (hj : j < 32) :
  Tri Tryz.prog β 172 [.pointer (some ⟨s.1, 4, none⟩), .pointer (some ⟨m, 0, none⟩), .slice q nc cp] (pt s.1 (itH s.2 on x.st x.i j p) :: A :: swA m g ps x.w) (fun u L => u = .tuple #[.agg (cmC (stepV p on j x).2.1).toArray, .int .i64 (stepV p on j x).2.2] ∧ L = pt s.1 (itH s.2 on (stepV p on j x).1.st (stepV p on j x).1.i j p) :: A :: swA m g ps (stepV p on j x).1.w) := by
 refine Tri.intro tt_ok Tryz.func172 rfl rfl Tryz.ntmps172 rfl fun F => ?_
 obtain ⟨w, st, i⟩ := x
 obtain ⟨hw, hi⟩ := hx
 unfold stepV
 simp only at hw hi ⊢
 (refine G tt_ok pk172 ?_; repeat (refine G1 tt_ok pk172 ?_; intro _))
 cases on with
 | false =>
  refine G tt_ok pk172 ?_
  exact CW.ret (fin_cells [_, _] ⟨cl_, rfl, trivial⟩ pk_ ⟨rfl, rfl⟩)
 | true =>
  refine G tt_ok pk172 ?_
  rw [if_neg (by simp)]
  cases st with
  | true =>
   refine G tt_ok pk172 ?_
   exact CW.ret (fin_cells [_, _] ⟨cl_, rfl, trivial⟩ pk_ ⟨rfl, rfl⟩)
  | false =>
   rw [if_neg (by simp)]
   refine G tt_ok pk172 ?_
   refine ke rfl rfl (head52 β m g w.B hw.1 hw.2.1 hi hj) ?_
   have h170 := headV_170 (B := w.B) (i := i) (j := j)
   generalize headV w.B i j = h at h170 ⊢
   obtain ⟨c, e⟩ := h
   simp only at h170 ⊢
   (refine G tt_ok pk172 ?_; repeat (refine G1 tt_ok pk172 ?_; intro _))
   by_cases h1 : e = 170
   ·subst h1
    have h170 := (h170 rfl).1
    subst h170
    rw [if_pos rfl]
    refine G tt_ok pk172 ?_
    exact CW.ret (fin_cells [_, _] ⟨cl_, rfl, trivial⟩ pk_ ⟨rfl, rfl⟩)
   ·rw [if_neg h1, show (e == 170) = false by simp [h1]]
    refine G tt_ok pk172 ?_
    by_cases he : e = 0
    ·subst he
     rw [if_neg (by simp)]
     refine G tt_ok pk172 ?_
     refine ke rfl rfl (do14 β s m g cp hS hp hw true false i j c) ?_
     generalize doV p w c = r
     obtain ⟨w2, e2⟩ := r
     simp only
     refine G tt_ok pk172 ?_
     by_cases he2 : e2 = 0
     ·subst he2
      rw [if_neg (by simp)]
      refine G tt_ok pk172 ?_
      refine ke rfl rfl (pass19 β s true false p hi hj) ?_
      refine G tt_ok pk172 ?_
      exact CW.ret (fin_cells [_, _] ⟨cl_, rfl, trivial⟩ pk_ ⟨rfl, rfl⟩)
     ·rw [if_pos he2, show (e2 != 0) = true by simp [he2]]
      refine G tt_ok pk172 ?_
      exact CW.ret (fin_cells [_, _] ⟨cl_, rfl, trivial⟩ pk_ ⟨rfl, rfl⟩)
    ·rw [if_pos he, show (e == 0) = false by simp [he]]
     refine G tt_ok pk172 ?_
     rw [show (e != 0) = true by simp [he]]
     refine G tt_ok pk172 ?_
     exact CW.ret (fin_cells [_, _] ⟨cl_, rfl, trivial⟩ pk_ ⟨rfl, rfl⟩)
end Go.Proofs.YtakkogdmlbkdaaaGreatDoor.Sl.It
namespace Go.Proofs.YtakkogdmlbkdaaaGreatDoor.Sl.It
attribute [local irreducible] CW Tri OW
@[reducible] def pk125 : List (Nat × Plan) := []
@[reducible] def pk124 : List (Nat × Plan) := []
attribute [local irreducible] invK enK enV waitL
variable {T nc : Nat}
def resI (st : Bool) (i j : Nat) (v : Bool) : Nat := if st && v then nxI i j else i
theorem resume64 (β : Base) (s : Sr) (on st : Bool) {i j : Nat} (p : Int) (hi : i < 32) (hj : j < 32) (v : Bool) : Tri Tryz.prog β 125 [.pointer (some ⟨s.1, 4, none⟩), .bool v] [pt s.1 (itH s.2 on st i j p)]
  (fun u L => u = .tuple #[] ∧ L = [pt s.1 (itH s.2 on false (resI st i j v) j p)]) := by
 refine Tri.intro tt_ok Tryz.func125 rfl rfl Tryz.ntmps125 rfl fun F => ?_
 unfold resI
 refine G tt_ok pk125 ?_
 cases st with
 | false =>
  refine G tt_ok pk125 ?_
  exact fin_normal (vs := []) rfl pk_ ⟨rfl, rfl⟩
 | true =>
  refine G tt_ok pk125 ?_
  cases v with
  | false =>
   refine G tt_ok pk125 ?_
   exact fin_normal (vs := []) rfl pk_ ⟨rfl, rfl⟩
  | true =>
   refine G tt_ok pk125 ?_
   refine ke rfl rfl (pass19 β s on true p hi hj) ?_
   refine G tt_ok pk125 ?_
   exact fin_normal (vs := []) rfl pk_ ⟨rfl, rfl⟩
def runV (p : Int) (on : Bool) (j : Nat) : Nat → Nat → IW → IW × Nat × Int
 | 0, n, x => (x, n, 0)
 | r + 1, n, x => if (stepV p on j x).2.2 = 170 then ((stepV p on j x).1, n, 0) else if (stepV p on j x).2.2 ≠ 0 then ((stepV p on j x).1, n, (stepV p on j x).2.2) else runV p on j r (n + 1) (stepV p on j x).1
theorem runV_s (p : Int) (on : Bool) (j r n : Nat) (x : IW) : runV p on j (r + 1) n x = if (stepV p on j x).2.2 = 170 then ((stepV p on j x).1, n, 0) else if (stepV p on j x).2.2 ≠ 0 then ((stepV p on j x).1, n, (stepV p on j x).2.2) else runV p on j r (n + 1) (stepV p on j x).1 := rfl
set_option maxHeartbeats 8000000 in
theorem run21 (β : Base) (s : Sr) (m : Nat) (g : Gr) {ps : List Nat} {A : Atom} {q : Option Addr} (cp : Nat) (hS : TsOk β A q ps nc) {p : Int} (hp : p = 0 ∨ p = 64) {x : IW} (hx : x.ok T nc) (on : Bool) {j : Nat} (hj : j < 32) {N : Nat} (hN : N ≤ 1000000) :
  Tri Tryz.prog β 124 [.pointer (some ⟨s.1, 4, none⟩), .pointer (some ⟨m, 0, none⟩), .slice q nc cp, .int .i64 N] (pt s.1 (itH s.2 on x.st x.i j p) :: A :: swA m g ps x.w) (fun u L => u = .tuple #[.int .i64 (runV p on j N 0 x).2.1, .int .i64 (runV p on j N 0 x).2.2] ∧
   L = pt s.1 (itH s.2 on (runV p on j N 0 x).1.st (runV p on j N 0 x).1.i j p) :: A :: swA m g ps (runV p on j N 0 x).1.w) := by
 refine Tri.intro tt_ok Tryz.func124 rfl rfl Tryz.ntmps124 rfl fun F => ?_
 have hm : (if (0 : Int) < (N : Int) then (N : Int) else 0) = (N : Int) := by split <;> omega
 refine G tt_ok pk124 ?_
 rw [hm]
 refine G tt_ok pk124 ?_
 refine CW.loop (α := Nat × IW) (fun y => y.1 ≤ N ∧ y.2.ok T nc ∧ runV p on j (N - y.1) y.1 y.2 = runV p on j N 0 x)
  (fun y => [(15, .int .i64 y.1), (14, .int .i64 N), (0, .pointer (some ⟨s.1, 4, none⟩)), (1, .pointer (some ⟨m, 0, none⟩)), (2, .slice q nc cp), (3, .int .i64 N), (8, .int .i64 0), (9, .int .i64 0)])
  (fun y => pt s.1 (itH s.2 on y.2.st y.2.i j p) :: A :: swA m g ps y.2.w) (fun y => N - y.1) (0, x) ⟨by simp, hx, by simp⟩ ⟨rfl, rfl, rfl, rfl, rfl, rfl, rfl, rfl, trivial⟩ pk_ ?_
 rintro ⟨n, y⟩ ⟨hn, hy, hE⟩
 simp only at hn hy hE ⊢
 refine G tt_ok pk124 ?_
 by_cases hlt : n < N
 ·rw [decide_eq_true (show (n : Int) < N by omega)]
  have hwr : IntKind.i64.wrap ((n : Int) + 1) = ((n + 1 : Nat) : Int) := by rw [wrap_i64]; split <;> omega
  obtain ⟨r, hr⟩ : ∃ r, N - n = r + 1 := ⟨N - n - 1, by omega⟩
  rw [hr, runV_s] at hE
  have hok := stepV_ok (p := p) (on := on) (j := j) hy
  refine G tt_ok pk124 ?_
  refine ke rfl rfl (step22 β s m g cp hS hp hy on hj) ?_
  generalize stepV p on j y = z at hE hok ⊢
  obtain ⟨z, c, e⟩ := z
  simp only at hE hok ⊢
  (refine G tt_ok pk124 ?_; repeat (refine G1 tt_ok pk124 ?_; intro _))
  by_cases h1 : e = 170
  ·subst h1
   rw [if_pos rfl] at hE
   rw [← hE]
   refine G tt_ok pk124 ?_
   exact CW.ret (fin_ret rfl pk_ ⟨rfl, rfl⟩)
  ·rw [if_neg h1] at hE
   rw [show (e == 170) = false by simp [h1]]
   refine G tt_ok pk124 ?_
   by_cases he : e = 0
   ·subst he
    rw [if_neg (by simp)] at hE
    refine G tt_ok pk124 ?_
    refine ⟨(n + 1, z), ⟨by simp; omega, hok, ?_⟩, by simp; omega, ⟨by rw [← hwr]; rfl, rfl, rfl, rfl, rfl, rfl, rfl, rfl, trivial⟩, pk_⟩
    simp only
    rw [show N - (n + 1) = r by omega]
    exact hE
   ·rw [if_pos he] at hE
    rw [← hE, show (e != 0) = true by simp [he]]
    refine G tt_ok pk124 ?_
    exact CW.ret (fin_ret rfl pk_ ⟨rfl, rfl⟩)
 ·rw [decide_eq_false (show ¬ (n : Int) < N by omega)]
  refine G tt_ok pk124 ?_
  refine CW.exit ?_
  refine G tt_ok pk124 ?_
  rw [hm]
  refine G tt_ok pk124 ?_
  rw [show N - n = 0 by omega] at hE
  have hE2 : (y, n, 0) = runV p on j N 0 x := by rw [← hE]; rfl
  rw [← hE2]
  have hnN : n = N := by omega
  rw [hnN]
  exact CW.ret (fin_ret rfl pk_ ⟨rfl, rfl⟩)
end Go.Proofs.YtakkogdmlbkdaaaGreatDoor.Sl.It
namespace Go.Proofs.YtakkogdmlbkdaaaGreatDoor.Sl.It
attribute [local irreducible] CW Tri OW
@[reducible] def pk185 : List (Nat × Plan) := []
@[reducible] def pk178 : List (Nat × Plan) := []
@[reducible] def pk98 : List (Nat × Plan) := []
@[reducible] def pk150 : List (Nat × Plan) := []
attribute [local irreducible] invK enK enV waitL
variable {T nc : Nat}
def tzT : List Nat := [0, 1, 56, 2, 57, 49, 28, 3, 61, 58, 42, 50, 38, 29, 17, 4, 62, 47, 59, 36, 45, 43, 51, 22, 53, 39, 33, 30, 24, 18, 12, 5, 63, 55, 48, 27, 60, 41, 37, 16, 46, 35, 44, 21, 52, 32, 23, 11, 54, 26, 40, 15, 34, 20, 31, 10, 25, 14, 19, 9, 13, 8, 7, 6]
def TabOk (β : Base) : Prop := 0 < β.heap.size ∧ ∃ t fz, β.heap[0]? = some (.cells (bys tzT).toArray t fz)
theorem tab_ent {β : Base} (h : TabOk β) (L : List Atom) : Ent L (pq β false 0 (bys tzT) :: L) := fun k s => by
 refine ⟨k, ⟨Hp.emp, k, ⟨rfl, h.1, ?_⟩, s, Hp.emp_disj _, (Hp.emp_add _).symm⟩, Hp.le_refl k⟩
 obtain ⟨t, fz, e⟩ := h.2
 exact ⟨t, fz, e⟩
def tzI (y : Nat) : Nat := (y &&& (2 ^ 64 - y)) * 285870213051353865 % 2 ^ 64 / 2 ^ 58
def lowB (y : Nat) : Nat := tzT.getD (tzI y) 0
theorem getD_some {l : List Nat} {k : Nat} (h : k < l.length) : l[k]? = some (l.getD k 0) := by
 rw [List.getD_eq_getElem?_getD, List.getElem?_eq_getElem h, Option.getD_some]
theorem lowB_lt (y : Nat) : lowB y < 64 := by
 unfold lowB
 have h : ∀ x ∈ tzT, x < 64 := by decide
 rw [List.getD_eq_getElem?_getD]
 cases e : tzT[tzI y]? with
 | none => decide
 | some x => exact h x (List.mem_of_getElem? e)
theorem neg64 {y : Nat} (h0 : 0 < y) (hy : y < 2 ^ 64) : IntKind.u64.wrap (0 - (y : Int)) = ((2 ^ 64 - y : Nat) : Int) := by
 rw [wrap_u64]; have : (2 : Nat) ^ 64 = 18446744073709551616 := rfl; omega
theorem tzI_lt (y : Nat) : tzI y < 64 := by
 unfold tzI
 generalize (y &&& (2 ^ 64 - y)) * 285870213051353865 = z
 have h : z % 2 ^ 64 < 2 ^ 64 := Nat.mod_lt _ (by decide)
 have h2 : (2 : Nat) ^ 64 = 64 * 2 ^ 58 := by decide
 exact Nat.div_lt_of_lt_mul (by rw [Nat.mul_comm, ← h2]; exact h)
theorem tz_ix {y : Nat} (h0 : 0 < y) (hy : y < 2 ^ 64) : (IntKind.u64.wrap (IntKind.u64.wrap ((BitVec.ofInt IntKind.u64.bits (y : Int) &&& BitVec.ofInt IntKind.u64.bits (IntKind.u64.wrap (0 - (y : Int)))).toNat : Int) * 285870213051353865)).fdiv (2 ^ min 58 IntKind.u64.bits) = ((tzI y : Nat) : Int) := by
 rw [neg64 h0 hy, and64 hy (by omega), show (((y &&& (2 ^ 64 - y) : Nat) : Int) * 285870213051353865) = (((y &&& (2 ^ 64 - y)) * 285870213051353865 : Nat) : Int) by simp]
 rw [wrap_u64, show ((((y &&& (2 ^ 64 - y)) * 285870213051353865 : Nat) : Int) % 18446744073709551616) = (((y &&& (2 ^ 64 - y)) * 285870213051353865 % 2 ^ 64 : Nat) : Int) by simp]
 exact fdivN _ 58 (by omega)
theorem bys_at0 {B : List Nat} {k : Nat} {b : Nat} (h : B[k]? = some b) : rdv ti5 (bys B) (0 + k * 1) = some (.int .u8 (b : Int)) := by
 have := bys_at (X := []) h
 rwa [List.append_nil] at this
set_option maxHeartbeats 4000000 in
theorem tz177 (β : Base) (hG : TabOk β) {y : Nat} (h0 : 0 < y) (hy : y < 2 ^ 64) : Tri Tryz.prog β 185 [.int .u64 y] [] (fun v L => v = .int .i64 (lowB y) ∧ L = []) := by
 refine Tri.intro tt_ok Tryz.func185 rfl rfl Tryz.ntmps185 rfl fun F => ?_
 refine G tt_ok pk185 ?_
 rw [show ((y : Int) == 0) = false by simp; omega]
 refine G tt_ok pk185 ?_
 rw [tz_ix h0 hy]
 have hr : tzT[tzI y]? = some (lowB y) := getD_some (show tzI y < tzT.length from tzI_lt y)
 have hlt := tzI_lt y
 have hl := lowB_lt y
 have hE := tab_ent hG
 generalize tzI y = n at hr hlt ⊢
 generalize lowB y = x at hr hl ⊢
 generalize tzT = Z at hr hE
 refine SQ.idx tt_ok rfl rfl n rfl hlt (o' := 0 + n * 1) rfl ?_
 refine SQ.ent _ (hE _) ?_
 (refine SQ.ldA tt_ok rfl rfl (by repeat (first | exact .h | exact .q | apply At.t)) (bys_at0 hr) ?_)
 refine G tt_ok pk185 ?_
 rw [wrap_id (x := ((x : Nat) : Int)) (by omega) (by omega)]
 exact CW.ret (fin_ret rfl pk_ ⟨rfl, rfl⟩)
theorem wC_one (a : Nat) : scal (wC a) = true := rfl
set_option maxHeartbeats 4000000 in
theorem clone175 (β : Base) (q : Option Addr) (c : Nat) {U : List Nat} (hU : setOk U) :
  Tri Tryz.prog β 178 [.slice q U.length c] [own 121 1 (.slice q U.length c) U.length (U.flatMap wC)] (fun v L => ∃ q1 c1, v = .slice q1 U.length c1 ∧ L = [own 121 1 (.slice q U.length c) U.length (U.flatMap wC), own 121 1 (.slice q1 U.length c1) U.length (U.flatMap wC)]) := by
 have hl8 := hU.1
 have hfl : (U.flatMap wC).length = U.length * 1 := by rw [flatE_len (sz := 1) (fun _ => rfl)]
 have hone := one_flat wC_one U
 refine Tri.intro tt_ok Tryz.func178 rfl rfl Tryz.ntmps178 rfl fun F => ?_
 refine CW.ent own_qn (CW.pure_ fun hq => ?_)
 obtain ⟨_, hq⟩ := hq
 rcases hq with ⟨rfl, h0⟩ | ⟨g, rfl⟩
 ·have hU0 : U = [] := List.eq_nil_of_length_eq_zero h0
  subst hU0
  refine G tt_ok pk178 ?_
  exact CW.ret (fin_ret rfl (A := [own 121 1 (.slice none 0 c) 0 [], own 121 1 (.slice none 0 0) 0 []]) (Ent.trans (own_nil 121 1) (Ent.perm (List.Perm.swap _ _ _))) ⟨none, 0, rfl, rfl⟩)
 ·generalize U.flatMap wC = cs at hfl hone
  generalize U.length = n at hfl hl8
  refine G tt_ok pk178 ?_
  refine SQ.builtO tt_ok rfl rfl rfl rfl (fun b => ⟨(by repeat (first | exact trivial | refine ⟨trivial, ?_⟩ | refine ⟨wk (by repeat (first | exact .h | exact .q | apply At.t)) (by rfl), ?_⟩)), ?_⟩)
  refine G tt_ok pk178 ?_
  refine SQ.appG tt_ok rfl rfl 0 rfl (A := own 121 1 (.slice (some ⟨g, 0, none⟩) n c) n cs) (news := cs) (sz := 1) slr_own (.t .h) rfl hfl rfl hone (by omega) (by show (0 + n) * 8 ≤ _; omega) (fun v' => ⟨(by repeat (first | exact trivial | refine ⟨trivial, ?_⟩ | refine ⟨wk (by repeat (first | exact .h | exact .q | apply At.t)) (by rfl), ?_⟩)), ?_⟩)
  refine SQ.ent _ (Ent.head (own_shape _ _ _ _ _)) ?_
  refine SQ.open_ fun x => ?_
  refine SQ.pure_ fun hv => ?_
  subst hv
  refine G tt_ok pk178 ?_
  rw [Nat.zero_add]
  exact CW.ret (fin_ret rfl (A := [own 121 1 (.slice (some ⟨g, 0, none⟩) n c) n cs, own 121 1 (.slice x.1 n x.2) n cs]) (Ent.perm (List.Perm.swap _ _ _)) ⟨x.1, x.2, rfl, rfl⟩)
set_option maxHeartbeats 4000000 in
theorem all126 (β : Base) (S : Nat) (q : Option Addr) (c : Nat) {U : List Nat} (hU : setOk U) :
  Tri Tryz.prog β 98 [.pointer (some ⟨S, 0, none⟩)] (setL S q c U) (fun v L => ∃ b1 b2 q1 c1, v = .func (.func 184) #[] #[.pointer (some ⟨b1, 0, none⟩), .pointer (some ⟨b2, 0, none⟩)] ∧
   L = [pt b1 [.slice q1 U.length c1], rowA q1 U.length (U.flatMap wC), pt b2 [.int .i64 0]] ++ setL S q c U) := by
 have h159 : Tri Tryz.prog β 150 [.pointer (some ⟨S, 0, none⟩), .int .i64 0] (setL S q c U) (fun v L => ∃ b1 b2 q1 c1, v = .func (.func 184) #[] #[.pointer (some ⟨b1, 0, none⟩), .pointer (some ⟨b2, 0, none⟩)] ∧
   L = [pt b1 [.slice q1 U.length c1], rowA q1 U.length (U.flatMap wC), pt b2 [.int .i64 0]] ++ setL S q c U) := by
  refine Tri.intro tt_ok Tryz.func150 rfl rfl Tryz.ntmps150 rfl fun F => ?_
  unfold setL
  (refine G tt_ok pk150 ?_; repeat (refine G1 tt_ok pk150 ?_; intro _))
  rename_i b2
  (refine ka rfl rfl (clone175 β q c hU) ?_; rintro _ _ ⟨q1, c1, rfl, rfl⟩; refine w_ ?_)
  (refine G tt_ok pk150 ?_; repeat (refine G1 tt_ok pk150 ?_; intro _))
  rename_i b1
  refine CW.ent (Rm.to (A := own 121 1 (.slice q1 U.length c1) U.length (U.flatMap wC)) (by repeat (first | exact Rm.h | apply Rm.t)) own_row) ?_
  exact CW.ret (fin_ret rfl (A := [pt b1 [.slice q1 U.length c1], rowA q1 U.length (U.flatMap wC), pt b2 [.int .i64 0]] ++ [pt S [.slice q U.length c], own 121 1 (.slice q U.length c) U.length (U.flatMap wC)]) pk_ ⟨b1, b2, q1, c1, rfl, rfl⟩)
 refine Tri.intro tt_ok Tryz.func98 rfl rfl Tryz.ntmps98 rfl fun F => ?_
 refine G tt_ok pk98 ?_
 (refine ka rfl rfl (h159) ?_; rintro _ _ ⟨b1, b2, q1, c1, rfl, rfl⟩; refine w_ ?_)
 refine G tt_ok pk98 ?_
 exact CW.ret (fin_ret rfl (A := [pt b1 [.slice q1 U.length c1], rowA q1 U.length (U.flatMap wC), pt b2 [.int .i64 0]] ++ setL S q c U) pk_ ⟨b1, b2, q1, c1, rfl, rfl⟩)
end Go.Proofs.YtakkogdmlbkdaaaGreatDoor.Sl.It
namespace Go.Proofs.YtakkogdmlbkdaaaGreatDoor.Sl.It
attribute [local irreducible] CW Tri OW
@[reducible] def pk184 : List (Nat × Plan) := []
attribute [local irreducible] invK enK enV waitL
variable {T nc : Nat}
def bitsN (y : Nat) : List Nat := if h : y = 0 then [] else lowB y :: bitsN (y &&& (y - 1))
termination_by y
decreasing_by have := @Nat.and_le_right y (y - 1); omega
theorem bitsN_0 : bitsN 0 = [] := by rw [bitsN]; simp
theorem bitsN_s {y : Nat} (h : y ≠ 0) : bitsN y = lowB y :: bitsN (y &&& (y - 1)) := by rw [bitsN]; simp [h]
theorem bitsN_lt : ∀ (n y : Nat), y ≤ n → ∀ x ∈ bitsN y, x < 64
 | 0, y, h => by
  obtain rfl : y = 0 := by omega
  rw [bitsN_0]; simp
 | n + 1, y, h => by
  by_cases h0 : y = 0
  ·subst h0; rw [bitsN_0]; simp
  ·rw [bitsN_s h0]
   intro x hx
   rcases List.mem_cons.1 hx with rfl | hx
   ·exact lowB_lt y
   ·exact bitsN_lt n _ (by have := @Nat.and_le_right y (y - 1); omega) x hx
theorem and_pred {y : Nat} (h0 : y ≠ 0) (hy : y < 2 ^ 64) : IntKind.u64.wrap ((BitVec.ofInt IntKind.u64.bits (y : Int) &&& BitVec.ofInt IntKind.u64.bits (IntKind.u64.wrap ((y : Int) - 1))).toNat : Int) = ((y &&& (y - 1) : Nat) : Int) := by
 rw [show IntKind.u64.wrap ((y : Int) - 1) = ((y - 1 : Nat) : Int) by rw [wrap_u64]; have : (2 : Nat) ^ 64 = 18446744073709551616 := rfl; omega]
 exact and64 hy (by omega)
def memU : Nat → List Nat → List Int
 | _, [] => []
 | k, y :: r => (bitsN y).map (fun b => ((64 * k + b : Nat) : Int)) ++ memU (k + 1) r
set_option maxHeartbeats 8000000 in
theorem iter176 (β : Base) (hG : TabOk β) (b1 b2 : Nat) (q : Option Addr) (c : Nat) {U : List Nat} (hU : ∀ y ∈ U, y < 2 ^ 64) (hl : U.length ≤ 1000) :
  Iter Tryz.prog β 184 [.pointer (some ⟨b1, 0, none⟩), .pointer (some ⟨b2, 0, none⟩)] [pt b1 [.slice q U.length c], rowA q U.length (U.flatMap wC), pt b2 [.int .i64 0]] iC (memU 0 U) := by
 intro l J Jx hY
 refine Tri.intro tt_ok Tryz.func184 rfl rfl Tryz.ntmps184 rfl fun F => ?_
 refine G tt_ok pk184 ?_
 refine CW.loop (α := Nat × List Int) (fun x => x.1 ≤ U.length ∧ x.2 ++ memU x.1 (U.drop x.1) = memU 0 U) (fun x => [(9, .int .i64 x.1), (8, .int .i64 U.length), (7, .slice q U.length c), (0, .func (.yield l) #[] #[]), (1, .pointer (some ⟨b1, 0, none⟩)), (2, .pointer (some ⟨b2, 0, none⟩))])
  (fun x => [J x.2, pt b1 [.slice q U.length c], rowA q U.length (U.flatMap wC), pt b2 [.int .i64 0]]) (fun x => U.length - x.1) (0, []) ⟨by simp, rfl⟩ ⟨rfl, rfl, rfl, rfl, rfl, rfl, trivial⟩ pk_ ?_
 rintro ⟨k, pre⟩ ⟨hk, hE⟩
 simp only at hk hE ⊢
 refine G tt_ok pk184 ?_
 by_cases hlt : k < U.length
 ·rw [decide_eq_true (show (k : Int) < (U.length : Int) by omega)]
  obtain ⟨y, hy⟩ : ∃ y, U[k]? = some y := ⟨_, List.getElem?_eq_getElem hlt⟩
  have hy64 := hU y (List.mem_of_getElem? hy)
  have hd : U.drop k = y :: U.drop (k + 1) := by
   rw [List.drop_eq_getElem_cons hlt]; congr 1; exact (List.getElem?_eq_some_iff.1 hy).2
  rw [hd] at hE
  refine G tt_ok pk184 ?_
  refine ir_ tt_ok rfl rfl (k) (rfl) rfl ?_ (hlt := hlt)
  refine G tt_ok pk184 ?_
  refine lr_ tt_ok rfl rfl (w_rdO hy) ?_
  refine G tt_ok pk184 ?_
  refine CW.loop (α := Nat × List Int) (fun x => x.1 < 2 ^ 64 ∧ x.2 ++ ((bitsN x.1).map (fun b => ((64 * k + b : Nat) : Int)) ++ memU (k + 1) (U.drop (k + 1))) = memU 0 U) (fun x => [(5, .int .u64 x.1), (4, .int .i64 k), (9, .int .i64 k), (8, .int .i64 U.length), (7, .slice q U.length c), (0, .func (.yield l) #[] #[]), (1, .pointer (some ⟨b1, 0, none⟩)), (2, .pointer (some ⟨b2, 0, none⟩))])
   (fun x => [J x.2, pt b1 [.slice q U.length c], rowA q U.length (U.flatMap wC), pt b2 [.int .i64 0]]) (fun x => x.1) (y, pre) ⟨hy64, hE⟩ ⟨rfl, rfl, rfl, rfl, rfl, rfl, rfl, rfl, trivial⟩ pk_ ?_
  rintro ⟨z, pr2⟩ ⟨hz, hE2⟩
  simp only at hz hE2 ⊢
  refine G tt_ok pk184 ?_
  by_cases h0 : z = 0
  ·subst h0
   rw [bitsN_0, List.map_nil, List.nil_append] at hE2
   rw [show ((((0 : Nat) : Int)) != 0) = false from rfl]
   refine G tt_ok pk184 ?_
   refine CW.exit ?_
   refine G tt_ok pk184 ?_
   have hwr : IntKind.i64.wrap ((k : Int) + 1) = ((k + 1 : Nat) : Int) := by rw [wrap_id (by omega) (by omega)]; simp
   exact ⟨(k + 1, pr2), ⟨by simp; omega, hE2⟩, by simp; omega, ⟨by rw [← hwr]; rfl, rfl, rfl, rfl, rfl, rfl, trivial⟩, pk_⟩
  ·rw [show ((z : Int) != 0) = true by simp; omega]
   refine G tt_ok pk184 ?_
   have w64 : IntKind.i64.wrap (64 * (k : Int)) = ((64 * k : Nat) : Int) := by rw [wrap_id (by omega) (by omega)]; simp
   rw [w64]
   refine ke rfl rfl (tz177 β hG (y := z) (by omega) hz) ?_
   refine G tt_ok pk184 ?_
   have hb := lowB_lt z
   rw [show IntKind.i64.wrap (((64 * k : Nat) : Int) + ((lowB z : Nat) : Int)) = ((64 * k + lowB z : Nat) : Int) by rw [wrap_id (by omega) (by omega)]; omega]
   rw [and_pred h0 hz]
   rw [bitsN_s h0, List.map_cons] at hE2
   have hand := @Nat.and_le_right z (z - 1)
   refine G tt_ok pk184 ?_
   rw [decide_eq_true (show ((64 * k + lowB z : Nat) : Int) ≥ 0 by omega)]
   refine G tt_ok pk184 ?_
   have hpre : (pr2 ++ [((64 * k + lowB z : Nat) : Int)]) <+: memU 0 U := ⟨(bitsN (z &&& (z - 1))).map (fun b => ((64 * k + b : Nat) : Int)) ++ memU (k + 1) (U.drop (k + 1)), by rw [← hE2]; simp⟩
   (refine SQ.yieldA rfl rfl (hY pr2 _ hpre) (by repeat (first | exact .n | exact Rm.h | exact Rm.of own_row | exact Rm.of row_close0 | apply Tk.c | apply Rm.t)) ?_; rintro _ _ (⟨rfl, rfl⟩ | ⟨rfl, rfl⟩) <;> refine w_ ?_)
   ·refine G tt_ok pk184 ?_
    exact ⟨(z &&& (z - 1), pr2 ++ [((64 * k + lowB z : Nat) : Int)]), ⟨by simp only; omega, by rw [← hE2]; simp⟩, by simp only; omega, ⟨rfl, rfl, rfl, rfl, rfl, rfl, rfl, rfl, trivial⟩, pk_⟩
   ·refine G tt_ok pk184 ?_
    exact CW.ret (fin_ret (vs := []) rfl (A := [Jx (pr2 ++ [((64 * k + lowB z : Nat) : Int)]), pt b1 [.slice q U.length c], rowA q U.length (U.flatMap wC), pt b2 [.int .i64 0]]) pk_ (.inr ⟨pr2 ++ [((64 * k + lowB z : Nat) : Int)], rfl⟩))
 ·rw [decide_eq_false (show ¬ (k : Int) < (U.length : Int) by omega)]
  refine G tt_ok pk184 ?_
  refine CW.exit ?_
  refine G tt_ok pk184 ?_
  have hE3 : pre = memU 0 U := by rw [← hE, List.drop_eq_nil_of_le (by omega)]; simp [memU]
  exact fin_normal (vs := []) rfl (A := [J pre, pt b1 [.slice q U.length c], rowA q U.length (U.flatMap wC), pt b2 [.int .i64 0]]) pk_ (.inl (by rw [hE3]))
def bitsU (U : List Nat) : List Int := memU 0 U
theorem memU_lt : ∀ (U : List Nat) (k : Nat), ∀ x ∈ memU k U, ∃ i : Nat, i < 64 * (k + U.length) ∧ x = (i : Int)
 | [], _, x, h => by simp [memU] at h
 | y :: r, k, x, h => by
  unfold memU at h
  rcases List.mem_append.1 h with h | h
  ·obtain ⟨b, hb, rfl⟩ := List.mem_map.1 h
   have := bitsN_lt y y (Nat.le_refl _) b hb
   exact ⟨64 * k + b, by simp only [List.length_cons]; omega, rfl⟩
  ·obtain ⟨i, hi, e⟩ := memU_lt r (k + 1) x h
   exact ⟨i, by simp only [List.length_cons]; omega, e⟩
theorem bitsU_lt {U : List Nat} (h : setOk U) : ∀ x ∈ bitsU U, ∃ i : Nat, i < 512 ∧ x = (i : Int) := fun x hx => by
 obtain ⟨i, hi, e⟩ := memU_lt U 0 x hx
 have := h.1
 exact ⟨i, by omega, e⟩
end Go.Proofs.YtakkogdmlbkdaaaGreatDoor.Sl.It
namespace Go.Proofs.YtakkogdmlbkdaaaGreatDoor.Sl.It
attribute [local irreducible] CW Tri OW
@[reducible] def pk51 : List (Nat × Plan) := []
attribute [local irreducible] invK enK enV waitL
variable {T nc : Nat}
def disS (k : Nat) (s : List Nat × List Nat) (x : Int) : List Nat × List Nat := (takeS s.1 x.toNat, stP s.2 k x.toNat true)
def disV (k : Nat) (U B : List Nat) : List Nat × List Nat := (bitsU U).foldl (disS k) (U, B)
theorem disS_ok {k : Nat} (hk : k < 8) : ∀ {xs : List Int} {s : List Nat × List Nat}, (∀ x ∈ xs, ∃ i : Nat, i < 512 ∧ x = (i : Int)) → setOk s.1 → okT T s.2.length → byOk s.2 → setOk (xs.foldl (disS k) s).1 ∧ okT T (xs.foldl (disS k) s).2.length ∧ byOk (xs.foldl (disS k) s).2
 | [], s, _, h1, h2, h3 => ⟨h1, h2, h3⟩
 | x :: xs, s, h, h1, h2, h3 => by
  obtain ⟨i, hi, rfl⟩ := h x (by simp)
  exact disS_ok hk (s := disS k s i) (fun y hy => h y (by simp [hy])) (takeS_ok h1 _) (stP_len h2 hk (by simpa using hi) true) (stP_ok h3 _ _ _)
set_option maxHeartbeats 8000000 in
theorem disable70 (β : Base) (hG : TabOk β) (p : Nat) (r : Gr) (S m : Nat) (g : Gr) (q : Option Addr) (c : Nat) {k : Nat} (hk : k < 8) (on : Bool) {U : List Nat} (hU : setOk U) (B : List Nat) (hB : okT T B.length) (hb : byOk B) :
  Tri Tryz.prog β 51 [.pointer (some ⟨p, 0, none⟩), .pointer (some ⟨m, 0, none⟩)] (colA p r S q c k on U ++ memA m g B)
   (fun u L => u = .tuple #[] ∧ L = colA p r S q c k false (disV k U B).1 ++ memA m g (disV k U B).2) := by
 refine Tri.intro tt_ok Tryz.func51 rfl rfl Tryz.ntmps51 rfl fun F => ?_
 have e0 : ∀ on U, colA p r S q c k on U = pt p (lpC k on r S) :: setL S q c U := fun _ _ => rfl
 rw [e0]
 (refine G tt_ok pk51 ?_; repeat (refine G1 tt_ok pk51 ?_; intro _))
 rename_i c1 c2
 (refine ka rfl rfl (all126 β S q c hU) ?_; rintro _ _ ⟨b1, b2, q1, n1, rfl, rfl⟩; refine w_ ?_)
 refine G tt_ok pk51 ?_
 have hI := iter176 β hG b1 b2 q1 n1 hU.2 (by have := hU.1; omega)
 refine CW.rangeA rfl hI (by repeat (first | exact .n | exact Rm.h | apply Tk.c | apply Rm.t)) (fun pre => [pt c1 [.pointer (some ⟨p, 0, none⟩)], pt c2 [.pointer (some ⟨m, 0, none⟩)], pt p (lpC k on r S)] ++ (setL S q c (pre.foldl (disS k) (U, B)).1 ++ memA m g (pre.foldl (disS k) (U, B)).2))
  (fun _ _ => False) (by unfold setL memA; exact pk_) (fun _ => rfl) (by decide) ?_ ?_ (fun _ _ h => h.elim)
 ·intro pre x hpre lp fm rec1
  have hok := disS_ok hk (s := (U, B)) (fun y hy => bitsU_lt hU y (hpre.subset (by simp [hy]))) hU hB hb (xs := pre)
  obtain ⟨i, hi, rfl⟩ := bitsU_lt hU x (hpre.subset (by simp))
  have e1 : (pre ++ [(i : Int)]).foldl (disS k) (U, B) = disS k (pre.foldl (disS k) (U, B)) i := by rw [List.foldl_append]; rfl
  simp only [e1]
  generalize pre.foldl (disS k) (U, B) = s at hok ⊢
  obtain ⟨U1, B1⟩ := s
  have e3 : disS k (U1, B1) (i : Int) = (takeS U1 i, stP B1 k i true) := rfl
  simp only [e3] at hok ⊢
  refine G tt_ok pk51 ?_
  intro fm2 rec2
  refine G tt_ok pk51 ?_
  refine ke rfl rfl (take127 β S q c hok.1 hi) ?_
  refine G tt_ok pk51 ?_
  refine ke rfl rfl (store106 β p m g hk on r S B1 hok.2.1 hok.2.2 hi true) ?_
  refine G tt_ok pk51 ?_
  unfold setL memA
  exact pk_
 ·refine G tt_ok pk51 ?_
  have e2 : (memU 0 U).foldl (disS k) (U, B) = disV k U B := rfl
  rw [e2]
  refine fin_normal (vs := []) rfl (A := colA p r S q c k false (disV k U B).1 ++ memA m g (disV k U B).2) (by rw [e0]; unfold setL memA; exact pk_) ⟨rfl, rfl⟩
def SW.dis (w : SW) (k : Nat) : SW := ⟨(disV k (w.at_ k).U w.B).2, w.cs.set k ⟨false, (disV k (w.at_ k).U w.B).1, (w.at_ k).C⟩⟩
theorem SW.dis_ok {w : SW} (hw : w.ok T nc) {k : Nat} (hk : k < nc) : (w.dis k).ok T nc := by
 obtain ⟨hB, hb, hc⟩ := hw
 obtain ⟨hU, hC, hk8⟩ := hc.2 k hk
 obtain ⟨h1, h2, h3⟩ := disS_ok hk8 (xs := bitsU (w.at_ k).U) (s := ((w.at_ k).U, w.B)) (bitsU_lt hU) hU hB hb
 exact ⟨h2, h3, hc.set hk h1 hC⟩
set_option maxHeartbeats 4000000 in
theorem disable70C (β : Base) (hG : TabOk β) (m : Nat) (g : Gr) (ps : List Nat) {w : SW} (hw : w.ok T nc) {k : Nat} (hk : k < nc) :
  Tri Tryz.prog β 51 [cpV ps k, .pointer (some ⟨m, 0, none⟩)] (swA m g ps w) (fun u L => u = .tuple #[] ∧ L = swA m g ps (w.dis k)) := by
 obtain ⟨hB, hb, hc⟩ := hw
 obtain ⟨hU, hC, hk8⟩ := hc.2 k hk
 have T := fun p r S q c => disable70 β hG p r S m g q c hk8 (w.at_ k).on hU w.B hB hb
 refine Tri.colsE (fun p => [.pointer (some ⟨p, 0, none⟩), .pointer (some ⟨m, 0, none⟩)]) (T 0 (0, []) 0 none 0).en (by have := hc.1; omega) ?_
 intro p r S q c
 unfold colA setL memA
 have T1 := T p r S q c
 unfold colA setL memA at T1
 refine Tri.post (T1.fr (F := [pt r.1 (bys (w.at_ k).C ++ r.2)])) ?_
 rintro v L ⟨A', ⟨rfl, rfl⟩, rfl⟩
 exact ⟨_, pk_, q, c, rfl, rfl⟩
end Go.Proofs.YtakkogdmlbkdaaaGreatDoor.Sl.It
namespace Go.Proofs.YtakkogdmlbkdaaaGreatDoor.Sl
section
variable {P : Program} {β : Base} {cx : Cx} {rnd : Option (Nat × Loop)} {N : Nat} {env : Env} {L : List Atom} {K : Env → List Atom → Prop} {ops : Array Oper} {T : TT}
theorem wpI_of_any {F : Fence} {n : Nat} {Q : Exit → Act → World → Prop} {E : Nat → Bool} : ∀ (fuel : Nat) (listed : Array Bool) (a : Act) (w : World), wpAnyIn F n P .any ops Q fuel listed a w → wpI F n P ops Q E [] fuel listed a w
 | 0, _, _, _, h => ⟨fun i x hl => by simp [lookO] at hl, h⟩
 | fuel + 1, _, _, _, h => ⟨fun i x hl => by simp [lookO] at hl, h.1, fun i hi => wpOpIn_mono (fun a' w' h' => wpI_of_any fuel _ a' w' h') (h.2 i hi)⟩
def floatsOk (ops : Array Oper) : List Nat → Array Bool → Bool
 | [], _ => true
 | i :: r, l => (Region.ready .any ops l).contains i && Region.free .any ops l i && floatsOk ops r (l.setIfInBounds i true)
def FQ (P : Program) (β : Base) (rnd : Option (Nat × Loop)) (N : Nat) (T : TT) (ops : Array Oper) (K : Env → List Atom → Prop) : List Nat → Nat → Array Bool → Env → List Atom → Prop
 | [], f, l, env, L => BQ P β rnd N T ops K f l env L
 | _ :: _, 0, _, _, _ => False
 | i :: r, f + 1, l, env, L => ∃ o v, ops[i]? = some o ∧ wants ops env o = some true ∧ dstOk N o.dst = true ∧ pureOp T env o.op = some v ∧ FQ P β rnd N T ops K r f (l.setIfInBounds i true) (bind_ o.dst v env) L
theorem FQ.sound (hT : TTok P T) {Q : Post} (hK : ∀ env L, K env L → Q .normal env L) (n : Nat) (hsd : ∀ (j : Nat) (o : Oper), ops[j]? = some o → noSD o = true) : ∀ (fl : List Nat) (f : Nat) (listed : Array Bool) {env : Env} {L : List Atom},
  FQ P β cx.rnd N T ops K fl f listed env L → floatsOk ops fl listed = true → Closed ops listed → ∀ (a : Act) (w : World), St β cx N env L a w → wpAnyIn (Fr cx) n P .any ops (up β cx N Q) f listed a w
 | [], f, listed, env, L, h, _, _, a, w, s => BQ.sound hT hK n f listed h a w s
 | _ :: _, 0, _, _, _, h, _, _, _, _, _ => h.elim
 | i :: r, f + 1, listed, env, L, h, hf, hc, a, w, s => by
  obtain ⟨o, v, ho, hw, hd, hp, hq⟩ := h
  simp only [floatsOk, Bool.and_eq_true, List.contains_iff_mem] at hf
  obtain ⟨⟨h1, h2⟩, h3⟩ := hf
  have ih := FQ.sound hT hK n hsd r f (listed.setIfInBounds i true) hq h3 (hc.set h1) (a.put o.dst v) w (s.put hd)
  refine wpAnyIn_of_wpI (E := fun _ => false) (obs := []) _ _ _ _ ?_
  refine wpI_take (x := none) (Fr_fn cx) ho hsd (fun c a w h => h) rfl rfl f listed a w (fun j oj hj hne hun hno => Region.free_spec ho h2 j oj hj hne hun hno) hc h1 (.inl ⟨wants_ok hw s.1, fun w' _ => pureOp_run hT (fun x u hx => s.1.eval hx) hp w'⟩) trivial ?_
  exact wpI_of_any f _ _ _ ih
theorem CW.regionF (hT : TTok P T) {Q : Post} {id : Nat} (hm : P.follows .mixedOrders = true) (fl : List Nat) (hs : (noSDs ops.toList && floatsOk ops fl (Array.replicate ops.size false)) = true) {α : Type} (E : α → Env) (A : α → List Atom)
  (h : FQ P β cx.rnd N T ops (fun env L => ∃ x, covers env (E x) ∧ Ent L (A x)) fl ops.size (Array.replicate ops.size false) env L)
  (k : ∀ x, Q .normal (E x) (A x)) : CW P β cx N (.region id ops true) env L Q := fun n a w s => by
 simp only [Bool.and_eq_true] at hs
 have hsd : ∀ (j : Nat) (o : Oper), ops[j]? = some o → noSD o = true := fun j o hj => noSDs_eq hs.1 o (Array.mem_toList_iff.2 (Array.mem_of_getElem? hj))
 have s2 : St β cx N env L a w.drew := by obtain ⟨h1, Ds, hd, st⟩ := s; exact ⟨h1, Ds, hd, st.drew⟩
 let Q0 : Post := fun e env L => match e with
  | .normal => ∃ x, covers env (E x) ∧ Ent L (A x)
  | _ => False
 have h2 := FQ.sound hT (Q := Q0) (fun _ _ h => h) n hsd fl _ _ h hs.2 (fun j oj hj hl2 => by
   simp only [Array.getD_eq_getD_getElem?, Array.getElem?_replicate] at hl2
   split at hl2 <;> cases hl2) a w.drew s2
 refine wpIn_mono (wpIn_region_any hm h2) fun e a w q => ?_
 cases e with
 | normal =>
  obtain ⟨env', L', st, x, hc, hE⟩ := q
  exact ⟨E x, A x, st.conseq hc hE, k x⟩
 | panic _ => exact q
 | outgrown => exact q
 | exit _ => obtain ⟨_, _, _, q⟩ := q; exact q.elim
 | goto _ => obtain ⟨_, _, _, q⟩ := q; exact q.elim
 | ret => obtain ⟨_, _, _, q⟩ := q; exact q.elim
theorem BQ.abs {F : Nat} {l0 : Array Bool} {e0 : Env} {L0 : List Atom}
  (h : ∀ B : Nat → Array Bool → Env → List Atom → Prop, (∀ f listed env L (l' : List Nat), (Region.ready .any ops listed == l' && !l'.isEmpty) = true → AllL (fun i => ∃ o, ops[i]? = some o ∧ noSD o = true ∧ SQ P β rnd N T ops (B f (listed.setIfInBounds i true)) [⟨i, o, 1, []⟩] [] env L) l' → B (f + 1) listed env L) →
   (∀ listed env L, Region.ready .any ops listed = [] ∧ K env L → B 0 listed env L) → B F l0 e0 L0) : BQ P β rnd N T ops K F l0 e0 L0 :=
 h (BQ P β rnd N T ops K) (fun f listed env L l' hl ha => by
  simp only [Bool.and_eq_true, beq_iff_eq] at hl
  obtain ⟨h1, h2⟩ := hl
  refine ⟨?_, fun i hi => all_of l' h1 ha i hi⟩
  rw [h1]
  intro e
  subst e
  simp at h2) (fun _ _ _ h => h)
theorem mv_ {A : Atom} {L M : List Atom} (k : Nat) (h : L.take k ++ A :: L.drop k = M) : Ent (A :: L) M := by
 subst h
 refine Ent.perm ?_
 have := (List.perm_middle (a := A) (l₁ := L.take k) (l₂ := L.drop k)).symm
 rwa [List.take_append_drop] at this
theorem dp_ {B : Nat → Array Bool → Env → List Atom → Prop} {f : Nat} {l l' : Array Bool} {obs : Obs} {E : Env} {A : List Atom} (hb : B f l' E A) (hl : l = l' := by decide +kernel)
  (hc : covers env E := by repeat (first | exact trivial | refine ⟨rfl, ?_⟩)) (hA : Ent L A := by exact pk_) : SQ P β rnd N T ops (B f l) [] obs env L :=
 SQ.env_ E hc.look (SQ.ent _ hA (SQ.nil (by rw [hl]; exact hb)))
end
end Go.Proofs.YtakkogdmlbkdaaaGreatDoor.Sl
namespace Go.Proofs.YtakkogdmlbkdaaaGreatDoor.Sl.It
attribute [local irreducible] CW Tri OW
variable {T nc : Nat}
theorem made_bys (n : Nat) : (madeCells ti5.zero.cells (n * ti5.size)).toList = bys (List.replicate n 0) := by
 have := made_flat_of (enc := byC) (a := 0) ti5.zero.cells rfl (by decide) n
 exact this
def pcN : Pc := ⟨false, [], List.replicate 512 0⟩
@[reducible] def lsN (l : List Nat) : Array Bool := ((List.range 10).map fun i => l.contains i || [0, 3].contains i).toArray
set_option maxHeartbeats 8000000 in
theorem new57 (β : Base) (m : Nat) (g : Gr) {k : Nat} (hk : k < 8) (B : List Nat) (hB : okT T B.length) :
  Tri Tryz.prog β 37 [.pointer (some ⟨m, 0, none⟩), .int .i64 512, .agg #[.int .i64 10240, .int .i64 512], .agg #[.int .i64 ((10752 + 64 * k : Nat) : Int), .int .i64 64]] (memA m g B)
   (fun v L => ∃ p r S, v = .tuple #[.pointer (some ⟨p, 0, none⟩), .int .i64 0] ∧ L = pt p (lpC k false r S) :: pt r.1 (bys (List.replicate 512 0) ++ r.2) :: (setL S none 0 [] ++ memA m g B)) := by
 have hB2 := hB.2
 refine Tri.intro tt_ok Tryz.func37 rfl rfl Tryz.ntmps37 rfl fun F => ?_
 (refine G tt_ok [] ?_; repeat (refine G1 tt_ok [] ?_; intro _))
 rename_i c6 c7
 refine G tt_ok [] ?_
 refine ke rfl rfl (holds29 β m (some ⟨g.1, 0, none⟩) (n := B.length) (B.length + g.2.length) (by omega) 10240 512) ?_
 rw [show holdsV B.length 10240 512 = true by unfold holdsV; simp; omega]
 refine G tt_ok [] ?_
 refine ke rfl rfl (holds29 β m (some ⟨g.1, 0, none⟩) (n := B.length) (B.length + g.2.length) (by omega) ((10752 + 64 * k : Nat) : Int) 64) ?_
 rw [show holdsV B.length ((10752 + 64 * k : Nat) : Int) 64 = true by unfold holdsV; simp; omega]
 refine G tt_ok [] ?_
 refine CW.regionF tt_ok (by kernel_rfl) [0, 3] (by decide +kernel) (fun y : Nat × Nat × Nat => [(8, .pointer (some ⟨y.2.2, 0, none⟩)), (9, .int .i64 0)]) (fun y => pt y.2.2 (lpC k false (y.1, []) y.2.1) :: pt y.1 (bys (List.replicate 512 0)) :: (setL y.2.1 none 0 [] ++ memA m g B)) ?_ (fun y => ?_)
 rotate_left
 ·refine G tt_ok [] ?_
  exact CW.ret (fin_ret rfl (A := pt y.2.2 (lpC k false (y.1, []) y.2.1) :: pt y.1 (bys (List.replicate 512 0)) :: (setL y.2.1 none 0 [] ++ memA m g B)) pk_ ⟨y.2.2, (y.1, []), y.2.1, rfl, by rw [List.append_nil]⟩)
 refine ⟨_, _, rfl, rfl, rfl, rfl, _, _, rfl, rfl, rfl, rfl, ?_⟩
 show BQ _ _ _ _ _ _ _ 8 (lsN []) _ _
 refine BQ.abs fun B1 hs hz => ?_
 have b1245 : ∀ x : Nat × Nat, B1 4 (lsN [1, 2, 4, 5]) ([(41, .agg #[.int .i64 10240, .int .i64 512]), (42, .agg #[.int .i64 ((10752 + 64 * k : Nat) : Int), .int .i64 64]), (44, .slice (some ⟨x.1, 0, none⟩) 512 512), (45, .pointer (some ⟨x.2, 0, none⟩))] ++ [(43, .int .i64 512), (40, .int .i64 512), (6, .pointer (some ⟨c6, 0, none⟩)), (7, .pointer (some ⟨c7, 0, none⟩))]) ([pt x.1 (madeCells ti5.zero.cells (512 * ti5.size)).toList] ++ (setL x.2 none 0 [] ++ ([pt c6 [.int .i64 10240, .int .i64 512], pt c7 [.int .i64 ((10752 + 64 * k : Nat) : Int), .int .i64 64], pt m [.slice (some ⟨g.1, 0, none⟩) B.length (B.length + g.2.length)], pt g.1 (bys B ++ g.2)]))) := fun x => by
  refine hs _ _ _ _ [6] (by decide +kernel) ⟨⟨_, rfl, rfl, ?_⟩, trivial⟩
  refine SQ.pures1 tt_ok rfl ?_
  refine SQ.nil ?_
  refine hs _ _ _ _ [7] (by decide +kernel) ⟨⟨_, rfl, rfl, ?_⟩, trivial⟩
  refine SQ.new _ _ rfl rfl fun p => ?_
  refine SQ.nil ?_
  refine hs _ _ _ _ [8] (by decide +kernel) ⟨⟨_, rfl, rfl, ?_⟩, trivial⟩
  refine SQ.pures1 tt_ok rfl ?_
  refine SQ.nil ?_
  refine hs _ _ _ _ [9] (by decide +kernel) ⟨⟨_, rfl, rfl, ?_⟩, trivial⟩
  refine SQ.pures1 tt_ok rfl ?_
  refine SQ.nil ?_
  exact hz _ _ _ ⟨by decide +kernel, (x.1, x.2, p), ⟨rfl, rfl, trivial⟩, by unfold setL memA; rw [← made_bys]; exact pk_⟩
 have b124 : ∀ x : Nat × Nat, B1 5 (lsN [1, 2, 4]) ([(41, .agg #[.int .i64 10240, .int .i64 512]), (42, .agg #[.int .i64 ((10752 + 64 * k : Nat) : Int), .int .i64 64]), (44, .slice (some ⟨x.1, 0, none⟩) 512 512)] ++ [(43, .int .i64 512), (40, .int .i64 512), (6, .pointer (some ⟨c6, 0, none⟩)), (7, .pointer (some ⟨c7, 0, none⟩))]) ([pt x.1 (madeCells ti5.zero.cells (512 * ti5.size)).toList] ++ ([pt c6 [.int .i64 10240, .int .i64 512], pt c7 [.int .i64 ((10752 + 64 * k : Nat) : Int), .int .i64 64], pt m [.slice (some ⟨g.1, 0, none⟩) B.length (B.length + g.2.length)], pt g.1 (bys B ++ g.2)])) := fun x => by
  refine hs _ _ _ _ [5] (by decide +kernel) ⟨⟨_, rfl, rfl, ?_⟩, trivial⟩
  ·(refine SQ.callA rfl rfl (of104 β) .n ?_; rintro _ _ ⟨S1, rfl, rfl⟩; refine ⟨trivial, ?_⟩); exact dp_ (b1245 (x.1, S1)) (hA := by (try unfold setL); exact pk_)
 have b125 : ∀ x : Nat × Nat, B1 5 (lsN [1, 2, 5]) ([(41, .agg #[.int .i64 10240, .int .i64 512]), (42, .agg #[.int .i64 ((10752 + 64 * k : Nat) : Int), .int .i64 64]), (45, .pointer (some ⟨x.2, 0, none⟩))] ++ [(43, .int .i64 512), (40, .int .i64 512), (6, .pointer (some ⟨c6, 0, none⟩)), (7, .pointer (some ⟨c7, 0, none⟩))]) (setL x.2 none 0 [] ++ ([pt c6 [.int .i64 10240, .int .i64 512], pt c7 [.int .i64 ((10752 + 64 * k : Nat) : Int), .int .i64 64], pt m [.slice (some ⟨g.1, 0, none⟩) B.length (B.length + g.2.length)], pt g.1 (bys B ++ g.2)])) := fun x => by
  refine hs _ _ _ _ [4] (by decide +kernel) ⟨⟨_, rfl, rfl, ?_⟩, trivial⟩
  ·refine SQ.make tt_ok rfl rfl 512 rfl rfl (by decide) (by decide) (by decide) (fun g1 => ⟨trivial, ?_⟩); exact dp_ (b1245 (g1, x.2)) (hA := by (try unfold setL); exact pk_)
 have b145 : ∀ x : Nat × Nat, B1 5 (lsN [1, 4, 5]) ([(41, .agg #[.int .i64 10240, .int .i64 512]), (44, .slice (some ⟨x.1, 0, none⟩) 512 512), (45, .pointer (some ⟨x.2, 0, none⟩))] ++ [(43, .int .i64 512), (40, .int .i64 512), (6, .pointer (some ⟨c6, 0, none⟩)), (7, .pointer (some ⟨c7, 0, none⟩))]) ([pt x.1 (madeCells ti5.zero.cells (512 * ti5.size)).toList] ++ (setL x.2 none 0 [] ++ ([pt c6 [.int .i64 10240, .int .i64 512], pt c7 [.int .i64 ((10752 + 64 * k : Nat) : Int), .int .i64 64], pt m [.slice (some ⟨g.1, 0, none⟩) B.length (B.length + g.2.length)], pt g.1 (bys B ++ g.2)]))) := fun x => by
  refine hs _ _ _ _ [2] (by decide +kernel) ⟨⟨_, rfl, rfl, ?_⟩, trivial⟩
  ·refine ld_ tt_ok ?_; exact dp_ (b1245 x) (hA := by (try unfold setL); exact pk_)
 have b245 : ∀ x : Nat × Nat, B1 5 (lsN [2, 4, 5]) ([(42, .agg #[.int .i64 ((10752 + 64 * k : Nat) : Int), .int .i64 64]), (44, .slice (some ⟨x.1, 0, none⟩) 512 512), (45, .pointer (some ⟨x.2, 0, none⟩))] ++ [(43, .int .i64 512), (40, .int .i64 512), (6, .pointer (some ⟨c6, 0, none⟩)), (7, .pointer (some ⟨c7, 0, none⟩))]) ([pt x.1 (madeCells ti5.zero.cells (512 * ti5.size)).toList] ++ (setL x.2 none 0 [] ++ ([pt c6 [.int .i64 10240, .int .i64 512], pt c7 [.int .i64 ((10752 + 64 * k : Nat) : Int), .int .i64 64], pt m [.slice (some ⟨g.1, 0, none⟩) B.length (B.length + g.2.length)], pt g.1 (bys B ++ g.2)]))) := fun x => by
  refine hs _ _ _ _ [1] (by decide +kernel) ⟨⟨_, rfl, rfl, ?_⟩, trivial⟩
  ·refine ld_ tt_ok ?_; exact dp_ (b1245 x) (hA := by (try unfold setL); exact pk_)
 have b12 : ∀ x : Nat × Nat, B1 6 (lsN [1, 2]) ([(41, .agg #[.int .i64 10240, .int .i64 512]), (42, .agg #[.int .i64 ((10752 + 64 * k : Nat) : Int), .int .i64 64])] ++ [(43, .int .i64 512), (40, .int .i64 512), (6, .pointer (some ⟨c6, 0, none⟩)), (7, .pointer (some ⟨c7, 0, none⟩))]) ([pt c6 [.int .i64 10240, .int .i64 512], pt c7 [.int .i64 ((10752 + 64 * k : Nat) : Int), .int .i64 64], pt m [.slice (some ⟨g.1, 0, none⟩) B.length (B.length + g.2.length)], pt g.1 (bys B ++ g.2)]) := fun x => by
  refine hs _ _ _ _ [4, 5] (by decide +kernel) ⟨⟨_, rfl, rfl, ?_⟩, ⟨_, rfl, rfl, ?_⟩, trivial⟩
  ·refine SQ.make tt_ok rfl rfl 512 rfl rfl (by decide) (by decide) (by decide) (fun g1 => ⟨trivial, ?_⟩); exact dp_ (b124 (g1, x.2)) (hA := by (try unfold setL); exact pk_)
  ·(refine SQ.callA rfl rfl (of104 β) .n ?_; rintro _ _ ⟨S1, rfl, rfl⟩; refine ⟨trivial, ?_⟩); exact dp_ (b125 (x.1, S1)) (hA := by (try unfold setL); exact pk_)
 have b14 : ∀ x : Nat × Nat, B1 6 (lsN [1, 4]) ([(41, .agg #[.int .i64 10240, .int .i64 512]), (44, .slice (some ⟨x.1, 0, none⟩) 512 512)] ++ [(43, .int .i64 512), (40, .int .i64 512), (6, .pointer (some ⟨c6, 0, none⟩)), (7, .pointer (some ⟨c7, 0, none⟩))]) ([pt x.1 (madeCells ti5.zero.cells (512 * ti5.size)).toList] ++ ([pt c6 [.int .i64 10240, .int .i64 512], pt c7 [.int .i64 ((10752 + 64 * k : Nat) : Int), .int .i64 64], pt m [.slice (some ⟨g.1, 0, none⟩) B.length (B.length + g.2.length)], pt g.1 (bys B ++ g.2)])) := fun x => by
  refine hs _ _ _ _ [2, 5] (by decide +kernel) ⟨⟨_, rfl, rfl, ?_⟩, ⟨_, rfl, rfl, ?_⟩, trivial⟩
  ·refine ld_ tt_ok ?_; exact dp_ (b124 x) (hA := by (try unfold setL); exact pk_)
  ·(refine SQ.callA rfl rfl (of104 β) .n ?_; rintro _ _ ⟨S1, rfl, rfl⟩; refine ⟨trivial, ?_⟩); exact dp_ (b145 (x.1, S1)) (hA := by (try unfold setL); exact pk_)
 have b15 : ∀ x : Nat × Nat, B1 6 (lsN [1, 5]) ([(41, .agg #[.int .i64 10240, .int .i64 512]), (45, .pointer (some ⟨x.2, 0, none⟩))] ++ [(43, .int .i64 512), (40, .int .i64 512), (6, .pointer (some ⟨c6, 0, none⟩)), (7, .pointer (some ⟨c7, 0, none⟩))]) (setL x.2 none 0 [] ++ ([pt c6 [.int .i64 10240, .int .i64 512], pt c7 [.int .i64 ((10752 + 64 * k : Nat) : Int), .int .i64 64], pt m [.slice (some ⟨g.1, 0, none⟩) B.length (B.length + g.2.length)], pt g.1 (bys B ++ g.2)])) := fun x => by
  refine hs _ _ _ _ [2, 4] (by decide +kernel) ⟨⟨_, rfl, rfl, ?_⟩, ⟨_, rfl, rfl, ?_⟩, trivial⟩
  ·refine ld_ tt_ok ?_; exact dp_ (b125 x) (hA := by (try unfold setL); exact pk_)
  ·refine SQ.make tt_ok rfl rfl 512 rfl rfl (by decide) (by decide) (by decide) (fun g1 => ⟨trivial, ?_⟩); exact dp_ (b145 (g1, x.2)) (hA := by (try unfold setL); exact pk_)
 have b24 : ∀ x : Nat × Nat, B1 6 (lsN [2, 4]) ([(42, .agg #[.int .i64 ((10752 + 64 * k : Nat) : Int), .int .i64 64]), (44, .slice (some ⟨x.1, 0, none⟩) 512 512)] ++ [(43, .int .i64 512), (40, .int .i64 512), (6, .pointer (some ⟨c6, 0, none⟩)), (7, .pointer (some ⟨c7, 0, none⟩))]) ([pt x.1 (madeCells ti5.zero.cells (512 * ti5.size)).toList] ++ ([pt c6 [.int .i64 10240, .int .i64 512], pt c7 [.int .i64 ((10752 + 64 * k : Nat) : Int), .int .i64 64], pt m [.slice (some ⟨g.1, 0, none⟩) B.length (B.length + g.2.length)], pt g.1 (bys B ++ g.2)])) := fun x => by
  refine hs _ _ _ _ [1, 5] (by decide +kernel) ⟨⟨_, rfl, rfl, ?_⟩, ⟨_, rfl, rfl, ?_⟩, trivial⟩
  ·refine ld_ tt_ok ?_; exact dp_ (b124 x) (hA := by (try unfold setL); exact pk_)
  ·(refine SQ.callA rfl rfl (of104 β) .n ?_; rintro _ _ ⟨S1, rfl, rfl⟩; refine ⟨trivial, ?_⟩); exact dp_ (b245 (x.1, S1)) (hA := by (try unfold setL); exact pk_)
 have b25 : ∀ x : Nat × Nat, B1 6 (lsN [2, 5]) ([(42, .agg #[.int .i64 ((10752 + 64 * k : Nat) : Int), .int .i64 64]), (45, .pointer (some ⟨x.2, 0, none⟩))] ++ [(43, .int .i64 512), (40, .int .i64 512), (6, .pointer (some ⟨c6, 0, none⟩)), (7, .pointer (some ⟨c7, 0, none⟩))]) (setL x.2 none 0 [] ++ ([pt c6 [.int .i64 10240, .int .i64 512], pt c7 [.int .i64 ((10752 + 64 * k : Nat) : Int), .int .i64 64], pt m [.slice (some ⟨g.1, 0, none⟩) B.length (B.length + g.2.length)], pt g.1 (bys B ++ g.2)])) := fun x => by
  refine hs _ _ _ _ [1, 4] (by decide +kernel) ⟨⟨_, rfl, rfl, ?_⟩, ⟨_, rfl, rfl, ?_⟩, trivial⟩
  ·refine ld_ tt_ok ?_; exact dp_ (b125 x) (hA := by (try unfold setL); exact pk_)
  ·refine SQ.make tt_ok rfl rfl 512 rfl rfl (by decide) (by decide) (by decide) (fun g1 => ⟨trivial, ?_⟩); exact dp_ (b245 (g1, x.2)) (hA := by (try unfold setL); exact pk_)
 have b45 : ∀ x : Nat × Nat, B1 6 (lsN [4, 5]) ([(44, .slice (some ⟨x.1, 0, none⟩) 512 512), (45, .pointer (some ⟨x.2, 0, none⟩))] ++ [(43, .int .i64 512), (40, .int .i64 512), (6, .pointer (some ⟨c6, 0, none⟩)), (7, .pointer (some ⟨c7, 0, none⟩))]) ([pt x.1 (madeCells ti5.zero.cells (512 * ti5.size)).toList] ++ (setL x.2 none 0 [] ++ ([pt c6 [.int .i64 10240, .int .i64 512], pt c7 [.int .i64 ((10752 + 64 * k : Nat) : Int), .int .i64 64], pt m [.slice (some ⟨g.1, 0, none⟩) B.length (B.length + g.2.length)], pt g.1 (bys B ++ g.2)]))) := fun x => by
  refine hs _ _ _ _ [1, 2] (by decide +kernel) ⟨⟨_, rfl, rfl, ?_⟩, ⟨_, rfl, rfl, ?_⟩, trivial⟩
  ·refine ld_ tt_ok ?_; exact dp_ (b145 x) (hA := by (try unfold setL); exact pk_)
  ·refine ld_ tt_ok ?_; exact dp_ (b245 x) (hA := by (try unfold setL); exact pk_)
 have b1 : ∀ x : Nat × Nat, B1 7 (lsN [1]) ([(41, .agg #[.int .i64 10240, .int .i64 512])] ++ [(43, .int .i64 512), (40, .int .i64 512), (6, .pointer (some ⟨c6, 0, none⟩)), (7, .pointer (some ⟨c7, 0, none⟩))]) ([pt c6 [.int .i64 10240, .int .i64 512], pt c7 [.int .i64 ((10752 + 64 * k : Nat) : Int), .int .i64 64], pt m [.slice (some ⟨g.1, 0, none⟩) B.length (B.length + g.2.length)], pt g.1 (bys B ++ g.2)]) := fun x => by
  refine hs _ _ _ _ [2, 4, 5] (by decide +kernel) ⟨⟨_, rfl, rfl, ?_⟩, ⟨_, rfl, rfl, ?_⟩, ⟨_, rfl, rfl, ?_⟩, trivial⟩
  ·refine ld_ tt_ok ?_; exact dp_ (b12 x) (hA := by (try unfold setL); exact pk_)
  ·refine SQ.make tt_ok rfl rfl 512 rfl rfl (by decide) (by decide) (by decide) (fun g1 => ⟨trivial, ?_⟩); exact dp_ (b14 (g1, x.2)) (hA := by (try unfold setL); exact pk_)
  ·(refine SQ.callA rfl rfl (of104 β) .n ?_; rintro _ _ ⟨S1, rfl, rfl⟩; refine ⟨trivial, ?_⟩); exact dp_ (b15 (x.1, S1)) (hA := by (try unfold setL); exact pk_)
 have b2 : ∀ x : Nat × Nat, B1 7 (lsN [2]) ([(42, .agg #[.int .i64 ((10752 + 64 * k : Nat) : Int), .int .i64 64])] ++ [(43, .int .i64 512), (40, .int .i64 512), (6, .pointer (some ⟨c6, 0, none⟩)), (7, .pointer (some ⟨c7, 0, none⟩))]) ([pt c6 [.int .i64 10240, .int .i64 512], pt c7 [.int .i64 ((10752 + 64 * k : Nat) : Int), .int .i64 64], pt m [.slice (some ⟨g.1, 0, none⟩) B.length (B.length + g.2.length)], pt g.1 (bys B ++ g.2)]) := fun x => by
  refine hs _ _ _ _ [1, 4, 5] (by decide +kernel) ⟨⟨_, rfl, rfl, ?_⟩, ⟨_, rfl, rfl, ?_⟩, ⟨_, rfl, rfl, ?_⟩, trivial⟩
  ·refine ld_ tt_ok ?_; exact dp_ (b12 x) (hA := by (try unfold setL); exact pk_)
  ·refine SQ.make tt_ok rfl rfl 512 rfl rfl (by decide) (by decide) (by decide) (fun g1 => ⟨trivial, ?_⟩); exact dp_ (b24 (g1, x.2)) (hA := by (try unfold setL); exact pk_)
  ·(refine SQ.callA rfl rfl (of104 β) .n ?_; rintro _ _ ⟨S1, rfl, rfl⟩; refine ⟨trivial, ?_⟩); exact dp_ (b25 (x.1, S1)) (hA := by (try unfold setL); exact pk_)
 have b4 : ∀ x : Nat × Nat, B1 7 (lsN [4]) ([(44, .slice (some ⟨x.1, 0, none⟩) 512 512)] ++ [(43, .int .i64 512), (40, .int .i64 512), (6, .pointer (some ⟨c6, 0, none⟩)), (7, .pointer (some ⟨c7, 0, none⟩))]) ([pt x.1 (madeCells ti5.zero.cells (512 * ti5.size)).toList] ++ ([pt c6 [.int .i64 10240, .int .i64 512], pt c7 [.int .i64 ((10752 + 64 * k : Nat) : Int), .int .i64 64], pt m [.slice (some ⟨g.1, 0, none⟩) B.length (B.length + g.2.length)], pt g.1 (bys B ++ g.2)])) := fun x => by
  refine hs _ _ _ _ [1, 2, 5] (by decide +kernel) ⟨⟨_, rfl, rfl, ?_⟩, ⟨_, rfl, rfl, ?_⟩, ⟨_, rfl, rfl, ?_⟩, trivial⟩
  ·refine ld_ tt_ok ?_; exact dp_ (b14 x) (hA := by (try unfold setL); exact pk_)
  ·refine ld_ tt_ok ?_; exact dp_ (b24 x) (hA := by (try unfold setL); exact pk_)
  ·(refine SQ.callA rfl rfl (of104 β) .n ?_; rintro _ _ ⟨S1, rfl, rfl⟩; refine ⟨trivial, ?_⟩); exact dp_ (b45 (x.1, S1)) (hA := by (try unfold setL); exact pk_)
 have b5 : ∀ x : Nat × Nat, B1 7 (lsN [5]) ([(45, .pointer (some ⟨x.2, 0, none⟩))] ++ [(43, .int .i64 512), (40, .int .i64 512), (6, .pointer (some ⟨c6, 0, none⟩)), (7, .pointer (some ⟨c7, 0, none⟩))]) (setL x.2 none 0 [] ++ ([pt c6 [.int .i64 10240, .int .i64 512], pt c7 [.int .i64 ((10752 + 64 * k : Nat) : Int), .int .i64 64], pt m [.slice (some ⟨g.1, 0, none⟩) B.length (B.length + g.2.length)], pt g.1 (bys B ++ g.2)])) := fun x => by
  refine hs _ _ _ _ [1, 2, 4] (by decide +kernel) ⟨⟨_, rfl, rfl, ?_⟩, ⟨_, rfl, rfl, ?_⟩, ⟨_, rfl, rfl, ?_⟩, trivial⟩
  ·refine ld_ tt_ok ?_; exact dp_ (b15 x) (hA := by (try unfold setL); exact pk_)
  ·refine ld_ tt_ok ?_; exact dp_ (b25 x) (hA := by (try unfold setL); exact pk_)
  ·refine SQ.make tt_ok rfl rfl 512 rfl rfl (by decide) (by decide) (by decide) (fun g1 => ⟨trivial, ?_⟩); exact dp_ (b45 (g1, x.2)) (hA := by (try unfold setL); exact pk_)
 have x : Nat × Nat := (0, 0)
 refine hs _ _ _ _ [1, 2, 4, 5] (by decide +kernel) ⟨⟨_, rfl, rfl, ?_⟩, ⟨_, rfl, rfl, ?_⟩, ⟨_, rfl, rfl, ?_⟩, ⟨_, rfl, rfl, ?_⟩, trivial⟩
 ·refine ld_ tt_ok ?_; exact dp_ (b1 x) (hA := by (try unfold setL); exact pk_)
 ·refine ld_ tt_ok ?_; exact dp_ (b2 x) (hA := by (try unfold setL); exact pk_)
 ·refine SQ.make tt_ok rfl rfl 512 rfl rfl (by decide) (by decide) (by decide) (fun g1 => ⟨trivial, ?_⟩); exact dp_ (b4 (g1, x.2)) (hA := by (try unfold setL); exact pk_)
 ·(refine SQ.callA rfl rfl (of104 β) .n ?_; rintro _ _ ⟨S1, rfl, rfl⟩; refine ⟨trivial, ?_⟩); exact dp_ (b5 (x.1, S1)) (hA := by (try unfold setL); exact pk_)
end Go.Proofs.YtakkogdmlbkdaaaGreatDoor.Sl.It
namespace Go.Proofs.YtakkogdmlbkdaaaGreatDoor.Sl
open Go Go.RowKit Go.Proofs Go.Sort
theorem Tri.ofCalls {P : Program} {β : Base} {g : FuncId} {args : List Value} {A : List Atom} {R : Value → List Atom → Prop} (he : Enters P g)
  (h : ∀ F w, Sat β w (F ++ A) → Calls P g args.toArray w fun e w' => ∃ v A', e = .returned v ∧ Sat β w' (F ++ A') ∧ R v A') : Tri P β g args A R :=
 ⟨he, fun F n w s => callsIn_wide.2 (h F w s)⟩
end Go.Proofs.YtakkogdmlbkdaaaGreatDoor.Sl
namespace Go.Proofs.YtakkogdmlbkdaaaGreatDoor.Sl
open Go Go.RowKit Go.Proofs Go.Shelf Go.Lib
section
variable {P : Program} {β : Base} {w : World} {R : List Atom} {ρ : Ren}
theorem Sat.setCell1 {g e : Nat} {X Z : List Value} {y x : Value} (s : Sat β w (ptT e g (X ++ y :: Z) :: R)) : Sat β (w.setCell ⟨g, X.length, none⟩ x) (ptT e g (X ++ x :: Z) :: R) := by
 have hg : w.heap[g]? = some (.cells (X ++ y :: Z).toArray e (0, 0)) := by
  obtain ⟨hb, h, ⟨h1, h2, h1e, st, d, rfl⟩, hw⟩ := s
  unfold ptT at h1e
  subst h1e
  exact (hw g _ (by simp [Hp.add, Hp.one])).2
 refine Sat.update (o := .cells (X ++ y :: Z).toArray e (0, 0)) s (o' := .cells (X ++ x :: Z).toArray e (0, 0)) rfl (fun k => ?_) (by simp [World.setCell]) rfl rfl rfl
 show (w.heap.modify g _)[k]? = _
 rw [Array.getElem?_modify]
 by_cases hk : g = k
 ·subst hk
  rw [if_pos rfl, if_pos rfl, hg]
  simp
 ·rw [if_neg hk, if_neg (fun h => hk h.symm)]
theorem Sat.setCells {g e : Nat} {Z : List Value} : ∀ {vs X Y : List Value} {w : World}, Y.length = vs.length → Sat β w (ptT e g (X ++ Y ++ Z) :: R) → Sat β (w.setCells g X.length vs) (ptT e g (X ++ vs ++ Z) :: R)
 | [], X, [], w, _, s => by simpa [World.setCells] using s
 | v :: vs, X, y :: Y, w, h, s => by
  have s1 : Sat β w (ptT e g (X ++ y :: (Y ++ Z)) :: R) := by simpa using s
  have s2 := s1.setCell1 (x := v)
  have s3 : Sat β (w.setCell ⟨g, X.length, none⟩ v) (ptT e g ((X ++ [v]) ++ Y ++ Z) :: R) := by simpa using s2
  have s4 := Sat.setCells (vs := vs) (by simpa using h) s3
  rw [World.setCells]
  simpa using s4
theorem ptT_heap {g e : Nat} {cs : List Value} (s : Sat β w (ptT e g cs :: R)) : w.heap[g]? = some (.cells cs.toArray e (0, 0)) := by
 obtain ⟨hb, h, ⟨h1, h2, h1e, st, d, rfl⟩, hw⟩ := s
 unfold ptT at h1e
 subst h1e
 exact (hw g _ (by simp [Hp.add, Hp.one])).2
theorem ptT_ne {g e b : Nat} {cs ds : List Value} (s : Sat β w (ptT e g cs :: pt b ds :: R)) : b ≠ g := by
 obtain ⟨hb, h, ⟨h1, h2, h1e, ⟨h3, h4, ⟨t, h3e⟩, st2, d2, rfl⟩, d, rfl⟩, hw⟩ := s
 unfold ptT at h1e
 subst h1e
 subst h3e
 intro e0
 subst e0
 rcases d b with h | h <;> simp [Hp.one, Hp.add] at h
@[reducible] def iS (zs : List Int) : List Value := zs.map (Value.int .i64)
theorem one_i (zs : List Int) : ∀ v ∈ iS zs, v.oneCell' = true := by
 intro v hv
 obtain ⟨z, _, rfl⟩ := List.mem_map.1 hv
 rfl
theorem zeros_i (k : Nat) : Builtin.zeroCells (Value.int .i64 0).cells k = (List.replicate k (Value.int .i64 0)).toArray := by
 apply Array.ext_getElem?
 intro t
 by_cases h : t < k
 ·simp [Builtin.zeroCells, Value.cells, List.getElem?_replicate, h, Nat.mod_one]
 ·rw [Array.getElem?_eq_none (by simp [Builtin.zeroCells, Value.cells]; omega), Array.getElem?_eq_none (by simp; omega)]
theorem Sat.rot {A : Atom} (s : Sat β w (A :: R)) : Sat β w (R ++ [A]) := s.perm (List.perm_append_comm (l₁ := [A]) (l₂ := R))
theorem ownI_open {e c : Nat} {q : Option Addr} {zs : List Int} (hn : zs ≠ []) (s : Sat β w (own e 1 (.slice q zs.length c) zs.length (iS zs) :: R)) : ∃ g X, q = some ⟨g, 0, none⟩ ∧ zs.length ≤ c ∧ X.length + zs.length = c ∧ Sat β w (ptT e g (iS zs ++ X) :: R) := by
 have h0 : 0 < zs.length := List.length_pos_iff.2 hn
 obtain ⟨⟨g, X⟩, s2⟩ := (s.ent (Ent.head (own_open h0))).exA
 obtain ⟨⟨h1, h2, h3, h4⟩, s3⟩ := Sat.pureA s2
 simp only [List.length_append, List.length_map, Nat.mul_one] at h4
 exact ⟨g, X, h1, h3, by omega, s3⟩
theorem ownI_shut {e c g n : Nat} {zs : List Int} {X : List Value} (hn : zs.length = n) (hc : n ≤ c) (hX : X.length + n = c) (s : Sat β w (ptT e g (iS zs ++ X) :: R)) : Sat β w (own e 1 (.slice (some ⟨g, 0, none⟩) n c) n (iS zs) :: R) :=
 s.ent (Ent.head (own_close (by simp [hn]) hc (by simp; omega)))
theorem cells_of {g : Nat} {e : Nat} {cs X : List Value} (h : w.heap[g]? = some (.cells (cs ++ X).toArray e (0, 0))) : ∀ j v, cs[j]? = some v → w.cell? ⟨g, j, none⟩ = some v := fun j v hj => by
 have hlt : j < cs.length := (List.getElem?_eq_some_iff.1 hj).1
 simp only [World.cell?, h]
 simp [List.getElem?_append_left hlt, hj]
theorem some_of {g : Nat} {e : Nat} {cs : List Value} (h : w.heap[g]? = some (.cells cs.toArray e (0, 0))) (j : Nat) (hj : j < cs.length) : (w.cell? ⟨g, j, none⟩).isSome = true := by
 simp only [World.cell?, h]
 simp [hj]
theorem froz_of {g : Nat} {e : Nat} {cs : List Value} (h : w.heap[g]? = some (.cells cs.toArray e (0, 0))) (j : Nat) : w.frozen? ⟨g, j, none⟩ = false := by
 simp only [World.frozen?, h]
 simp
theorem shape_of {g : Nat} {e : Nat} {cs : List Value} (h : w.heap[g]? = some (.cells cs.toArray e (0, 0))) : w.shape? g = some (e, cs.length) := by
 simp only [World.shape?, h]
 simp
theorem getD_i {zs : List Int} {j : Nat} (h : j < zs.length) : (iS zs)[j]? = some (.int .i64 (zs.getD j 0)) := by
 rw [List.getElem?_map, List.getElem?_eq_getElem h, List.getD_eq_getElem?_getD, List.getElem?_eq_getElem h]; rfl
theorem seaT (L : Lays2.n25 P ρ) (he : Enters P (ρ.f 25)) (e c : Nat) (q : Option Addr) (zs : List Int) (x : Int) (hb : zs.length ≤ 65536) (hs : zs.Pairwise (· ≤ ·)) :
  Tri P β (ρ.f 25) [.slice q zs.length c, .int .i64 x] [own e 1 (.slice q zs.length c) zs.length (iS zs)] (fun v A => v = .tuple #[.int .i64 ((zs.countP (· < x) : Nat) : Int), .bool (zs.contains x)] ∧ A = [own e 1 (.slice q zs.length c) zs.length (iS zs)]) := by
 refine Tri.ofCalls he fun F w s => ?_
 by_cases h0 : zs = []
 ·subst h0
  exact (Any.slices_BinarySearch_int_empty L q c x w).mono fun e1 w' ⟨h1, h2⟩ => ⟨_, _, h1, h2 ▸ s, rfl, rfl⟩
 ·obtain ⟨g, X, rfl, hc, hX, s1⟩ := ownI_open h0 (s.perm List.perm_append_comm)
  have hg := ptT_heap s1
  refine (Any.slices_BinarySearch_int L g 0 zs.length c zs x w (Nat.le_refl _) (by omega) (fun j hj => by rw [Nat.zero_add]; exact cells_of hg _ _ (getD_i hj)) (by rwa [List.take_length])).mono ?_
  rintro e1 w' ⟨rfl, k, rfl⟩
  rw [List.take_length]
  refine ⟨_, _, rfl, (s.heap_eq rfl rfl rfl rfl (by show w.drawn ≤ w.drawn + k; omega)), rfl, rfl⟩
theorem delT (L : Lays2.n23 P ρ) (he : Enters P (ρ.f 23)) (e c i : Nat) (q : Option Addr) (zs : List Int) (hi : i < zs.length) (hc : c ≤ maxLen) :
  Tri P β (ρ.f 23) [.slice q zs.length c, .int .i64 (i : Int), .int .i64 ((i + 1 : Nat) : Int)] [own e 1 (.slice q zs.length c) zs.length (iS zs)] (fun v A => v = .slice q (zs.length - 1) c ∧ A = [own e 1 (.slice q (zs.length - 1) c) (zs.length - 1) (iS (zs.eraseIdx i))]) := by
 refine Tri.ofCalls he fun F w s => ?_
 have h0 : zs ≠ [] := fun h => by subst h; simp at hi
 obtain ⟨g, X, rfl, hc2, hX, s1⟩ := ownI_open h0 (s.perm List.perm_append_comm)
 have hg := ptT_heap s1
 refine (Any.slices_Delete_int_cells L g 0 zs.length c i (i + 1) zs w (Nat.le_refl _) hc2 (by unfold maxLen at hc; omega) (by omega) (by omega) (fun j hj => by rw [Nat.zero_add]; exact cells_of hg _ _ (getD_i hj)) (fun j _ => by rw [Nat.zero_add]; exact froz_of hg _)).mono ?_
 rintro e1 w' ⟨rfl, k, rfl⟩
 rw [List.take_length, show i + 1 - i = 1 by omega]
 refine ⟨_, _, rfl, ?_, rfl, rfl⟩
 have s2 : Sat β (w.drewN k) (ptT e g ([] ++ iS zs ++ X) :: F) := s1.heap_eq rfl rfl rfl rfl (by show w.drawn ≤ w.drawn + k; omega)
 have s3 := Sat.setCells (vs := iS (zs.take i ++ zs.drop (i + 1) ++ [0])) (by simp; omega) s2
 have e2 : iS (zs.take i ++ zs.drop (i + 1) ++ [0]) = iS (zs.eraseIdx i) ++ [.int .i64 0] := by unfold iS; rw [List.map_append, List.eraseIdx_eq_take_drop_succ]; rfl
 rw [List.nil_append, e2, List.append_assoc] at s3
 have e3 : (zs.eraseIdx i).length = zs.length - 1 := by rw [List.length_eraseIdx, if_pos hi]
 rw [show (zs.take i ++ zs.drop (i + 1) ++ List.replicate 1 (0 : Int)).map (Value.int .i64) = iS (zs.eraseIdx i) ++ [Value.int .i64 0] from e2]
 exact (ownI_shut (c := c) (X := .int .i64 0 :: X) e3 (by omega) (by simp; omega) s3).rot
def insL (zs : List Int) (i : Nat) (x : Int) : List Int := zs.take i ++ x :: zs.drop i
theorem insL_len {zs : List Int} {i : Nat} (h : i ≤ zs.length) (x : Int) : (insL zs i x).length = zs.length + 1 := by unfold insL; simp; omega
theorem insT (L : Lays2.n21 P ρ) (he : Enters P (ρ.f 21)) (c i vb : Nat) (q : Option Addr) (zs : List Int) (x : Int) (hb : zs.length ≤ 65536) (hi : i ≤ zs.length) (hc : c ≤ maxLen) :
  Tri P β (ρ.f 21) [.slice q zs.length c, .int .i64 (i : Int), .slice (some ⟨vb, 0, none⟩) 1 1] [own (ρ.t 3) 1 (.slice q zs.length c) zs.length (iS zs), pt vb [.int .i64 x]]
   (fun v A => ∃ q' c', c' ≤ maxLen ∧ v = .slice q' (zs.length + 1) c' ∧ A = [own (ρ.t 3) 1 (.slice q' (zs.length + 1) c') (zs.length + 1) (iS (insL zs i x))]) := by
 have hil := insL_len hi x
 refine Tri.ofCalls he fun F w s => ?_
 have sv : Sat β w (pt vb [.int .i64 x] :: (own (ρ.t 3) 1 (.slice q zs.length c) zs.length (iS zs) :: F)) := s.perm (List.perm_append_comm.trans (List.Perm.swap _ _ _))
 obtain ⟨_, tv, hv⟩ := sv.cell_pt (i := 0) rfl
 have hvs : ∀ j v, ([.int .i64 x] : List Value)[j]? = some v → w.cell? ⟨vb, 0 + j, none⟩ = some v := fun j v hj => by rw [Nat.zero_add]; exact cells_of (X := []) hv j v hj
 have h1v : ∀ v ∈ ([.int .i64 x] : List Value), v.oneCell' = true := one_i [x]
 by_cases h0 : zs = []
 ·subst h0
  have s0 : Sat β w (own (ρ.t 3) 1 (.slice q 0 c) 0 [] :: F) := sv.ent (Ent.drop _ _)
  have hqc : (q = none ∨ ∃ g, q = some ⟨g, 0, none⟩) := by
   obtain ⟨h, _⟩ := Sat.pureA (s0.ent (Ent.head own_q)); exact h
  obtain rfl : i = 0 := by simpa using hi
  have hF : Sat β w F := s0.ent (Ent.drop _ _)
  by_cases hroom : 0 + 1 ≤ c
  ·obtain ⟨hb1, h, ⟨h1, h2, ⟨hl, ho⟩, st, d, rfl⟩, hw⟩ := s0
   rcases ho with ⟨hq, _, _⟩ | ⟨g, cap, cur, hq, hnc, hcl, htk, rfl⟩
   ·injection hq with _ _ h9; omega
   ·injection hq with h7 _ h9
    subst h7 h9
    match cur, hcl with
    | [], hcl => simp at hcl; omega
    | y :: X, hcl =>
    have s1 : Sat β w (ptT (ρ.t 3) g ([] ++ [y] ++ X) :: F) := ⟨hb1, _, ⟨_, h2, rfl, st, d, rfl⟩, hw⟩
    have hg := ptT_heap s1
    refine (Any2.slices_Insert_int_end_room L g 0 0 c vb 0 1 1 [.int .i64 x] w (by omega) hroom (by unfold maxLen at hc; omega) rfl (fun j hj => some_of hg _ (by simp at hcl ⊢; omega)) (fun j hj => froz_of hg _) hvs h1v).mono ?_
    rintro e1 w' ⟨rfl, rfl⟩
    have s2 := Sat.setCells (vs := [.int .i64 x]) (Y := [y]) rfl s1
    exact ⟨_, _, rfl, (ownI_shut (zs := [x]) (X := X) rfl hroom (by simpa using hcl) (by simpa using s2)).rot, some ⟨g, 0, none⟩, c, hc, rfl, rfl⟩
  ·refine (Any2.slices_Insert_int_end_grow L q 0 c vb 0 1 1 [] [.int .i64 x] w (by omega) (by omega) (by omega) (by omega) rfl rfl (fun _ => rfl) (fun _ _ j v hj => by simp at hj) hvs h1v).mono ?_
   rintro e1 w' ⟨rfl, rfl⟩
   have hge := grownCap_ge w (0 + 1) c (ρ.t 3)
   have hle := grownCap_le_maxLen w (0 + 1) c (ρ.t 3) (by decide)
   generalize grownCap w (0 + 1) c (ρ.t 3) = cap at hge hle ⊢
   refine ⟨_, _, rfl, Sat.rot ?_, some ⟨w.heap.size, 0, none⟩, cap, hle, rfl, rfl⟩
   have s3 := hF.drew.new (.cells ((([] ++ [.int .i64 x]) : List Value).toArray ++ Builtin.zeroCells (Value.int .i64 0).cells (cap - (0 + 1))) (ρ.t 3)) (A := ptT (ρ.t 3) w.heap.size (iS [x] ++ List.replicate (cap - (0 + 1)) (.int .i64 0))) (by
    unfold ptT; rw [zeros_i]; congr 2; apply Array.toList_inj.1; simp)
   exact ownI_shut (zs := [x]) rfl (by omega) (by simp; omega) s3
 ·have s0 : Sat β w (own (ρ.t 3) 1 (.slice q zs.length c) zs.length (iS zs) :: pt vb [.int .i64 x] :: F) := s.perm List.perm_append_comm
  obtain ⟨g, X, rfl, hc2, hX, s1⟩ := ownI_open h0 s0
  have hg := ptT_heap s1
  have hne := ptT_ne s1
  have hF : Sat β w F := s1.ent ((Ent.drop _ _).trans (Ent.drop _ _))
  have s2 : Sat β w (ptT (ρ.t 3) g (iS zs ++ X) :: F) := s1.ent (Ent.cons _ (Ent.drop _ _))
  by_cases hlt : i < zs.length
  ·obtain ⟨b0, B, hB⟩ : ∃ b0 B, zs.drop i = b0 :: B := by
    cases e : zs.drop i with
    | nil => have := congrArg List.length e; simp at this; omega
    | cons a l => exact ⟨a, l, rfl⟩
   have hBl : B.length + 1 + i = zs.length := by have := congrArg List.length hB; simp at this; omega
   have hAl : (zs.take i).length = i := by simp; omega
   have hzs : zs = zs.take i ++ b0 :: B := by rw [← hB, List.take_append_drop]
   have hdr : (iS zs).drop i = iS (b0 :: B) := by unfold iS; rw [← List.map_drop, hB]
   have hta : (iS zs).take i = iS (zs.take i) := by unfold iS; rw [← List.map_take]
   have hins : insL zs i x = zs.take i ++ x :: b0 :: B := by unfold insL; rw [hB]
   generalize hA : zs.take i = A at hAl hzs hta hins
   by_cases hroom : zs.length + 1 ≤ c
   ·match X, hX, s1, s2, hg with
    | [], hX, _, _, _ => simp at hX; omega
    | s0 :: X, hX, s1, s2, hg =>
    refine (Any2.slices_Insert_int_shift L g 0 zs.length c i vb 0 1 1 (iS zs) [.int .i64 x] w hlt (by omega) hroom (by unfold maxLen at hc; omega) hne (by simp) rfl (fun j v hj => by rw [Nat.zero_add]; exact cells_of hg j v hj)
     (fun j hj => by rw [Nat.zero_add]; exact some_of hg _ (by simp; omega)) (fun j hj => froz_of hg _) hvs (one_i zs) h1v tv (ρ.t 3) 1 _ (by simp [World.shape?, hv]) (shape_of hg) (by simp) (by simp [World.frozen?, hv]) (by simp [World.frozen?, hv])).mono ?_
    rintro e1 w' ⟨rfl, rfl⟩
    have s3 : Sat β w.drew (ptT (ρ.t 3) g (iS (A ++ [b0]) ++ (iS B ++ [s0]) ++ X) :: F) := by
     have := s2.drew
     rw [hzs] at this
     simpa [iS] using this
    have s4 := Sat.setCells (vs := iS (b0 :: B)) (by simp) s3
    have s5 : Sat β (w.drew.setCells g (0 + (i + 1)) (iS (b0 :: B))) (ptT (ρ.t 3) g (iS A ++ [.int .i64 b0] ++ (iS (b0 :: B) ++ X)) :: F) := by
     rw [show 0 + (i + 1) = (iS (A ++ [b0])).length by simp; omega]
     simpa [iS] using s4
    have s6 := Sat.setCells (vs := [.int .i64 x]) (Y := [.int .i64 b0]) rfl s5
    rw [hdr]
    refine ⟨_, _, rfl, ?_, some ⟨g, 0, none⟩, c, hc, rfl, rfl⟩
    rw [hins, show 0 + i = (iS A).length by simp; omega]
    exact (ownI_shut (zs := A ++ x :: b0 :: B) (X := X) (by simp; omega) hroom (by simp at hX ⊢; omega) (by simpa [iS] using s6)).rot
   ·refine (Any2.slices_Insert_int_grow L g 0 zs.length c i vb 0 1 1 (iS zs) [.int .i64 x] w hlt (by omega) hc2 (by omega) (by omega) (by simp) rfl (fun j v hj => by rw [Nat.zero_add]; exact cells_of hg j v hj) hvs (one_i zs) h1v).mono ?_
    rintro e1 w' ⟨rfl, rfl⟩
    have hge := grownCap_ge w (zs.length + 1) c (ρ.t 3)
    have hle := grownCap_le_maxLen w (zs.length + 1) c (ρ.t 3) (by unfold maxLen; omega)
    generalize grownCap w (zs.length + 1) c (ρ.t 3) = cap at hge hle ⊢
    rw [hta, hdr]
    have s3 := hF.new (.cells ((iS A).toArray ++ Builtin.zeroCells (Value.int .i64 0).cells (zs.length + 1 - i) ++ Builtin.zeroCells (Value.int .i64 0).cells (cap - (zs.length + 1))) (ρ.t 3)) (A := ptT (ρ.t 3) w.heap.size (iS A ++ [.int .i64 0] ++ (List.replicate (zs.length - i) (.int .i64 0) ++ List.replicate (cap - (zs.length + 1)) (.int .i64 0)))) (by
     unfold ptT; rw [zeros_i, zeros_i, show zs.length + 1 - i = (zs.length - i) + 1 by omega, List.replicate_succ]; congr 2; apply Array.toList_inj.1; simp)
    have s4 := Sat.setCells (vs := [.int .i64 x]) (Y := [.int .i64 0]) rfl s3.drew
    have s4d := s4.drew
    generalize e7 : (World.setCells _ _ _ _).drew = w7 at s4d
    have s5 : Sat β w7 (ptT (ρ.t 3) w.heap.size ((iS A ++ [.int .i64 x]) ++ List.replicate (zs.length - i) (.int .i64 0) ++ List.replicate (cap - (zs.length + 1)) (.int .i64 0)) :: F) := by
     simpa using s4d
    have s6 := Sat.setCells (vs := iS (b0 :: B)) (by simp; omega) s5
    refine ⟨_, _, rfl, Sat.rot ?_, some ⟨w.heap.size, 0, none⟩, cap, hle, rfl, rfl⟩
    rw [hins]
    have e1 : (iS A).length = i := by simp; omega
    have e2 : (iS A ++ [Value.int .i64 x]).length = i + 1 := by simp; omega
    rw [e2] at s6
    rw [e1] at e7
    rw [e7]
    exact ownI_shut (zs := A ++ x :: b0 :: B) (X := List.replicate (cap - (zs.length + 1)) (.int .i64 0)) (by simp; omega) hge (by simp; omega) (by simpa [iS] using s6)
  ·obtain rfl : i = zs.length := by omega
   have hins : insL zs zs.length x = zs ++ [x] := by unfold insL; simp
   by_cases hroom : zs.length + 1 ≤ c
   ·match X, hX, s1, s2, hg with
    | [], hX, _, _, _ => simp at hX; omega
    | y :: X, hX, s1, s2, hg =>
    refine (Any2.slices_Insert_int_end_room L g 0 zs.length c vb 0 1 1 [.int .i64 x] w (by omega) hroom (by unfold maxLen at hc; omega) rfl (fun j hj => some_of hg _ (by simp at hX ⊢; omega)) (fun j hj => froz_of hg _) hvs h1v).mono ?_
    rintro e1 w' ⟨rfl, rfl⟩
    have s3 : Sat β w (ptT (ρ.t 3) g (iS zs ++ [y] ++ X) :: F) := by simpa using s2
    have s4 := Sat.setCells (vs := [.int .i64 x]) (Y := [y]) rfl s3
    rw [hins]
    refine ⟨_, _, rfl, ?_, some ⟨g, 0, none⟩, c, hc, rfl, rfl⟩
    rw [show 0 + zs.length = (iS zs).length by simp]
    exact (ownI_shut (zs := zs ++ [x]) (X := X) (by simp) hroom (by simp at hX ⊢; omega) (by simpa [iS] using s4)).rot
   ·refine (Any2.slices_Insert_int_end_grow L (some ⟨g, 0, none⟩) zs.length c vb 0 1 1 (iS zs) [.int .i64 x] w (by omega) hc2 (by omega) (by omega) (by simp) rfl (fun h => by cases h) (fun a ha j v hj => by cases ha; rw [addr_add, Nat.zero_add]; exact cells_of hg j v hj) hvs h1v).mono ?_
    rintro e1 w' ⟨rfl, rfl⟩
    have hge := grownCap_ge w (zs.length + 1) c (ρ.t 3)
    have hle := grownCap_le_maxLen w (zs.length + 1) c (ρ.t 3) (by unfold maxLen; omega)
    generalize grownCap w (zs.length + 1) c (ρ.t 3) = cap at hge hle ⊢
    rw [hins]
    refine ⟨_, _, rfl, Sat.rot ?_, some ⟨w.heap.size, 0, none⟩, cap, hle, rfl, rfl⟩
    have s3 := hF.drew.new (.cells ((iS zs ++ [Value.int .i64 x]).toArray ++ Builtin.zeroCells (Value.int .i64 0).cells (cap - (zs.length + 1))) (ρ.t 3)) (A := ptT (ρ.t 3) w.heap.size (iS (zs ++ [x]) ++ List.replicate (cap - (zs.length + 1)) (.int .i64 0))) (by
     unfold ptT; rw [zeros_i]; congr 2; apply Array.toList_inj.1; simp)
    exact ownI_shut (zs := zs ++ [x]) (by simp) hge (by simp; omega) s3
theorem Sat.append0 {t ty e : Nat} {i : TI} (ht : P.underlying t = some (.slice e)) (hi : TIok P e i) (hz : (vcells i.zero).length = i.size) {g0 : Nat} (s : Sat β w (own e i.size (.slice (some ⟨g0, 0, none⟩) 0 0) 0 [] :: R))
  {b off m c : Nat} {news : List Value} (hl : news.length = m * i.size) (hr : Reads β w b off news) (h1 : ∀ u ∈ news, u.oneCell' = true) (h63 : m ≤ 4611686018427387904) (hby : m * i.bytes ≤ 140737488355328) :
  ∃ q' c' w', c' ≤ maxLen ∧ (Builtin.append_ #[t, t] ty #[.slice (some ⟨g0, 0, none⟩) 0 0, .slice (some ⟨b, off, none⟩) m c]).run P w = .ok (.slice q' m c') w' ∧ Sat β w' (own e i.size (.slice q' m c') m news :: R) := by
 obtain ⟨inf, hinf, hsz, hbt, hzz⟩ := hi.info
 obtain ⟨v', w', hrun, s'⟩ := s.append (P := P) (ty := ty) (c := c) ht hi hz hl hr h1 (by rwa [Nat.zero_add]) (by rwa [Nat.zero_add])
 have hg : ∃ cur : List Value, cur.length = 0 ∧ w.heap[g0]? = some (.cells cur.toArray e (0, 0)) := by
  obtain ⟨hb, h, ⟨h1', h2', ⟨_, ho⟩, st, d, rfl⟩, hw⟩ := s
  rcases ho with ⟨hv, _, _⟩ | ⟨g, cap, cur, hv, hnc, hcl, htk, rfl⟩
  ·cases hv
  ·injection hv with h7 _ h8
   injection h7 with h7
   injection h7 with h9 _ _
   subst h8 h9
   exact ⟨cur, by simpa using hcl, (hw g0 (.cells cur.toArray e (0, 0)) (by simp [Hp.add, Hp.one])).2⟩
 obtain ⟨cur, hcl, hgc⟩ := hg
 have key : ∃ q' c', c' ≤ maxLen ∧ v' = .slice q' m c' := by
  by_cases hm : m = 0
  ·subst hm
   have hr2 := run_append_room (P := P) w t ty e inf ht hinf g0 0 0 cur.toArray hgc ⟨b, off, none⟩ 0 c news (by rw [hsz]; exact hl) hr h1 (by omega) (by rw [hl]; simp)
   rw [hr2] at hrun
   injection hrun with h2 _
   exact ⟨_, 0, by decide, h2.symm⟩
  ·have hr2 := run_append_grow (P := P) w t ty e inf i.zero ht hinf hzz ⟨g0, 0, none⟩ 0 0 [] (by simp) (fun j u hj => by simp at hj) ⟨b, off, none⟩ m c news (by rw [hsz]; exact hl) hr (by omega) (by omega) (growslice_fits (by omega) (by rw [hbt]; simpa using hby))
   rw [hr2] at hrun
   injection hrun with h2 _
   rw [Nat.zero_add] at h2
   exact ⟨_, _, grownCap_le_maxLen w m 0 e (by unfold maxLen; omega), h2.symm⟩
 obtain ⟨q', c', hc', rfl⟩ := key
 rw [Nat.zero_add, List.nil_append] at s'
 exact ⟨q', c', w', hc', hrun, s'⟩
variable {rnd : Option (Nat × Loop)} {N : Nat} {env : Env} {L : List Atom} {K : Env → List Atom → Prop} {ops : Array Oper} {T : TT}
theorem SQ.append0 (hT : TTok P T) {s : Stp} {r : List Stp} {obs : Obs} {d e b off m g0 : Nat} {te : TI} (he : s.k = 1) (h : apE T N ops env s.o = some (d, e, te, .slice (some ⟨g0, 0, none⟩) 0 0, b, off, m))
  {A : Atom} {news : List Value} {sz : Nat} (hS : SlR β A (some ⟨b, off, none⟩) m sz news) (ha : AtA A L) (hsz : sz = te.size) (hl : news.length = m * te.size) (hz : (vcells te.zero).length = te.size) (h1 : ∀ u ∈ news, u.oneCell' = true)
  (h63 : m ≤ 4611686018427387904) (hby : m * te.bytes ≤ 140737488355328)
  (k : ∀ q' c', c' ≤ maxLen → watchOk β obs (own e te.size (.slice q' m c') m news :: L) s.watch ∧ SQ P β rnd N T ops K r obs ((d, .slice q' m c') :: env) (own e te.size (.slice q' m c') m news :: L)) : SQ P β rnd N T ops K (s :: r) obs env (own e te.size (.slice (some ⟨g0, 0, none⟩) 0 0) 0 [] :: L) := by
 subst hsz
 unfold apE at h
 split at h <;> try (cases h; done)
 rename_i d' hde
 obtain ⟨hw, hd, hdl⟩ := dstE_eq hde
 split at h <;> try (cases h; done)
 rename_i c hop
 split at h <;> try (cases h; done)
 rename_i x y t t2 hc ha2 hat
 split at h <;> try (cases h; done)
 rename_i htt
 have htt := Nat.eq_of_beq_eq_true htt
 subst htt
 split at h <;> try (cases h; done)
 rename_i ti hti
 split at h <;> try (cases h; done)
 rename_i e' hde2
 split at h <;> try (cases h; done)
 rename_i te' v0 b0 off0 m0 c0 hte hx hy
 simp only [Option.some.injEq, Prod.mk.injEq] at h
 obtain ⟨rfl, rfl, rfl, rfl, rfl, rfl, rfl⟩ := h
 refine SQ.act he hw fun fm nn Qx a w st0 => ?_
 obtain ⟨hen, Ds, hds, st⟩ := st0
 have hu := (hT.get hti).1.1
 rw [hde2] at hu
 have hr : Reads β w b0 off0 news := reads_slr hS (.t ha) hl _ w st
 have s1 := st.perm List.perm_middle
 obtain ⟨q', c', w', hc', hrun, s2⟩ := s1.append0 (P := P) (ty := s.o.type) (c := c0) hu (hT.get hte) hz hl hr h1 h63 hby
 have e2 : (execOp a.eval s.o).run P w = .ok (.value (.slice q' m0 c')) w' := by
  obtain ⟨si, ⟨dst, op, type, pos, after, guard⟩, se, sw⟩ := s
  obtain ⟨callee, args, ats⟩ := c
  simp only at hop hc ha2 hat
  subst hop
  subst hc
  obtain rfl : args = #[x, y] := Array.toList_inj.1 (by simpa using ha2)
  obtain rfl : ats = #[t, t] := Array.toList_inj.1 (by simpa using hat)
  simp only [execOp, resolve, invoke, builtin, Sem.run_bind, Sem.run_pure, Result.andThen]
  have e3 : (#[x, y] : Array Operand).map a.eval = #[.slice (some ⟨g0, 0, none⟩) 0 0, .slice (some ⟨b0, off0, none⟩) m0 c0] := by simp [hen.eval hx, hen.eval hy]
  rw [e3, hrun]
 rw [e2]
 refine ⟨_, _, ⟨by rw [hd]; exact hen.put hdl _, Ds, by rw [hd]; exact hds, s2.perm List.perm_middle.symm⟩, k q' c' hc'⟩
end
end Go.Proofs.YtakkogdmlbkdaaaGreatDoor.Sl
namespace Go.Proofs.YtakkogdmlbkdaaaGreatDoor.Sl.It
open Go Go.RowKit Go.Proofs Go.Shelf
attribute [local irreducible] CW Tri OW
@[reducible] def pk168 : List (Nat × Plan) := []
def insI_ren : Go.Shelf.Ren := ⟨fun | 21 => 174 | 27 => 205 | 28 => 206 | 35 => 228 | 39 => 243 | n => n, fun | 22 => 111 | 3 => 3 | 4 => 4 | 0 => 0 | n => n, fun | n => n⟩
theorem insI : Go.Proofs.Lays2.n21 Tryz.prog insI_ren := {
 mixed := by kernel_rfl
 f21 := Tryz.func174.trans (congrArg some (by kernel_rfl))
 f27 := Tryz.func205.trans (congrArg some (by kernel_rfl))
 f28 := Tryz.func206.trans (congrArg some (by kernel_rfl))
 f35 := Tryz.func228.trans (congrArg some (by kernel_rfl))
 f39 := Tryz.func243.trans (congrArg some (by kernel_rfl))
 t0 := Tryz.underlying0
 a0 := Tryz.isAgg0
 z0 := Tryz.sizeOf0
 v0 := Tryz.zeroValue0
 t3 := Tryz.underlying3
 a3 := Tryz.isAgg3
 z3 := Tryz.sizeOf3
 v3 := Tryz.zeroValue3
 t4 := Tryz.underlying4
 a4 := Tryz.isAgg4
 z4 := Tryz.sizeOf4
 v4 := Tryz.zeroValue4
 t22 := Tryz.underlying111
 a22 := Tryz.isAgg111
 z22 := Tryz.sizeOf111
 v22 := Tryz.zeroValue111
 i3 := by kernel_rfl }
def delI_ren : Go.Shelf.Ren := ⟨fun | 23 => 179 | n => n, fun | 22 => 111 | 3 => 3 | 4 => 4 | 0 => 0 | n => n, fun | n => n⟩
theorem delI : Go.Proofs.Lays2.n23 Tryz.prog delI_ren := {
 mixed := by kernel_rfl
 f23 := Tryz.func179.trans (congrArg some (by kernel_rfl))
 t0 := Tryz.underlying0
 a0 := Tryz.isAgg0
 z0 := Tryz.sizeOf0
 v0 := Tryz.zeroValue0
 t3 := Tryz.underlying3
 a3 := Tryz.isAgg3
 z3 := Tryz.sizeOf3
 v3 := Tryz.zeroValue3
 t4 := Tryz.underlying4
 a4 := Tryz.isAgg4
 z4 := Tryz.sizeOf4
 v4 := Tryz.zeroValue4
 t22 := Tryz.underlying111
 a22 := Tryz.isAgg111
 z22 := Tryz.sizeOf111
 v22 := Tryz.zeroValue111
 i3 := by kernel_rfl }
def seaI_ren : Go.Shelf.Ren := ⟨fun | 25 => 157 | 31 => 190 | 32 => 191 | 37 => 209 | n => n, fun | 22 => 111 | 3 => 3 | 4 => 4 | 40 => 220 | 0 => 0 | n => n, fun | n => n⟩
theorem seaI : Go.Proofs.Lays2.n25 Tryz.prog seaI_ren := {
 mixed := by kernel_rfl
 f25 := Tryz.func157.trans (congrArg some (by kernel_rfl))
 f31 := Tryz.func190.trans (congrArg some (by kernel_rfl))
 f32 := Tryz.func191.trans (congrArg some (by kernel_rfl))
 f37 := Tryz.func209.trans (congrArg some (by kernel_rfl))
 t0 := Tryz.underlying0
 a0 := Tryz.isAgg0
 z0 := Tryz.sizeOf0
 v0 := Tryz.zeroValue0
 t3 := Tryz.underlying3
 a3 := Tryz.isAgg3
 z3 := Tryz.sizeOf3
 v3 := Tryz.zeroValue3
 t4 := Tryz.underlying4
 a4 := Tryz.isAgg4
 z4 := Tryz.sizeOf4
 v4 := Tryz.zeroValue4
 t22 := Tryz.underlying111
 a22 := Tryz.isAgg111
 z22 := Tryz.sizeOf111
 v22 := Tryz.zeroValue111
 t40 := Tryz.underlying220
 a40 := Tryz.isAgg220
 z40 := Tryz.sizeOf220
 v40 := Tryz.zeroValue220 }
theorem ins174 (β : Base) (c i vb : Nat) (q : Option Addr) {n : Nat} (zs : List Int) (hn : zs.length = n) (x : Int) (hb : n ≤ 65536) (hi : i ≤ n) (hc : c ≤ maxLen) :
  Tri Tryz.prog β 174 [.slice q n c, .int .i64 (i : Int), .slice (some ⟨vb, 0, none⟩) 1 1] [own 3 1 (.slice q n c) n (iS zs), pt vb [.int .i64 x]]
   (fun v A => ∃ q' c', c' ≤ maxLen ∧ v = .slice q' (n + 1) c' ∧ A = [own 3 1 (.slice q' (n + 1) c') (n + 1) (iS (insL zs i x))]) := by
 subst hn
 exact insT (β := β) insI (enters_of Tryz.func174 (by kernel_rfl) rfl) c i vb q zs x hb hi hc
theorem del179 (β : Base) (c i : Nat) (q : Option Addr) {n : Nat} (zs : List Int) (hn : zs.length = n) (hi : i < n) (hc : c ≤ maxLen) :
  Tri Tryz.prog β 179 [.slice q n c, .int .i64 (i : Int), .int .i64 ((i + 1 : Nat) : Int)] [own 3 1 (.slice q n c) n (iS zs)]
   (fun v A => v = .slice q (n - 1) c ∧ A = [own 3 1 (.slice q (n - 1) c) (n - 1) (iS (zs.eraseIdx i))]) := by
 subst hn
 exact delT (β := β) delI (enters_of Tryz.func179 (by kernel_rfl) rfl) 3 c i q zs hi hc
theorem sea157 (β : Base) (c : Nat) (q : Option Addr) {n : Nat} (zs : List Int) (hn : zs.length = n) (x : Int) (hb : n ≤ 65536) (hs : zs.Pairwise (· ≤ ·)) :
  Tri Tryz.prog β 157 [.slice q n c, .int .i64 x] [own 3 1 (.slice q n c) n (iS zs)]
   (fun v A => v = .tuple #[.int .i64 ((zs.countP (· < x) : Nat) : Int), .bool (zs.contains x)] ∧ A = [own 3 1 (.slice q n c) n (iS zs)]) := by
 subst hn
 exact seaT (β := β) seaI (enters_of Tryz.func157 (by kernel_rfl) rfl) 3 c q zs x hb hs
set_option maxHeartbeats 4000000 in
theorem clo168 (β : Base) (q : Option Addr) (c : Nat) {n : Nat} (zs : List Int) (hn : zs.length = n) (hb : n ≤ 65536) :
  Tri Tryz.prog β 168 [.slice q n c] [own 3 1 (.slice q n c) n (iS zs)] (fun v L => ∃ q1 c1, c1 ≤ maxLen ∧ v = .slice q1 n c1 ∧ L = [own 3 1 (.slice q n c) n (iS zs), own 3 1 (.slice q1 n c1) n (iS zs)]) := by
 have hfl : (iS zs).length = n * 1 := by simp [hn]
 have hone := one_i zs
 refine Tri.intro tt_ok Tryz.func168 rfl rfl Tryz.ntmps168 rfl fun F => ?_
 refine CW.ent own_qn (CW.pure_ fun hq => ?_)
 obtain ⟨_, hq⟩ := hq
 rcases hq with ⟨rfl, h0⟩ | ⟨g, rfl⟩
 ·subst h0
  obtain rfl : zs = [] := List.eq_nil_of_length_eq_zero hn
  refine G tt_ok pk168 ?_
  exact CW.ret (fin_ret rfl (A := [own 3 1 (.slice none 0 c) 0 [], own 3 1 (.slice none 0 0) 0 []]) (Ent.trans (own_nil 3 1) (Ent.perm (List.Perm.swap _ _ _))) ⟨none, 0, by decide, rfl, rfl⟩)
 ·generalize iS zs = cs at hfl hone
  refine G tt_ok pk168 ?_
  refine SQ.builtO tt_ok rfl rfl rfl rfl (fun b => ⟨trivial, ?_⟩)
  refine G tt_ok pk168 ?_
  refine SQ.append0 tt_ok rfl rfl (A := own 3 1 (.slice (some ⟨g, 0, none⟩) n c) n cs) (news := cs) (sz := 1) slr_own .h rfl hfl rfl hone (by omega) (by show n * 8 ≤ _; omega) (fun q1 c1 hc1 => ⟨trivial, ?_⟩)
  refine G tt_ok pk168 ?_
  exact CW.ret (fin_ret rfl (A := [own 3 1 (.slice (some ⟨g, 0, none⟩) n c) n cs, own 3 1 (.slice q1 n c1) n cs]) (Ent.perm (List.Perm.swap _ _ _)) ⟨q1, c1, hc1, rfl, rfl⟩)
end Go.Proofs.YtakkogdmlbkdaaaGreatDoor.Sl.It
namespace Go.Proofs.YtakkogdmlbkdaaaGreatDoor.Sl.It
@[reducible] def ksB (bs : List (Int × Int)) : List Int := bs.map (·.1)
@[reducible] def vsB (bs : List (Int × Int)) : List Int := bs.map (·.2)
def BkOk (bs : List (Int × Int)) : Prop := bs.Pairwise (fun a b => a.1 < b.1) ∧ bs.length ≤ 1000
def posB (bs : List (Int × Int)) (k : Int) : Nat := (ksB bs).countP (· < k)
def getB (bs : List (Int × Int)) (k : Int) : Option Int := (bs.find? (fun e => e.1 == k)).map (·.2)
def putB (bs : List (Int × Int)) (k v : Int) : List (Int × Int) := bs.take (posB bs k) ++ (k, v) :: bs.drop (posB bs k)
def delB (bs : List (Int × Int)) (k : Int) : List (Int × Int) := bs.filter (fun e => !(e.1 == k))
theorem ks_le {bs : List (Int × Int)} (h : BkOk bs) : (ksB bs).Pairwise (· ≤ ·) := by
 refine List.Pairwise.map (R := fun a b : Int × Int => a.1 < b.1) _ (fun a b hab => ?_) h.1
 omega
theorem split_bk {bs : List (Int × Int)} (h : bs.Pairwise (fun a b => a.1 < b.1)) (k : Int) : ∃ L R, bs = L ++ R ∧ (∀ e ∈ L, e.1 < k) ∧ (∀ e ∈ R, k ≤ e.1) ∧ posB bs k = L.length := by
 induction bs with
 | nil => exact ⟨[], [], rfl, by simp, by simp, rfl⟩
 | cons a bs ih =>
  rw [List.pairwise_cons] at h
  obtain ⟨L, R, e, hL, hR, hp⟩ := ih h.2
  by_cases hk : a.1 < k
  ·refine ⟨a :: L, R, by rw [e]; rfl, ?_, hR, ?_⟩
   ·intro x hx
    rcases List.mem_cons.1 hx with rfl | h2
    ·exact hk
    ·exact hL x h2
   ·unfold posB at hp ⊢
    rw [ksB, List.map_cons, List.countP_cons, List.length_cons, if_pos (by simpa using hk), hp]
  ·have hall : ∀ x ∈ a :: bs, k ≤ x.1 := by
    intro x hx
    rcases List.mem_cons.1 hx with rfl | h2
    ·omega
    ·have := h.1 x h2; omega
   refine ⟨[], a :: bs, rfl, by simp, hall, ?_⟩
   unfold posB
   rw [List.length_nil, List.countP_eq_zero]
   intro x hx
   obtain ⟨y, hy, rfl⟩ := List.mem_map.1 hx
   have := hall y hy
   simpa using this
theorem get_mem {bs : List (Int × Int)} (h : bs.Pairwise (fun a b => a.1 < b.1)) {k v : Int} : getB bs k = some v ↔ (k, v) ∈ bs := by
 unfold getB
 induction bs with
 | nil => simp
 | cons a bs ih =>
  rw [List.pairwise_cons] at h
  rw [List.find?_cons]
  by_cases hk : a.1 = k
  ·rw [show (a.1 == k) = true by simpa using hk]
   simp only
   constructor
   ·intro h2
    have : a.2 = v := by simpa using h2
    exact List.mem_cons.2 (.inl (by rw [← hk, ← this]))
   ·intro h2
    rcases List.mem_cons.1 h2 with h3 | h3
    ·rw [← h3]; rfl
    ·have := h.1 _ h3; simp at this; omega
  ·rw [show (a.1 == k) = false by simpa using hk]
   simp only
   rw [ih h.2]
   constructor
   ·exact fun h2 => List.mem_cons.2 (.inr h2)
   ·intro h2
    rcases List.mem_cons.1 h2 with h3 | h3
    ·exact absurd (by rw [← h3]) hk
    ·exact h3
theorem get_none {bs : List (Int × Int)} {k : Int} : getB bs k = none ↔ ∀ v, (k, v) ∉ bs := by
 unfold getB
 rw [Option.map_eq_none_iff, List.find?_eq_none]
 constructor
 ·intro h v hv; have := h _ hv; simp at this
 ·intro h e he hk
  have : e.1 = k := by simpa using hk
  exact h e.2 (by rw [← this]; exact he)
theorem contains_get (bs : List (Int × Int)) (k : Int) : (ksB bs).contains k = (getB bs k).isSome := by
 rw [Bool.eq_iff_iff, List.contains_iff_mem]
 cases e : getB bs k with
 | none =>
  rw [get_none] at e
  simp only [Option.isSome_none, Bool.false_eq_true, iff_false]
  intro hm
  obtain ⟨y, hy, rfl⟩ := List.mem_map.1 hm
  exact e y.2 hy
 | some v =>
  simp only [Option.isSome_some, iff_true]
  unfold getB at e
  rw [Option.map_eq_some_iff] at e
  obtain ⟨y, hy, rfl⟩ := e
  have h1 := List.mem_of_find?_eq_some hy
  have h2 := List.find?_some hy
  exact List.mem_map.2 ⟨y, h1, by simpa using h2⟩
theorem get_at {bs : List (Int × Int)} (h : BkOk bs) {k v : Int} (hg : getB bs k = some v) : bs[posB bs k]? = some (k, v) ∧ delB bs k = bs.eraseIdx (posB bs k) := by
 obtain ⟨L, R, e, hL, hR, hp⟩ := split_bk h.1 k
 rw [get_mem h.1] at hg
 have hm : (k, v) ∈ R := by
  rw [e] at hg
  rcases List.mem_append.1 hg with h2 | h2
  ·have := hL _ h2; simp at this
  ·exact h2
 have hs : R.Pairwise (fun a b => a.1 < b.1) := by have := h.1; rw [e] at this; exact (List.pairwise_append.1 this).2.1
 obtain ⟨R', e2⟩ : ∃ R', R = (k, v) :: R' := by
  cases R with
  | nil => simp at hm
  | cons a R =>
   rcases List.mem_cons.1 hm with h2 | h2
   ·exact ⟨R, by rw [h2]⟩
   ·have h3 := (List.pairwise_cons.1 hs).1 _ h2
    have h4 := hR a (by simp)
    simp at h3; omega
 subst e2
 have hR' : ∀ e ∈ R', k < e.1 := (List.pairwise_cons.1 hs).1
 rw [hp]
 refine ⟨by rw [e]; simp, ?_⟩
 unfold delB
 rw [e, List.eraseIdx_append_of_length_le (Nat.le_refl _), Nat.sub_self, List.eraseIdx_cons_zero, List.filter_append, List.filter_cons]
 rw [List.filter_eq_self.2 (fun x hx => by have := hL x hx; simp; omega)]
 simp only [beq_self_eq_true, Bool.not_true, Bool.false_eq_true, if_false]
 rw [List.filter_eq_self.2 (fun x hx => by have := hR' x hx; simp; omega)]
theorem del_ok {bs : List (Int × Int)} (h : BkOk bs) (k : Int) : BkOk (delB bs k) := ⟨h.1.sublist List.filter_sublist, Nat.le_trans (List.length_filter_le ..) h.2⟩
theorem put_ok {bs : List (Int × Int)} (h : BkOk bs) {k : Int} (v : Int) (hg : getB bs k = none) (hl : bs.length < 1000) : BkOk (putB bs k v) := by
 obtain ⟨L, R, e, hL, hR, hp⟩ := split_bk h.1 k
 have hR2 : ∀ x ∈ R, k < x.1 := fun x hx => by
  have h1 := hR x hx
  rw [get_none] at hg
  have : x.1 ≠ k := fun h2 => hg x.2 (by rw [← h2, e]; exact List.mem_append.2 (.inr hx))
  omega
 have hs := h.1
 rw [e, List.pairwise_append] at hs
 unfold putB
 rw [hp, e, List.take_left, List.drop_left]
 refine ⟨?_, by have := hl; rw [e] at this; simp at this ⊢; omega⟩
 rw [List.pairwise_append]
 refine ⟨hs.1, List.pairwise_cons.2 ⟨hR2, hs.2.1⟩, ?_⟩
 intro a ha b hb
 rcases List.mem_cons.1 hb with rfl | hb
 ·exact hL a ha
 ·have := hL a ha; have := hR2 b hb; omega
theorem put_mem {bs : List (Int × Int)} {k v : Int} {x : Int × Int} : x ∈ putB bs k v ↔ x = (k, v) ∨ x ∈ bs := by
 unfold putB
 constructor
 ·intro h
  rcases List.mem_append.1 h with h | h
  ·exact .inr (List.mem_of_mem_take h)
  ·rcases List.mem_cons.1 h with h | h
   ·exact .inl h
   ·exact .inr (List.mem_of_mem_drop h)
 ·rintro (h | h)
  ·exact List.mem_append.2 (.inr (List.mem_cons.2 (.inl h)))
  ·rw [← List.take_append_drop (posB bs k) bs] at h
   rcases List.mem_append.1 h with h | h
   ·exact List.mem_append.2 (.inl h)
   ·exact List.mem_append.2 (.inr (List.mem_cons.2 (.inr h)))
theorem del_mem {bs : List (Int × Int)} {k : Int} {x : Int × Int} : x ∈ delB bs k ↔ x ∈ bs ∧ x.1 ≠ k := by unfold delB; simp [List.mem_filter]
theorem get_put {bs : List (Int × Int)} (h : BkOk bs) {k : Int} (v : Int) (hg : getB bs k = none) (hl : bs.length < 1000) (k' : Int) : getB (putB bs k v) k' = if k' = k then some v else getB bs k' := by
 have h2 := put_ok h v hg hl
 split
 ·subst_vars; rw [get_mem h2.1, put_mem]; exact .inl rfl
 ·rename_i hne
  cases e : getB bs k' with
  | some x => rw [get_mem h2.1, put_mem]; exact .inr ((get_mem h.1).1 e)
  | none =>
   rw [get_none] at e ⊢
   intro x hx
   rcases put_mem.1 hx with h3 | h3
   ·injection h3 with h4 _; exact hne h4
   ·exact e x h3
theorem get_del {bs : List (Int × Int)} (h : BkOk bs) (k k' : Int) : getB (delB bs k) k' = if k' = k then none else getB bs k' := by
 have h2 := del_ok h k
 split
 ·subst_vars; rw [get_none]; intro x hx; exact (del_mem.1 hx).2 rfl
 ·rename_i hne
  cases e : getB bs k' with
  | some x => rw [get_mem h2.1, del_mem]; exact ⟨(get_mem h.1).1 e, hne⟩
  | none =>
   rw [get_none] at e ⊢
   intro x hx
   exact e x (del_mem.1 hx).1
theorem len_put (bs : List (Int × Int)) (k v : Int) : (putB bs k v).length = bs.length + 1 := by
 unfold putB
 rw [List.length_append, List.length_cons, ← Nat.add_assoc, ← List.length_append, List.take_append_drop]
theorem len_del {bs : List (Int × Int)} (h : BkOk bs) {k v : Int} (hg : getB bs k = some v) : (delB bs k).length = bs.length - 1 := by
 obtain ⟨h1, h2⟩ := get_at h hg
 rw [h2, List.length_eraseIdx, if_pos (List.getElem?_eq_some_iff.1 h1).1]
theorem ks_put (bs : List (Int × Int)) (k v : Int) : insL (ksB bs) (posB bs k) k = ksB (putB bs k v) := by unfold insL putB ksB; rw [List.map_append, List.map_cons, List.map_take, List.map_drop]
theorem vs_put (bs : List (Int × Int)) (k v : Int) : insL (vsB bs) (posB bs k) v = vsB (putB bs k v) := by unfold insL putB vsB; rw [List.map_append, List.map_cons, List.map_take, List.map_drop]
theorem map_eraseIdx_ {α γ : Type} (f : α → γ) : ∀ (l : List α) (i : Nat), (l.eraseIdx i).map f = (l.map f).eraseIdx i
 | [], i => by simp
 | a :: l, 0 => by simp
 | a :: l, i + 1 => by simp [map_eraseIdx_ f l i]
theorem pos_lt {bs : List (Int × Int)} (h : BkOk bs) {k v : Int} (hg : getB bs k = some v) : posB bs k < bs.length := (List.getElem?_eq_some_iff.1 (get_at h hg).1).1
theorem pos_le (bs : List (Int × Int)) (k : Int) : posB bs k ≤ bs.length := by unfold posB; exact Nat.le_trans List.countP_le_length (by simp)
end Go.Proofs.YtakkogdmlbkdaaaGreatDoor.Sl.It
namespace Go.Proofs.YtakkogdmlbkdaaaGreatDoor.Sl
theorem Tri.exI {P : Program} {β : Base} {g : FuncId} {args : List Value} {α : Type} {f : α → List Atom} {A : List Atom} {R : Value → List Atom → Prop} (hE : Enters P g) (h : ∀ x, Tri P β g args (f x ++ A) R) : Tri P β g args (exA f :: A) R :=
 ⟨hE, fun F n w s => by
  obtain ⟨x, s1⟩ := (s.perm List.perm_middle).exA
  refine (h x).2 F n w (s1.perm ?_)
  rw [← List.append_assoc, ← List.append_assoc]
  exact List.Perm.append_right A List.perm_append_comm⟩
end Go.Proofs.YtakkogdmlbkdaaaGreatDoor.Sl
namespace Go.Proofs.YtakkogdmlbkdaaaGreatDoor.Sl.It
attribute [local irreducible] CW Tri OW
@[reducible] def pk103 : List (Nat × Plan) := []
@[reducible] def pk126 : List (Nat × Plan) := []
@[reducible] def pk86 : List (Nat × Plan) := []
@[reducible] def pk134 : List (Nat × Plan) := [(4, [(0, 0, []), (1, 0, []), (2, 0, []), (3, 0, []), (4, 0, []), (5, 0, []), (6, 0, []), (7, 0, []), (8, 0, []), (10, 0, []), (11, 0, []), (12, 0, []), (13, 0, []), (14, 0, []), (15, 0, []), (16, 0, []), (9, 1, [5, 13]), (17, 1, [5, 13]), (18, 0, []), (19, 0, []), (20, 1, []), (21, 0, []), (22, 0, []), (23, 1, [])])]
def bkL (p : Nat) (q : Option Addr) (c : Nat) (q2 : Option Addr) (c2 : Nat) (bs : List (Int × Int)) : List Atom :=
 [pt p [.slice q bs.length c, .slice q2 bs.length c2], own 3 1 (.slice q bs.length c) bs.length (iS (ksB bs)), own 3 1 (.slice q2 bs.length c2) bs.length (iS (vsB bs))]
def bkA (p : Nat) (bs : List (Int × Int)) : Atom := exA fun x : (Option Addr × Nat) × (Option Addr × Nat) => pureA (x.1.2 ≤ maxLen ∧ x.2.2 ≤ maxLen) :: bkL p x.1.1 x.1.2 x.2.1 x.2.2 bs
theorem bk_shut {p : Nat} {q : Option Addr} {c : Nat} {q2 : Option Addr} {c2 : Nat} {bs : List (Int × Int)} (h1 : c ≤ maxLen) (h2 : c2 ≤ maxLen) : Ent (bkL p q c q2 c2 bs) [bkA p bs] := by
 have := (Ent.pureA (p := c ≤ maxLen ∧ c2 ≤ maxLen) (L := bkL p q c q2 c2 bs) ⟨h1, h2⟩).trans (Ent.exA (f := fun x : (Option Addr × Nat) × (Option Addr × Nat) => pureA (x.1.2 ≤ maxLen ∧ x.2.2 ≤ maxLen) :: bkL p x.1.1 x.1.2 x.2.1 x.2.2 bs) ((q, c), (q2, c2)))
 exact this
theorem Tri.bk {P : Program} {β : Base} {g : FuncId} {args : List Value} {p : Nat} {bs : List (Int × Int)} {A : List Atom} {R : Value → List Atom → Prop} (hE : Enters P g)
  (h : ∀ q c q2 c2, c ≤ maxLen → c2 ≤ maxLen → Tri P β g args (bkL p q c q2 c2 bs ++ A) R) : Tri P β g args (bkA p bs :: A) R :=
 Tri.exI hE fun ⟨⟨q, c⟩, ⟨q2, c2⟩⟩ => Tri.pure_ (fun h1 => h q c q2 c2 h1.1 h1.2) hE
theorem i_at {zs : List Int} {k : Nat} {x : Int} (h : zs[k]? = some x) (X : List Value) : rdv ti3 (iS zs ++ X) (0 + k * 1) = some (.int .i64 x) := by
 have e : iS zs = zs.flatMap (fun x => [.int .i64 x]) := by unfold iS; rw [← List.map_eq_flatMap]
 rw [e]
 exact rd_partR (enc := fun x : Int => [.int .i64 x]) (sz := 1) (fun _ => rfl) h 0 (i := ti3) rfl (by decide) (by omega) (by decide) X
set_option maxHeartbeats 4000000 in
theorem bget103 (β : Base) (p : Nat) {bs : List (Int × Int)} (hb : BkOk bs) (k : Int) : Tri Tryz.prog β 103 [.pointer (some ⟨p, 0, none⟩), .int .i64 k] [bkA p bs] (fun v L => v = .tuple #[.int .i64 ((getB bs k).getD 0), .bool (getB bs k).isSome] ∧ L = [bkA p bs]) := by
 refine Tri.bk (enters_of Tryz.func103 (by kernel_rfl) rfl) fun q c q2 c2 h1 h2 => ?_
 have hl := hb.2
 refine Tri.intro tt_ok Tryz.func103 rfl rfl Tryz.ntmps103 rfl fun F => ?_
 unfold bkL
 refine G tt_ok pk103 ?_
 refine ke rfl rfl (sea157 β c q (ksB bs) (by simp) k (by omega) (ks_le hb)) ?_
 rw [contains_get]
 cases e : getB bs k with
 | none =>
  refine G tt_ok pk103 ?_
  exact CW.ret (fin_ret rfl (A := [bkA p bs]) ((show Ent _ _ from pk_).trans (bk_shut h1 h2)) ⟨rfl, rfl⟩)
 | some v =>
  have hat := get_at hb e
  have hlt := pos_lt hb e
  have hv : (vsB bs)[posB bs k]? = some v := by rw [List.getElem?_map, hat.1]; rfl
  rw [show (List.countP (fun x => decide (x < k)) (ksB bs)) = posB bs k from rfl]
  refine G tt_ok pk103 ?_
  refine SQ.idxO tt_ok rfl rfl ((posB bs k)) (rfl) rfl ?_ (hlt := hlt)
  refine SQ.ldO tt_ok rfl rfl ((i_at hv)) ?_
  refine G tt_ok pk103 ?_
  exact CW.ret (fin_ret rfl (A := [bkA p bs]) ((show Ent _ (bkL p q c q2 c2 bs) from by unfold bkL; exact pk_).trans (bk_shut h1 h2)) ⟨rfl, rfl⟩)
theorem bhas126 (β : Base) (p : Nat) {bs : List (Int × Int)} (hb : BkOk bs) (k : Int) : Tri Tryz.prog β 126 [.pointer (some ⟨p, 0, none⟩), .int .i64 k] [bkA p bs] (fun v L => v = .bool (getB bs k).isSome ∧ L = [bkA p bs]) := by
 refine Tri.bk (enters_of Tryz.func126 (by kernel_rfl) rfl) fun q c q2 c2 h1 h2 => ?_
 have hl := hb.2
 refine Tri.intro tt_ok Tryz.func126 rfl rfl Tryz.ntmps126 rfl fun F => ?_
 unfold bkL
 refine G tt_ok pk126 ?_
 refine ke rfl rfl (sea157 β c q (ksB bs) (by simp) k (by omega) (ks_le hb)) ?_
 rw [contains_get]
 refine G tt_ok pk126 ?_
 exact CW.ret (fin_ret rfl (A := [bkA p bs]) ((show Ent _ (bkL p q c q2 c2 bs) from by unfold bkL; exact pk_).trans (bk_shut h1 h2)) ⟨rfl, rfl⟩)
theorem bnew86 (β : Base) : Tri Tryz.prog β 86 [] [] (fun v L => ∃ p, v = .pointer (some ⟨p, 0, none⟩) ∧ L = [bkA p []]) := by
 refine Tri.intro tt_ok Tryz.func86 rfl rfl Tryz.ntmps86 rfl fun F => ?_
 (refine G tt_ok pk86 ?_; repeat (refine G1 tt_ok pk86 ?_; intro _))
 rename_i p
 refine CW.ret (fin_ret rfl (A := [bkA p []]) ?_ ⟨p, rfl, rfl⟩)
 refine Ent.trans ?_ (bk_shut (q := none) (c := 0) (q2 := none) (c2 := 0) (by decide) (by decide))
 unfold bkL
 exact (own_nil 3 1).trans ((own_nil 3 1).trans pk_)
set_option maxHeartbeats 4000000 in
theorem btake134 (β : Base) (p : Nat) {bs : List (Int × Int)} (hb : BkOk bs) (k : Int) : Tri Tryz.prog β 134 [.pointer (some ⟨p, 0, none⟩), .int .i64 k] [bkA p bs] (fun v L => v = .tuple #[.int .i64 ((getB bs k).getD 0), .bool (getB bs k).isSome] ∧ L = [bkA p (delB bs k)]) := by
 have hl := hb.2
 refine Tri.intro tt_ok Tryz.func134 rfl rfl Tryz.ntmps134 rfl fun F => ?_
 refine G tt_ok pk134 ?_
 refine ke rfl rfl (bget103 β p hb k) ?_
 cases e : getB bs k with
 | none =>
  have hd : delB bs k = bs := by
   unfold delB
   rw [List.filter_eq_self]
   intro a ha
   rw [get_none] at e
   have : a.1 ≠ k := fun h => e a.2 (by rw [← h]; exact ha)
   simpa using this
  rw [hd]
  refine G tt_ok pk134 ?_
  exact CW.ret (fin_ret rfl (A := [bkA p bs]) pk_ ⟨rfl, rfl⟩)
 | some v =>
  have hat := get_at hb e
  have hlt := pos_lt hb e
  refine G tt_ok pk134 ?_
  refine SQ.ent [bkA p bs] pk_ ?_
  unfold bkA
  refine SQ.open_ fun x => ?_
  obtain ⟨⟨q, c⟩, ⟨q2, c2⟩⟩ := x
  refine SQ.pure_ fun hc => ?_
  simp only at hc
  unfold bkL
  refine G tt_ok pk134 ?_
  refine ke rfl rfl (sea157 β c q (ksB bs) (by simp) k (by omega) (ks_le hb)) ?_
  rw [show (List.countP (fun x => decide (x < k)) (ksB bs)) = posB bs k from rfl]
  refine G tt_ok pk134 ?_
  rw [show IntKind.i64.wrap ((posB bs k : Int) + 1) = ((posB bs k + 1 : Nat) : Int) by rw [wrap_id (by omega) (by omega)]; omega]
  refine ke rfl rfl (del179 β c (posB bs k) q (ksB bs) (by simp) hlt hc.1) ?_
  refine G tt_ok pk134 ?_
  refine ke rfl rfl (del179 β c2 (posB bs k) q2 (vsB bs) (by simp) hlt hc.2) ?_
  refine G tt_ok pk134 ?_
  refine CW.ret (fin_ret rfl (A := [bkA p (delB bs k)]) (Ent.trans ?_ (bk_shut (q := q) (c := c) (q2 := q2) (c2 := c2) hc.1 hc.2)) ⟨rfl, rfl⟩)
  unfold bkL
  rw [len_del hb e, hat.2]
  unfold ksB vsB
  rw [map_eraseIdx_, map_eraseIdx_]
  exact pk_
end Go.Proofs.YtakkogdmlbkdaaaGreatDoor.Sl.It
namespace Go.Proofs.YtakkogdmlbkdaaaGreatDoor.Sl.It
attribute [local irreducible] CW Tri OW
@[reducible] def lsP (l : List Nat) : Array Bool := ((List.range 24).map fun i => l.contains i || [0, 1, 2, 3, 4, 6, 7, 10, 11, 12, 14, 15].contains i).toArray
@[reducible] def beP (p : Nat) (i : Nat) (k v : Int) : Env := [(26, .pointer (some ⟨p, 0, none⟩)), (27, .pointer (some ⟨p, 0, none⟩)), (30, .pointer (some ⟨p, 0, none⟩)), (32, .int .i64 i), (33, .int .i64 k), (38, .pointer (some ⟨p, 1, none⟩)), (40, .int .i64 i), (41, .int .i64 v)]
@[reducible] def s1P (b : Nat) : Value := .slice (some ⟨b, 0, none⟩) 1 1
set_option maxHeartbeats 16000000 in
theorem bput127 (β : Base) (p : Nat) {bs : List (Int × Int)} (hb : BkOk bs) (k v : Int) (hg : getB bs k = none) (hl9 : bs.length < 1000) : Tri Tryz.prog β 127 [.pointer (some ⟨p, 0, none⟩), .int .i64 k, .int .i64 v] [bkA p bs] (fun w L => w = .bool true ∧ L = [bkA p (putB bs k v)]) := by
 refine Tri.bk (enters_of Tryz.func127 (by kernel_rfl) rfl) fun q c q2 c2 h1 h2 => ?_
 have hl := hb.2
 refine Tri.intro tt_ok Tryz.func127 rfl rfl Tryz.ntmps127 rfl fun F => ?_
 unfold bkL
 refine G tt_ok [] ?_
 refine ke rfl rfl (sea157 β c q (ksB bs) (by simp) k (by omega) (ks_le hb)) ?_
 rw [contains_get, hg, show (List.countP (fun x => decide (x < k)) (ksB bs)) = posB bs k from rfl]
 have hpl := pos_le bs k
 generalize hn : bs.length = n at hl hl9 hpl ⊢
 generalize hi : posB bs k = i at hpl ⊢
 have hks : (ksB bs).length = n := by simp [hn]
 have hvs : (vsB bs).length = n := by simp [hn]
 have ek := ks_put bs k v
 have ev := vs_put bs k v
 rw [hi] at ek ev
 have hlp := len_put bs k v
 rw [hn] at hlp
 generalize hks0 : ksB bs = ks at hks ek ⊢
 generalize hvs0 : vsB bs = vs at hvs ev ⊢
 refine G tt_ok [] ?_
 refine CW.regionF tt_ok (by kernel_rfl) [0, 1, 2, 3, 4, 6, 7, 10, 11, 12, 14, 15] (by decide +kernel) (fun y : (Option Addr × Nat) × (Option Addr × Nat) => ([] : Env)) (fun y => [bkA p (putB bs k v)]) ?_ (fun y => ?_)
 rotate_left
 ·refine G tt_ok [] ?_
  exact CW.ret (fin_ret rfl (A := [bkA p (putB bs k v)]) (Ent.refl _) ⟨rfl, rfl⟩)
 refine ⟨_, _, rfl, rfl, rfl, rfl, _, _, rfl, rfl, rfl, rfl, _, _, rfl, rfl, rfl, rfl, _, _, rfl, rfl, rfl, rfl, _, _, rfl, rfl, rfl, rfl, _, _, rfl, rfl, rfl, rfl, _, _, rfl, rfl, rfl, rfl, _, _, rfl, rfl, rfl, rfl, _, _, rfl, rfl, rfl, rfl, _, _, rfl, rfl, rfl, rfl, _, _, rfl, rfl, rfl, rfl, _, _, rfl, rfl, rfl, rfl, ?_⟩
 show BQ _ _ _ _ _ _ _ 12 (lsP []) _ _
 refine BQ.abs fun B1 hs hz => ?_
 have b5_8_9_13_16_17 : ∀ x : Nat × Nat × (Option Addr × Nat) × (Option Addr × Nat), x.2.2.1.2 ≤ maxLen ∧ x.2.2.2.2 ≤ maxLen → B1 6 (lsP [5, 8, 9, 13, 16, 17]) ([(31, .slice q n c), (34, s1P x.1), (35, .slice x.2.2.1.1 (n + 1) x.2.2.1.2), (39, .slice q2 n c2), (42, s1P x.2.1), (43, .slice x.2.2.2.1 (n + 1) x.2.2.2.2)] ++ beP p i k v) ([pt p [.slice q n c, .slice q2 n c2], own 3 1 (.slice x.2.2.1.1 (n + 1) x.2.2.1.2) (n + 1) (iS (insL ks i k)), own 3 1 (.slice x.2.2.2.1 (n + 1) x.2.2.2.2) (n + 1) (iS (insL vs i v))]) := fun x hx => by
  refine hs _ _ _ _ [18] (by decide +kernel) ⟨⟨_, rfl, rfl, ?_⟩, trivial⟩
  refine SQ.pures1 tt_ok rfl ?_
  refine SQ.nil ?_
  refine hs _ _ _ _ [19] (by decide +kernel) ⟨⟨_, rfl, rfl, ?_⟩, trivial⟩
  refine SQ.pures1 tt_ok rfl ?_
  refine SQ.nil ?_
  refine hs _ _ _ _ [20] (by decide +kernel) ⟨⟨_, rfl, rfl, ?_⟩, trivial⟩
  refine st_ tt_ok ?_
  refine SQ.nil ?_
  refine hs _ _ _ _ [21] (by decide +kernel) ⟨⟨_, rfl, rfl, ?_⟩, trivial⟩
  refine SQ.pures1 tt_ok rfl ?_
  refine SQ.nil ?_
  refine hs _ _ _ _ [22] (by decide +kernel) ⟨⟨_, rfl, rfl, ?_⟩, trivial⟩
  refine SQ.pures1 tt_ok rfl ?_
  refine SQ.nil ?_
  refine hs _ _ _ _ [23] (by decide +kernel) ⟨⟨_, rfl, rfl, ?_⟩, trivial⟩
  refine st_ tt_ok ?_
  refine SQ.nil ?_
  refine hz _ _ _ ⟨by decide +kernel, (x.2.2.1, x.2.2.2), trivial, ?_⟩
  refine Ent.trans ?_ (bk_shut (q := x.2.2.1.1) (c := x.2.2.1.2) (q2 := x.2.2.2.1) (c2 := x.2.2.2.2) hx.1 hx.2)
  unfold bkL
  rw [hlp, ← ek, ← ev]
  exact pk_
 have b5_8_9_13_16 : ∀ x : Nat × Nat × (Option Addr × Nat) × (Option Addr × Nat), x.2.2.1.2 ≤ maxLen ∧ x.2.2.2.2 ≤ maxLen → B1 7 (lsP [5, 8, 9, 13, 16]) ([(31, .slice q n c), (34, s1P x.1), (35, .slice x.2.2.1.1 (n + 1) x.2.2.1.2), (39, .slice q2 n c2), (42, s1P x.2.1)] ++ beP p i k v) ([pt p [.slice q n c, .slice q2 n c2], own 3 1 (.slice x.2.2.1.1 (n + 1) x.2.2.1.2) (n + 1) (iS (insL ks i k)), own 3 1 (.slice q2 n c2) n (iS vs), pt x.2.1 [.int .i64 v]]) := fun x hx => by
  refine hs _ _ _ _ [17] (by decide +kernel) ⟨⟨_, rfl, rfl, ?_⟩, trivial⟩
  ·(refine SQ.callA rfl rfl (ins174 β c2 i x.2.1 q2 vs hvs v (by omega) hpl h2) (by repeat (first | exact .n | exact Rm.h | apply Tk.c | apply Rm.t)) ?_; rintro _ _ ⟨q', c', hc', rfl, rfl⟩; refine ⟨trivial, ?_⟩); exact dp_ (b5_8_9_13_16_17 (x.1, x.2.1, x.2.2.1, (q', c')) ⟨hx.1, hc'⟩)
 have b5_8_9_13 : ∀ x : Nat × Nat × (Option Addr × Nat) × (Option Addr × Nat), x.2.2.1.2 ≤ maxLen ∧ x.2.2.2.2 ≤ maxLen → B1 8 (lsP [5, 8, 9, 13]) ([(31, .slice q n c), (34, s1P x.1), (35, .slice x.2.2.1.1 (n + 1) x.2.2.1.2), (39, .slice q2 n c2)] ++ beP p i k v) ([pt p [.slice q n c, .slice q2 n c2], own 3 1 (.slice x.2.2.1.1 (n + 1) x.2.2.1.2) (n + 1) (iS (insL ks i k)), own 3 1 (.slice q2 n c2) n (iS vs)]) := fun x hx => by
  refine hs _ _ _ _ [16] (by decide +kernel) ⟨⟨_, rfl, rfl, ?_⟩, trivial⟩
  ·refine SQ.built tt_ok rfl rfl (fun g => ⟨trivial, ?_⟩); exact dp_ (b5_8_9_13_16 (x.1, g, x.2.2) hx)
 have b5_8_9_16 : ∀ x : Nat × Nat × (Option Addr × Nat) × (Option Addr × Nat), x.2.2.1.2 ≤ maxLen ∧ x.2.2.2.2 ≤ maxLen → B1 8 (lsP [5, 8, 9, 16]) ([(31, .slice q n c), (34, s1P x.1), (35, .slice x.2.2.1.1 (n + 1) x.2.2.1.2), (42, s1P x.2.1)] ++ beP p i k v) ([pt p [.slice q n c, .slice q2 n c2], own 3 1 (.slice x.2.2.1.1 (n + 1) x.2.2.1.2) (n + 1) (iS (insL ks i k)), own 3 1 (.slice q2 n c2) n (iS vs), pt x.2.1 [.int .i64 v]]) := fun x hx => by
  refine hs _ _ _ _ [13] (by decide +kernel) ⟨⟨_, rfl, rfl, ?_⟩, trivial⟩
  ·refine ld_ tt_ok ?_; exact dp_ (b5_8_9_13_16 x hx)
 have b5_8_13_16 : ∀ x : Nat × Nat × (Option Addr × Nat) × (Option Addr × Nat), x.2.2.1.2 ≤ maxLen ∧ x.2.2.2.2 ≤ maxLen → B1 8 (lsP [5, 8, 13, 16]) ([(31, .slice q n c), (34, s1P x.1), (39, .slice q2 n c2), (42, s1P x.2.1)] ++ beP p i k v) ([pt p [.slice q n c, .slice q2 n c2], own 3 1 (.slice q n c) n (iS ks), own 3 1 (.slice q2 n c2) n (iS vs), pt x.1 [.int .i64 k], pt x.2.1 [.int .i64 v]]) := fun x hx => by
  refine hs _ _ _ _ [9] (by decide +kernel) ⟨⟨_, rfl, rfl, ?_⟩, trivial⟩
  ·(refine SQ.callA rfl rfl (ins174 β c i x.1 q ks hks k (by omega) hpl h1) (by repeat (first | exact .n | exact Rm.h | apply Tk.c | apply Rm.t)) ?_; rintro _ _ ⟨q', c', hc', rfl, rfl⟩; refine ⟨trivial, ?_⟩); exact dp_ (b5_8_9_13_16 (x.1, x.2.1, (q', c'), x.2.2.2) ⟨hc', hx.2⟩)
 have b5_8_9 : ∀ x : Nat × Nat × (Option Addr × Nat) × (Option Addr × Nat), x.2.2.1.2 ≤ maxLen ∧ x.2.2.2.2 ≤ maxLen → B1 9 (lsP [5, 8, 9]) ([(31, .slice q n c), (34, s1P x.1), (35, .slice x.2.2.1.1 (n + 1) x.2.2.1.2)] ++ beP p i k v) ([pt p [.slice q n c, .slice q2 n c2], own 3 1 (.slice x.2.2.1.1 (n + 1) x.2.2.1.2) (n + 1) (iS (insL ks i k)), own 3 1 (.slice q2 n c2) n (iS vs)]) := fun x hx => by
  refine hs _ _ _ _ [13, 16] (by decide +kernel) ⟨⟨_, rfl, rfl, ?_⟩, ⟨_, rfl, rfl, ?_⟩, trivial⟩
  ·refine ld_ tt_ok ?_; exact dp_ (b5_8_9_13 x hx)
  ·refine SQ.built tt_ok rfl rfl (fun g => ⟨trivial, ?_⟩); exact dp_ (b5_8_9_16 (x.1, g, x.2.2) hx)
 have b5_8_13 : ∀ x : Nat × Nat × (Option Addr × Nat) × (Option Addr × Nat), x.2.2.1.2 ≤ maxLen ∧ x.2.2.2.2 ≤ maxLen → B1 9 (lsP [5, 8, 13]) ([(31, .slice q n c), (34, s1P x.1), (39, .slice q2 n c2)] ++ beP p i k v) ([pt p [.slice q n c, .slice q2 n c2], own 3 1 (.slice q n c) n (iS ks), own 3 1 (.slice q2 n c2) n (iS vs), pt x.1 [.int .i64 k]]) := fun x hx => by
  refine hs _ _ _ _ [9, 16] (by decide +kernel) ⟨⟨_, rfl, rfl, ?_⟩, ⟨_, rfl, rfl, ?_⟩, trivial⟩
  ·(refine SQ.callA rfl rfl (ins174 β c i x.1 q ks hks k (by omega) hpl h1) (by repeat (first | exact .n | exact Rm.h | apply Tk.c | apply Rm.t)) ?_; rintro _ _ ⟨q', c', hc', rfl, rfl⟩; refine ⟨trivial, ?_⟩); exact dp_ (b5_8_9_13 (x.1, x.2.1, (q', c'), x.2.2.2) ⟨hc', hx.2⟩)
  ·refine SQ.built tt_ok rfl rfl (fun g => ⟨trivial, ?_⟩); exact dp_ (b5_8_13_16 (x.1, g, x.2.2) hx)
 have b5_8_16 : ∀ x : Nat × Nat × (Option Addr × Nat) × (Option Addr × Nat), x.2.2.1.2 ≤ maxLen ∧ x.2.2.2.2 ≤ maxLen → B1 9 (lsP [5, 8, 16]) ([(31, .slice q n c), (34, s1P x.1), (42, s1P x.2.1)] ++ beP p i k v) ([pt p [.slice q n c, .slice q2 n c2], own 3 1 (.slice q n c) n (iS ks), own 3 1 (.slice q2 n c2) n (iS vs), pt x.1 [.int .i64 k], pt x.2.1 [.int .i64 v]]) := fun x hx => by
  refine hs _ _ _ _ [9, 13] (by decide +kernel) ⟨⟨_, rfl, rfl, ?_⟩, ⟨_, rfl, rfl, ?_⟩, trivial⟩
  ·(refine SQ.callA rfl rfl (ins174 β c i x.1 q ks hks k (by omega) hpl h1) (by repeat (first | exact .n | exact Rm.h | apply Tk.c | apply Rm.t)) ?_; rintro _ _ ⟨q', c', hc', rfl, rfl⟩; refine ⟨trivial, ?_⟩); exact dp_ (b5_8_9_16 (x.1, x.2.1, (q', c'), x.2.2.2) ⟨hc', hx.2⟩)
  ·refine ld_ tt_ok ?_; exact dp_ (b5_8_13_16 x hx)
 have b5_13_16 : ∀ x : Nat × Nat × (Option Addr × Nat) × (Option Addr × Nat), x.2.2.1.2 ≤ maxLen ∧ x.2.2.2.2 ≤ maxLen → B1 9 (lsP [5, 13, 16]) ([(31, .slice q n c), (39, .slice q2 n c2), (42, s1P x.2.1)] ++ beP p i k v) ([pt p [.slice q n c, .slice q2 n c2], own 3 1 (.slice q n c) n (iS ks), own 3 1 (.slice q2 n c2) n (iS vs), pt x.2.1 [.int .i64 v]]) := fun x hx => by
  refine hs _ _ _ _ [8] (by decide +kernel) ⟨⟨_, rfl, rfl, ?_⟩, trivial⟩
  ·refine SQ.built tt_ok rfl rfl (fun g => ⟨trivial, ?_⟩); exact dp_ (b5_8_13_16 (g, x.2) hx)
 have b8_13_16 : ∀ x : Nat × Nat × (Option Addr × Nat) × (Option Addr × Nat), x.2.2.1.2 ≤ maxLen ∧ x.2.2.2.2 ≤ maxLen → B1 9 (lsP [8, 13, 16]) ([(34, s1P x.1), (39, .slice q2 n c2), (42, s1P x.2.1)] ++ beP p i k v) ([pt p [.slice q n c, .slice q2 n c2], own 3 1 (.slice q n c) n (iS ks), own 3 1 (.slice q2 n c2) n (iS vs), pt x.1 [.int .i64 k], pt x.2.1 [.int .i64 v]]) := fun x hx => by
  refine hs _ _ _ _ [5] (by decide +kernel) ⟨⟨_, rfl, rfl, ?_⟩, trivial⟩
  ·refine ld_ tt_ok ?_; exact dp_ (b5_8_13_16 x hx)
 have b5_8 : ∀ x : Nat × Nat × (Option Addr × Nat) × (Option Addr × Nat), x.2.2.1.2 ≤ maxLen ∧ x.2.2.2.2 ≤ maxLen → B1 10 (lsP [5, 8]) ([(31, .slice q n c), (34, s1P x.1)] ++ beP p i k v) ([pt p [.slice q n c, .slice q2 n c2], own 3 1 (.slice q n c) n (iS ks), own 3 1 (.slice q2 n c2) n (iS vs), pt x.1 [.int .i64 k]]) := fun x hx => by
  refine hs _ _ _ _ [9, 13, 16] (by decide +kernel) ⟨⟨_, rfl, rfl, ?_⟩, ⟨_, rfl, rfl, ?_⟩, ⟨_, rfl, rfl, ?_⟩, trivial⟩
  ·(refine SQ.callA rfl rfl (ins174 β c i x.1 q ks hks k (by omega) hpl h1) (by repeat (first | exact .n | exact Rm.h | apply Tk.c | apply Rm.t)) ?_; rintro _ _ ⟨q', c', hc', rfl, rfl⟩; refine ⟨trivial, ?_⟩); exact dp_ (b5_8_9 (x.1, x.2.1, (q', c'), x.2.2.2) ⟨hc', hx.2⟩)
  ·refine ld_ tt_ok ?_; exact dp_ (b5_8_13 x hx)
  ·refine SQ.built tt_ok rfl rfl (fun g => ⟨trivial, ?_⟩); exact dp_ (b5_8_16 (x.1, g, x.2.2) hx)
 have b5_13 : ∀ x : Nat × Nat × (Option Addr × Nat) × (Option Addr × Nat), x.2.2.1.2 ≤ maxLen ∧ x.2.2.2.2 ≤ maxLen → B1 10 (lsP [5, 13]) ([(31, .slice q n c), (39, .slice q2 n c2)] ++ beP p i k v) ([pt p [.slice q n c, .slice q2 n c2], own 3 1 (.slice q n c) n (iS ks), own 3 1 (.slice q2 n c2) n (iS vs)]) := fun x hx => by
  refine hs _ _ _ _ [8, 16] (by decide +kernel) ⟨⟨_, rfl, rfl, ?_⟩, ⟨_, rfl, rfl, ?_⟩, trivial⟩
  ·refine SQ.built tt_ok rfl rfl (fun g => ⟨trivial, ?_⟩); exact dp_ (b5_8_13 (g, x.2) hx)
  ·refine SQ.built tt_ok rfl rfl (fun g => ⟨trivial, ?_⟩); exact dp_ (b5_13_16 (x.1, g, x.2.2) hx)
 have b5_16 : ∀ x : Nat × Nat × (Option Addr × Nat) × (Option Addr × Nat), x.2.2.1.2 ≤ maxLen ∧ x.2.2.2.2 ≤ maxLen → B1 10 (lsP [5, 16]) ([(31, .slice q n c), (42, s1P x.2.1)] ++ beP p i k v) ([pt p [.slice q n c, .slice q2 n c2], own 3 1 (.slice q n c) n (iS ks), own 3 1 (.slice q2 n c2) n (iS vs), pt x.2.1 [.int .i64 v]]) := fun x hx => by
  refine hs _ _ _ _ [8, 13] (by decide +kernel) ⟨⟨_, rfl, rfl, ?_⟩, ⟨_, rfl, rfl, ?_⟩, trivial⟩
  ·refine SQ.built tt_ok rfl rfl (fun g => ⟨trivial, ?_⟩); exact dp_ (b5_8_16 (g, x.2) hx)
  ·refine ld_ tt_ok ?_; exact dp_ (b5_13_16 x hx)
 have b8_13 : ∀ x : Nat × Nat × (Option Addr × Nat) × (Option Addr × Nat), x.2.2.1.2 ≤ maxLen ∧ x.2.2.2.2 ≤ maxLen → B1 10 (lsP [8, 13]) ([(34, s1P x.1), (39, .slice q2 n c2)] ++ beP p i k v) ([pt p [.slice q n c, .slice q2 n c2], own 3 1 (.slice q n c) n (iS ks), own 3 1 (.slice q2 n c2) n (iS vs), pt x.1 [.int .i64 k]]) := fun x hx => by
  refine hs _ _ _ _ [5, 16] (by decide +kernel) ⟨⟨_, rfl, rfl, ?_⟩, ⟨_, rfl, rfl, ?_⟩, trivial⟩
  ·refine ld_ tt_ok ?_; exact dp_ (b5_8_13 x hx)
  ·refine SQ.built tt_ok rfl rfl (fun g => ⟨trivial, ?_⟩); exact dp_ (b8_13_16 (x.1, g, x.2.2) hx)
 have b8_16 : ∀ x : Nat × Nat × (Option Addr × Nat) × (Option Addr × Nat), x.2.2.1.2 ≤ maxLen ∧ x.2.2.2.2 ≤ maxLen → B1 10 (lsP [8, 16]) ([(34, s1P x.1), (42, s1P x.2.1)] ++ beP p i k v) ([pt p [.slice q n c, .slice q2 n c2], own 3 1 (.slice q n c) n (iS ks), own 3 1 (.slice q2 n c2) n (iS vs), pt x.1 [.int .i64 k], pt x.2.1 [.int .i64 v]]) := fun x hx => by
  refine hs _ _ _ _ [5, 13] (by decide +kernel) ⟨⟨_, rfl, rfl, ?_⟩, ⟨_, rfl, rfl, ?_⟩, trivial⟩
  ·refine ld_ tt_ok ?_; exact dp_ (b5_8_16 x hx)
  ·refine ld_ tt_ok ?_; exact dp_ (b8_13_16 x hx)
 have b13_16 : ∀ x : Nat × Nat × (Option Addr × Nat) × (Option Addr × Nat), x.2.2.1.2 ≤ maxLen ∧ x.2.2.2.2 ≤ maxLen → B1 10 (lsP [13, 16]) ([(39, .slice q2 n c2), (42, s1P x.2.1)] ++ beP p i k v) ([pt p [.slice q n c, .slice q2 n c2], own 3 1 (.slice q n c) n (iS ks), own 3 1 (.slice q2 n c2) n (iS vs), pt x.2.1 [.int .i64 v]]) := fun x hx => by
  refine hs _ _ _ _ [5, 8] (by decide +kernel) ⟨⟨_, rfl, rfl, ?_⟩, ⟨_, rfl, rfl, ?_⟩, trivial⟩
  ·refine ld_ tt_ok ?_; exact dp_ (b5_13_16 x hx)
  ·refine SQ.built tt_ok rfl rfl (fun g => ⟨trivial, ?_⟩); exact dp_ (b8_13_16 (g, x.2) hx)
 have b5 : ∀ x : Nat × Nat × (Option Addr × Nat) × (Option Addr × Nat), x.2.2.1.2 ≤ maxLen ∧ x.2.2.2.2 ≤ maxLen → B1 11 (lsP [5]) ([(31, .slice q n c)] ++ beP p i k v) ([pt p [.slice q n c, .slice q2 n c2], own 3 1 (.slice q n c) n (iS ks), own 3 1 (.slice q2 n c2) n (iS vs)]) := fun x hx => by
  refine hs _ _ _ _ [8, 13, 16] (by decide +kernel) ⟨⟨_, rfl, rfl, ?_⟩, ⟨_, rfl, rfl, ?_⟩, ⟨_, rfl, rfl, ?_⟩, trivial⟩
  ·refine SQ.built tt_ok rfl rfl (fun g => ⟨trivial, ?_⟩); exact dp_ (b5_8 (g, x.2) hx)
  ·refine ld_ tt_ok ?_; exact dp_ (b5_13 x hx)
  ·refine SQ.built tt_ok rfl rfl (fun g => ⟨trivial, ?_⟩); exact dp_ (b5_16 (x.1, g, x.2.2) hx)
 have b8 : ∀ x : Nat × Nat × (Option Addr × Nat) × (Option Addr × Nat), x.2.2.1.2 ≤ maxLen ∧ x.2.2.2.2 ≤ maxLen → B1 11 (lsP [8]) ([(34, s1P x.1)] ++ beP p i k v) ([pt p [.slice q n c, .slice q2 n c2], own 3 1 (.slice q n c) n (iS ks), own 3 1 (.slice q2 n c2) n (iS vs), pt x.1 [.int .i64 k]]) := fun x hx => by
  refine hs _ _ _ _ [5, 13, 16] (by decide +kernel) ⟨⟨_, rfl, rfl, ?_⟩, ⟨_, rfl, rfl, ?_⟩, ⟨_, rfl, rfl, ?_⟩, trivial⟩
  ·refine ld_ tt_ok ?_; exact dp_ (b5_8 x hx)
  ·refine ld_ tt_ok ?_; exact dp_ (b8_13 x hx)
  ·refine SQ.built tt_ok rfl rfl (fun g => ⟨trivial, ?_⟩); exact dp_ (b8_16 (x.1, g, x.2.2) hx)
 have b13 : ∀ x : Nat × Nat × (Option Addr × Nat) × (Option Addr × Nat), x.2.2.1.2 ≤ maxLen ∧ x.2.2.2.2 ≤ maxLen → B1 11 (lsP [13]) ([(39, .slice q2 n c2)] ++ beP p i k v) ([pt p [.slice q n c, .slice q2 n c2], own 3 1 (.slice q n c) n (iS ks), own 3 1 (.slice q2 n c2) n (iS vs)]) := fun x hx => by
  refine hs _ _ _ _ [5, 8, 16] (by decide +kernel) ⟨⟨_, rfl, rfl, ?_⟩, ⟨_, rfl, rfl, ?_⟩, ⟨_, rfl, rfl, ?_⟩, trivial⟩
  ·refine ld_ tt_ok ?_; exact dp_ (b5_13 x hx)
  ·refine SQ.built tt_ok rfl rfl (fun g => ⟨trivial, ?_⟩); exact dp_ (b8_13 (g, x.2) hx)
  ·refine SQ.built tt_ok rfl rfl (fun g => ⟨trivial, ?_⟩); exact dp_ (b13_16 (x.1, g, x.2.2) hx)
 have b16 : ∀ x : Nat × Nat × (Option Addr × Nat) × (Option Addr × Nat), x.2.2.1.2 ≤ maxLen ∧ x.2.2.2.2 ≤ maxLen → B1 11 (lsP [16]) ([(42, s1P x.2.1)] ++ beP p i k v) ([pt p [.slice q n c, .slice q2 n c2], own 3 1 (.slice q n c) n (iS ks), own 3 1 (.slice q2 n c2) n (iS vs), pt x.2.1 [.int .i64 v]]) := fun x hx => by
  refine hs _ _ _ _ [5, 8, 13] (by decide +kernel) ⟨⟨_, rfl, rfl, ?_⟩, ⟨_, rfl, rfl, ?_⟩, ⟨_, rfl, rfl, ?_⟩, trivial⟩
  ·refine ld_ tt_ok ?_; exact dp_ (b5_16 x hx)
  ·refine SQ.built tt_ok rfl rfl (fun g => ⟨trivial, ?_⟩); exact dp_ (b8_16 (g, x.2) hx)
  ·refine ld_ tt_ok ?_; exact dp_ (b13_16 x hx)
 obtain ⟨x, hx⟩ : ∃ x : Nat × Nat × (Option Addr × Nat) × (Option Addr × Nat), x.2.2.1.2 ≤ maxLen ∧ x.2.2.2.2 ≤ maxLen := ⟨(0, 0, (none, 0), (none, 0)), by decide, by decide⟩
 refine hs _ _ _ _ [5, 8, 13, 16] (by decide +kernel) ⟨⟨_, rfl, rfl, ?_⟩, ⟨_, rfl, rfl, ?_⟩, ⟨_, rfl, rfl, ?_⟩, ⟨_, rfl, rfl, ?_⟩, trivial⟩
 ·refine ld_ tt_ok ?_; exact dp_ (b5 x hx)
 ·refine SQ.built tt_ok rfl rfl (fun g => ⟨trivial, ?_⟩); exact dp_ (b8 (g, x.2) hx)
 ·refine ld_ tt_ok ?_; exact dp_ (b13 x hx)
 ·refine SQ.built tt_ok rfl rfl (fun g => ⟨trivial, ?_⟩); exact dp_ (b16 (x.1, g, x.2.2) hx)
@[reducible] def pk132 : List (Nat × Plan) := [(1, [(0, 0, []), (1, 0, []), (2, 0, []), (3, 0, []), (5, 0, []), (6, 0, []), (7, 0, []), (8, 0, []), (4, 1, [3, 8]), (9, 1, [3, 8]), (10, 0, []), (11, 1, [3, 8]), (12, 0, [])])]
@[reducible] def pk121 : List (Nat × Plan) := [(1, [(0, 0, []), (1, 0, []), (2, 0, []), (3, 0, []), (5, 0, []), (6, 0, []), (7, 0, []), (8, 0, []), (4, 1, [3, 8]), (9, 1, [3, 8]), (10, 1, [3, 8]), (11, 0, [])])]
@[reducible] def pk167 : List (Nat × Plan) := []
@[reducible] def pk198 : List (Nat × Plan) := []
set_option maxHeartbeats 4000000 in
theorem bcopy132 (β : Base) (p : Nat) {bs : List (Int × Int)} (hb : BkOk bs) : Tri Tryz.prog β 132 [.pointer (some ⟨p, 0, none⟩)] [bkA p bs] (fun v L => ∃ p', v = .pointer (some ⟨p', 0, none⟩) ∧ L = [bkA p bs, bkA p' bs]) := by
 refine Tri.bk (enters_of Tryz.func132 (by kernel_rfl) rfl) fun q c q2 c2 h1 h2 => ?_
 have hl := hb.2
 refine Tri.intro tt_ok Tryz.func132 rfl rfl Tryz.ntmps132 rfl fun F => ?_
 unfold bkL
 refine G tt_ok pk132 ?_
 (refine ka rfl rfl (clo168 β q c (ksB bs) (by simp) (by omega)) ?_; rintro _ _ ⟨r, d, hd, rfl, rfl⟩; refine w_ ?_)
 refine G tt_ok pk132 ?_
 (refine ka rfl rfl (clo168 β q2 c2 (vsB bs) (by simp) (by omega)) ?_; rintro _ _ ⟨r2, d2, hd2, rfl, rfl⟩; refine w_ ?_)
 (refine G tt_ok pk132 ?_; repeat (refine G1 tt_ok pk132 ?_; intro _))
 rename_i p'
 refine CW.ret (fin_ret rfl (A := [bkA p bs, bkA p' bs]) ?_ ⟨p', rfl, rfl⟩)
 refine (show Ent _ (bkL p q c q2 c2 bs ++ bkL p' r d r2 d2 bs) from by unfold bkL; exact pk_).trans ?_
 exact Ent.append (bk_shut h1 h2) (bk_shut hd hd2)
def thL (b1 b2 : Nat) (r : Option Addr) (d : Nat) (r2 : Option Addr) (d2 : Nat) (bs : List (Int × Int)) : List Atom :=
 [pt b1 [.slice r bs.length d], pt b2 [.slice r2 bs.length d2], own 3 1 (.slice r bs.length d) bs.length (iS (ksB bs)), own 3 1 (.slice r2 bs.length d2) bs.length (iS (vsB bs))]
set_option maxHeartbeats 4000000 in
theorem ball121 (β : Base) (p : Nat) {bs : List (Int × Int)} (hb : BkOk bs) : Tri Tryz.prog β 121 [.pointer (some ⟨p, 0, none⟩)] [bkA p bs]
  (fun v L => ∃ b1 b2 r d r2 d2, v = .func (.func 198) #[] #[.pointer (some ⟨b1, 0, none⟩), .pointer (some ⟨b2, 0, none⟩)] ∧ L = bkA p bs :: thL b1 b2 r d r2 d2 bs) := by
 have h167 : ∀ (r : Option Addr) (d : Nat) (r2 : Option Addr) (d2 : Nat), Tri Tryz.prog β 167 [.slice r bs.length d, .slice r2 bs.length d2] [] (fun v L => ∃ b1 b2, v = .func (.func 198) #[] #[.pointer (some ⟨b1, 0, none⟩), .pointer (some ⟨b2, 0, none⟩)] ∧ L = [pt b1 [.slice r bs.length d], pt b2 [.slice r2 bs.length d2]]) := by
  intro r d r2 d2
  refine Tri.intro tt_ok Tryz.func167 rfl rfl Tryz.ntmps167 rfl fun F => ?_
  (refine G tt_ok pk167 ?_; repeat (refine G1 tt_ok pk167 ?_; intro _))
  rename_i b1 b2
  exact CW.ret (fin_ret rfl (A := [pt b1 [.slice r bs.length d], pt b2 [.slice r2 bs.length d2]]) pk_ ⟨b1, b2, rfl, rfl⟩)
 refine Tri.bk (enters_of Tryz.func121 (by kernel_rfl) rfl) fun q c q2 c2 h1 h2 => ?_
 have hl := hb.2
 refine Tri.intro tt_ok Tryz.func121 rfl rfl Tryz.ntmps121 rfl fun F => ?_
 unfold bkL
 refine G tt_ok pk121 ?_
 (refine ka rfl rfl (clo168 β q c (ksB bs) (by simp) (by omega)) ?_; rintro _ _ ⟨r, d, hd, rfl, rfl⟩; refine w_ ?_)
 refine G tt_ok pk121 ?_
 (refine ka rfl rfl (clo168 β q2 c2 (vsB bs) (by simp) (by omega)) ?_; rintro _ _ ⟨r2, d2, hd2, rfl, rfl⟩; refine w_ ?_)
 refine G tt_ok pk121 ?_
 (refine ka rfl rfl (h167 r d r2 d2) ?_; rintro _ _ ⟨b1, b2, rfl, rfl⟩; refine w_ ?_)
 refine G tt_ok pk121 ?_
 refine CW.ret (fin_ret rfl (A := bkA p bs :: thL b1 b2 r d r2 d2 bs) ?_ ⟨b1, b2, r, d, r2, d2, rfl, rfl⟩)
 refine (show Ent _ (bkL p q c q2 c2 bs ++ thL b1 b2 r d r2 d2 bs) from by unfold bkL thL; exact pk_).trans ?_
 exact Ent.append (bk_shut h1 h2) (Ent.refl _)
@[reducible] def kvC (e : Int × Int) : List Value := [.int .i64 e.1, .int .i64 e.2]
set_option maxHeartbeats 4000000 in
theorem iter198 (β : Base) (b1 b2 : Nat) (r : Option Addr) (d : Nat) (r2 : Option Addr) (d2 : Nat) {bs : List (Int × Int)} (hl : bs.length ≤ 1000) :
  Iter Tryz.prog β 198 [.pointer (some ⟨b1, 0, none⟩), .pointer (some ⟨b2, 0, none⟩)] (thL b1 b2 r d r2 d2 bs) kvC bs := by
 intro l J Jx hY
 unfold thL at hY ⊢
 refine Tri.intro tt_ok Tryz.func198 rfl rfl Tryz.ntmps198 rfl fun F => ?_
 refine G tt_ok pk198 ?_
 refine CW.loop (α := Nat) (fun k => k ≤ bs.length) (fun k => [(8, .int .i64 k), (7, .int .i64 bs.length), (6, .slice r bs.length d), (0, .func (.yield l) #[] #[]), (1, .pointer (some ⟨b1, 0, none⟩)), (2, .pointer (some ⟨b2, 0, none⟩))])
  (fun k => [J (bs.take k), pt b1 [.slice r bs.length d], pt b2 [.slice r2 bs.length d2], own 3 1 (.slice r bs.length d) bs.length (iS (ksB bs)), own 3 1 (.slice r2 bs.length d2) bs.length (iS (vsB bs))]) (fun k => bs.length - k) 0 (by omega) ⟨rfl, rfl, rfl, rfl, rfl, rfl, trivial⟩ pk_ ?_
 intro k hk
 refine G tt_ok pk198 ?_
 by_cases hlt : k < bs.length
 ·rw [decide_eq_true (show (k : Int) < (bs.length : Int) by omega)]
  obtain ⟨y, hy⟩ : ∃ y, bs[k]? = some y := ⟨_, List.getElem?_eq_getElem hlt⟩
  have h1 : (ksB bs)[k]? = some y.1 := by rw [List.getElem?_map, hy]; rfl
  have h2 : (vsB bs)[k]? = some y.2 := by rw [List.getElem?_map, hy]; rfl
  have htk : bs.take (k + 1) = bs.take k ++ [y] := by rw [List.take_add_one, hy]; rfl
  have hwr : IntKind.i64.wrap ((k : Int) + 1) = ((k + 1 : Nat) : Int) := by rw [wrap_id (by omega) (by omega)]; simp
  refine G tt_ok pk198 ?_
  refine SQ.idxO tt_ok rfl rfl (k) (rfl) rfl ?_ (hlt := hlt)
  refine G tt_ok pk198 ?_
  refine SQ.ldO tt_ok rfl rfl ((i_at h1)) ?_
  refine G tt_ok pk198 ?_
  refine SQ.idxO tt_ok rfl rfl (k) (rfl) rfl ?_ (hlt := hlt)
  refine G tt_ok pk198 ?_
  refine SQ.ldO tt_ok rfl rfl ((i_at h2)) ?_
  refine G tt_ok pk198 ?_
  have hpre : (bs.take k ++ [y]) <+: bs := by rw [← htk]; exact List.take_prefix _ _
  (refine SQ.yieldA rfl rfl (hY (bs.take k) y hpre) (by repeat (first | exact .n | exact Rm.h | exact Rm.of own_row | exact Rm.of row_close0 | apply Tk.c | apply Rm.t)) ?_; rintro _ _ (⟨rfl, rfl⟩ | ⟨rfl, rfl⟩) <;> refine w_ ?_)
  ·refine G tt_ok pk198 ?_
   exact ⟨k + 1, by omega, by omega, ⟨by rw [← hwr]; rfl, rfl, rfl, rfl, rfl, rfl, trivial⟩, by rw [htk]; exact pk_⟩
  ·refine G tt_ok pk198 ?_
   exact CW.ret (fin_ret (vs := []) rfl (A := [Jx (bs.take k ++ [y]), pt b1 [.slice r bs.length d], pt b2 [.slice r2 bs.length d2], own 3 1 (.slice r bs.length d) bs.length (iS (ksB bs)), own 3 1 (.slice r2 bs.length d2) bs.length (iS (vsB bs))]) pk_ (.inr ⟨bs.take k ++ [y], rfl⟩))
 ·rw [decide_eq_false (show ¬ (k : Int) < (bs.length : Int) by omega)]
  refine G tt_ok pk198 ?_
  refine CW.exit ?_
  refine G tt_ok pk198 ?_
  have hE3 : bs.take k = bs := List.take_of_length_le (by omega)
  exact fin_normal (vs := []) rfl (A := [J bs, pt b1 [.slice r bs.length d], pt b2 [.slice r2 bs.length d2], own 3 1 (.slice r bs.length d) bs.length (iS (ksB bs)), own 3 1 (.slice r2 bs.length d2) bs.length (iS (vsB bs))]) (by rw [hE3]; exact pk_) (.inl rfl)
@[reducible] def pk104 : List (Nat × Plan) := []
@[reducible] def pk117 : List (Nat × Plan) := []
@[reducible] def pk36 : List (Nat × Plan) := []
@[reducible] def pk55 : List (Nat × Plan) := [(1, [(0, 0, []), (1, 0, []), (2, 0, []), (3, 0, []), (4, 0, []), (5, 1, [3, 4]), (6, 1, [3, 4]), (7, 0, []), (8, 0, []), (9, 0, []), (10, 0, []), (11, 0, [])])]
@[reducible] def pk62 : List (Nat × Plan) := []
@[reducible] def pk79 : List (Nat × Plan) := [(1, [(0, 0, []), (1, 0, []), (2, 0, []), (3, 0, []), (4, 0, []), (5, 0, []), (6, 0, []), (7, 0, []), (9, 0, []), (10, 0, []), (11, 0, []), (12, 0, []), (8, 1, [3, 7, 12]), (13, 1, [3, 7, 12]), (14, 0, []), (15, 1, [3, 7, 12]), (16, 0, [])])]
structure Sh where
 ns : List (Int × Int)
 ks : List (Int × Int)
def Sh.ok (S : Sh) : Prop := (BkOk S.ns ∧ S.ns.length ≤ 512) ∧ (BkOk S.ks ∧ S.ks.length ≤ 512)
def shL (s np kp : Nat) (S : Sh) : List Atom := [pt s [.int .i64 512, .pointer (some ⟨np, 0, none⟩), .pointer (some ⟨kp, 0, none⟩)], bkA np S.ns, bkA kp S.ks]
def shA (s : Nat) (S : Sh) : Atom := exA fun x : Nat × Nat => shL s x.1 x.2 S
theorem sh_shut {s np kp : Nat} {S : Sh} : Ent (shL s np kp S) [shA s S] := Ent.exA (f := fun x : Nat × Nat => shL s x.1 x.2 S) (np, kp)
theorem Tri.sh {P : Program} {β : Base} {g : FuncId} {args : List Value} {s : Nat} {S : Sh} {A : List Atom} {R : Value → List Atom → Prop} (hE : Enters P g) (h : ∀ np kp, Tri P β g args (shL s np kp S ++ A) R) : Tri P β g args (shA s S :: A) R :=
 Tri.exI hE fun ⟨np, kp⟩ => h np kp
def kyV (d e : Int) : Int := IntKind.i64.wrap (IntKind.i64.wrap (d * 16) + e)
def mayE (d e : Int) : Bool := decide (d ≥ 0) && (decide (d < 32) && (decide (e ≥ 0) && decide (e < 16)))
@[reducible] def evX (d e : Int) : Value := .agg #[.int .i64 d, .int .i64 e]
theorem keyed104 (β : Base) (d e : Int) : Tri Tryz.prog β 104 [evX d e] [] (fun v L => v = .int .i64 (kyV d e) ∧ L = []) := by
 refine Tri.intro tt_ok Tryz.func104 rfl rfl Tryz.ntmps104 rfl fun F => ?_
 unfold kyV
 (refine G tt_ok pk104 ?_; repeat (refine G1 tt_ok pk104 ?_; intro _))
 exact CW.ret (fin_ret rfl (A := []) pk_ ⟨rfl, rfl⟩)
theorem smay105 (β : Base) (d e : Int) : Tri Tryz.prog β 105 [evX d e] [] (fun v L => v = .bool (mayE d e) ∧ L = []) := by
 refine Tri.intro tt_ok Tryz.func105 rfl rfl Tryz.ntmps105 rfl fun F => ?_
 unfold mayE
 (repeat' (first | refine CW.seq ?_ | refine CW.region tt_ok rfl ?_ | refine CW.block ?_ | refine CW.skip ?_ | refine SQ.nil ?_ | refine SQ.pures1 tt_ok rfl ?_ | refine SQ.pure1 tt_ok rfl ?_ | refine SQ.new _ _ rfl rfl (fun _ => ?_) | refine SQ.ldA tt_ok rfl rfl (by repeat (first | exact .h | exact .q | apply At.t)) (by rfl) ?_ | refine SQ.stA tt_ok rfl rfl (by repeat (first | apply Up.h | apply Up.t)) (by rfl) (by rfl) (by repeat (first | exact trivial | refine ⟨trivial, ?_⟩ | refine ⟨wk (by repeat (first | exact .h | exact .q | apply At.t)) (by rfl), ?_⟩)) ?_ | refine CW.cond_tt rfl ?_ | refine CW.cond_ff rfl ?_ | ((first | refine CW.cond rfl (fun hc => ?_) (fun hc => ?_) | refine SQ.gsplit rfl (fun hc => ?_) (fun hc => ?_)) <;> try (exfalso; simp_all; done))))
 all_goals exact CW.ret (fin_ret rfl (A := []) pk_ ⟨by (show Value.bool _ = Value.bool _); congr 1; rw [Bool.eq_iff_iff]; simp_all <;> omega, rfl⟩)
def unkV (k : Int) : Int × Int := (IntKind.i64.wrap (k.tdiv 16), k.tmod 16)
theorem unkeyed117 (β : Base) (k : Int) : Tri Tryz.prog β 117 [.int .i64 k] [] (fun v L => v = evX (unkV k).1 (unkV k).2 ∧ L = []) := by
 refine Tri.intro tt_ok Tryz.func117 rfl rfl Tryz.ntmps117 rfl fun F => ?_
 unfold unkV
 (refine G tt_ok pk117 ?_; repeat (refine G1 tt_ok pk117 ?_; intro _))
 exact CW.ret (fin_cells [_] ⟨cl_, trivial⟩ pk_ ⟨rfl, rfl⟩)
theorem snew36 (β : Base) : Tri Tryz.prog β 36 [.int .i64 512] [] (fun v L => ∃ s, v = .tuple #[.pointer (some ⟨s, 0, none⟩), .int .i64 0] ∧ L = [shA s ⟨[], []⟩]) := by
 refine Tri.intro tt_ok Tryz.func36 rfl rfl Tryz.ntmps36 rfl fun F => ?_
 refine G tt_ok pk36 ?_
 (refine ka rfl rfl (bnew86 β) ?_; rintro _ _ ⟨np, rfl, rfl⟩; refine w_ ?_)
 refine G tt_ok pk36 ?_
 (refine ka rfl rfl (bnew86 β) ?_; rintro _ _ ⟨kp, rfl, rfl⟩; refine w_ ?_)
 (refine G tt_ok pk36 ?_; repeat (refine G1 tt_ok pk36 ?_; intro _))
 rename_i s
 exact CW.ret (fin_ret rfl (A := [shA s ⟨[], []⟩]) ((show Ent _ (shL s np kp ⟨[], []⟩) from by unfold shL; exact pk_).trans sh_shut) ⟨s, rfl, rfl⟩)
def Sh.num (S : Sh) (d e : Int) : Option Int := if mayE d e then getB S.ns (kyV d e) else none
def errO (o : Option Int) : Value := .tuple #[.int .i64 (o.getD 0), .int .i64 (if o.isSome then 0 else 250)]
set_option maxHeartbeats 4000000 in
theorem snum55 (β : Base) (s : Nat) {S : Sh} (hS : S.ok) (d e : Int) : Tri Tryz.prog β 55 [.pointer (some ⟨s, 0, none⟩), evX d e] [shA s S] (fun v L => v = errO (S.num d e) ∧ L = [shA s S]) := by
 refine Tri.sh (enters_of Tryz.func55 (by kernel_rfl) rfl) fun np kp => ?_
 refine Tri.intro tt_ok Tryz.func55 rfl rfl Tryz.ntmps55 rfl fun F => ?_
 unfold shL
 (refine G tt_ok pk55 ?_; repeat (refine G1 tt_ok pk55 ?_; intro _))
 refine ke rfl rfl (keyed104 β d e) ?_
 refine G tt_ok pk55 ?_
 refine ke rfl rfl (bget103 β np hS.1.1 (kyV d e)) ?_
 refine G tt_ok pk55 ?_
 refine ke rfl rfl (smay105 β d e) ?_
 unfold Sh.num errO
 cases hm : mayE d e with
 | false =>
  refine G tt_ok pk55 ?_
  exact CW.ret (fin_ret rfl (A := [shA s S]) ((show Ent _ (shL s np kp S) from by unfold shL; exact pk_).trans sh_shut) ⟨rfl, rfl⟩)
 | true =>
  cases hg : getB S.ns (kyV d e) with
  | none =>
   refine G tt_ok pk55 ?_
   exact CW.ret (fin_ret rfl (A := [shA s S]) ((show Ent _ (shL s np kp S) from by unfold shL; exact pk_).trans sh_shut) ⟨rfl, rfl⟩)
  | some n =>
   refine G tt_ok pk55 ?_
   exact CW.ret (fin_ret rfl (A := [shA s S]) ((show Ent _ (shL s np kp S) from by unfold shL; exact pk_).trans sh_shut) ⟨rfl, rfl⟩)
def Sh.ev (S : Sh) (n : Int) : Value := match getB S.ks n with
 | none => .tuple #[evX 0 0, .int .i64 250]
 | some k => .tuple #[evX (unkV k).1 (unkV k).2, .int .i64 0]
set_option maxHeartbeats 4000000 in
theorem sevent62 (β : Base) (s : Nat) {S : Sh} (hS : S.ok) (n : Int) : Tri Tryz.prog β 62 [.pointer (some ⟨s, 0, none⟩), .int .i64 n] [shA s S] (fun v L => v = S.ev n ∧ L = [shA s S]) := by
 refine Tri.sh (enters_of Tryz.func62 (by kernel_rfl) rfl) fun np kp => ?_
 refine Tri.intro tt_ok Tryz.func62 rfl rfl Tryz.ntmps62 rfl fun F => ?_
 unfold shL
 (refine G tt_ok pk62 ?_; repeat (refine G1 tt_ok pk62 ?_; intro _))
 refine ke rfl rfl (bget103 β kp hS.2.1 n) ?_
 unfold Sh.ev
 cases hg : getB S.ks n with
 | none =>
  refine G tt_ok pk62 ?_
  exact CW.ret (fin_cells [_, _] ⟨cl_, rfl, trivial⟩ (A := [shA s S]) ((show Ent _ (shL s np kp S) from by unfold shL; exact pk_).trans sh_shut) ⟨rfl, rfl⟩)
 | some k =>
  refine G tt_ok pk62 ?_
  refine ke rfl rfl (unkeyed117 β k) ?_
  refine G tt_ok pk62 ?_
  exact CW.ret (fin_cells [_, _] ⟨cl_, rfl, trivial⟩ (A := [shA s S]) ((show Ent _ (shL s np kp S) from by unfold shL; exact pk_).trans sh_shut) ⟨rfl, rfl⟩)
theorem scopy79 (β : Base) (s : Nat) {S : Sh} (hS : S.ok) : Tri Tryz.prog β 79 [.pointer (some ⟨s, 0, none⟩)] [shA s S] (fun v L => ∃ s', v = .pointer (some ⟨s', 0, none⟩) ∧ L = [shA s S, shA s' S]) := by
 refine Tri.sh (enters_of Tryz.func79 (by kernel_rfl) rfl) fun np kp => ?_
 refine Tri.intro tt_ok Tryz.func79 rfl rfl Tryz.ntmps79 rfl fun F => ?_
 unfold shL
 refine G tt_ok pk79 ?_
 (refine ka rfl rfl (bcopy132 β np hS.1.1) ?_; rintro _ _ ⟨np', rfl, rfl⟩; refine w_ ?_)
 refine G tt_ok pk79 ?_
 (refine ka rfl rfl (bcopy132 β kp hS.2.1) ?_; rintro _ _ ⟨kp', rfl, rfl⟩; refine w_ ?_)
 (refine G tt_ok pk79 ?_; repeat (refine G1 tt_ok pk79 ?_; intro _))
 rename_i s'
 refine CW.ret (fin_ret rfl (A := [shA s S, shA s' S]) ?_ ⟨s', rfl, rfl⟩)
 exact (show Ent _ (shL s np kp S ++ shL s' np' kp' S) from by unfold shL; exact pk_).trans (Ent.append sh_shut sh_shut)
@[reducible] def pk75 : List (Nat × Plan) := [(3, [(0, 0, []), (1, 0, []), (2, 0, []), (3, 0, []), (4, 0, []), (5, 1, [3, 4]), (6, 1, [3, 4]), (7, 0, []), (8, 0, []), (9, 0, []), (10, 0, []), (11, 0, [])]), (11, [(0, 0, []), (1, 0, []), (2, 0, []), (3, 0, []), (4, 0, []), (6, 0, []), (5, 1, [3, 4]), (7, 1, [3, 4])]), (12, [(0, 0, []), (1, 0, []), (2, 0, []), (3, 0, []), (4, 0, []), (5, 0, []), (6, 1, [3, 5]), (7, 1, [3, 5])])]
@[reducible] def pk82 : List (Nat × Plan) := [(3, [(0, 0, []), (1, 0, []), (2, 0, []), (3, 0, []), (4, 0, []), (5, 1, [3, 4]), (6, 1, [3, 4]), (7, 0, []), (8, 0, []), (9, 0, []), (10, 0, []), (11, 0, [])])]
@[reducible] def pk73 : List (Nat × Plan) := []
@[reducible] def pk122 : List (Nat × Plan) := [(4, [(0, 0, []), (1, 0, []), (3, 0, []), (2, 1, [0]), (4, 1, []), (5, 0, [])])]
def leastK (ks : List (Int × Int)) : Nat := ((List.range (ks.length + 1)).find? (fun n : Nat => (getB ks (n : Int)).isNone)).getD 0
theorem count_up {ks : List (Int × Int)} : ∀ n : Nat, (∀ m : Nat, m < n → (getB ks (m : Int)).isSome = true) → n ≤ posB ks n
 | 0, _ => Nat.zero_le _
 | n + 1, h => by
  have ih := count_up n fun m hm => h m (by omega)
  have hm := h n (by omega)
  rw [← contains_get, List.contains_iff_mem] at hm
  have e : ∀ l : List Int, l.countP (· < ((n + 1 : Nat) : Int)) = l.countP (· < (n : Int)) + l.countP (· == (n : Int)) := by
   intro l
   induction l with
   | nil => rfl
   | cons a l ihl =>
    rw [List.countP_cons, List.countP_cons, List.countP_cons, ihl]
    by_cases h1 : a < (n : Int)
    ·rw [if_pos (by simp; omega), if_pos (by simpa using h1), if_neg (by simp; omega)]; omega
    ·by_cases h2 : a = (n : Int)
     ·rw [if_pos (by simp; omega), if_neg (by simpa using h1), if_pos (by simpa using h2)]; omega
     ·rw [if_neg (by simp; omega), if_neg (by simpa using h1), if_neg (by simpa using h2)]; omega
  unfold posB at ih ⊢
  rw [e]
  have : 0 < (ksB ks).countP (· == (n : Int)) := List.countP_pos_iff.2 ⟨_, hm, by simp⟩
  omega
theorem least_eq {ks : List (Int × Int)} {n : Nat} (h : ∀ m : Nat, m < n → (getB ks (m : Int)).isSome = true) (hn : getB ks (n : Int) = none) : leastK ks = n := by
 have h1 := count_up n h
 have h2 := pos_le ks n
 unfold leastK
 rw [List.find?_range_eq_some.2 ⟨by rw [hn]; rfl, by simp; omega, fun j hj => by have := h j hj; cases e : getB ks (j : Int) <;> simp_all⟩]
 rfl
def Sh.bind (S : Sh) (d e : Int) : (Int × Int) × Sh :=
 if mayE d e then match getB S.ns (kyV d e) with
  | some n => ((n, 0), S)
  | none => if leastK S.ks < 512 then (((leastK S.ks : Int), 0), ⟨putB S.ns (kyV d e) (leastK S.ks), putB S.ks (leastK S.ks) (kyV d e)⟩) else ((0, 2), S)
 else ((0, 1), S)
def Sh.free (S : Sh) (d e : Int) : (Int × Int) × Sh :=
 if mayE d e then match getB S.ns (kyV d e) with
  | some n => ((n, 0), ⟨delB S.ns (kyV d e), delB S.ks n⟩)
  | none => ((0, 250), S)
 else ((0, 1), S)
@[reducible] def pairI (r : Int × Int) : Value := .tuple #[.int .i64 r.1, .int .i64 r.2]
set_option maxHeartbeats 8000000 in
theorem sbind75 (β : Base) (s : Nat) {S : Sh} (hS : S.ok) (d e : Int) : Tri Tryz.prog β 75 [.pointer (some ⟨s, 0, none⟩), evX d e] [shA s S] (fun v L => v = pairI (S.bind d e).1 ∧ L = [shA s (S.bind d e).2]) := by
 have hl1 := hS.1.2
 have hl2 := hS.2.2
 refine Tri.sh (enters_of Tryz.func75 (by kernel_rfl) rfl) fun np kp => ?_
 refine Tri.intro tt_ok Tryz.func75 rfl rfl Tryz.ntmps75 rfl fun F => ?_
 unfold shL Sh.bind
 (refine G tt_ok pk75 ?_; repeat (refine G1 tt_ok pk75 ?_; intro _))
 rename_i c3
 refine ke rfl rfl (smay105 β d e) ?_
 cases hm : mayE d e with
 | false =>
  refine G tt_ok pk75 ?_
  exact CW.ret (fin_ret rfl (A := [shA s S]) ((show Ent _ (shL s np kp S) from by unfold shL; exact pk_).trans sh_shut) ⟨rfl, rfl⟩)
 | true =>
  refine G tt_ok pk75 ?_
  refine ke rfl rfl (keyed104 β d e) ?_
  refine G tt_ok pk75 ?_
  refine ke rfl rfl (bget103 β np hS.1.1 (kyV d e)) ?_
  cases hg : getB S.ns (kyV d e) with
  | some n =>
   refine G tt_ok pk75 ?_
   exact CW.ret (fin_ret rfl (A := [shA s S]) ((show Ent _ (shL s np kp S) from by unfold shL; exact pk_).trans sh_shut) ⟨rfl, rfl⟩)
  | none =>
   refine G tt_ok pk75 ?_
   refine CW.loop (α := Nat) (fun n => n ≤ 512 ∧ ∀ m : Nat, m < n → (getB S.ks (m : Int)).isSome = true) (fun n => [(8, .int .i64 n), (0, .pointer (some ⟨s, 0, none⟩)), (3, .pointer (some ⟨c3, 0, none⟩))])
    (fun n => [pt c3 [.int .i64 d, .int .i64 e], pt s [.int .i64 512, .pointer (some ⟨np, 0, none⟩), .pointer (some ⟨kp, 0, none⟩)], bkA np S.ns, bkA kp S.ks]) (fun n => 513 - n) 0 ⟨by omega, fun m hm => by omega⟩ ⟨rfl, rfl, rfl, trivial⟩ pk_ ?_
   rintro n ⟨hn, hall⟩
   refine G tt_ok pk75 ?_
   refine ke rfl rfl (bhas126 β kp hS.2.1 (n : Int)) ?_
   cases hk : getB S.ks (n : Int) with
   | some z =>
    refine G tt_ok pk75 ?_
    have hall2 : ∀ m : Nat, m < n + 1 → (getB S.ks (m : Int)).isSome = true := fun m hm => by
     rcases Nat.lt_succ_iff_lt_or_eq.1 hm with h | h
     ·exact hall m h
     ·rw [h, hk]; rfl
    have hle := Nat.le_trans (count_up (n + 1) hall2) (pos_le S.ks _)
    have hwr : IntKind.i64.wrap ((n : Int) + 1) = ((n + 1 : Nat) : Int) := by rw [wrap_id (by omega) (by omega)]; simp
    exact ⟨n + 1, ⟨by omega, hall2⟩, by omega, ⟨by rw [← hwr]; rfl, rfl, rfl, trivial⟩, pk_⟩
   | none =>
    rw [least_eq hall hk]
    refine G tt_ok pk75 ?_
    refine CW.exit ?_
    refine G tt_ok pk75 ?_
    by_cases hlt : n < 512
    ·rw [decide_eq_false (show ¬ (n : Int) ≥ 512 by omega), if_pos hlt]
     refine G tt_ok pk75 ?_
     refine ke rfl rfl (keyed104 β d e) ?_
     refine G tt_ok pk75 ?_
     refine ke rfl rfl (bput127 β np hS.1.1 (kyV d e) (n : Int) hg (by omega)) ?_
     refine G tt_ok pk75 ?_
     refine ke rfl rfl (keyed104 β d e) ?_
     refine G tt_ok pk75 ?_
     refine ke rfl rfl (bput127 β kp hS.2.1 (n : Int) (kyV d e) hk (by omega)) ?_
     refine G tt_ok pk75 ?_
     exact CW.ret (fin_ret rfl (A := [shA s ⟨putB S.ns (kyV d e) n, putB S.ks n (kyV d e)⟩]) ((show Ent _ (shL s np kp ⟨putB S.ns (kyV d e) n, putB S.ks n (kyV d e)⟩) from by unfold shL; exact pk_).trans sh_shut) ⟨rfl, rfl⟩)
    ·rw [decide_eq_true (show (n : Int) ≥ 512 by omega), if_neg hlt]
     refine G tt_ok pk75 ?_
     exact CW.ret (fin_ret rfl (A := [shA s S]) ((show Ent _ (shL s np kp S) from by unfold shL; exact pk_).trans sh_shut) ⟨rfl, rfl⟩)
set_option maxHeartbeats 4000000 in
theorem sfree82 (β : Base) (s : Nat) {S : Sh} (hS : S.ok) (d e : Int) : Tri Tryz.prog β 82 [.pointer (some ⟨s, 0, none⟩), evX d e] [shA s S] (fun v L => v = pairI (S.free d e).1 ∧ L = [shA s (S.free d e).2]) := by
 refine Tri.sh (enters_of Tryz.func82 (by kernel_rfl) rfl) fun np kp => ?_
 refine Tri.intro tt_ok Tryz.func82 rfl rfl Tryz.ntmps82 rfl fun F => ?_
 unfold shL Sh.free
 (refine G tt_ok pk82 ?_; repeat (refine G1 tt_ok pk82 ?_; intro _))
 refine ke rfl rfl (smay105 β d e) ?_
 cases hm : mayE d e with
 | false =>
  refine G tt_ok pk82 ?_
  exact CW.ret (fin_ret rfl (A := [shA s S]) ((show Ent _ (shL s np kp S) from by unfold shL; exact pk_).trans sh_shut) ⟨rfl, rfl⟩)
 | true =>
  refine G tt_ok pk82 ?_
  refine ke rfl rfl (keyed104 β d e) ?_
  refine G tt_ok pk82 ?_
  refine ke rfl rfl (btake134 β np hS.1.1 (kyV d e)) ?_
  cases hg : getB S.ns (kyV d e) with
  | none =>
   have hd : delB S.ns (kyV d e) = S.ns := by
    unfold delB
    rw [List.filter_eq_self]
    intro a ha
    rw [get_none] at hg
    have : a.1 ≠ kyV d e := fun h => hg a.2 (by rw [← h]; exact ha)
    simpa using this
   rw [hd]
   refine G tt_ok pk82 ?_
   exact CW.ret (fin_ret rfl (A := [shA s S]) ((show Ent _ (shL s np kp S) from by unfold shL; exact pk_).trans sh_shut) ⟨rfl, rfl⟩)
  | some n =>
   refine G tt_ok pk82 ?_
   refine ke rfl rfl (btake134 β kp hS.2.1 n) ?_
   refine G tt_ok pk82 ?_
   exact CW.ret (fin_ret rfl (A := [shA s ⟨delB S.ns (kyV d e), delB S.ks n⟩]) ((show Ent _ (shL s np kp ⟨delB S.ns (kyV d e), delB S.ks n⟩) from by unfold shL; exact pk_).trans sh_shut) ⟨rfl, rfl⟩)
@[reducible] def evkC (e : Int × Int) : List Value := [evX (unkV e.1).1 (unkV e.1).2, .int .i64 e.2]
def seL (b3 b1 b2 : Nat) (r : Option Addr) (d : Nat) (r2 : Option Addr) (d2 : Nat) (bs : List (Int × Int)) : List Atom :=
 pt b3 [.func (.func 198) #[] #[.pointer (some ⟨b1, 0, none⟩), .pointer (some ⟨b2, 0, none⟩)]] :: thL b1 b2 r d r2 d2 bs
theorem sall73 (β : Base) (s : Nat) {S : Sh} (hS : S.ok) : Tri Tryz.prog β 73 [.pointer (some ⟨s, 0, none⟩)] [shA s S]
  (fun v L => ∃ b3 b1 b2 r d r2 d2, v = .func (.func 122) #[] #[.pointer (some ⟨b3, 0, none⟩)] ∧ L = shA s S :: seL b3 b1 b2 r d r2 d2 S.ns) := by
 refine Tri.sh (enters_of Tryz.func73 (by kernel_rfl) rfl) fun np kp => ?_
 refine Tri.intro tt_ok Tryz.func73 rfl rfl Tryz.ntmps73 rfl fun F => ?_
 unfold shL
 refine G tt_ok pk73 ?_
 (refine ka rfl rfl (ball121 β np hS.1.1) ?_; rintro _ _ ⟨b1, b2, r, d, r2, d2, rfl, rfl⟩; refine w_ ?_)
 unfold thL
 (refine G tt_ok pk73 ?_; repeat (refine G1 tt_ok pk73 ?_; intro _))
 rename_i b3
 refine CW.ret (fin_ret rfl (A := shA s S :: seL b3 b1 b2 r d r2 d2 S.ns) ?_ ⟨b3, b1, b2, r, d, r2, d2, rfl, rfl⟩)
 refine (show Ent _ (shL s np kp S ++ seL b3 b1 b2 r d r2 d2 S.ns) from by unfold shL seL thL; exact pk_).trans ?_
 exact Ent.append sh_shut (Ent.refl _)
set_option maxHeartbeats 4000000 in
theorem iter122 (β : Base) (b3 b1 b2 : Nat) (r : Option Addr) (d : Nat) (r2 : Option Addr) (d2 : Nat) {bs : List (Int × Int)} (hl : bs.length ≤ 1000) :
  Iter Tryz.prog β 122 [.pointer (some ⟨b3, 0, none⟩)] (seL b3 b1 b2 r d r2 d2 bs) evkC bs := by
 intro l J Jx hY
 have hI := iter198 β b1 b2 r d r2 d2 hl
 unfold seL thL at hY ⊢
 unfold thL at hI
 refine Tri.intro tt_ok Tryz.func122 rfl rfl Tryz.ntmps122 rfl fun F => ?_
 (refine G tt_ok pk122 ?_; repeat (refine G1 tt_ok pk122 ?_; intro _))
 rename_i c2
 refine CW.rangeA rfl hI (by repeat (first | exact .n | exact Rm.h | apply Tk.c | apply Rm.t)) (fun pre => [J pre, pt c2 [.func (.yield l) #[] #[]], pt b3 [.func (.func 198) #[] #[.pointer (some ⟨b1, 0, none⟩), .pointer (some ⟨b2, 0, none⟩)]]])
  (fun c M => c = .ret ∧ ∃ pre, M = [Jx pre, pt c2 [.func (.yield l) #[] #[]], pt b3 [.func (.func 198) #[] #[.pointer (some ⟨b1, 0, none⟩), .pointer (some ⟨b2, 0, none⟩)]]]) pk_ (fun _ => rfl) (by decide) ?_ ?_ ?_
 ·intro pre x hpre lp fm rec1
  refine G tt_ok pk122 ?_
  intro fm2 rec2
  refine G tt_ok pk122 ?_
  refine ke rfl rfl (unkeyed117 β x.1) ?_
  refine G tt_ok pk122 ?_
  (refine SQ.yieldA rfl rfl (hY pre x hpre) (by repeat (first | exact .n | exact Rm.h | exact Rm.of own_row | exact Rm.of row_close0 | apply Tk.c | apply Rm.t)) ?_; rintro _ _ (⟨rfl, rfl⟩ | ⟨rfl, rfl⟩) <;> refine w_ ?_)
  ·refine G tt_ok pk122 ?_
   exact pk_
  ·refine G tt_ok pk122 ?_
   exact CW.ret ⟨_, ⟨rfl, pre ++ [x], rfl⟩, pk_⟩
 ·refine G tt_ok pk122 ?_
  exact fin_normal (vs := []) rfl (A := J bs :: pt b3 [.func (.func 198) #[] #[.pointer (some ⟨b1, 0, none⟩), .pointer (some ⟨b2, 0, none⟩)]] :: thL b1 b2 r d r2 d2 bs) (by unfold thL; exact pk_) (.inl rfl)
 ·rintro c M ⟨rfl, pre, rfl⟩
  exact CW.ret (fin_ret (vs := []) rfl (A := Jx pre :: pt b3 [.func (.func 198) #[] #[.pointer (some ⟨b1, 0, none⟩), .pointer (some ⟨b2, 0, none⟩)]] :: thL b1 b2 r d r2 d2 bs) (by unfold thL; exact pk_) (.inr ⟨pre, rfl⟩))
end Go.Proofs.YtakkogdmlbkdaaaGreatDoor.Sl.It
namespace Go.Proofs.YtakkogdmlbkdaaaGreatDoor.Sl
section
variable {P : Program} {β : Base} {rnd : Option (Nat × Loop)} {N : Nat} {env : Env} {L : List Atom} {K : Env → List Atom → Prop} {ops : Array Oper} {T : TT}
end
end Go.Proofs.YtakkogdmlbkdaaaGreatDoor.Sl
namespace Go.Proofs.YtakkogdmlbkdaaaGreatDoor.Sl.It
attribute [local irreducible] CW Tri OW
@[reducible] def pk64 : List (Nat × Plan) := []
@[reducible] def pk77 : List (Nat × Plan) := []
theorem one_bys (B : List Nat) : ∀ u ∈ bys B, u.oneCell' = true := one_flat (fun _ => rfl) B
theorem slr_pt {β : Base} {g off W : Nat} {cs news : List Value} (h : (cs.drop off).take W = news) : SlR β (pt g cs) (some ⟨g, off, none⟩) W 1 news := fun h2 a => .inr ⟨g, off, cs, rfl, by rw [Nat.mul_one]; exact h, .inl (by obtain ⟨t, rfl⟩ := a; exact ⟨t, (0, 0), by simp [Hp.one]⟩)⟩
set_option maxHeartbeats 4000000 in
theorem clone64 (β : Base) (g off c : Nat) (cs : List Value) (C : List Nat) (h0 : 0 < C.length) (hw : C.length ≤ 1000000) (hc : (cs.drop off).take C.length = bys C) :
  Tri Tryz.prog β 64 [.slice (some ⟨g, off, none⟩) C.length c] [pt g cs] (fun v L => ∃ b X, v = .slice (some ⟨b, 0, none⟩) C.length (C.length + (X : List Value).length) ∧ L = [pt g cs, pt b (bys C ++ X)]) := by
 have hl := bys_len C
 have hone := one_bys C
 refine Tri.intro tt_ok Tryz.func64 rfl rfl Tryz.ntmps64 rfl fun F => ?_
 generalize hn : C.length = n at h0 hw hc hl ⊢
 refine G tt_ok pk64 ?_
 refine SQ.builtO tt_ok rfl rfl rfl rfl (fun b => ⟨trivial, ?_⟩)
 refine G tt_ok pk64 ?_
 refine SQ.append0 tt_ok rfl rfl (A := pt g cs) (news := bys C) (sz := 1) (slr_pt hc) .h rfl (by rw [hl]; show n = n * 1; omega) rfl hone (by omega) (by show n * 1 ≤ _; omega) (fun q1 c1 hc1 => ⟨trivial, ?_⟩)
 refine SQ.ent _ (Ent.head (own_open h0)) ?_
 refine SQ.open_ fun x => ?_
 obtain ⟨b2, X⟩ := x
 refine SQ.pure_ fun hx => ?_
 obtain ⟨rfl, h1, h2, h3⟩ := hx
 replace h3 : (bys C ++ X).length = c1 * 1 := h3
 rw [List.length_append] at h3
 simp only at h2 ⊢
 obtain rfl : c1 = n + X.length := by rw [hl] at h3; omega
 refine G tt_ok pk64 ?_
 refine CW.ret (fin_ret rfl (A := [pt g cs, pt b2 (bys C ++ X)]) ?_ ⟨b2, X, rfl, rfl⟩)
 exact (Ent.append (L := [_]) ptT_pt (Ent.refl _)).trans pk_
theorem mcopy77 (β : Base) (m : Nat) (g : Gr) {B : List Nat} (h0 : 0 < B.length) (hn : B.length ≤ 1000000) :
  Tri Tryz.prog β 77 [.pointer (some ⟨m, 0, none⟩)] (memA m g B) (fun v L => ∃ m' g', v = .pointer (some ⟨m', 0, none⟩) ∧ L = memA m g B ++ memA m' g' B) := by
 refine Tri.intro tt_ok Tryz.func77 rfl rfl Tryz.ntmps77 rfl fun F => ?_
 unfold memA
 refine G tt_ok pk77 ?_
 (refine ka rfl rfl (clone64 β g.1 0 (B.length + g.2.length) (bys B ++ g.2) B h0 hn (by rw [List.drop_zero, ← bys_len B]; exact List.take_left)) ?_; rintro _ _ ⟨b, X, rfl, rfl⟩; refine w_ ?_)
 (refine G tt_ok pk77 ?_; repeat (refine G1 tt_ok pk77 ?_; intro _))
 rename_i m'
 exact CW.ret (fin_ret rfl (A := memA m g B ++ memA m' (b, X) B) (by unfold memA; exact pk_) ⟨m', (b, X), rfl, rfl⟩)
end Go.Proofs.YtakkogdmlbkdaaaGreatDoor.Sl.It
namespace Go.Proofs.YtakkogdmlbkdaaaGreatDoor.Sl
attribute [local irreducible] CW Tri OW
@[reducible] def pk208 : List (Nat × Plan) := []
@[reducible] def pk180 : List (Nat × Plan) := []
@[reducible] def pk136 : List (Nat × Plan) := []
@[reducible] def pl153_0 : Plan := [(0, 0, []), (1, 0, []), (2, 0, []), (3, 1, [1]), (4, 1, [1]), (5, 0, []), (6, 1, [])]
-- part Fa
abbrev Iq := Bool × Bool × Bool × Bool
@[reducible] def iqC (i : Iq) : List Value := [.bool i.1, .bool i.2.1, .bool i.2.2.1, .bool i.2.2.2]
def pendI (i : Iq) : Bool := i.2.2.1 || (!i.1 && i.2.1)
def readyI (i : Iq) : Bool := pendI i && !i.2.2.2
def stepI (i : Iq) (x : Int) : Iq :=
  if x = 1 then (i.1, true, i.2.2.1 || (i.1 && !i.2.1), i.2.2.2) else if x = 2 then (i.1, false, i.2.2.1, i.2.2.2) else if x = 3 then (i.1, i.2.1, true, i.2.2.2) else if x = 4 then (i.1, i.2.1, false, i.2.2.2)
  else if x = 5 then (if readyI i then (i.1, i.2.1, false, true) else i) else if x = 6 then (i.1, i.2.1, i.2.2.1, false) else if x = 7 then (i.1, i.2.1, i.2.2.1, true) else if x = 8 then (true, i.2.1, i.2.2.1, i.2.2.2) else if x = 9 then (false, i.2.1, i.2.2.1, i.2.2.2) else i
theorem pending47 (β : Base) (e l t a : Bool) : Tri Tryz.prog β 208 [.agg #[.bool e, .bool l, .bool t, .bool a]] [] (fun v L => v = .bool (pendI (e, l, t, a)) ∧ L = []) := by
  refine Tri.intro tt_ok Tryz.func208 rfl rfl Tryz.ntmps208 rfl fun F => ?_
  cases t
  · cases e
    · (refine G tt_ok pk208 ?_; repeat (refine G1 tt_ok pk208 ?_; intro _))
      refine CW.ret (fin_ret rfl (Ent.dropAll _) ?_)
      exact ⟨by simp [packV, pendI], rfl⟩
    · (refine G tt_ok pk208 ?_; repeat (refine G1 tt_ok pk208 ?_; intro _))
      refine CW.ret (fin_ret rfl (Ent.dropAll _) ?_)
      exact ⟨by simp [packV, pendI], rfl⟩
  · (refine G tt_ok pk208 ?_; repeat (refine G1 tt_ok pk208 ?_; intro _))
    refine CW.ret (fin_ret rfl (Ent.dropAll _) ?_)
    exact ⟨by simp [packV, pendI], rfl⟩
theorem ready60 (β : Base) (e l t a : Bool) : Tri Tryz.prog β 180 [.agg #[.bool e, .bool l, .bool t, .bool a]] [] (fun v L => v = .bool (readyI (e, l, t, a)) ∧ L = []) := by
  refine Tri.intro tt_ok Tryz.func180 rfl rfl Tryz.ntmps180 rfl fun F => ?_
  (refine G tt_ok pk180 ?_; repeat (refine G1 tt_ok pk180 ?_; intro _))
  (refine SQ.call rfl rfl (pending47 β e l t a) [] rfl ?_; rintro _ _ ⟨rfl, rfl⟩; refine w_ ?_)
  unfold readyI
  generalize pendI (e, l, t, a) = p
  cases p
  · refine G tt_ok pk180 ?_
    refine CW.ret (fin_ret rfl (Ent.dropAll _) ?_)
    exact ⟨by simp [packV], rfl⟩
  · refine G tt_ok pk180 ?_
    refine CW.ret (fin_ret rfl (Ent.dropAll _) ?_)
    exact ⟨by simp [packV], rfl⟩
theorem step48 (β : Base) (e l t a : Bool) (x : Int) : Tri Tryz.prog β 136 [.agg #[.bool e, .bool l, .bool t, .bool a], .int .i64 x] [] (fun v L => v = .agg (iqC (stepI (e, l, t, a) x)).toArray ∧ L = []) := by
  refine Tri.intro tt_ok Tryz.func136 rfl rfl Tryz.ntmps136 rfl fun F => ?_
  (refine G tt_ok pk136 ?_; repeat (refine G1 tt_ok pk136 ?_; intro _))
  generalize h1 : (x == 1) = c1
  cases c1
  · refine G tt_ok pk136 ?_
    generalize h2 : (x == 2) = c2
    cases c2
    · refine G tt_ok pk136 ?_
      generalize h3 : (x == 3) = c3
      cases c3
      · refine G tt_ok pk136 ?_
        generalize h4 : (x == 4) = c4
        cases c4
        · refine G tt_ok pk136 ?_
          generalize h5 : (x == 5) = c5
          cases c5
          · refine G tt_ok pk136 ?_
            generalize h6 : (x == 6) = c6
            cases c6
            · refine G tt_ok pk136 ?_
              generalize h7 : (x == 7) = c7
              cases c7
              · refine G tt_ok pk136 ?_
                generalize h8 : (x == 8) = c8
                cases c8
                · refine G tt_ok pk136 ?_
                  generalize h9 : (x == 9) = c9
                  cases c9
                  · refine G tt_ok pk136 ?_
                    refine CW.ret (fin_cells [_] ⟨⟨_, _, _, _, 0, rfl, rfl, rfl, rfl⟩, trivial⟩ (Ent.dropAll _) ?_)
                    refine ⟨?_, rfl⟩
                    simp only [beq_eq_false_iff_ne, ne_eq] at h1 h2 h3 h4 h5 h6 h7 h8 h9
                    simp [packV, stepI, iqC, h1, h2, h3, h4, h5, h6, h7, h8, h9]
                  · refine G tt_ok pk136 ?_
                    refine CW.ret (fin_cells [_] ⟨⟨_, _, _, _, 0, rfl, rfl, rfl, rfl⟩, trivial⟩ (Ent.dropAll _) ?_)
                    refine ⟨?_, rfl⟩
                    obtain rfl : x = 9 := by simpa using h9
                    simp [packV, stepI, iqC]
                · refine G tt_ok pk136 ?_
                  refine CW.ret (fin_cells [_] ⟨⟨_, _, _, _, 0, rfl, rfl, rfl, rfl⟩, trivial⟩ (Ent.dropAll _) ?_)
                  refine ⟨?_, rfl⟩
                  obtain rfl : x = 8 := by simpa using h8
                  simp [packV, stepI, iqC]
              · refine G tt_ok pk136 ?_
                refine CW.ret (fin_cells [_] ⟨⟨_, _, _, _, 0, rfl, rfl, rfl, rfl⟩, trivial⟩ (Ent.dropAll _) ?_)
                refine ⟨?_, rfl⟩
                obtain rfl : x = 7 := by simpa using h7
                simp [packV, stepI, iqC]
            · refine G tt_ok pk136 ?_
              refine CW.ret (fin_cells [_] ⟨⟨_, _, _, _, 0, rfl, rfl, rfl, rfl⟩, trivial⟩ (Ent.dropAll _) ?_)
              refine ⟨?_, rfl⟩
              obtain rfl : x = 6 := by simpa using h6
              simp [packV, stepI, iqC]
          · refine G tt_ok pk136 ?_
            (refine SQ.call rfl rfl (ready60 β e l t a) [] rfl ?_; rintro _ _ ⟨rfl, rfl⟩; refine w_ ?_)
            generalize hr : readyI (e, l, t, a) = rr
            cases rr
            · refine G tt_ok pk136 ?_
              refine CW.ret (fin_cells [_] ⟨⟨_, _, _, _, 0, rfl, rfl, rfl, rfl⟩, trivial⟩ (Ent.dropAll _) ?_)
              refine ⟨?_, rfl⟩
              obtain rfl : x = 5 := by simpa using h5
              simp [packV, stepI, iqC, hr]
            · refine G tt_ok pk136 ?_
              refine CW.ret (fin_cells [_] ⟨⟨_, _, _, _, 0, rfl, rfl, rfl, rfl⟩, trivial⟩ (Ent.dropAll _) ?_)
              refine ⟨?_, rfl⟩
              obtain rfl : x = 5 := by simpa using h5
              simp [packV, stepI, iqC, hr]
        · refine G tt_ok pk136 ?_
          refine CW.ret (fin_cells [_] ⟨⟨_, _, _, _, 0, rfl, rfl, rfl, rfl⟩, trivial⟩ (Ent.dropAll _) ?_)
          refine ⟨?_, rfl⟩
          obtain rfl : x = 4 := by simpa using h4
          simp [packV, stepI, iqC]
      · refine G tt_ok pk136 ?_
        refine CW.ret (fin_cells [_] ⟨⟨_, _, _, _, 0, rfl, rfl, rfl, rfl⟩, trivial⟩ (Ent.dropAll _) ?_)
        refine ⟨?_, rfl⟩
        obtain rfl : x = 3 := by simpa using h3
        simp [packV, stepI, iqC]
    · refine G tt_ok pk136 ?_
      refine CW.ret (fin_cells [_] ⟨⟨_, _, _, _, 0, rfl, rfl, rfl, rfl⟩, trivial⟩ (Ent.dropAll _) ?_)
      refine ⟨?_, rfl⟩
      obtain rfl : x = 2 := by simpa using h2
      simp [packV, stepI, iqC]
  · cases t
    · cases e
      · refine G tt_ok pk136 ?_
        refine CW.ret (fin_cells [_] ⟨⟨_, _, _, _, 0, rfl, rfl, rfl, rfl⟩, trivial⟩ (Ent.dropAll _) ?_)
        refine ⟨?_, rfl⟩
        obtain rfl : x = 1 := by simpa using h1
        simp [packV, stepI, iqC]
      · refine G tt_ok pk136 ?_
        refine CW.ret (fin_cells [_] ⟨⟨_, _, _, _, 0, rfl, rfl, rfl, rfl⟩, trivial⟩ (Ent.dropAll _) ?_)
        refine ⟨?_, rfl⟩
        obtain rfl : x = 1 := by simpa using h1
        simp [packV, stepI, iqC]
    · refine G tt_ok pk136 ?_
      refine CW.ret (fin_cells [_] ⟨⟨_, _, _, _, 0, rfl, rfl, rfl, rfl⟩, trivial⟩ (Ent.dropAll _) ?_)
      refine ⟨?_, rfl⟩
      obtain rfl : x = 1 := by simpa using h1
      simp [packV, stepI, iqC]
theorem real50 (β : Base) (p : Int) : Tri Tryz.prog β 143 [.int .i64 p] [] (fun v L => v = .int .i64 (IntKind.i64.wrap (BitVec.ofInt 64 p &&& BitVec.ofInt 64 248).toNat) ∧ L = []) := by
  refine Tri.intro tt_ok Tryz.func143 rfl rfl Tryz.ntmps143 rfl fun F => ?_
  refine G tt_ok [] ?_
  exact CW.ret (fin_ret rfl (Ent.dropAll _) ⟨rfl, rfl⟩)
-- part Fb
def actsV (r : Int) : Int := if r = 7 then 3 else if r = 8 then 4 else if r = 9 then 7 else if r = 10 then 6 else 0
theorem acts49 (β : Base) (r : Int) : Tri Tryz.prog β 187 [.int .i64 r] [] (fun v L => v = .int .i64 (actsV r) ∧ L = []) := by
  refine Tri.intro tt_ok Tryz.func187 rfl rfl Tryz.ntmps187 rfl fun F => ?_
  (repeat' (first | refine CW.seq ?_ | refine CW.region tt_ok rfl ?_ | refine CW.block ?_ | refine CW.skip ?_ | refine SQ.nil ?_ | refine SQ.pures1 tt_ok rfl ?_ | refine SQ.pure1 tt_ok rfl ?_ | refine SQ.new _ _ rfl rfl (fun _ => ?_) | refine SQ.ldA tt_ok rfl rfl (by repeat (first | exact .h | exact .q | apply At.t)) (by rfl) ?_ | refine SQ.stA tt_ok rfl rfl (by repeat (first | apply Up.h | apply Up.t)) (by rfl) (by rfl) (by exact trivial) ?_ | refine CW.cond_tt rfl ?_ | refine CW.cond_ff rfl ?_ | ((first | refine CW.cond rfl (fun hc => ?_) (fun hc => ?_) | refine SQ.gsplit rfl (fun hc => ?_) (fun hc => ?_)) <;> try (exfalso; simp_all; done))))
  all_goals (refine CW.ret (fin_ret rfl (Ent.dropAll _) ⟨?_, rfl⟩); simp_all [packV, actsV])
theorem edge51 (β : Base) (x : Int) : Tri Tryz.prog β 188 [.int .u64 x] [] (fun v L => v = .int .i64 (if IntKind.u64.wrap (BitVec.ofInt IntKind.u64.bits x &&& BitVec.ofInt IntKind.u64.bits 2).toNat = 2 then 8 else 9) ∧ L = []) := by
  refine Tri.intro tt_ok Tryz.func188 rfl rfl Tryz.ntmps188 rfl fun F => ?_
  (repeat' (first | refine CW.seq ?_ | refine CW.region tt_ok rfl ?_ | refine CW.block ?_ | refine CW.skip ?_ | refine SQ.nil ?_ | refine SQ.pures1 tt_ok rfl ?_ | refine SQ.pure1 tt_ok rfl ?_ | refine SQ.new _ _ rfl rfl (fun _ => ?_) | refine SQ.ldA tt_ok rfl rfl (by repeat (first | exact .h | exact .q | apply At.t)) (by rfl) ?_ | refine SQ.stA tt_ok rfl rfl (by repeat (first | apply Up.h | apply Up.t)) (by rfl) (by rfl) (by exact trivial) ?_ | refine CW.cond_tt rfl ?_ | refine CW.cond_ff rfl ?_ | ((first | refine CW.cond rfl (fun hc => ?_) (fun hc => ?_) | refine SQ.gsplit rfl (fun hc => ?_) (fun hc => ?_)) <;> try (exfalso; simp_all; done))))
  all_goals (refine CW.ret (fin_ret rfl (Ent.dropAll _) ⟨?_, rfl⟩))
  · simp only [beq_iff_eq] at hc; simp only [packV]; rw [if_pos hc]
  · simp only [beq_eq_false_iff_ne, ne_eq] at hc; simp only [packV]; rw [if_neg hc]
def bitsV (r : Int) : Int := if r = 11 then 8 else if r = 12 then 2 else if r = 13 then 63 else 1
theorem bits45 (β : Base) (r f c : Int) : Tri Tryz.prog β 189 [.agg #[.int .i64 r, .int .i64 f, .int .i64 c]] [] (fun v L => v = .int .i64 (bitsV r) ∧ L = []) := by
  refine Tri.intro tt_ok Tryz.func189 rfl rfl Tryz.ntmps189 rfl fun F => ?_
  (repeat' (first | refine CW.seq ?_ | refine CW.region tt_ok rfl ?_ | refine CW.block ?_ | refine CW.skip ?_ | refine SQ.nil ?_ | refine SQ.pures1 tt_ok rfl ?_ | refine SQ.pure1 tt_ok rfl ?_ | refine SQ.new _ _ rfl rfl (fun _ => ?_) | refine SQ.ldA tt_ok rfl rfl (by repeat (first | exact .h | exact .q | apply At.t)) (by rfl) ?_ | refine SQ.stA tt_ok rfl rfl (by repeat (first | apply Up.h | apply Up.t)) (by rfl) (by rfl) (by exact trivial) ?_ | refine CW.cond_tt rfl ?_ | refine CW.cond_ff rfl ?_ | ((first | refine CW.cond rfl (fun hc => ?_) (fun hc => ?_) | refine SQ.gsplit rfl (fun hc => ?_) (fun hc => ?_)) <;> try (exfalso; simp_all; done))))
  all_goals (refine CW.ret (fin_ret rfl (Ent.dropAll _) ⟨?_, rfl⟩); simp_all [packV, bitsV])
abbrev Ln := Iq × Bool × Int × Int
@[reducible] def lnC (l : Ln) : List Value := [.bool l.1.1, .bool l.1.2.1, .bool l.1.2.2.1, .bool l.1.2.2.2, .bool l.2.1, .int .i64 l.2.2.1, .int .i64 l.2.2.2]
def b2 (b : Bool) : Int := if b then 1 else 0
def showsV (l : Ln) (r : Int) : Int :=
  if r = 4 then IntKind.u64.wrap l.2.2.1 else if r = 5 ∨ r = 6 then b2 l.2.1 else if r = 7 ∨ r = 8 then b2 (pendI l.1) else if r = 9 ∨ r = 10 then b2 l.1.2.2.2
  else if r = 11 then IntKind.u64.wrap l.2.2.2 else if r = 12 then IntKind.u64.wrap (2 * b2 l.1.1) else 0
-- part Fc
def realV (p : Int) : Int := IntKind.i64.wrap (BitVec.ofInt 64 p &&& BitVec.ofInt 64 248).toNat
def edgeV (x : Int) : Int := if IntKind.u64.wrap (BitVec.ofInt IntKind.u64.bits x &&& BitVec.ofInt IntKind.u64.bits 2).toNat = 2 then 8 else 9
def writtenV (id : Int) (l : Ln) (r x : Int) : Ln :=
  if r = 4 then (l.1, l.2.1, IntKind.i64.wrap x, l.2.2.2) else if r = 5 then (l.1, l.2.1 || x == 1, l.2.2) else if r = 6 then (l.1, l.2.1 && x == 0, l.2.2)
  else if r = 7 ∨ r = 8 ∨ r = 9 ∨ r = 10 then (if x = 1 then (stepI l.1 (actsV r), l.2) else l)
  else if r = 11 then (l.1, l.2.1, l.2.2.1, realV (IntKind.i64.wrap x)) else if r = 12 then (if id ≥ 16 then (stepI l.1 (edgeV x), l.2) else l) else l
theorem step48' (β : Base) (e l t a : Bool) (x : Int) : Tri Tryz.prog β 136 [.agg #[.bool e, .bool l, .bool t, .bool a], .int .i64 x] [] (fun v L => v = .agg #[.bool (stepI (e, l, t, a) x).1, .bool (stepI (e, l, t, a) x).2.1, .bool (stepI (e, l, t, a) x).2.2.1, .bool (stepI (e, l, t, a) x).2.2.2] ∧ L = []) := step48 β e l t a x
theorem edge51' (β : Base) (x : Int) : Tri Tryz.prog β 188 [.int .u64 x] [] (fun v L => v = .int .i64 (edgeV x) ∧ L = []) := edge51 β x
theorem real50' (β : Base) (x : Int) : Tri Tryz.prog β 143 [.int .i64 x] [] (fun v L => v = .int .i64 (realV x) ∧ L = []) := real50 β x
set_option maxHeartbeats 4000000 in
theorem written28 (β : Base) (id : Int) (e l t a en : Bool) (g p r x : Int) : Tri Tryz.prog β 153 [.int .i64 id, .agg #[.bool e, .bool l, .bool t, .bool a, .bool en, .int .i64 g, .int .i64 p], .int .i64 r, .int .u64 x] []
    (fun v L => v = .agg (lnC (writtenV id ((e, l, t, a), en, g, p) r x)).toArray ∧ L = []) := by
  refine Tri.intro tt_ok Tryz.func153 rfl rfl Tryz.ntmps153 rfl fun F => ?_
  (repeat' (first | refine CW.seq ?_ | refine CW.region tt_ok rfl ?_ | refine CW.regionD tt_ok (by kernel_rfl) pl153_0 (by decide +kernel) ?_ | refine CW.block ?_ | refine CW.skip ?_ | refine SQ.nil ?_ | refine SQ.pures1 tt_ok rfl ?_ | refine SQ.pure1 tt_ok rfl ?_ | refine SQ.new _ _ rfl rfl (fun _ => ?_) | refine SQ.ldA tt_ok rfl rfl (by repeat (first | exact .h | exact .q | apply At.t)) (by rfl) ?_ | refine SQ.stA tt_ok rfl rfl (by repeat (first | apply Up.h | apply Up.t)) (by rfl) (by rfl) (by repeat (first | exact trivial | refine ⟨trivial, ?_⟩ | refine ⟨wk (by repeat (first | exact .h | exact .q | apply At.t)) (by rfl), ?_⟩)) ?_ | refine CW.cond_tt rfl ?_ | refine CW.cond_ff rfl ?_ | (refine SQ.callA rfl rfl (acts49 β _) (by repeat (first | exact .n | exact Rm.h | exact Rm.of own_row | exact Rm.of row_close0 | apply Tk.c | apply Rm.t)) ?_; rintro _ _ ⟨rfl, rfl⟩; refine ⟨(by repeat (first | exact trivial | refine ⟨trivial, ?_⟩ | refine ⟨wk (by repeat (first | exact .h | exact .q | apply At.t)) (by rfl), ?_⟩)), ?_⟩) | (refine SQ.callA rfl rfl (step48' β _ _ _ _ _) (by repeat (first | exact .n | exact Rm.h | exact Rm.of own_row | exact Rm.of row_close0 | apply Tk.c | apply Rm.t)) ?_; rintro _ _ ⟨rfl, rfl⟩; refine ⟨(by repeat (first | exact trivial | refine ⟨trivial, ?_⟩ | refine ⟨wk (by repeat (first | exact .h | exact .q | apply At.t)) (by rfl), ?_⟩)), ?_⟩) | (refine SQ.callA rfl rfl (edge51' β _) (by repeat (first | exact .n | exact Rm.h | exact Rm.of own_row | exact Rm.of row_close0 | apply Tk.c | apply Rm.t)) ?_; rintro _ _ ⟨rfl, rfl⟩; refine ⟨(by repeat (first | exact trivial | refine ⟨trivial, ?_⟩ | refine ⟨wk (by repeat (first | exact .h | exact .q | apply At.t)) (by rfl), ?_⟩)), ?_⟩) | (refine SQ.callA rfl rfl (real50' β _) (by repeat (first | exact .n | exact Rm.h | exact Rm.of own_row | exact Rm.of row_close0 | apply Tk.c | apply Rm.t)) ?_; rintro _ _ ⟨rfl, rfl⟩; refine ⟨(by repeat (first | exact trivial | refine ⟨trivial, ?_⟩ | refine ⟨wk (by repeat (first | exact .h | exact .q | apply At.t)) (by rfl), ?_⟩)), ?_⟩) | ((first | refine CW.cond rfl (fun hc => ?_) (fun hc => ?_) | refine SQ.gsplit rfl (fun hc => ?_) (fun hc => ?_)) <;> try (exfalso; simp_all; done))))
  all_goals (refine CW.ret (fin_cells [_] ⟨⟨_, _, _, _, 0, rfl, rfl, rfl, rfl⟩, trivial⟩ (Ent.dropAll _) ⟨?_, rfl⟩); simp_all [packV, writtenV, lnC])
  all_goals (have h6 : ¬ (16 : Int) ≤ id := by omega
             simp [h6])
-- part Fd
@[reducible] def pk154 : List (Nat × Plan) := [(4, [(0, 0, []), (1, 0, []), (2, 0, []), (3, 0, []), (4, 0, []), (5, 0, []), (6, 0, []), (7, 0, []), (8, 0, []), (9, 0, [])])]
@[reducible] def pl154_0 : Plan := [(0, 0, []), (1, 0, []), (2, 0, []), (3, 0, []), (4, 0, []), (5, 0, []), (6, 0, []), (7, 0, []), (8, 0, []), (9, 0, [])]
-- part Fg
theorem bitsV_range (r : Int) : 1 ≤ bitsV r ∧ bitsV r ≤ 63 := by unfold bitsV; split <;> (try split) <;> (try split) <;> omega
theorem mul_ok {r k : Int} (h0 : 0 ≤ k) (h1 : k ≤ 64) : IntKind.i64.wrap (bitsV r * k) = ((bitsV r * k).toNat : Int) := by
  obtain ⟨a, b⟩ := bitsV_range r
  have h2 : 0 ≤ bitsV r * k := Int.mul_nonneg (by omega) h0
  have h3 : bitsV r * k ≤ 63 * 64 := Int.mul_le_mul b h1 h0 (by omega)
  rw [wrap_i64]; split <;> omega
theorem bits_ok (r : Int) : bitsV r = ((bitsV r).toNat : Int) := by have := bitsV_range r; omega
def onesV (r : Int) : Int := IntKind.u64.wrap (IntKind.u64.wrap (1 * 2 ^ min (bitsV r).toNat IntKind.u64.bits) - 1)
def fieldV (v r c k : Int) : Int := if k < 0 ∨ k ≥ c ∨ k > 64 then 0 else IntKind.u64.wrap (BitVec.ofInt IntKind.u64.bits (v.fdiv (2 ^ min (bitsV r * k).toNat IntKind.u64.bits)) &&& BitVec.ofInt IntKind.u64.bits (onesV r)).toNat
theorem field29 (β : Base) (v r f c k : Int) : Tri Tryz.prog β 154 [.int .u64 v, .agg #[.int .i64 r, .int .i64 f, .int .i64 c], .int .i64 k] [] (fun u L => u = .int .u64 (fieldV v r c k) ∧ L = []) := by
  refine Tri.intro tt_ok Tryz.func154 rfl rfl Tryz.ntmps154 rfl fun F => ?_
  (repeat' (first | refine CW.seq ?_ | refine CW.region tt_ok rfl ?_ | refine CW.regionD tt_ok (by kernel_rfl) pl154_0 (by decide +kernel) ?_ | refine CW.block ?_ | refine CW.skip ?_ | refine SQ.nil ?_ | refine SQ.pures1 tt_ok rfl ?_ | refine SQ.pure1 tt_ok rfl ?_ | refine SQ.new _ _ rfl rfl (fun _ => ?_) | refine SQ.ldA tt_ok rfl rfl (by repeat (first | exact .h | exact .q | apply At.t)) (by rfl) ?_ | refine SQ.stA tt_ok rfl rfl (by repeat (first | apply Up.h | apply Up.t)) (by rfl) (by rfl) (by repeat (first | exact trivial | refine ⟨trivial, ?_⟩ | refine ⟨wk (by repeat (first | exact .h | exact .q | apply At.t)) (by rfl), ?_⟩)) ?_ | refine CW.cond_tt rfl ?_ | refine CW.cond_ff rfl ?_ | (refine SQ.callA rfl rfl (bits45 β _ _ _) (by repeat (first | exact .n | exact Rm.h | exact Rm.of own_row | exact Rm.of row_close0 | apply Tk.c | apply Rm.t)) ?_; rintro _ _ ⟨rfl, rfl⟩; refine ⟨(by repeat (first | exact trivial | refine ⟨trivial, ?_⟩ | refine ⟨wk (by repeat (first | exact .h | exact .q | apply At.t)) (by rfl), ?_⟩)), ?_⟩) | ((first | refine CW.cond rfl (fun hc => ?_) (fun hc => ?_) | refine SQ.gsplit rfl (fun hc => ?_) (fun hc => ?_)) <;> try (exfalso; simp_all; done))))
  all_goals simp only [decide_eq_true_eq, decide_eq_false_iff_not] at *
  all_goals (first
    | (refine CW.ret (fin_ret rfl (Ent.dropAll _) ⟨?_, rfl⟩)
       unfold fieldV
       rw [if_pos (show k < 0 ∨ k ≥ c ∨ k > 64 by omega)]
       rfl)
    | (refine SQ.shift tt_ok rfl rfl (bitsV r * k).toNat (mul_ok (by omega) (by omega)) rfl ?_
       refine G tt_ok pk154 ?_
       refine SQ.shift tt_ok rfl rfl (bitsV r).toNat (bits_ok r) rfl ?_
       refine G tt_ok pk154 ?_
       refine CW.ret (fin_ret rfl (Ent.dropAll _) ⟨?_, rfl⟩)
       unfold fieldV
       rw [if_neg (show ¬ (k < 0 ∨ k ≥ c ∨ k > 64) by omega)]
       rfl))
def withV (v r c k x : Int) : Int := if k < 0 ∨ k ≥ c ∨ k > 64 then v else
  IntKind.u64.wrap (BitVec.ofInt IntKind.u64.bits (IntKind.u64.wrap (BitVec.ofInt IntKind.u64.bits v &&& ~~~BitVec.ofInt IntKind.u64.bits (IntKind.u64.wrap (onesV r * 2 ^ min (bitsV r * k).toNat IntKind.u64.bits))).toNat) |||
    BitVec.ofInt IntKind.u64.bits (IntKind.u64.wrap (IntKind.u64.wrap (BitVec.ofInt IntKind.u64.bits x &&& BitVec.ofInt IntKind.u64.bits (onesV r)).toNat * 2 ^ min (bitsV r * k).toNat IntKind.u64.bits))).toNat
def cntV (c : Int) : Nat := (max 0 (min c 16384)).toNat
def idsV (f : Int) : Nat → List Int
  | 0 => []
  | k + 1 => idsV f k ++ [IntKind.i64.wrap (f + k)]
theorem idsV_pre {f : Int} : ∀ {k n : Nat}, k ≤ n → idsV f k <+: idsV f n
  | k, 0, h => by
    have : k = 0 := by omega
    subst this; exact List.prefix_refl _
  | k, n + 1, h => by
    by_cases e : k = n + 1
    · subst e; exact List.prefix_refl _
    · exact (idsV_pre (by omega)).trans (List.prefix_append _ _)
theorem iter44 (β : Base) (r f c : Int) (b1 : Nat) : Iter Tryz.prog β 186 [.pointer (some ⟨b1, 0, none⟩)] [pt b1 [.int .i64 r, .int .i64 f, .int .i64 c]] (fun x => [Value.int .i64 x]) (idsV f (cntV c)) := by
  intro l J Jx hY
  refine Tri.intro tt_ok Tryz.func186 rfl rfl Tryz.ntmps186 rfl fun F => ?_
  refine G tt_ok [] ?_
  have hm : (if (0 : Int) < (if (16384 : Int) < c then 16384 else c) then (if (16384 : Int) < c then 16384 else c) else 0) = ((cntV c : Nat) : Int) := by
    unfold cntV; split <;> split <;> omega
  have hle : cntV c ≤ 16384 := by unfold cntV; omega
  rw [hm]
  generalize cntV c = n at hle hY ⊢
  refine CW.loop (α := Nat) (fun k => k ≤ n) (fun k => [(8, .int .i64 k), (7, .int .i64 n), (0, .func (.yield l) #[] #[]), (1, .pointer (some ⟨b1, 0, none⟩))])
    (fun k => [J (idsV f k), pt b1 [.int .i64 r, .int .i64 f, .int .i64 c]]) (fun k => n - k) 0 (by omega) ⟨rfl, rfl, rfl, rfl, trivial⟩ (Ent.refl _) ?_
  intro k hk
  refine G tt_ok [] ?_
  generalize e1 : decide ((k : Int) < (n : Int)) = cc
  cases cc
  · refine G tt_ok [] ?_
    refine CW.exit ?_
    have : k = n := by simp at e1; omega
    subst this
    exact fin_normal rfl (Ent.refl _) (.inl rfl)
  · have hlt : k < n := by simp at e1; omega
    have hw : IntKind.i64.wrap ((k : Int) + 1) = ((k + 1 : Nat) : Int) := by rw [wrap_i64]; split <;> omega
    refine G tt_ok [] ?_
    (refine SQ.yield rfl rfl (hY (idsV f k) (IntKind.i64.wrap (f + k)) (idsV_pre (k := k + 1) (by omega))) [0, 0] rfl ?_; rintro _ _ (⟨rfl, rfl⟩ | ⟨rfl, rfl⟩) <;> refine w_ ?_)
    · refine G tt_ok [] ?_
      refine ⟨k + 1, by omega, by omega, ⟨by rw [← hw]; rfl, rfl, rfl, rfl, trivial⟩, Ent.refl _⟩
    · refine G tt_ok [] ?_
      exact CW.ret (fin_ret rfl (Ent.refl _) (.inr ⟨_, rfl⟩))
theorem ids25 (β : Base) (r f c : Int) : Tri Tryz.prog β 151 [.agg #[.int .i64 r, .int .i64 f, .int .i64 c]] [] (fun v L => ∃ b1, v = .func (.func 186) #[] #[.pointer (some ⟨b1, 0, none⟩)] ∧ L = [pt b1 [.int .i64 r, .int .i64 f, .int .i64 c]]) := by
  refine Tri.intro tt_ok Tryz.func151 rfl rfl Tryz.ntmps151 rfl fun F => ?_
  (refine G tt_ok [] ?_; repeat (refine G1 tt_ok [] ?_; intro _))
  refine CW.ret (fin_ret rfl (Ent.refl _) ?_)
  exact ⟨_, rfl, rfl⟩
-- part Fx<
theorem wN {a : Nat} (h : a < 2 ^ 64) : IntKind.u64.wrap (a : Int) = a := by
  rw [wrap_u64]; have : (2 : Nat) ^ 64 = 18446744073709551616 := rfl; omega
theorem oN {a : Nat} (h : a < 2 ^ 64) : (BitVec.ofInt 64 (a : Int)).toNat = a := by
  rw [BitVec.toNat_ofInt]; have : (2 : Nat) ^ 64 = 18446744073709551616 := rfl; omega
theorem and64 {a b : Nat} (ha : a < 2 ^ 64) (hb : b < 2 ^ 64) : IntKind.u64.wrap ((BitVec.ofInt IntKind.u64.bits (a : Int) &&& BitVec.ofInt IntKind.u64.bits (b : Int)).toNat : Int) = ((a &&& b : Nat) : Int) := by
  show IntKind.u64.wrap ((BitVec.ofInt 64 (a : Int) &&& BitVec.ofInt 64 (b : Int)).toNat : Int) = _
  rw [BitVec.toNat_and, oN ha, oN hb, wN (Nat.and_lt_two_pow _ hb)]
theorem or64 {a b : Nat} (ha : a < 2 ^ 64) (hb : b < 2 ^ 64) : IntKind.u64.wrap ((BitVec.ofInt IntKind.u64.bits (a : Int) ||| BitVec.ofInt IntKind.u64.bits (b : Int)).toNat : Int) = ((a ||| b : Nat) : Int) := by
  show IntKind.u64.wrap ((BitVec.ofInt 64 (a : Int) ||| BitVec.ofInt 64 (b : Int)).toNat : Int) = _
  rw [BitVec.toNat_or, oN ha, oN hb, wN (Nat.or_lt_two_pow ha hb)]
def andNotN (a b : Nat) : Nat := (BitVec.ofNat 64 a &&& ~~~BitVec.ofNat 64 b).toNat
theorem andNotN_lt (a b : Nat) : andNotN a b < 2 ^ 64 := BitVec.isLt _
theorem andNotN_bit {a b j : Nat} (hj : j < 64) : (andNotN a b).testBit j = (a.testBit j && !b.testBit j) := by
  unfold andNotN
  rw [← BitVec.getLsbD, BitVec.getLsbD_and, BitVec.getLsbD_not, BitVec.getLsbD_ofNat, BitVec.getLsbD_ofNat]
  simp [hj]
theorem oN' (a : Nat) : BitVec.ofInt 64 (a : Int) = BitVec.ofNat 64 a := by
  apply BitVec.eq_of_toNat_eq
  rw [BitVec.toNat_ofInt, BitVec.toNat_ofNat]
  have : (2 : Nat) ^ 64 = 18446744073709551616 := rfl
  omega
theorem andNot64 (a b : Nat) : IntKind.u64.wrap ((BitVec.ofInt IntKind.u64.bits (a : Int) &&& ~~~BitVec.ofInt IntKind.u64.bits (b : Int)).toNat : Int) = ((andNotN a b : Nat) : Int) := by
  show IntKind.u64.wrap ((BitVec.ofInt 64 (a : Int) &&& ~~~BitVec.ofInt 64 (b : Int)).toNat : Int) = _
  rw [oN', oN']
  exact wN (andNotN_lt a b)
theorem bit64 {v k : Nat} (hv : v < 2 ^ 64) (hk : k < 64) : IntKind.u64.wrap ((BitVec.ofInt IntKind.u64.bits ((v : Int).fdiv (2 ^ min k IntKind.u64.bits)) &&& BitVec.ofInt IntKind.u64.bits 1).toNat : Int) = ((v / 2 ^ k % 2 : Nat) : Int) := by
  have ep : ((2 : Int) ^ k) = ((2 ^ k : Nat) : Int) := by push_cast; rfl
  rw [show min k IntKind.u64.bits = k by show min k 64 = k; omega, ep, Int.fdiv_eq_ediv_of_nonneg _ (Int.natCast_nonneg _), ← Int.natCast_ediv]
  have h1 : v / 2 ^ k < 2 ^ 64 := Nat.lt_of_le_of_lt (Nat.div_le_self _ _) hv
  have := and64 (b := 1) h1 (by decide)
  rw [Nat.and_one_is_mod] at this
  exact this
-- part Fo
-- part Fq
abbrev Rw := Int × Int × Int × Int × Int × Int × Int
@[reducible] def rwC (r : Rw) : List Value := [.int .i64 r.1, .int .i64 r.2.1, .int .i64 r.2.2.1, .int .i64 r.2.2.2.1, .int .i64 r.2.2.2.2.1, .int .i64 r.2.2.2.2.2.1, .int .i64 r.2.2.2.2.2.2]
def bitRow (a s t : Int) (k : Nat) : Rw := (IntKind.i64.wrap (a + IntKind.i64.wrap (t * k)), IntKind.i64.wrap (IntKind.i64.wrap (a + IntKind.i64.wrap (t * k)) + s), 4, 4 + k, 0, 8, 1)
def bitsRw (a s t : Int) : Nat → List Rw
 | 0 => []
 | k + 1 => bitsRw a s t k ++ [bitRow a s t k]
def distRw : List Rw := [(0, 4, 4, 1, 0, 0, 1), (4, 8, 4, 2, 0, 0, 1)] ++ bitsRw 128 128 128 7 ++ [(1024, 2048, 4, 11, 0, 1, 1), (3072, 3328, 4, 12, 0, 4, 1), (24832, 32768, 8, 13, 32, 1, 8)]
def hitK (r : Rw) (off : Int) : Nat → Bool
 | 0 => false
 | k + 1 => hitK r off k || (decide (off + k ≥ r.1) && decide (off + k < r.2.1))
def plV (r : Rw) (off w : Int) : Int × Int × Int := (r.2.2.2.1, IntKind.i64.wrap (r.2.2.2.2.1 + IntKind.i64.wrap (IntKind.i64.wrap ((IntKind.i64.wrap (off - r.1)).tdiv r.2.2.2.2.2.2) * r.2.2.2.2.2.1)), IntKind.i64.wrap (IntKind.i64.wrap (w.tdiv r.2.2.2.2.2.2) * r.2.2.2.2.2.1))
def outV (r : Rw) (off w : Int) : (Int × Int × Int) × Int := if w = r.2.2.1 then (plV r off w, 0) else ((0, 0, 0), 40)
def findV (rows : List Rw) (size off w : Int) : (Int × Int × Int) × Int :=
 if w ≠ 4 ∧ w ≠ 8 then ((0, 0, 0), 40) else if off.tmod w ≠ 0 then ((0, 0, 0), 41) else if off < 0 ∨ off > size - w then ((0, 0, 0), 42) else
 match rows.find? fun r => hitK r off w.toNat with
 | some r => outV r off w
 | none => ((0, 0, 0), 0)
theorem find_at {α : Type} {f : α → Bool} {l : List α} {k : Nat} {a : α} (h : l[k]? = some a) (hf : f a = true) (hb : ∀ (j : Nat) (b : α), j < k → l[j]? = some b → f b = false) : l.find? f = some a := by
 induction l generalizing k with
 | nil => simp at h
 | cons x l ih =>
  cases k with
  | zero => simp at h; subst h; simp [hf]
  | succ k =>
   have hx : f x = false := hb 0 x (by omega) (by simp)
   rw [List.find?_cons, hx]
   exact ih (by simpa using h) (fun j b hj hl => hb (j + 1) b (by omega) (by simpa using hl))
theorem find_no {α : Type} {f : α → Bool} {l : List α} (hb : ∀ (j : Nat) (b : α), l[j]? = some b → f b = false) : l.find? f = none := by
 rw [List.find?_eq_none]
 intro x hx
 obtain ⟨j, hj, e⟩ := List.getElem_of_mem hx
 simp [hb j x (by rw [← e]; exact List.getElem?_eq_getElem hj)]
def plC (x : Int × Int × Int) : Value := .agg #[.int .i64 x.1, .int .i64 x.2.1, .int .i64 x.2.2]
def distV (off w : Int) : (Int × Int × Int) × Int := findV distRw 65536 off w
-- part Fp
def zeroL : Ln := ((false, false, false, false), false, 0, 0)
theorem wrap_id {x : Int} (h0 : -9223372036854775808 ≤ x) (h1 : x ≤ 9223372036854775807) : IntKind.i64.wrap x = x := by rw [wrap_i64]; split <;> omega
theorem u8_mod {a : Int} (h0 : 0 ≤ a) (h1 : a ≤ 255) (m : Int) (hm : 0 < m) (hm2 : m ≤ 1000) : IntKind.i64.wrap (a.tmod m) = a % m := by
 rw [Int.tmod_eq_emod_of_nonneg h0]
 have h2 := Int.emod_nonneg a (show m ≠ 0 by omega)
 have h3 := Int.emod_lt_of_pos a hm
 rw [wrap_i64]; split <;> omega
-- part Ge
theorem and64_1 {a : Nat} (h : a < 2 ^ 64) : IntKind.u64.wrap ((BitVec.ofInt IntKind.u64.bits (a : Int) &&& BitVec.ofInt IntKind.u64.bits 1).toNat : Int) = ((a % 2 : Nat) : Int) := by
 have := and64 (b := 1) h (by decide)
 rw [Nat.and_one_is_mod] at this
 exact this
-- part Gf<
end Go.Proofs.YtakkogdmlbkdaaaGreatDoor.Sl
