/-
  Part 4 of the proof: contracts of the code's functions, and what is plain.
-/
import Derived.Test.YthhfoppaaehepaaGreatDoorM3
import Derived.Test.YthhfoppaaehepaaGreatDoorM2
import Derived.Laws.BytesArg
namespace Go.Proofs.YthhfoppaaehepaaGreatDoor.Sl
open Go Go.RowKit Go.Proofs
set_option linter.unusedVariables false
set_option linter.unusedSimpArgs false
attribute [local irreducible] CW Tri OW
set_option maxRecDepth 10000
@[reducible] def pk112 : List (Nat × Plan) := [(1, [(0, 0, []), (1, 0, []), (2, 0, []), (3, 0, []), (4, 0, []), (5, 0, []), (6, 0, []), (7, 0, []), (8, 1, [3, 5, 7]), (9, 0, []), (10, 0, []), (11, 0, []), (12, 2, []), (13, 1, []), (14, 0, [])]), (5, [(0, 0, []), (1, 0, []), (2, 0, []), (3, 1, [1, 2]), (4, 0, []), (5, 0, []), (6, 2, []), (7, 1, [])]), (6, [(0, 0, []), (1, 0, []), (2, 0, []), (3, 0, []), (4, 0, []), (5, 0, []), (6, 1, [1, 4, 5]), (7, 0, []), (8, 0, []), (9, 0, []), (10, 0, []), (11, 0, []), (12, 0, []), (13, 0, []), (14, 0, []), (15, 1, [1, 4, 5, 9, 14]), (16, 0, []), (17, 0, []), (18, 0, []), (19, 0, []), (20, 0, []), (21, 0, []), (22, 0, []), (23, 1, [1, 4, 5, 9, 14, 18, 22]), (24, 0, []), (25, 0, []), (26, 0, []), (27, 0, []), (28, 0, []), (29, 0, []), (30, 0, []), (31, 0, []), (32, 1, [1, 4, 5, 9, 14, 18, 22, 26, 31]), (33, 0, []), (34, 0, [])]), (18, [(0, 0, []), (1, 0, []), (2, 0, []), (3, 0, []), (4, 0, []), (5, 0, []), (6, 0, []), (7, 0, []), (8, 0, []), (9, 1, [3, 5, 7, 8]), (10, 0, [])])]
theorem cwtk {P : Program} {β : Base} {cx : Cx} {N : Nat} {c : Code} {env : Env} {L As F B : List Atom} {Q : Post} (e : Ent As B) (k : CW P β cx N c env (B ++ F) Q) (h : Tk As L F := by repeat (first | exact .n | exact Rm.h | apply Tk.c | apply Rm.t)) : CW P β cx N c env L Q := CW.ent (h.gives.trans (Ent.append e (Ent.refl F))) k
set_option maxHeartbeats 16000000 in
theorem mapd112 (β : Base) (r m g : Nat) (q : Option Addr) (n p0 p1 p2 : Nat) {p : Int} (hp : p = 0 ∨ p = 32) (c : Cm) : Tri Tryz.prog β 112 [.pointer (some ⟨r, 0, none⟩), .agg #[.pointer (some ⟨m, 0, none⟩), .slice q 3 n], .agg #[.int .i64 c.1, .int .i64 c.2.1, .int .i64 c.2.2.1, .int .i64 c.2.2.2.1, .int .i64 c.2.2.2.2.1, .int .i64 c.2.2.2.2.2.1, .int .i64 c.2.2.2.2.2.2.1, .int .i64 c.2.2.2.2.2.2.2.1, .bool c.2.2.2.2.2.2.2.2]] [diA r p, dmA m g, rowA q 3 (([p0, p1, p2] : List Nat).flatMap ptC), dlA p0 0, dlA p1 1, dlA p2 2] (fun v L => (∃ e, v = .int .i64 e) ∧ L = [diA r p, dmA m g, rowA q 3 (([p0, p1, p2] : List Nat).flatMap ptC), dlA p0 0, dlA p1 1, dlA p2 2]) := by
  refine Tri.intro tt_ok Tryz.func112 rfl rfl Tryz.ntmps112 rfl fun F => ?_
  obtain ⟨op, dev, ev, num, coll, tgt, b, a, v⟩ := c
  (refine G tt_ok pk112 ?_; repeat (refine G1 tt_ok pk112 ?_; intro _))
  rename_i c4 c5
  refine SQ.ent _ (Rm.to (A := diA r p) (by repeat (first | exact Rm.h | apply Rm.t)) (Ent.refl [diA r p])) ?_; refine SQ.open_ fun x => SQ.pure_ fun hx => ?_; obtain ⟨on, st, i, j⟩ := x; obtain ⟨hi, hj⟩ := hx; simp only at hi hj ⊢
  (refine G tt_ok pk112 ?_; repeat (refine G1 tt_ok pk112 ?_; intro _))
  (refine ka rfl rfl (get140 β m g 0 64 hp dev) ?_; rintro _ _ ⟨⟨⟨d0, d1, d2⟩, e, rfl⟩, rfl⟩; refine w_ ?_)
  (refine G tt_ok pk112 ?_; repeat (refine G1 tt_ok pk112 ?_; intro _))
  rename_i c7
  refine cwtk (As := [pt r (itC on st i j p)]) (di_close on st hi hj) ?_
  cases (e != 0) with
  | true =>
    (refine G tt_ok pk112 ?_; repeat (refine G1 tt_ok pk112 ?_; intro _))
    exact CW.ret (fin_ret rfl pk_ ⟨⟨_, rfl⟩, rfl⟩)
  | false =>
    (refine G tt_ok pk112 ?_; repeat (refine G1 tt_ok pk112 ?_; intro _))
    rename_i c9
    (refine ka rfl rfl (events141 β (v, b, a)) ?_; rintro _ _ ⟨⟨nev, rfl⟩, rfl⟩; refine w_ ?_)
    generalize hsz : IntKind.i64.wrap (8 * nev) = sz
    (refine G tt_ok pk112 ?_; repeat (refine G1 tt_ok pk112 ?_; intro _))
    rw [hsz]
    (refine G tt_ok pk112 ?_; repeat (refine G1 tt_ok pk112 ?_; intro _))
    rename_i c10
    cases v with
    | false =>
      (refine G tt_ok pk112 ?_; repeat (refine G1 tt_ok pk112 ?_; intro _))
      cases d0 with
      | false =>
        (refine G tt_ok pk112 ?_; repeat (refine G1 tt_ok pk112 ?_; intro _))
        refine SQ.ent _ (Rm.to (A := diA r p) (by repeat (first | exact Rm.h | apply Rm.t)) (Ent.refl [diA r p])) ?_; refine SQ.open_ fun x => SQ.pure_ fun hx => ?_; obtain ⟨on, st, i, j⟩ := x; obtain ⟨hi, hj⟩ := hx; simp only at hi hj ⊢
        (refine G tt_ok pk112 ?_; repeat (refine G1 tt_ok pk112 ?_; intro _))
        (refine ka rfl rfl (put146 β m g 0 64 hp dev (false, b, a)) ?_; rintro _ _ ⟨⟨_, rfl⟩, rfl⟩; refine w_ ?_)
        (refine G tt_ok pk112 ?_; repeat (refine G1 tt_ok pk112 ?_; intro _))
        exact CW.ret (fin_ret rfl (A := [diA r p, dmA m g, rowA q 3 (([p0, p1, p2] : List Nat).flatMap ptC), dlA p0 0, dlA p1 1, dlA p2 2]) (Ent.trans (M := [pt r (itC on st i j p)] ++ [dmA m g, rowA q 3 (([p0, p1, p2] : List Nat).flatMap ptC), dlA p0 0, dlA p1 1, dlA p2 2]) pk_ (Ent.append (di_close on st hi hj) (Ent.refl _))) ⟨⟨_, rfl⟩, rfl⟩)
      | true =>
        (refine G tt_ok pk112 ?_; repeat (refine G1 tt_ok pk112 ?_; intro _))
        refine CW.loop (α := Int) (fun x => 0 ≤ x ∧ x ≤ 16384) (fun x => [(11, .int .i64 x), (0, .pointer (some ⟨r, 0, none⟩)), (4, .pointer (some ⟨c4, 0, none⟩)), (5, .pointer (some ⟨c5, 0, none⟩)), (7, .pointer (some ⟨c7, 0, none⟩)), (9, .pointer (some ⟨c9, 0, none⟩)), (10, .pointer (some ⟨c10, 0, none⟩))])
          (fun x => [pt c4 [.pointer (some ⟨m, 0, none⟩), .slice q 3 n], pt c5 (cmC (op, dev, ev, num, coll, tgt, b, a, false)), pt c7 [.bool true, .int .i64 d1, .int .i64 d2], pt c9 [.bool false, .int .i64 b, .int .i64 a], pt c10 [.int .i64 a, .int .i64 sz], diA r p, dmA m g, rowA q 3 (([p0, p1, p2] : List Nat).flatMap ptC), dlA p0 0, dlA p1 1, dlA p2 2]) (fun x => (16384 - x).toNat) 0 (by omega) ⟨rfl, rfl, rfl, rfl, rfl, rfl, rfl, trivial⟩ pk_ ?_
        intro k hk
        (refine G tt_ok pk112 ?_; repeat (refine G1 tt_ok pk112 ?_; intro _))
        by_cases hlt : k < 16384
        · rw [decide_eq_true (show k < 16384 by omega)]
          have e : IntKind.i64.wrap (k + 1) = k + 1 := wrap_id (by omega) (by omega)
          (refine G tt_ok pk112 ?_; repeat (refine G1 tt_ok pk112 ?_; intro _))
          (refine ka rfl rfl (route143 β m g (true, d1, d2) k) ?_; rintro _ _ ⟨⟨⟨r0, r1, r2⟩, e2, rfl⟩, rfl⟩; refine w_ ?_)
          (refine G tt_ok pk112 ?_; repeat (refine G1 tt_ok pk112 ?_; intro _))
          cases (e2 != 0) with
          | true =>
            (refine G tt_ok pk112 ?_; repeat (refine G1 tt_ok pk112 ?_; intro _))
            refine CW.exit ?_
            (refine G tt_ok pk112 ?_; repeat (refine G1 tt_ok pk112 ?_; intro _))
            refine SQ.ent _ (Rm.to (A := diA r p) (by repeat (first | exact Rm.h | apply Rm.t)) (Ent.refl [diA r p])) ?_; refine SQ.open_ fun x => SQ.pure_ fun hx => ?_; obtain ⟨on, st, i, j⟩ := x; obtain ⟨hi, hj⟩ := hx; simp only at hi hj ⊢
            (refine G tt_ok pk112 ?_; repeat (refine G1 tt_ok pk112 ?_; intro _))
            (refine ka rfl rfl (put146 β m g 0 64 hp dev (false, b, a)) ?_; rintro _ _ ⟨⟨_, rfl⟩, rfl⟩; refine w_ ?_)
            (refine G tt_ok pk112 ?_; repeat (refine G1 tt_ok pk112 ?_; intro _))
            exact CW.ret (fin_ret rfl (A := [diA r p, dmA m g, rowA q 3 (([p0, p1, p2] : List Nat).flatMap ptC), dlA p0 0, dlA p1 1, dlA p2 2]) (Ent.trans (M := [pt r (itC on st i j p)] ++ [dmA m g, rowA q 3 (([p0, p1, p2] : List Nat).flatMap ptC), dlA p0 0, dlA p1 1, dlA p2 2]) pk_ (Ent.append (di_close on st hi hj) (Ent.refl _))) ⟨⟨_, rfl⟩, rfl⟩)
          | false =>
            (refine G tt_ok pk112 ?_; repeat (refine G1 tt_ok pk112 ?_; intro _))
            cases r2 with
            | false =>
              (refine G tt_ok pk112 ?_; repeat (refine G1 tt_ok pk112 ?_; intro _))
              exact ⟨k + 1, by omega, by omega, ⟨congrArg (fun z => some (Value.int IntKind.i64 z)) e, rfl, rfl, rfl, rfl, rfl, rfl, trivial⟩, pk_⟩
            | true =>
              (refine G tt_ok pk112 ?_; repeat (refine G1 tt_ok pk112 ?_; intro _))
              refine ke rfl rfl (forget144 β r m g q n p0 p1 p2 hp (true, d1, d2) k (r0, r1, true)) ?_
              (refine G tt_ok pk112 ?_; repeat (refine G1 tt_ok pk112 ?_; intro _))
              exact ⟨k + 1, by omega, by omega, ⟨congrArg (fun z => some (Value.int IntKind.i64 z)) e, rfl, rfl, rfl, rfl, rfl, rfl, trivial⟩, pk_⟩
        · rw [decide_eq_false (show ¬ k < 16384 by omega)]
          (refine G tt_ok pk112 ?_; repeat (refine G1 tt_ok pk112 ?_; intro _))
          refine CW.exit ?_
          (refine G tt_ok pk112 ?_; repeat (refine G1 tt_ok pk112 ?_; intro _))
          refine SQ.ent _ (Rm.to (A := diA r p) (by repeat (first | exact Rm.h | apply Rm.t)) (Ent.refl [diA r p])) ?_; refine SQ.open_ fun x => SQ.pure_ fun hx => ?_; obtain ⟨on, st, i, j⟩ := x; obtain ⟨hi, hj⟩ := hx; simp only at hi hj ⊢
          (refine G tt_ok pk112 ?_; repeat (refine G1 tt_ok pk112 ?_; intro _))
          (refine ka rfl rfl (put146 β m g 0 64 hp dev (false, b, a)) ?_; rintro _ _ ⟨⟨_, rfl⟩, rfl⟩; refine w_ ?_)
          (refine G tt_ok pk112 ?_; repeat (refine G1 tt_ok pk112 ?_; intro _))
          exact CW.ret (fin_ret rfl (A := [diA r p, dmA m g, rowA q 3 (([p0, p1, p2] : List Nat).flatMap ptC), dlA p0 0, dlA p1 1, dlA p2 2]) (Ent.trans (M := [pt r (itC on st i j p)] ++ [dmA m g, rowA q 3 (([p0, p1, p2] : List Nat).flatMap ptC), dlA p0 0, dlA p1 1, dlA p2 2]) pk_ (Ent.append (di_close on st hi hj) (Ent.refl _))) ⟨⟨_, rfl⟩, rfl⟩)
    | true =>
      (refine G tt_ok pk112 ?_; repeat (refine G1 tt_ok pk112 ?_; intro _))
      refine ke rfl rfl (holds100 β m g a sz) ?_
      cases holdsV 4096 a sz with
      | false =>
        (refine G tt_ok pk112 ?_; repeat (refine G1 tt_ok pk112 ?_; intro _))
        exact CW.ret (fin_ret rfl pk_ ⟨⟨_, rfl⟩, rfl⟩)
      | true =>
        (refine G tt_ok pk112 ?_; repeat (refine G1 tt_ok pk112 ?_; intro _))
        refine SQ.ent _ (Rm.to (A := diA r p) (by repeat (first | exact Rm.h | apply Rm.t)) (Ent.refl [diA r p])) ?_; refine SQ.open_ fun x => SQ.pure_ fun hx => ?_; obtain ⟨on, st, i, j⟩ := x; obtain ⟨hi, hj⟩ := hx; simp only at hi hj ⊢
        (refine G tt_ok pk112 ?_; repeat (refine G1 tt_ok pk112 ?_; intro _))
        (refine ka rfl rfl (meet142 β a sz 0 64) ?_; rintro _ _ ⟨⟨b1, rfl⟩, rfl⟩; refine w_ ?_)
        cases b1 with
        | true =>
          (refine G tt_ok pk112 ?_; repeat (refine G1 tt_ok pk112 ?_; intro _))
          exact CW.ret (fin_ret rfl (A := [diA r p, dmA m g, rowA q 3 (([p0, p1, p2] : List Nat).flatMap ptC), dlA p0 0, dlA p1 1, dlA p2 2]) (Ent.trans (M := [pt r (itC on st i j p)] ++ [dmA m g, rowA q 3 (([p0, p1, p2] : List Nat).flatMap ptC), dlA p0 0, dlA p1 1, dlA p2 2]) pk_ (Ent.append (di_close on st hi hj) (Ent.refl _))) ⟨⟨_, rfl⟩, rfl⟩)
        | false =>
          (refine G tt_ok pk112 ?_; repeat (refine G1 tt_ok pk112 ?_; intro _))
          (refine ka rfl rfl (meet142 β a sz 64 64) ?_; rintro _ _ ⟨⟨b2, rfl⟩, rfl⟩; refine w_ ?_)
          cases b2 with
          | true =>
            (refine G tt_ok pk112 ?_; repeat (refine G1 tt_ok pk112 ?_; intro _))
            exact CW.ret (fin_ret rfl (A := [diA r p, dmA m g, rowA q 3 (([p0, p1, p2] : List Nat).flatMap ptC), dlA p0 0, dlA p1 1, dlA p2 2]) (Ent.trans (M := [pt r (itC on st i j p)] ++ [dmA m g, rowA q 3 (([p0, p1, p2] : List Nat).flatMap ptC), dlA p0 0, dlA p1 1, dlA p2 2]) pk_ (Ent.append (di_close on st hi hj) (Ent.refl _))) ⟨⟨_, rfl⟩, rfl⟩)
          | false =>
            (refine G tt_ok pk112 ?_; repeat (refine G1 tt_ok pk112 ?_; intro _))
            (refine ka rfl rfl (meet142 β a sz 128 320) ?_; rintro _ _ ⟨⟨b3, rfl⟩, rfl⟩; refine w_ ?_)
            cases b3 with
            | true =>
              (refine G tt_ok pk112 ?_; repeat (refine G1 tt_ok pk112 ?_; intro _))
              exact CW.ret (fin_ret rfl (A := [diA r p, dmA m g, rowA q 3 (([p0, p1, p2] : List Nat).flatMap ptC), dlA p0 0, dlA p1 1, dlA p2 2]) (Ent.trans (M := [pt r (itC on st i j p)] ++ [dmA m g, rowA q 3 (([p0, p1, p2] : List Nat).flatMap ptC), dlA p0 0, dlA p1 1, dlA p2 2]) pk_ (Ent.append (di_close on st hi hj) (Ent.refl _))) ⟨⟨_, rfl⟩, rfl⟩)
            | false =>
              (refine G tt_ok pk112 ?_; repeat (refine G1 tt_ok pk112 ?_; intro _))
              refine cwtk (As := [pt r (itC on st i j p)]) (di_close on st hi hj) ?_
              cases d0 with
              | false =>
                (refine G tt_ok pk112 ?_; repeat (refine G1 tt_ok pk112 ?_; intro _))
                (refine ka rfl rfl (wipe145 β m g a _) ?_; rintro _ _ ⟨⟨_, rfl⟩, rfl⟩; refine w_ ?_)
                (refine G tt_ok pk112 ?_; repeat (refine G1 tt_ok pk112 ?_; intro _))
                refine SQ.ent _ (Rm.to (A := diA r p) (by repeat (first | exact Rm.h | apply Rm.t)) (Ent.refl [diA r p])) ?_; refine SQ.open_ fun x => SQ.pure_ fun hx => ?_; obtain ⟨on, st, i, j⟩ := x; obtain ⟨hi, hj⟩ := hx; simp only at hi hj ⊢
                (refine G tt_ok pk112 ?_; repeat (refine G1 tt_ok pk112 ?_; intro _))
                (refine ka rfl rfl (put146 β m g 0 64 hp dev (true, b, a)) ?_; rintro _ _ ⟨⟨_, rfl⟩, rfl⟩; refine w_ ?_)
                (refine G tt_ok pk112 ?_; repeat (refine G1 tt_ok pk112 ?_; intro _))
                exact CW.ret (fin_ret rfl (A := [diA r p, dmA m g, rowA q 3 (([p0, p1, p2] : List Nat).flatMap ptC), dlA p0 0, dlA p1 1, dlA p2 2]) (Ent.trans (M := [pt r (itC on st i j p)] ++ [dmA m g, rowA q 3 (([p0, p1, p2] : List Nat).flatMap ptC), dlA p0 0, dlA p1 1, dlA p2 2]) pk_ (Ent.append (di_close on st hi hj) (Ent.refl _))) ⟨⟨_, rfl⟩, rfl⟩)
              | true =>
                (refine G tt_ok pk112 ?_; repeat (refine G1 tt_ok pk112 ?_; intro _))
                refine CW.loop (α := Int) (fun x => 0 ≤ x ∧ x ≤ 16384) (fun x => [(11, .int .i64 x), (0, .pointer (some ⟨r, 0, none⟩)), (4, .pointer (some ⟨c4, 0, none⟩)), (5, .pointer (some ⟨c5, 0, none⟩)), (7, .pointer (some ⟨c7, 0, none⟩)), (9, .pointer (some ⟨c9, 0, none⟩)), (10, .pointer (some ⟨c10, 0, none⟩))])
                  (fun x => [pt c4 [.pointer (some ⟨m, 0, none⟩), .slice q 3 n], pt c5 (cmC (op, dev, ev, num, coll, tgt, b, a, true)), pt c7 [.bool true, .int .i64 d1, .int .i64 d2], pt c9 [.bool true, .int .i64 b, .int .i64 a], pt c10 [.int .i64 a, .int .i64 sz], diA r p, dmA m g, rowA q 3 (([p0, p1, p2] : List Nat).flatMap ptC), dlA p0 0, dlA p1 1, dlA p2 2]) (fun x => (16384 - x).toNat) 0 (by omega) ⟨rfl, rfl, rfl, rfl, rfl, rfl, rfl, trivial⟩ pk_ ?_
                intro k hk
                (refine G tt_ok pk112 ?_; repeat (refine G1 tt_ok pk112 ?_; intro _))
                by_cases hlt : k < 16384
                · rw [decide_eq_true (show k < 16384 by omega)]
                  have e : IntKind.i64.wrap (k + 1) = k + 1 := wrap_id (by omega) (by omega)
                  (refine G tt_ok pk112 ?_; repeat (refine G1 tt_ok pk112 ?_; intro _))
                  (refine ka rfl rfl (route143 β m g (true, d1, d2) k) ?_; rintro _ _ ⟨⟨⟨r0, r1, r2⟩, e2, rfl⟩, rfl⟩; refine w_ ?_)
                  (refine G tt_ok pk112 ?_; repeat (refine G1 tt_ok pk112 ?_; intro _))
                  cases (e2 != 0) with
                  | true =>
                    (refine G tt_ok pk112 ?_; repeat (refine G1 tt_ok pk112 ?_; intro _))
                    refine CW.exit ?_
                    (refine G tt_ok pk112 ?_; repeat (refine G1 tt_ok pk112 ?_; intro _))
                    (refine ka rfl rfl (wipe145 β m g a _) ?_; rintro _ _ ⟨⟨_, rfl⟩, rfl⟩; refine w_ ?_)
                    (refine G tt_ok pk112 ?_; repeat (refine G1 tt_ok pk112 ?_; intro _))
                    refine SQ.ent _ (Rm.to (A := diA r p) (by repeat (first | exact Rm.h | apply Rm.t)) (Ent.refl [diA r p])) ?_; refine SQ.open_ fun x => SQ.pure_ fun hx => ?_; obtain ⟨on, st, i, j⟩ := x; obtain ⟨hi, hj⟩ := hx; simp only at hi hj ⊢
                    (refine G tt_ok pk112 ?_; repeat (refine G1 tt_ok pk112 ?_; intro _))
                    (refine ka rfl rfl (put146 β m g 0 64 hp dev (true, b, a)) ?_; rintro _ _ ⟨⟨_, rfl⟩, rfl⟩; refine w_ ?_)
                    (refine G tt_ok pk112 ?_; repeat (refine G1 tt_ok pk112 ?_; intro _))
                    exact CW.ret (fin_ret rfl (A := [diA r p, dmA m g, rowA q 3 (([p0, p1, p2] : List Nat).flatMap ptC), dlA p0 0, dlA p1 1, dlA p2 2]) (Ent.trans (M := [pt r (itC on st i j p)] ++ [dmA m g, rowA q 3 (([p0, p1, p2] : List Nat).flatMap ptC), dlA p0 0, dlA p1 1, dlA p2 2]) pk_ (Ent.append (di_close on st hi hj) (Ent.refl _))) ⟨⟨_, rfl⟩, rfl⟩)
                  | false =>
                    (refine G tt_ok pk112 ?_; repeat (refine G1 tt_ok pk112 ?_; intro _))
                    cases r2 with
                    | false =>
                      (refine G tt_ok pk112 ?_; repeat (refine G1 tt_ok pk112 ?_; intro _))
                      exact ⟨k + 1, by omega, by omega, ⟨congrArg (fun z => some (Value.int IntKind.i64 z)) e, rfl, rfl, rfl, rfl, rfl, rfl, trivial⟩, pk_⟩
                    | true =>
                      (refine G tt_ok pk112 ?_; repeat (refine G1 tt_ok pk112 ?_; intro _))
                      refine ke rfl rfl (forget144 β r m g q n p0 p1 p2 hp (true, d1, d2) k (r0, r1, true)) ?_
                      (refine G tt_ok pk112 ?_; repeat (refine G1 tt_ok pk112 ?_; intro _))
                      exact ⟨k + 1, by omega, by omega, ⟨congrArg (fun z => some (Value.int IntKind.i64 z)) e, rfl, rfl, rfl, rfl, rfl, rfl, trivial⟩, pk_⟩
                · rw [decide_eq_false (show ¬ k < 16384 by omega)]
                  (refine G tt_ok pk112 ?_; repeat (refine G1 tt_ok pk112 ?_; intro _))
                  refine CW.exit ?_
                  (refine G tt_ok pk112 ?_; repeat (refine G1 tt_ok pk112 ?_; intro _))
                  (refine ka rfl rfl (wipe145 β m g a _) ?_; rintro _ _ ⟨⟨_, rfl⟩, rfl⟩; refine w_ ?_)
                  (refine G tt_ok pk112 ?_; repeat (refine G1 tt_ok pk112 ?_; intro _))
                  refine SQ.ent _ (Rm.to (A := diA r p) (by repeat (first | exact Rm.h | apply Rm.t)) (Ent.refl [diA r p])) ?_; refine SQ.open_ fun x => SQ.pure_ fun hx => ?_; obtain ⟨on, st, i, j⟩ := x; obtain ⟨hi, hj⟩ := hx; simp only at hi hj ⊢
                  (refine G tt_ok pk112 ?_; repeat (refine G1 tt_ok pk112 ?_; intro _))
                  (refine ka rfl rfl (put146 β m g 0 64 hp dev (true, b, a)) ?_; rintro _ _ ⟨⟨_, rfl⟩, rfl⟩; refine w_ ?_)
                  (refine G tt_ok pk112 ?_; repeat (refine G1 tt_ok pk112 ?_; intro _))
                  exact CW.ret (fin_ret rfl (A := [diA r p, dmA m g, rowA q 3 (([p0, p1, p2] : List Nat).flatMap ptC), dlA p0 0, dlA p1 1, dlA p2 2]) (Ent.trans (M := [pt r (itC on st i j p)] ++ [dmA m g, rowA q 3 (([p0, p1, p2] : List Nat).flatMap ptC), dlA p0 0, dlA p1 1, dlA p2 2]) pk_ (Ent.append (di_close on st hi hj) (Ent.refl _))) ⟨⟨_, rfl⟩, rfl⟩)
end Go.Proofs.YthhfoppaaehepaaGreatDoor.Sl
namespace Go.Proofs.YthhfoppaaehepaaGreatDoor.Sl
open Go Go.RowKit Go.Proofs
set_option linter.unusedVariables false
set_option linter.unusedSimpArgs false
attribute [local irreducible] CW Tri OW
set_option maxRecDepth 10000
@[reducible] def pk114 : List (Nat × Plan) := [(9, [(0, 0, []), (1, 0, []), (2, 0, []), (3, 0, []), (4, 0, []), (5, 0, []), (6, 0, []), (7, 0, []), (8, 1, [1, 5, 7]), (9, 0, []), (10, 0, []), (11, 0, []), (12, 0, []), (13, 0, [])]), (16, [(0, 0, []), (1, 0, []), (2, 0, []), (3, 0, []), (4, 0, []), (5, 0, []), (6, 0, []), (7, 0, []), (8, 1, [1, 4, 6])])]
@[reducible] def pk115 : List (Nat × Plan) := [(9, [(0, 0, []), (1, 0, []), (2, 0, []), (3, 0, []), (4, 0, []), (5, 0, []), (6, 0, []), (7, 0, []), (8, 0, []), (9, 0, []), (10, 0, []), (11, 0, []), (12, 0, []), (13, 0, []), (14, 0, []), (15, 0, []), (16, 0, []), (17, 1, [1, 3, 5, 8, 10, 13])]), (10, [(0, 0, []), (1, 0, []), (2, 0, []), (3, 0, []), (4, 0, []), (5, 0, []), (6, 0, []), (7, 0, []), (8, 0, []), (9, 1, [1, 4, 6, 8])])]
@[reducible] def pk118 : List (Nat × Plan) := [(11, [(0, 0, []), (1, 0, []), (2, 0, []), (3, 0, []), (4, 0, []), (5, 0, []), (6, 0, []), (7, 0, []), (8, 0, []), (9, 1, [1, 4, 6, 8]), (10, 0, [])]), (12, [(0, 0, []), (1, 0, []), (2, 0, []), (3, 0, []), (4, 0, []), (5, 0, []), (6, 0, []), (7, 0, []), (8, 0, []), (9, 0, []), (10, 0, []), (11, 0, []), (12, 1, [1, 4, 6, 8, 10]), (13, 0, []), (14, 0, []), (15, 0, []), (16, 0, [])])]
@[reducible] def pk61 : List (Nat × Plan) := [(10, [(0, 0, []), (1, 0, []), (2, 0, []), (3, 0, []), (4, 0, []), (5, 0, []), (6, 0, []), (7, 0, []), (8, 0, []), (9, 0, []), (10, 0, []), (11, 0, []), (12, 1, [1, 5, 7, 9, 11]), (13, 0, [])]), (20, [(0, 0, []), (1, 0, []), (2, 0, []), (3, 0, []), (4, 0, []), (5, 0, []), (6, 0, []), (7, 1, [1, 4, 6])]), (27, [(0, 0, []), (1, 0, []), (2, 0, []), (3, 0, []), (4, 0, []), (5, 0, []), (6, 0, []), (7, 0, []), (8, 0, []), (9, 0, []), (10, 0, []), (11, 0, []), (12, 0, []), (13, 0, []), (14, 0, []), (15, 0, []), (16, 0, []), (17, 0, []), (18, 0, []), (19, 1, [1, 3, 5, 7, 9, 11, 13, 15, 17])])]
@[reducible] def pk67 : List (Nat × Plan) := []
@[reducible] def pk63 : List (Nat × Plan) := [(5, [(0, 0, []), (1, 0, []), (2, 0, []), (3, 0, []), (4, 0, []), (5, 0, []), (6, 1, [3, 5]), (7, 0, []), (8, 0, []), (9, 0, []), (10, 2, []), (11, 1, []), (12, 0, [])])]
@[reducible] def pk65 : List (Nat × Plan) := []
set_option maxHeartbeats 16000000 in
theorem mapti114 (β : Base) (r m g : Nat) (q : Option Addr) (n p0 p1 p2 : Nat) {p : Int} (hp : p = 0 ∨ p = 32) (c : Cm) (nn : Int) : Tri Tryz.prog β 114 [.pointer (some ⟨r, 0, none⟩), .agg #[.pointer (some ⟨m, 0, none⟩), .slice q 3 n], .agg #[.int .i64 c.1, .int .i64 c.2.1, .int .i64 c.2.2.1, .int .i64 c.2.2.2.1, .int .i64 c.2.2.2.2.1, .int .i64 c.2.2.2.2.2.1, .int .i64 c.2.2.2.2.2.2.1, .int .i64 c.2.2.2.2.2.2.2.1, .bool c.2.2.2.2.2.2.2.2], .int .i64 nn] [diA r p, dmA m g, rowA q 3 (([p0, p1, p2] : List Nat).flatMap ptC), dlA p0 0, dlA p1 1, dlA p2 2] (fun v L => (∃ e, v = .int .i64 e) ∧ L = [diA r p, dmA m g, rowA q 3 (([p0, p1, p2] : List Nat).flatMap ptC), dlA p0 0, dlA p1 1, dlA p2 2]) := by
  refine Tri.intro tt_ok Tryz.func114 rfl rfl Tryz.ntmps114 rfl fun F => ?_
  obtain ⟨op, dev, ev, num, coll, tgt, b, a, v⟩ := c
  (refine G tt_ok pk114 ?_; repeat (refine G1 tt_ok pk114 ?_; intro _))
  (refine ka rfl rfl (device147 β r m g q n hp dev) ?_; rintro _ _ ⟨⟨⟨d0, d1, d2⟩, e, rfl⟩, rfl⟩; refine w_ ?_)
  (refine G tt_ok pk114 ?_; repeat (refine G1 tt_ok pk114 ?_; intro _))
  cases (e != 0) with
  | true =>
    (refine G tt_ok pk114 ?_; repeat (refine G1 tt_ok pk114 ?_; intro _))
    exact CW.ret (fin_ret rfl pk_ ⟨⟨_, rfl⟩, rfl⟩)
  | false =>
    (refine G tt_ok pk114 ?_; repeat (refine G1 tt_ok pk114 ?_; intro _))
    (refine ka rfl rfl (route143 β m g (d0, d1, d2) ev) ?_; rintro _ _ ⟨⟨⟨r0, r1, r2⟩, e2, rfl⟩, rfl⟩; refine w_ ?_)
    (refine G tt_ok pk114 ?_; repeat (refine G1 tt_ok pk114 ?_; intro _))
    cases (e2 != 0) with
    | true =>
      (refine G tt_ok pk114 ?_; repeat (refine G1 tt_ok pk114 ?_; intro _))
      exact CW.ret (fin_ret rfl pk_ ⟨⟨_, rfl⟩, rfl⟩)
    | false =>
      (refine G tt_ok pk114 ?_; repeat (refine G1 tt_ok pk114 ?_; intro _))
      cases decide (nn < 8192) with
      | true =>
        (refine G tt_ok pk114 ?_; repeat (refine G1 tt_ok pk114 ?_; intro _))
        exact CW.ret (fin_ret rfl pk_ ⟨⟨_, rfl⟩, rfl⟩)
      | false =>
        (refine G tt_ok pk114 ?_; repeat (refine G1 tt_ok pk114 ?_; intro _))
        cases decide (nn > 16383) with
        | true =>
          (refine G tt_ok pk114 ?_; repeat (refine G1 tt_ok pk114 ?_; intro _))
          exact CW.ret (fin_ret rfl pk_ ⟨⟨_, rfl⟩, rfl⟩)
        | false =>
          (refine G tt_ok pk114 ?_; repeat (refine G1 tt_ok pk114 ?_; intro _))
          refine SQ.ent _ (Rm.to (A := diA r p) (by repeat (first | exact Rm.h | apply Rm.t)) (Ent.refl [diA r p])) ?_; refine SQ.open_ fun x => SQ.pure_ fun hx => ?_; obtain ⟨on, st, i, j⟩ := x; obtain ⟨hi, hj⟩ := hx; simp only at hi hj ⊢
          (refine G tt_ok pk114 ?_; repeat (refine G1 tt_ok pk114 ?_; intro _))
          (refine ka rfl rfl (target148 β m g 64 64 coll) ?_; rintro _ _ ⟨⟨tt_, bb, e3, rfl⟩, rfl⟩; refine w_ ?_)
          (refine G tt_ok pk114 ?_; repeat (refine G1 tt_ok pk114 ?_; intro _))
          refine cwtk (As := [pt r (itC on st i j p)]) (di_close on st hi hj) ?_
          cases (e3 != 0) with
          | true =>
            (refine G tt_ok pk114 ?_; repeat (refine G1 tt_ok pk114 ?_; intro _))
            exact CW.ret (fin_ret rfl pk_ ⟨⟨_, rfl⟩, rfl⟩)
          | false =>
            (refine G tt_ok pk114 ?_; repeat (refine G1 tt_ok pk114 ?_; intro _))
            cases r2 with
            | false =>
              (refine G tt_ok pk114 ?_; repeat (refine G1 tt_ok pk114 ?_; intro _))
              (refine ka rfl rfl (side116 β r m g q n p coll) ?_; rintro _ _ ⟨⟨t, e4, rfl, ht⟩, rfl⟩; refine w_ ?_)
              (refine G tt_ok pk114 ?_; repeat (refine G1 tt_ok pk114 ?_; intro _))
              by_cases he : e4 = 0
              · subst he
                have ht := ht rfl
                (refine G tt_ok pk114 ?_; repeat (refine G1 tt_ok pk114 ?_; intro _))
                rcases lt3 ht with rfl | rfl | rfl
                all_goals (
                  (refine SQ.idxG tt_ok rfl rfl ((slr_p q p0 p1 p2)) (by repeat (first | exact .h | apply AtA.t)) (_) (rfl) (ht) rfl ?_)
                  (refine G tt_ok pk114 ?_; repeat (refine G1 tt_ok pk114 ?_; intro _))
                  (refine SQ.ldG tt_ok rfl rfl ((slr_p q p0 p1 p2)) (by repeat (first | exact .h | apply AtA.t)) (by omega) (fun cur hcs => pt_curD hcs rfl) ?_)
                  (refine G tt_ok pk114 ?_; repeat (refine G1 tt_ok pk114 ?_; intro _))
                  (refine SQ.callA rfl rfl (inv149C β _ m g ht nn) (by repeat (first | exact .n | exact Rm.h | exact Rm.of own_row | exact Rm.of row_close0 | apply Tk.c | apply Rm.t)) ?_; rintro _ _ ⟨⟨_, rfl⟩, rfl⟩; refine ⟨(by repeat (first | exact trivial | refine ⟨trivial, ?_⟩ | refine ⟨RdAt.slr (slr_p q p0 p1 p2) (by repeat (first | exact .h | apply AtA.t)) (by omega) (fun cur hcs => pt_curD hcs rfl), ?_⟩ | refine ⟨wk (by repeat (first | exact .h | exact .q | apply At.t)) (by rfl), ?_⟩)), ?_⟩)
                  (refine G tt_ok pk114 ?_; repeat (refine G1 tt_ok pk114 ?_; intro _))
                  (refine ka rfl rfl (setRoute150 β m g (d0, d1, d2) ev (nn, coll, true)) ?_; rintro _ _ ⟨⟨_, rfl⟩, rfl⟩; refine w_ ?_)
                  (refine G tt_ok pk114 ?_; repeat (refine G1 tt_ok pk114 ?_; intro _))
                  exact CW.ret (fin_ret rfl pk_ ⟨⟨_, rfl⟩, rfl⟩))
              · rw [show (e4 == 0) = false by simp [he]]
                (refine G tt_ok pk114 ?_; repeat (refine G1 tt_ok pk114 ?_; intro _))
                (refine ka rfl rfl (setRoute150 β m g (d0, d1, d2) ev (nn, coll, true)) ?_; rintro _ _ ⟨⟨_, rfl⟩, rfl⟩; refine w_ ?_)
                (refine G tt_ok pk114 ?_; repeat (refine G1 tt_ok pk114 ?_; intro _))
                exact CW.ret (fin_ret rfl pk_ ⟨⟨_, rfl⟩, rfl⟩)
            | true =>
              (refine G tt_ok pk114 ?_; repeat (refine G1 tt_ok pk114 ?_; intro _))
              refine ke rfl rfl (forget144 β r m g q n p0 p1 p2 hp (d0, d1, d2) ev (r0, r1, true)) ?_
              (refine G tt_ok pk114 ?_; repeat (refine G1 tt_ok pk114 ?_; intro _))
              (refine ka rfl rfl (side116 β r m g q n p coll) ?_; rintro _ _ ⟨⟨t, e4, rfl, ht⟩, rfl⟩; refine w_ ?_)
              (refine G tt_ok pk114 ?_; repeat (refine G1 tt_ok pk114 ?_; intro _))
              by_cases he : e4 = 0
              · subst he
                have ht := ht rfl
                (refine G tt_ok pk114 ?_; repeat (refine G1 tt_ok pk114 ?_; intro _))
                rcases lt3 ht with rfl | rfl | rfl
                all_goals (
                  (refine SQ.idxG tt_ok rfl rfl ((slr_p q p0 p1 p2)) (by repeat (first | exact .h | apply AtA.t)) (_) (rfl) (ht) rfl ?_)
                  (refine G tt_ok pk114 ?_; repeat (refine G1 tt_ok pk114 ?_; intro _))
                  (refine SQ.ldG tt_ok rfl rfl ((slr_p q p0 p1 p2)) (by repeat (first | exact .h | apply AtA.t)) (by omega) (fun cur hcs => pt_curD hcs rfl) ?_)
                  (refine G tt_ok pk114 ?_; repeat (refine G1 tt_ok pk114 ?_; intro _))
                  (refine SQ.callA rfl rfl (inv149C β _ m g ht nn) (by repeat (first | exact .n | exact Rm.h | exact Rm.of own_row | exact Rm.of row_close0 | apply Tk.c | apply Rm.t)) ?_; rintro _ _ ⟨⟨_, rfl⟩, rfl⟩; refine ⟨(by repeat (first | exact trivial | refine ⟨trivial, ?_⟩ | refine ⟨RdAt.slr (slr_p q p0 p1 p2) (by repeat (first | exact .h | apply AtA.t)) (by omega) (fun cur hcs => pt_curD hcs rfl), ?_⟩ | refine ⟨wk (by repeat (first | exact .h | exact .q | apply At.t)) (by rfl), ?_⟩)), ?_⟩)
                  (refine G tt_ok pk114 ?_; repeat (refine G1 tt_ok pk114 ?_; intro _))
                  (refine ka rfl rfl (setRoute150 β m g (d0, d1, d2) ev (nn, coll, true)) ?_; rintro _ _ ⟨⟨_, rfl⟩, rfl⟩; refine w_ ?_)
                  (refine G tt_ok pk114 ?_; repeat (refine G1 tt_ok pk114 ?_; intro _))
                  exact CW.ret (fin_ret rfl pk_ ⟨⟨_, rfl⟩, rfl⟩))
              · rw [show (e4 == 0) = false by simp [he]]
                (refine G tt_ok pk114 ?_; repeat (refine G1 tt_ok pk114 ?_; intro _))
                (refine ka rfl rfl (setRoute150 β m g (d0, d1, d2) ev (nn, coll, true)) ?_; rintro _ _ ⟨⟨_, rfl⟩, rfl⟩; refine w_ ?_)
                (refine G tt_ok pk114 ?_; repeat (refine G1 tt_ok pk114 ?_; intro _))
                exact CW.ret (fin_ret rfl pk_ ⟨⟨_, rfl⟩, rfl⟩)
set_option maxHeartbeats 16000000 in
theorem movi115 (β : Base) (r m g : Nat) (q : Option Addr) (n p0 p1 p2 : Nat) {p : Int} (hp : p = 0 ∨ p = 32) (c : Cm) : Tri Tryz.prog β 115 [.pointer (some ⟨r, 0, none⟩), .agg #[.pointer (some ⟨m, 0, none⟩), .slice q 3 n], .agg #[.int .i64 c.1, .int .i64 c.2.1, .int .i64 c.2.2.1, .int .i64 c.2.2.2.1, .int .i64 c.2.2.2.2.1, .int .i64 c.2.2.2.2.2.1, .int .i64 c.2.2.2.2.2.2.1, .int .i64 c.2.2.2.2.2.2.2.1, .bool c.2.2.2.2.2.2.2.2]] [diA r p, dmA m g, rowA q 3 (([p0, p1, p2] : List Nat).flatMap ptC), dlA p0 0, dlA p1 1, dlA p2 2] (fun v L => (∃ e, v = .int .i64 e) ∧ L = [diA r p, dmA m g, rowA q 3 (([p0, p1, p2] : List Nat).flatMap ptC), dlA p0 0, dlA p1 1, dlA p2 2]) := by
  refine Tri.intro tt_ok Tryz.func115 rfl rfl Tryz.ntmps115 rfl fun F => ?_
  obtain ⟨op, dev, ev, num, coll, tgt, b, a, v⟩ := c
  (refine G tt_ok pk115 ?_; repeat (refine G1 tt_ok pk115 ?_; intro _))
  (refine ka rfl rfl (event151 β r m g q n hp dev ev) ?_; rintro _ _ ⟨⟨⟨d0, d1, d2⟩, ⟨r0, r1, r2⟩, e, rfl⟩, rfl⟩; refine w_ ?_)
  (refine G tt_ok pk115 ?_; repeat (refine G1 tt_ok pk115 ?_; intro _))
  cases (e != 0) with
  | true =>
    (refine G tt_ok pk115 ?_; repeat (refine G1 tt_ok pk115 ?_; intro _))
    exact CW.ret (fin_ret rfl pk_ ⟨⟨_, rfl⟩, rfl⟩)
  | false =>
    (refine G tt_ok pk115 ?_; repeat (refine G1 tt_ok pk115 ?_; intro _))
    (refine ka rfl rfl (side116 β r m g q n p coll) ?_; rintro _ _ ⟨⟨t, e2, rfl, ht⟩, rfl⟩; refine w_ ?_)
    (refine G tt_ok pk115 ?_; repeat (refine G1 tt_ok pk115 ?_; intro _))
    by_cases he : e2 = 0
    · subst he
      have ht := ht rfl
      (refine G tt_ok pk115 ?_; repeat (refine G1 tt_ok pk115 ?_; intro _))
      (refine ka rfl rfl (side116 β r m g q n p r1) ?_; rintro _ _ ⟨⟨f, e3, rfl, hf⟩, rfl⟩; refine w_ ?_)
      (refine G tt_ok pk115 ?_; repeat (refine G1 tt_ok pk115 ?_; intro _))
      by_cases he : e3 = 0
      · subst he
        have hf := hf rfl
        (refine G tt_ok pk115 ?_; repeat (refine G1 tt_ok pk115 ?_; intro _))
        rcases lt3 ht with rfl | rfl | rfl
        all_goals rcases lt3 hf with rfl | rfl | rfl
        all_goals (
          (refine SQ.idxG tt_ok rfl rfl ((slr_p q p0 p1 p2)) (by repeat (first | exact .h | apply AtA.t)) (_) (rfl) (hf) rfl ?_)
          (refine G tt_ok pk115 ?_; repeat (refine G1 tt_ok pk115 ?_; intro _))
          (refine SQ.ldG tt_ok rfl rfl ((slr_p q p0 p1 p2)) (by repeat (first | exact .h | apply AtA.t)) (by omega) (fun cur hcs => pt_curD hcs rfl) ?_)
          (refine G tt_ok pk115 ?_; repeat (refine G1 tt_ok pk115 ?_; intro _))
          (refine SQ.idxG tt_ok rfl rfl ((slr_p q p0 p1 p2)) (by repeat (first | exact .h | apply AtA.t)) (_) (rfl) (ht) rfl ?_)
          (refine G tt_ok pk115 ?_; repeat (refine G1 tt_ok pk115 ?_; intro _))
          (refine SQ.ldG tt_ok rfl rfl ((slr_p q p0 p1 p2)) (by repeat (first | exact .h | apply AtA.t)) (by omega) (fun cur hcs => pt_curD hcs rfl) ?_)
          (refine G tt_ok pk115 ?_; repeat (refine G1 tt_ok pk115 ?_; intro _))
          first | (refine SQ.callA rfl rfl (move152f β m 0 _ _ r0) (by repeat (first | exact .n | exact Rm.h | exact Rm.of own_row | exact Rm.of row_close0 | apply Tk.c | apply Rm.t)) ?_; rintro _ _ ⟨⟨_, rfl⟩, rfl⟩; refine ⟨(by repeat (first | exact trivial | refine ⟨trivial, ?_⟩ | refine ⟨RdAt.slr (slr_p q p0 p1 p2) (by repeat (first | exact .h | apply AtA.t)) (by omega) (fun cur hcs => pt_curD hcs rfl), ?_⟩ | refine ⟨wk (by repeat (first | exact .h | exact .q | apply At.t)) (by rfl), ?_⟩)), ?_⟩) | (refine SQ.callA rfl rfl (move152 β m g _ _ hf ht r0) (by repeat (first | exact .n | exact Rm.h | exact Rm.of own_row | exact Rm.of row_close0 | apply Tk.c | apply Rm.t)) ?_; rintro _ _ ⟨⟨_, rfl⟩, rfl⟩; refine ⟨(by repeat (first | exact trivial | refine ⟨trivial, ?_⟩ | refine ⟨RdAt.slr (slr_p q p0 p1 p2) (by repeat (first | exact .h | apply AtA.t)) (by omega) (fun cur hcs => pt_curD hcs rfl), ?_⟩ | refine ⟨wk (by repeat (first | exact .h | exact .q | apply At.t)) (by rfl), ?_⟩)), ?_⟩)
          (refine G tt_ok pk115 ?_; repeat (refine G1 tt_ok pk115 ?_; intro _))
          (refine SQ.idxG tt_ok rfl rfl ((slr_p q p0 p1 p2)) (by repeat (first | exact .h | apply AtA.t)) (_) (rfl) (ht) rfl ?_)
          (refine G tt_ok pk115 ?_; repeat (refine G1 tt_ok pk115 ?_; intro _))
          (refine SQ.ldG tt_ok rfl rfl ((slr_p q p0 p1 p2)) (by repeat (first | exact .h | apply AtA.t)) (by omega) (fun cur hcs => pt_curD hcs rfl) ?_)
          (refine G tt_ok pk115 ?_; repeat (refine G1 tt_ok pk115 ?_; intro _))
          (refine SQ.callA rfl rfl (inv149C β _ m g ht r0) (by repeat (first | exact .n | exact Rm.h | exact Rm.of own_row | exact Rm.of row_close0 | apply Tk.c | apply Rm.t)) ?_; rintro _ _ ⟨⟨_, rfl⟩, rfl⟩; refine ⟨(by repeat (first | exact trivial | refine ⟨trivial, ?_⟩ | refine ⟨RdAt.slr (slr_p q p0 p1 p2) (by repeat (first | exact .h | apply AtA.t)) (by omega) (fun cur hcs => pt_curD hcs rfl), ?_⟩ | refine ⟨wk (by repeat (first | exact .h | exact .q | apply At.t)) (by rfl), ?_⟩)), ?_⟩)
          (refine G tt_ok pk115 ?_; repeat (refine G1 tt_ok pk115 ?_; intro _))
          (refine ka rfl rfl (setRoute150 β m g (d0, d1, d2) ev (r0, coll, r2)) ?_; rintro _ _ ⟨⟨_, rfl⟩, rfl⟩; refine w_ ?_)
          (refine G tt_ok pk115 ?_; repeat (refine G1 tt_ok pk115 ?_; intro _))
          exact CW.ret (fin_ret rfl pk_ ⟨⟨_, rfl⟩, rfl⟩))
      · rw [show (e3 == 0) = false by simp [he]]
        (refine G tt_ok pk115 ?_; repeat (refine G1 tt_ok pk115 ?_; intro _))
        rcases lt3 ht with rfl | rfl | rfl
        all_goals (
          (refine SQ.idxG tt_ok rfl rfl ((slr_p q p0 p1 p2)) (by repeat (first | exact .h | apply AtA.t)) (_) (rfl) (ht) rfl ?_)
          (refine G tt_ok pk115 ?_; repeat (refine G1 tt_ok pk115 ?_; intro _))
          (refine SQ.ldG tt_ok rfl rfl ((slr_p q p0 p1 p2)) (by repeat (first | exact .h | apply AtA.t)) (by omega) (fun cur hcs => pt_curD hcs rfl) ?_)
          (refine G tt_ok pk115 ?_; repeat (refine G1 tt_ok pk115 ?_; intro _))
          (refine SQ.callA rfl rfl (inv149C β _ m g ht r0) (by repeat (first | exact .n | exact Rm.h | exact Rm.of own_row | exact Rm.of row_close0 | apply Tk.c | apply Rm.t)) ?_; rintro _ _ ⟨⟨_, rfl⟩, rfl⟩; refine ⟨(by repeat (first | exact trivial | refine ⟨trivial, ?_⟩ | refine ⟨RdAt.slr (slr_p q p0 p1 p2) (by repeat (first | exact .h | apply AtA.t)) (by omega) (fun cur hcs => pt_curD hcs rfl), ?_⟩ | refine ⟨wk (by repeat (first | exact .h | exact .q | apply At.t)) (by rfl), ?_⟩)), ?_⟩)
          (refine G tt_ok pk115 ?_; repeat (refine G1 tt_ok pk115 ?_; intro _))
          (refine ka rfl rfl (setRoute150 β m g (d0, d1, d2) ev (r0, coll, r2)) ?_; rintro _ _ ⟨⟨_, rfl⟩, rfl⟩; refine w_ ?_)
          (refine G tt_ok pk115 ?_; repeat (refine G1 tt_ok pk115 ?_; intro _))
          exact CW.ret (fin_ret rfl pk_ ⟨⟨_, rfl⟩, rfl⟩))
    · rw [show (e2 != 0) = true by simp [he]]
      (refine G tt_ok pk115 ?_; repeat (refine G1 tt_ok pk115 ?_; intro _))
      exact CW.ret (fin_ret rfl pk_ ⟨⟨_, rfl⟩, rfl⟩)
set_option maxHeartbeats 16000000 in
theorem one118 (β : Base) (r m g : Nat) (q : Option Addr) (n p0 p1 p2 : Nat) {p : Int} (hp : p = 0 ∨ p = 32) (c : Cm) : Tri Tryz.prog β 118 [.pointer (some ⟨r, 0, none⟩), .agg #[.pointer (some ⟨m, 0, none⟩), .slice q 3 n], .agg #[.int .i64 c.1, .int .i64 c.2.1, .int .i64 c.2.2.1, .int .i64 c.2.2.2.1, .int .i64 c.2.2.2.2.1, .int .i64 c.2.2.2.2.2.1, .int .i64 c.2.2.2.2.2.2.1, .int .i64 c.2.2.2.2.2.2.2.1, .bool c.2.2.2.2.2.2.2.2]] [diA r p, dmA m g, rowA q 3 (([p0, p1, p2] : List Nat).flatMap ptC), dlA p0 0, dlA p1 1, dlA p2 2] (fun v L => (∃ e, v = .int .i64 e) ∧ L = [diA r p, dmA m g, rowA q 3 (([p0, p1, p2] : List Nat).flatMap ptC), dlA p0 0, dlA p1 1, dlA p2 2]) := by
  refine Tri.intro tt_ok Tryz.func118 rfl rfl Tryz.ntmps118 rfl fun F => ?_
  obtain ⟨op, dev, ev, num, coll, tgt, b, a, v⟩ := c
  (refine G tt_ok pk118 ?_; repeat (refine G1 tt_ok pk118 ?_; intro _))
  (refine ka rfl rfl (event151 β r m g q n hp dev ev) ?_; rintro _ _ ⟨⟨⟨d0, d1, d2⟩, ⟨r0, r1, r2⟩, e, rfl⟩, rfl⟩; refine w_ ?_)
  (refine G tt_ok pk118 ?_; repeat (refine G1 tt_ok pk118 ?_; intro _))
  cases (e != 0) with
  | true =>
    (refine G tt_ok pk118 ?_; repeat (refine G1 tt_ok pk118 ?_; intro _))
    exact CW.ret (fin_ret rfl pk_ ⟨⟨_, rfl⟩, rfl⟩)
  | false =>
    (refine G tt_ok pk118 ?_; repeat (refine G1 tt_ok pk118 ?_; intro _))
    cases (op == 15) with
    | true =>
      (refine G tt_ok pk118 ?_; repeat (refine G1 tt_ok pk118 ?_; intro _))
      refine ke rfl rfl (forget144 β r m g q n p0 p1 p2 hp (d0, d1, d2) ev (r0, r1, r2)) ?_
      (refine G tt_ok pk118 ?_; repeat (refine G1 tt_ok pk118 ?_; intro _))
      exact CW.ret (fin_ret rfl pk_ ⟨⟨_, rfl⟩, rfl⟩)
    | false =>
      (refine G tt_ok pk118 ?_; repeat (refine G1 tt_ok pk118 ?_; intro _))
      (refine ka rfl rfl (side116 β r m g q n p r1) ?_; rintro _ _ ⟨⟨t, e2, rfl, ht⟩, rfl⟩; refine w_ ?_)
      (refine G tt_ok pk118 ?_; repeat (refine G1 tt_ok pk118 ?_; intro _))
      by_cases he : e2 = 0
      · subst he
        have ht := ht rfl
        (refine G tt_ok pk118 ?_; repeat (refine G1 tt_ok pk118 ?_; intro _))
        cases (op == 12) with
        | true =>
          (refine G tt_ok pk118 ?_; repeat (refine G1 tt_ok pk118 ?_; intro _))
          rcases lt3 ht with rfl | rfl | rfl
          all_goals (
            (refine SQ.idxG tt_ok rfl rfl ((slr_p q p0 p1 p2)) (by repeat (first | exact .h | apply AtA.t)) (_) (rfl) (ht) rfl ?_)
            (refine G tt_ok pk118 ?_; repeat (refine G1 tt_ok pk118 ?_; intro _))
            (refine SQ.ldG tt_ok rfl rfl ((slr_p q p0 p1 p2)) (by repeat (first | exact .h | apply AtA.t)) (by omega) (fun cur hcs => pt_curD hcs rfl) ?_)
            (refine G tt_ok pk118 ?_; repeat (refine G1 tt_ok pk118 ?_; intro _))
            (refine SQ.callA rfl rfl (inv149C β _ m g ht r0) (by repeat (first | exact .n | exact Rm.h | exact Rm.of own_row | exact Rm.of row_close0 | apply Tk.c | apply Rm.t)) ?_; rintro _ _ ⟨⟨_, rfl⟩, rfl⟩; refine ⟨(by repeat (first | exact trivial | refine ⟨trivial, ?_⟩ | refine ⟨RdAt.slr (slr_p q p0 p1 p2) (by repeat (first | exact .h | apply AtA.t)) (by omega) (fun cur hcs => pt_curD hcs rfl), ?_⟩ | refine ⟨wk (by repeat (first | exact .h | exact .q | apply At.t)) (by rfl), ?_⟩)), ?_⟩)
            (refine G tt_ok pk118 ?_; repeat (refine G1 tt_ok pk118 ?_; intro _))
            exact CW.ret (fin_ret rfl pk_ ⟨⟨_, rfl⟩, rfl⟩))
        | false =>
          (refine G tt_ok pk118 ?_; repeat (refine G1 tt_ok pk118 ?_; intro _))
          rcases lt3 ht with rfl | rfl | rfl
          all_goals (
            (refine SQ.idxG tt_ok rfl rfl ((slr_p q p0 p1 p2)) (by repeat (first | exact .h | apply AtA.t)) (_) (rfl) (ht) rfl ?_)
            (refine G tt_ok pk118 ?_; repeat (refine G1 tt_ok pk118 ?_; intro _))
            (refine SQ.ldG tt_ok rfl rfl ((slr_p q p0 p1 p2)) (by repeat (first | exact .h | apply AtA.t)) (by omega) (fun cur hcs => pt_curD hcs rfl) ?_)
            (refine G tt_ok pk118 ?_; repeat (refine G1 tt_ok pk118 ?_; intro _))
            (refine SQ.callA rfl rfl (set155 β _ m g ht r0 (op == 3)) (by repeat (first | exact .n | exact Rm.h | exact Rm.of own_row | exact Rm.of row_close0 | apply Tk.c | apply Rm.t)) ?_; rintro _ _ ⟨⟨_, _, rfl⟩, rfl⟩; refine ⟨(by repeat (first | exact trivial | refine ⟨trivial, ?_⟩ | refine ⟨RdAt.slr (slr_p q p0 p1 p2) (by repeat (first | exact .h | apply AtA.t)) (by omega) (fun cur hcs => pt_curD hcs rfl), ?_⟩ | refine ⟨wk (by repeat (first | exact .h | exact .q | apply At.t)) (by rfl), ?_⟩)), ?_⟩)
            (refine G tt_ok pk118 ?_; repeat (refine G1 tt_ok pk118 ?_; intro _))
            exact CW.ret (fin_ret rfl pk_ ⟨⟨_, rfl⟩, rfl⟩))
      · rw [show (e2 != 0) = true by simp [he]]
        (refine G tt_ok pk118 ?_; repeat (refine G1 tt_ok pk118 ?_; intro _))
        exact CW.ret (fin_ret rfl pk_ ⟨⟨_, rfl⟩, rfl⟩)
set_option maxHeartbeats 16000000 in
theorem do61 (β : Base) (r m g : Nat) (q : Option Addr) (n p0 p1 p2 : Nat) {p : Int} (hp : p = 0 ∨ p = 32) (c : Cm) : Tri Tryz.prog β 61 [.pointer (some ⟨r, 0, none⟩), .agg #[.pointer (some ⟨m, 0, none⟩), .slice q 3 n], .agg #[.int .i64 c.1, .int .i64 c.2.1, .int .i64 c.2.2.1, .int .i64 c.2.2.2.1, .int .i64 c.2.2.2.2.1, .int .i64 c.2.2.2.2.2.1, .int .i64 c.2.2.2.2.2.2.1, .int .i64 c.2.2.2.2.2.2.2.1, .bool c.2.2.2.2.2.2.2.2]] [diA r p, dmA m g, rowA q 3 (([p0, p1, p2] : List Nat).flatMap ptC), dlA p0 0, dlA p1 1, dlA p2 2] (fun v L => (∃ e, v = .int .i64 e) ∧ L = [diA r p, dmA m g, rowA q 3 (([p0, p1, p2] : List Nat).flatMap ptC), dlA p0 0, dlA p1 1, dlA p2 2]) := by
  refine Tri.intro tt_ok Tryz.func61 rfl rfl Tryz.ntmps61 rfl fun F => ?_
  have hT := encode111 β c
  obtain ⟨op, dev, ev, num, coll, tgt, b, a, v⟩ := c
  simp only at hT
  (refine G tt_ok pk61 ?_; repeat (refine G1 tt_ok pk61 ?_; intro _))
  (refine ka rfl rfl (hT) ?_; rintro _ _ ⟨⟨V, ok, rfl, hsg⟩, rfl⟩; refine w_ ?_)
  unfold arW
  (refine G tt_ok pk61 ?_; repeat (refine G1 tt_ok pk61 ?_; intro _))
  cases ok with
  | false =>
    (refine G tt_ok pk61 ?_; repeat (refine G1 tt_ok pk61 ?_; intro _))
    exact CW.ret (fin_ret rfl pk_ ⟨⟨_, rfl⟩, rfl⟩)
  | true =>
    have hsg := hsg rfl
    (refine G tt_ok pk61 ?_; repeat (refine G1 tt_ok pk61 ?_; intro _))
    by_cases h8 : op = 8
    · subst h8
      (refine G tt_ok pk61 ?_; repeat (refine G1 tt_ok pk61 ?_; intro _))
      (refine ka rfl rfl (mapd112 β r m g q n p0 p1 p2 hp (8, dev, ev, num, coll, tgt, b, a, v)) ?_; rintro _ _ ⟨⟨_, rfl⟩, rfl⟩; refine w_ ?_)
      (refine G tt_ok pk61 ?_; repeat (refine G1 tt_ok pk61 ?_; intro _))
      exact CW.ret (fin_ret rfl pk_ ⟨⟨_, rfl⟩, rfl⟩)
    · rw [show (op == 8) = false by simp [h8]]
      (refine G tt_ok pk61 ?_; repeat (refine G1 tt_ok pk61 ?_; intro _))
      by_cases h9 : op = 9
      · subst h9
        (refine G tt_ok pk61 ?_; repeat (refine G1 tt_ok pk61 ?_; intro _))
        cases v with
        | false =>
          (refine G tt_ok pk61 ?_; repeat (refine G1 tt_ok pk61 ?_; intro _))
          refine SQ.ent _ (Rm.to (A := diA r p) (by repeat (first | exact Rm.h | apply Rm.t)) (Ent.refl [diA r p])) ?_; refine SQ.open_ fun x => SQ.pure_ fun hx => ?_; obtain ⟨on, st, i, j⟩ := x; obtain ⟨hi, hj⟩ := hx; simp only at hi hj ⊢
          (refine G tt_ok pk61 ?_; repeat (refine G1 tt_ok pk61 ?_; intro _))
          (refine ka rfl rfl (setTarget113 β m g 64 64 coll tgt false) ?_; rintro _ _ ⟨⟨_, rfl⟩, rfl⟩; refine w_ ?_)
          (refine G tt_ok pk61 ?_; repeat (refine G1 tt_ok pk61 ?_; intro _))
          exact CW.ret (fin_ret rfl (A := [diA r p, dmA m g, rowA q 3 (([p0, p1, p2] : List Nat).flatMap ptC), dlA p0 0, dlA p1 1, dlA p2 2]) (Ent.trans (M := [pt r (itC _ _ i j p)] ++ [dmA m g, rowA q 3 (([p0, p1, p2] : List Nat).flatMap ptC), dlA p0 0, dlA p1 1, dlA p2 2]) pk_ (Ent.append (di_close _ _ hi hj) (Ent.refl _))) ⟨⟨_, rfl⟩, rfl⟩)
        | true =>
          (refine G tt_ok pk61 ?_; repeat (refine G1 tt_ok pk61 ?_; intro _))
          cases decide (tgt ≥ ((3 : Nat) : Int)) with
          | true =>
            (refine G tt_ok pk61 ?_; repeat (refine G1 tt_ok pk61 ?_; intro _))
            exact CW.ret (fin_ret rfl pk_ ⟨⟨_, rfl⟩, rfl⟩)
          | false =>
            (refine G tt_ok pk61 ?_; repeat (refine G1 tt_ok pk61 ?_; intro _))
            refine SQ.ent _ (Rm.to (A := diA r p) (by repeat (first | exact Rm.h | apply Rm.t)) (Ent.refl [diA r p])) ?_; refine SQ.open_ fun x => SQ.pure_ fun hx => ?_; obtain ⟨on, st, i, j⟩ := x; obtain ⟨hi, hj⟩ := hx; simp only at hi hj ⊢
            (refine G tt_ok pk61 ?_; repeat (refine G1 tt_ok pk61 ?_; intro _))
            (refine ka rfl rfl (setTarget113 β m g 64 64 coll tgt true) ?_; rintro _ _ ⟨⟨_, rfl⟩, rfl⟩; refine w_ ?_)
            (refine G tt_ok pk61 ?_; repeat (refine G1 tt_ok pk61 ?_; intro _))
            exact CW.ret (fin_ret rfl (A := [diA r p, dmA m g, rowA q 3 (([p0, p1, p2] : List Nat).flatMap ptC), dlA p0 0, dlA p1 1, dlA p2 2]) (Ent.trans (M := [pt r (itC _ _ i j p)] ++ [dmA m g, rowA q 3 (([p0, p1, p2] : List Nat).flatMap ptC), dlA p0 0, dlA p1 1, dlA p2 2]) pk_ (Ent.append (di_close _ _ hi hj) (Ent.refl _))) ⟨⟨_, rfl⟩, rfl⟩)
      · rw [show (op == 9) = false by simp [h9]]
        (refine G tt_ok pk61 ?_; repeat (refine G1 tt_ok pk61 ?_; intro _))
        by_cases h10 : op = 10
        · subst h10
          (refine G tt_ok pk61 ?_; repeat (refine G1 tt_ok pk61 ?_; intro _))
          (refine ka rfl rfl (mapti114 β r m g q n p0 p1 p2 hp (10, dev, ev, num, coll, tgt, b, a, v) num) ?_; rintro _ _ ⟨⟨_, rfl⟩, rfl⟩; refine w_ ?_)
          (refine G tt_ok pk61 ?_; repeat (refine G1 tt_ok pk61 ?_; intro _))
          exact CW.ret (fin_ret rfl pk_ ⟨⟨_, rfl⟩, rfl⟩)
        · rw [show (op == 10) = false by simp [h10]]
          (refine G tt_ok pk61 ?_; repeat (refine G1 tt_ok pk61 ?_; intro _))
          by_cases h11 : op = 11
          · subst h11
            (refine G tt_ok pk61 ?_; repeat (refine G1 tt_ok pk61 ?_; intro _))
            (refine ka rfl rfl (mapti114 β r m g q n p0 p1 p2 hp (11, dev, ev, num, coll, tgt, b, a, v) _) ?_; rintro _ _ ⟨⟨_, rfl⟩, rfl⟩; refine w_ ?_)
            (refine G tt_ok pk61 ?_; repeat (refine G1 tt_ok pk61 ?_; intro _))
            exact CW.ret (fin_ret rfl pk_ ⟨⟨_, rfl⟩, rfl⟩)
          · rw [show (op == 11) = false by simp [h11]]
            (refine G tt_ok pk61 ?_; repeat (refine G1 tt_ok pk61 ?_; intro _))
            by_cases h1 : op = 1
            · subst h1
              (refine G tt_ok pk61 ?_; repeat (refine G1 tt_ok pk61 ?_; intro _))
              (refine ka rfl rfl (movi115 β r m g q n p0 p1 p2 hp (1, dev, ev, num, coll, tgt, b, a, v)) ?_; rintro _ _ ⟨⟨_, rfl⟩, rfl⟩; refine w_ ?_)
              (refine G tt_ok pk61 ?_; repeat (refine G1 tt_ok pk61 ?_; intro _))
              exact CW.ret (fin_ret rfl pk_ ⟨⟨_, rfl⟩, rfl⟩)
            · rw [show (op == 1) = false by simp [h1]]
              (refine G tt_ok pk61 ?_; repeat (refine G1 tt_ok pk61 ?_; intro _))
              by_cases h13 : op = 13
              · subst h13
                (refine G tt_ok pk61 ?_; repeat (refine G1 tt_ok pk61 ?_; intro _))
                (refine ka rfl rfl (side116 β r m g q n p coll) ?_; rintro _ _ ⟨⟨t, e2, rfl, ht⟩, rfl⟩; refine w_ ?_)
                (refine G tt_ok pk61 ?_; repeat (refine G1 tt_ok pk61 ?_; intro _))
                by_cases he : e2 = 0
                · subst he
                  have ht := ht rfl
                  (refine G tt_ok pk61 ?_; repeat (refine G1 tt_ok pk61 ?_; intro _))
                  rcases lt3 ht with rfl | rfl | rfl
                  all_goals (
                    (refine SQ.idxG tt_ok rfl rfl ((slr_p q p0 p1 p2)) (by repeat (first | exact .h | apply AtA.t)) (_) (rfl) (ht) rfl ?_)
                    (refine G tt_ok pk61 ?_; repeat (refine G1 tt_ok pk61 ?_; intro _))
                    (refine SQ.ldG tt_ok rfl rfl ((slr_p q p0 p1 p2)) (by repeat (first | exact .h | apply AtA.t)) (by omega) (fun cur hcs => pt_curD hcs rfl) ?_)
                    (refine G tt_ok pk61 ?_; repeat (refine G1 tt_ok pk61 ?_; intro _))
                    (refine SQ.callA rfl rfl (invA110C β _ m g ht) (by repeat (first | exact .n | exact Rm.h | exact Rm.of own_row | exact Rm.of row_close0 | apply Tk.c | apply Rm.t)) ?_; rintro _ _ ⟨rfl, rfl⟩; refine ⟨(by repeat (first | exact trivial | refine ⟨trivial, ?_⟩ | refine ⟨RdAt.slr (slr_p q p0 p1 p2) (by repeat (first | exact .h | apply AtA.t)) (by omega) (fun cur hcs => pt_curD hcs rfl), ?_⟩ | refine ⟨wk (by repeat (first | exact .h | exact .q | apply At.t)) (by rfl), ?_⟩)), ?_⟩)
                    (refine G tt_ok pk61 ?_; repeat (refine G1 tt_ok pk61 ?_; intro _))
                    exact CW.ret (fin_ret rfl pk_ ⟨⟨_, rfl⟩, rfl⟩))
                · rw [show (e2 == 0) = false by simp [he]]
                  (refine G tt_ok pk61 ?_; repeat (refine G1 tt_ok pk61 ?_; intro _))
                  exact CW.ret (fin_ret rfl pk_ ⟨⟨_, rfl⟩, rfl⟩)
              · rw [show (op == 13) = false by simp [h13]]
                (refine G tt_ok pk61 ?_; repeat (refine G1 tt_ok pk61 ?_; intro _))
                by_cases h14 : op = 14
                · subst h14
                  have hsg := hsg rfl
                  (refine G tt_ok pk61 ?_; repeat (refine G1 tt_ok pk61 ?_; intro _))
                  by_cases ht : tgt ≥ ((3 : Nat) : Int)
                  · rw [decide_eq_true ht]
                    (refine G tt_ok pk61 ?_; repeat (refine G1 tt_ok pk61 ?_; intro _))
                    exact CW.ret (fin_ret rfl pk_ ⟨⟨_, rfl⟩, rfl⟩)
                  · rw [decide_eq_false ht]
                    (refine G tt_ok pk61 ?_; repeat (refine G1 tt_ok pk61 ?_; intro _))
                    by_cases hu : num ≥ ((3 : Nat) : Int)
                    · rw [decide_eq_true hu]
                      (refine G tt_ok pk61 ?_; repeat (refine G1 tt_ok pk61 ?_; intro _))
                      exact CW.ret (fin_ret rfl pk_ ⟨⟨_, rfl⟩, rfl⟩)
                    · rw [decide_eq_false hu]
                      obtain ⟨tn, rfl⟩ : ∃ k : Nat, tgt = (k : Int) := ⟨tgt.toNat, by omega⟩
                      obtain ⟨un, rfl⟩ : ∃ k : Nat, num = (k : Int) := ⟨num.toNat, by omega⟩
                      have htn : tn < 3 := by omega
                      have hun : un < 3 := by omega
                      (refine G tt_ok pk61 ?_; repeat (refine G1 tt_ok pk61 ?_; intro _))
                      rcases lt3 htn with rfl | rfl | rfl
                      all_goals rcases lt3 hun with rfl | rfl | rfl
                      all_goals (
                        (refine SQ.idxG tt_ok rfl rfl ((slr_p q p0 p1 p2)) (by repeat (first | exact .h | apply AtA.t)) (_) (rfl) (htn) rfl ?_)
                        (refine G tt_ok pk61 ?_; repeat (refine G1 tt_ok pk61 ?_; intro _))
                        (refine SQ.ldG tt_ok rfl rfl ((slr_p q p0 p1 p2)) (by repeat (first | exact .h | apply AtA.t)) (by omega) (fun cur hcs => pt_curD hcs rfl) ?_)
                        (refine G tt_ok pk61 ?_; repeat (refine G1 tt_ok pk61 ?_; intro _))
                        (refine SQ.idxG tt_ok rfl rfl ((slr_p q p0 p1 p2)) (by repeat (first | exact .h | apply AtA.t)) (_) (rfl) (hun) rfl ?_)
                        (refine G tt_ok pk61 ?_; repeat (refine G1 tt_ok pk61 ?_; intro _))
                        (refine SQ.ldG tt_ok rfl rfl ((slr_p q p0 p1 p2)) (by repeat (first | exact .h | apply AtA.t)) (by omega) (fun cur hcs => pt_curD hcs rfl) ?_)
                        (refine G tt_ok pk61 ?_; repeat (refine G1 tt_ok pk61 ?_; intro _))
                        first | (refine SQ.callA rfl rfl (moveAll117f β m g _ htn) (by repeat (first | exact .n | exact Rm.h | exact Rm.of own_row | exact Rm.of row_close0 | apply Tk.c | apply Rm.t)) ?_; rintro _ _ ⟨⟨_, rfl⟩, rfl⟩; refine ⟨(by repeat (first | exact trivial | refine ⟨trivial, ?_⟩ | refine ⟨RdAt.slr (slr_p q p0 p1 p2) (by repeat (first | exact .h | apply AtA.t)) (by omega) (fun cur hcs => pt_curD hcs rfl), ?_⟩ | refine ⟨wk (by repeat (first | exact .h | exact .q | apply At.t)) (by rfl), ?_⟩)), ?_⟩) | (refine SQ.callA rfl rfl (moveAll117 β m g _ _ htn hun) (by repeat (first | exact .n | exact Rm.h | exact Rm.of own_row | exact Rm.of row_close0 | apply Tk.c | apply Rm.t)) ?_; rintro _ _ ⟨⟨_, rfl⟩, rfl⟩; refine ⟨(by repeat (first | exact trivial | refine ⟨trivial, ?_⟩ | refine ⟨RdAt.slr (slr_p q p0 p1 p2) (by repeat (first | exact .h | apply AtA.t)) (by omega) (fun cur hcs => pt_curD hcs rfl), ?_⟩ | refine ⟨wk (by repeat (first | exact .h | exact .q | apply At.t)) (by rfl), ?_⟩)), ?_⟩)
                        (refine G tt_ok pk61 ?_; repeat (refine G1 tt_ok pk61 ?_; intro _))
                        exact CW.ret (fin_ret rfl pk_ ⟨⟨_, rfl⟩, rfl⟩))
                · rw [show (op == 14) = false by simp [h14]]
                  (refine G tt_ok pk61 ?_; repeat (refine G1 tt_ok pk61 ?_; intro _))
                  by_cases h5 : op = 5
                  · subst h5
                    (refine G tt_ok pk61 ?_; repeat (refine G1 tt_ok pk61 ?_; intro _))
                    cases decide (tgt ≥ ((3 : Nat) : Int)) with
                    | true =>
                      (refine G tt_ok pk61 ?_; repeat (refine G1 tt_ok pk61 ?_; intro _))
                      exact CW.ret (fin_ret rfl pk_ ⟨⟨_, rfl⟩, rfl⟩)
                    | false =>
                      (refine G tt_ok pk61 ?_; repeat (refine G1 tt_ok pk61 ?_; intro _))
                      cases decide (num ≥ ((3 : Nat) : Int)) <;> (
                        (refine G tt_ok pk61 ?_; repeat (refine G1 tt_ok pk61 ?_; intro _))
                        exact CW.ret (fin_ret rfl pk_ ⟨⟨_, rfl⟩, rfl⟩))
                  · rw [show (op == 5) = false by simp [h5]]
                    (refine G tt_ok pk61 ?_; repeat (refine G1 tt_ok pk61 ?_; intro _))
                    (refine ka rfl rfl (one118 β r m g q n p0 p1 p2 hp (op, dev, ev, num, coll, tgt, b, a, v)) ?_; rintro _ _ ⟨⟨_, rfl⟩, rfl⟩; refine w_ ?_)
                    (refine G tt_ok pk61 ?_; repeat (refine G1 tt_ok pk61 ?_; intro _))
                    exact CW.ret (fin_ret rfl pk_ ⟨⟨_, rfl⟩, rfl⟩)
set_option maxHeartbeats 16000000 in
theorem message67 (β : Base) (r m g : Nat) (q : Option Addr) (n p0 p1 p2 : Nat) {p : Int} (hp : p = 0 ∨ p = 32) (dev ev : Int) : Tri Tryz.prog β 67 [.pointer (some ⟨r, 0, none⟩), .agg #[.pointer (some ⟨m, 0, none⟩), .slice q 3 n], .int .i64 dev, .int .i64 ev] [diA r p, dmA m g, rowA q 3 (([p0, p1, p2] : List Nat).flatMap ptC), dlA p0 0, dlA p1 1, dlA p2 2] (fun v L => (∃ e, v = .int .i64 e) ∧ L = [diA r p, dmA m g, rowA q 3 (([p0, p1, p2] : List Nat).flatMap ptC), dlA p0 0, dlA p1 1, dlA p2 2]) := by
  refine Tri.intro tt_ok Tryz.func67 rfl rfl Tryz.ntmps67 rfl fun F => ?_
  (refine G tt_ok pk67 ?_; repeat (refine G1 tt_ok pk67 ?_; intro _))
  refine SQ.ent _ (Rm.to (A := diA r p) (by repeat (first | exact Rm.h | apply Rm.t)) (Ent.refl [diA r p])) ?_; refine SQ.open_ fun x => SQ.pure_ fun hx => ?_; obtain ⟨on, st, i, j⟩ := x; obtain ⟨hi, hj⟩ := hx; simp only at hi hj ⊢
  (refine G tt_ok pk67 ?_; repeat (refine G1 tt_ok pk67 ?_; intro _))
  cases on with
  | false =>
    (refine G tt_ok pk67 ?_; repeat (refine G1 tt_ok pk67 ?_; intro _))
    exact CW.ret (fin_ret rfl (A := [diA r p, dmA m g, rowA q 3 (([p0, p1, p2] : List Nat).flatMap ptC), dlA p0 0, dlA p1 1, dlA p2 2]) (Ent.trans (M := [pt r (itC _ _ i j p)] ++ [dmA m g, rowA q 3 (([p0, p1, p2] : List Nat).flatMap ptC), dlA p0 0, dlA p1 1, dlA p2 2]) pk_ (Ent.append (di_close _ _ hi hj) (Ent.refl _))) ⟨⟨_, rfl⟩, rfl⟩)
  | true =>
    (refine G tt_ok pk67 ?_; repeat (refine G1 tt_ok pk67 ?_; intro _))
    refine SQ.ent _ (tk_ (As := [pt r (itC true st i j p)]) (di_close true st hi hj)) ?_
    (refine ka rfl rfl (one118 β r m g q n p0 p1 p2 hp (3, dev, ev, 0, 0, 0, 0, 0, false)) ?_; rintro _ _ ⟨⟨_, rfl⟩, rfl⟩; refine w_ ?_)
    (refine G tt_ok pk67 ?_; repeat (refine G1 tt_ok pk67 ?_; intro _))
    exact CW.ret (fin_ret rfl pk_ ⟨⟨_, rfl⟩, rfl⟩)
set_option maxHeartbeats 16000000 in
theorem step63 (β : Base) (r m g : Nat) (q : Option Addr) (n p0 p1 p2 : Nat) {p : Int} (hp : p = 0 ∨ p = 32) : Tri Tryz.prog β 63 [.pointer (some ⟨r, 0, none⟩), .agg #[.pointer (some ⟨m, 0, none⟩), .slice q 3 n]] [diA r p, dmA m g, rowA q 3 (([p0, p1, p2] : List Nat).flatMap ptC), dlA p0 0, dlA p1 1, dlA p2 2] (fun v L => (∃ (c : Cm) (e : Int), v = .tuple #[cmV c, .int .i64 e]) ∧ L = [diA r p, dmA m g, rowA q 3 (([p0, p1, p2] : List Nat).flatMap ptC), dlA p0 0, dlA p1 1, dlA p2 2]) := by
  refine Tri.intro tt_ok Tryz.func63 rfl rfl Tryz.ntmps63 rfl fun F => ?_
  (refine G tt_ok pk63 ?_; repeat (refine G1 tt_ok pk63 ?_; intro _))
  refine SQ.ent _ (Rm.to (A := diA r p) (by repeat (first | exact Rm.h | apply Rm.t)) (Ent.refl [diA r p])) ?_; refine SQ.open_ fun x => SQ.pure_ fun hx => ?_; obtain ⟨on, st, i, j⟩ := x; obtain ⟨hi, hj⟩ := hx; simp only at hi hj ⊢
  (refine G tt_ok pk63 ?_; repeat (refine G1 tt_ok pk63 ?_; intro _))
  cases on with
  | false =>
    (refine G tt_ok pk63 ?_; repeat (refine G1 tt_ok pk63 ?_; intro _))
    exact CW.ret (fin_cells [_, _] ⟨(by first | exact ⟨_, _, _, _, 0, rfl, rfl, rfl, rfl⟩ | exact ⟨_, _, _, _, 1, rfl, rfl, rfl, rfl⟩ | exact ⟨_, _, _, _, 2, rfl, rfl, rfl, rfl⟩ | exact ⟨_, _, _, _, 3, rfl, rfl, rfl, rfl⟩ | exact ⟨_, _, _, _, 4, rfl, rfl, rfl, rfl⟩ | exact ⟨_, _, _, _, 5, rfl, rfl, rfl, rfl⟩ | exact ⟨_, _, _, _, 6, rfl, rfl, rfl, rfl⟩ | exact ⟨_, _, _, _, 7, rfl, rfl, rfl, rfl⟩ | exact ⟨_, _, _, _, 8, rfl, rfl, rfl, rfl⟩ | exact ⟨_, _, _, _, 9, rfl, rfl, rfl, rfl⟩ | exact ⟨_, _, _, _, 10, rfl, rfl, rfl, rfl⟩ | exact ⟨_, _, _, _, 11, rfl, rfl, rfl, rfl⟩ | exact ⟨_, _, _, _, 12, rfl, rfl, rfl, rfl⟩ | exact ⟨_, _, _, _, 13, rfl, rfl, rfl, rfl⟩ | exact ⟨_, _, _, _, 14, rfl, rfl, rfl, rfl⟩ | exact ⟨_, _, _, _, 15, rfl, rfl, rfl, rfl⟩ | exact ⟨_, _, _, _, 16, rfl, rfl, rfl, rfl⟩ | exact ⟨_, _, _, _, 17, rfl, rfl, rfl, rfl⟩ | exact ⟨_, _, _, _, 18, rfl, rfl, rfl, rfl⟩ | exact ⟨_, _, _, _, 19, rfl, rfl, rfl, rfl⟩ | exact ⟨_, _, _, _, 20, rfl, rfl, rfl, rfl⟩ | exact ⟨_, _, _, _, 21, rfl, rfl, rfl, rfl⟩ | exact ⟨_, _, _, _, 22, rfl, rfl, rfl, rfl⟩ | exact ⟨_, _, _, _, 23, rfl, rfl, rfl, rfl⟩), rfl, trivial⟩ (A := [diA r p, dmA m g, rowA q 3 (([p0, p1, p2] : List Nat).flatMap ptC), dlA p0 0, dlA p1 1, dlA p2 2]) (Ent.trans (M := [pt r (itC _ _ i j p)] ++ [dmA m g, rowA q 3 (([p0, p1, p2] : List Nat).flatMap ptC), dlA p0 0, dlA p1 1, dlA p2 2]) pk_ (Ent.append (di_close _ _ hi hj) (Ent.refl _))) ⟨⟨cm0, _, rfl⟩, rfl⟩)
  | true =>
    (refine G tt_ok pk63 ?_; repeat (refine G1 tt_ok pk63 ?_; intro _))
    cases st with
    | true =>
      (refine G tt_ok pk63 ?_; repeat (refine G1 tt_ok pk63 ?_; intro _))
      exact CW.ret (fin_cells [_, _] ⟨(by first | exact ⟨_, _, _, _, 0, rfl, rfl, rfl, rfl⟩ | exact ⟨_, _, _, _, 1, rfl, rfl, rfl, rfl⟩ | exact ⟨_, _, _, _, 2, rfl, rfl, rfl, rfl⟩ | exact ⟨_, _, _, _, 3, rfl, rfl, rfl, rfl⟩ | exact ⟨_, _, _, _, 4, rfl, rfl, rfl, rfl⟩ | exact ⟨_, _, _, _, 5, rfl, rfl, rfl, rfl⟩ | exact ⟨_, _, _, _, 6, rfl, rfl, rfl, rfl⟩ | exact ⟨_, _, _, _, 7, rfl, rfl, rfl, rfl⟩ | exact ⟨_, _, _, _, 8, rfl, rfl, rfl, rfl⟩ | exact ⟨_, _, _, _, 9, rfl, rfl, rfl, rfl⟩ | exact ⟨_, _, _, _, 10, rfl, rfl, rfl, rfl⟩ | exact ⟨_, _, _, _, 11, rfl, rfl, rfl, rfl⟩ | exact ⟨_, _, _, _, 12, rfl, rfl, rfl, rfl⟩ | exact ⟨_, _, _, _, 13, rfl, rfl, rfl, rfl⟩ | exact ⟨_, _, _, _, 14, rfl, rfl, rfl, rfl⟩ | exact ⟨_, _, _, _, 15, rfl, rfl, rfl, rfl⟩ | exact ⟨_, _, _, _, 16, rfl, rfl, rfl, rfl⟩ | exact ⟨_, _, _, _, 17, rfl, rfl, rfl, rfl⟩ | exact ⟨_, _, _, _, 18, rfl, rfl, rfl, rfl⟩ | exact ⟨_, _, _, _, 19, rfl, rfl, rfl, rfl⟩ | exact ⟨_, _, _, _, 20, rfl, rfl, rfl, rfl⟩ | exact ⟨_, _, _, _, 21, rfl, rfl, rfl, rfl⟩ | exact ⟨_, _, _, _, 22, rfl, rfl, rfl, rfl⟩ | exact ⟨_, _, _, _, 23, rfl, rfl, rfl, rfl⟩), rfl, trivial⟩ (A := [diA r p, dmA m g, rowA q 3 (([p0, p1, p2] : List Nat).flatMap ptC), dlA p0 0, dlA p1 1, dlA p2 2]) (Ent.trans (M := [pt r (itC _ _ i j p)] ++ [dmA m g, rowA q 3 (([p0, p1, p2] : List Nat).flatMap ptC), dlA p0 0, dlA p1 1, dlA p2 2]) pk_ (Ent.append (di_close _ _ hi hj) (Ent.refl _))) ⟨⟨cm0, _, rfl⟩, rfl⟩)
    | false =>
      (refine G tt_ok pk63 ?_; repeat (refine G1 tt_ok pk63 ?_; intro _))
      (refine ka rfl rfl (head122 β m g hi hj) ?_; rintro _ _ ⟨⟨⟨d0, d1, d2, d3, d4, d5, d6, d7, d8⟩, e, rfl⟩, rfl⟩; refine w_ ?_)
      unfold cmV
      simp only
      (refine G tt_ok pk63 ?_; repeat (refine G1 tt_ok pk63 ?_; intro _))
      cases (e == 170) with
      | true =>
        (refine G tt_ok pk63 ?_; repeat (refine G1 tt_ok pk63 ?_; intro _))
        exact CW.ret (fin_cells [_, _] ⟨(by first | exact ⟨_, _, _, _, 0, rfl, rfl, rfl, rfl⟩ | exact ⟨_, _, _, _, 1, rfl, rfl, rfl, rfl⟩ | exact ⟨_, _, _, _, 2, rfl, rfl, rfl, rfl⟩ | exact ⟨_, _, _, _, 3, rfl, rfl, rfl, rfl⟩ | exact ⟨_, _, _, _, 4, rfl, rfl, rfl, rfl⟩ | exact ⟨_, _, _, _, 5, rfl, rfl, rfl, rfl⟩ | exact ⟨_, _, _, _, 6, rfl, rfl, rfl, rfl⟩ | exact ⟨_, _, _, _, 7, rfl, rfl, rfl, rfl⟩ | exact ⟨_, _, _, _, 8, rfl, rfl, rfl, rfl⟩ | exact ⟨_, _, _, _, 9, rfl, rfl, rfl, rfl⟩ | exact ⟨_, _, _, _, 10, rfl, rfl, rfl, rfl⟩ | exact ⟨_, _, _, _, 11, rfl, rfl, rfl, rfl⟩ | exact ⟨_, _, _, _, 12, rfl, rfl, rfl, rfl⟩ | exact ⟨_, _, _, _, 13, rfl, rfl, rfl, rfl⟩ | exact ⟨_, _, _, _, 14, rfl, rfl, rfl, rfl⟩ | exact ⟨_, _, _, _, 15, rfl, rfl, rfl, rfl⟩ | exact ⟨_, _, _, _, 16, rfl, rfl, rfl, rfl⟩ | exact ⟨_, _, _, _, 17, rfl, rfl, rfl, rfl⟩ | exact ⟨_, _, _, _, 18, rfl, rfl, rfl, rfl⟩ | exact ⟨_, _, _, _, 19, rfl, rfl, rfl, rfl⟩ | exact ⟨_, _, _, _, 20, rfl, rfl, rfl, rfl⟩ | exact ⟨_, _, _, _, 21, rfl, rfl, rfl, rfl⟩ | exact ⟨_, _, _, _, 22, rfl, rfl, rfl, rfl⟩ | exact ⟨_, _, _, _, 23, rfl, rfl, rfl, rfl⟩), rfl, trivial⟩ (A := [diA r p, dmA m g, rowA q 3 (([p0, p1, p2] : List Nat).flatMap ptC), dlA p0 0, dlA p1 1, dlA p2 2]) (Ent.trans (M := [pt r (itC _ _ i j p)] ++ [dmA m g, rowA q 3 (([p0, p1, p2] : List Nat).flatMap ptC), dlA p0 0, dlA p1 1, dlA p2 2]) pk_ (Ent.append (di_close _ _ hi hj) (Ent.refl _))) ⟨⟨cm0, _, rfl⟩, rfl⟩)
      | false =>
        (refine G tt_ok pk63 ?_; repeat (refine G1 tt_ok pk63 ?_; intro _))
        by_cases he : e = 0
        · subst he
          (refine G tt_ok pk63 ?_; repeat (refine G1 tt_ok pk63 ?_; intro _))
          refine SQ.ent _ (tk_ (As := [pt r (itC true false i j p)]) (di_close true false hi hj)) ?_
          (refine ka rfl rfl (do61 β r m g q n p0 p1 p2 hp (d0, d1, d2, d3, d4, d5, d6, d7, d8)) ?_; rintro _ _ ⟨⟨e2, rfl⟩, rfl⟩; refine w_ ?_)
          (refine G tt_ok pk63 ?_; repeat (refine G1 tt_ok pk63 ?_; intro _))
          cases (e2 != 0) with
          | true =>
            (refine G tt_ok pk63 ?_; repeat (refine G1 tt_ok pk63 ?_; intro _))
            refine SQ.ent _ (Rm.to (A := diA r p) (by repeat (first | exact Rm.h | apply Rm.t)) (Ent.refl [diA r p])) ?_; refine SQ.open_ fun x => SQ.pure_ fun hx => ?_; obtain ⟨on, st, i, j⟩ := x; obtain ⟨hi, hj⟩ := hx; simp only at hi hj ⊢
            (refine G tt_ok pk63 ?_; repeat (refine G1 tt_ok pk63 ?_; intro _))
            exact CW.ret (fin_cells [_, _] ⟨(by first | exact ⟨_, _, _, _, 0, rfl, rfl, rfl, rfl⟩ | exact ⟨_, _, _, _, 1, rfl, rfl, rfl, rfl⟩ | exact ⟨_, _, _, _, 2, rfl, rfl, rfl, rfl⟩ | exact ⟨_, _, _, _, 3, rfl, rfl, rfl, rfl⟩ | exact ⟨_, _, _, _, 4, rfl, rfl, rfl, rfl⟩ | exact ⟨_, _, _, _, 5, rfl, rfl, rfl, rfl⟩ | exact ⟨_, _, _, _, 6, rfl, rfl, rfl, rfl⟩ | exact ⟨_, _, _, _, 7, rfl, rfl, rfl, rfl⟩ | exact ⟨_, _, _, _, 8, rfl, rfl, rfl, rfl⟩ | exact ⟨_, _, _, _, 9, rfl, rfl, rfl, rfl⟩ | exact ⟨_, _, _, _, 10, rfl, rfl, rfl, rfl⟩ | exact ⟨_, _, _, _, 11, rfl, rfl, rfl, rfl⟩ | exact ⟨_, _, _, _, 12, rfl, rfl, rfl, rfl⟩ | exact ⟨_, _, _, _, 13, rfl, rfl, rfl, rfl⟩ | exact ⟨_, _, _, _, 14, rfl, rfl, rfl, rfl⟩ | exact ⟨_, _, _, _, 15, rfl, rfl, rfl, rfl⟩ | exact ⟨_, _, _, _, 16, rfl, rfl, rfl, rfl⟩ | exact ⟨_, _, _, _, 17, rfl, rfl, rfl, rfl⟩ | exact ⟨_, _, _, _, 18, rfl, rfl, rfl, rfl⟩ | exact ⟨_, _, _, _, 19, rfl, rfl, rfl, rfl⟩ | exact ⟨_, _, _, _, 20, rfl, rfl, rfl, rfl⟩ | exact ⟨_, _, _, _, 21, rfl, rfl, rfl, rfl⟩ | exact ⟨_, _, _, _, 22, rfl, rfl, rfl, rfl⟩ | exact ⟨_, _, _, _, 23, rfl, rfl, rfl, rfl⟩), rfl, trivial⟩ (A := [diA r p, dmA m g, rowA q 3 (([p0, p1, p2] : List Nat).flatMap ptC), dlA p0 0, dlA p1 1, dlA p2 2]) (Ent.trans (M := [pt r (itC _ _ i j p)] ++ [dmA m g, rowA q 3 (([p0, p1, p2] : List Nat).flatMap ptC), dlA p0 0, dlA p1 1, dlA p2 2]) pk_ (Ent.append (di_close _ _ hi hj) (Ent.refl _))) ⟨⟨cm0, _, rfl⟩, rfl⟩)
          | false =>
            (refine G tt_ok pk63 ?_; repeat (refine G1 tt_ok pk63 ?_; intro _))
            (refine ka rfl rfl (pass123 β r p) ?_; rintro _ _ ⟨⟨_, rfl⟩, rfl⟩; refine w_ ?_)
            (refine G tt_ok pk63 ?_; repeat (refine G1 tt_ok pk63 ?_; intro _))
            exact CW.ret (fin_cells [_, _] ⟨(by first | exact ⟨_, _, _, _, 0, rfl, rfl, rfl, rfl⟩ | exact ⟨_, _, _, _, 1, rfl, rfl, rfl, rfl⟩ | exact ⟨_, _, _, _, 2, rfl, rfl, rfl, rfl⟩ | exact ⟨_, _, _, _, 3, rfl, rfl, rfl, rfl⟩ | exact ⟨_, _, _, _, 4, rfl, rfl, rfl, rfl⟩ | exact ⟨_, _, _, _, 5, rfl, rfl, rfl, rfl⟩ | exact ⟨_, _, _, _, 6, rfl, rfl, rfl, rfl⟩ | exact ⟨_, _, _, _, 7, rfl, rfl, rfl, rfl⟩ | exact ⟨_, _, _, _, 8, rfl, rfl, rfl, rfl⟩ | exact ⟨_, _, _, _, 9, rfl, rfl, rfl, rfl⟩ | exact ⟨_, _, _, _, 10, rfl, rfl, rfl, rfl⟩ | exact ⟨_, _, _, _, 11, rfl, rfl, rfl, rfl⟩ | exact ⟨_, _, _, _, 12, rfl, rfl, rfl, rfl⟩ | exact ⟨_, _, _, _, 13, rfl, rfl, rfl, rfl⟩ | exact ⟨_, _, _, _, 14, rfl, rfl, rfl, rfl⟩ | exact ⟨_, _, _, _, 15, rfl, rfl, rfl, rfl⟩ | exact ⟨_, _, _, _, 16, rfl, rfl, rfl, rfl⟩ | exact ⟨_, _, _, _, 17, rfl, rfl, rfl, rfl⟩ | exact ⟨_, _, _, _, 18, rfl, rfl, rfl, rfl⟩ | exact ⟨_, _, _, _, 19, rfl, rfl, rfl, rfl⟩ | exact ⟨_, _, _, _, 20, rfl, rfl, rfl, rfl⟩ | exact ⟨_, _, _, _, 21, rfl, rfl, rfl, rfl⟩ | exact ⟨_, _, _, _, 22, rfl, rfl, rfl, rfl⟩ | exact ⟨_, _, _, _, 23, rfl, rfl, rfl, rfl⟩), rfl, trivial⟩ pk_ ⟨⟨(d0, d1, d2, d3, d4, d5, d6, d7, d8), _, rfl⟩, rfl⟩)
        · rw [show (e == 0) = false by simp [he]]
          (refine G tt_ok pk63 ?_; repeat (refine G1 tt_ok pk63 ?_; intro _))
          rw [show (e != 0) = true by simp [he]]
          (refine G tt_ok pk63 ?_; repeat (refine G1 tt_ok pk63 ?_; intro _))
          exact CW.ret (fin_cells [_, _] ⟨(by first | exact ⟨_, _, _, _, 0, rfl, rfl, rfl, rfl⟩ | exact ⟨_, _, _, _, 1, rfl, rfl, rfl, rfl⟩ | exact ⟨_, _, _, _, 2, rfl, rfl, rfl, rfl⟩ | exact ⟨_, _, _, _, 3, rfl, rfl, rfl, rfl⟩ | exact ⟨_, _, _, _, 4, rfl, rfl, rfl, rfl⟩ | exact ⟨_, _, _, _, 5, rfl, rfl, rfl, rfl⟩ | exact ⟨_, _, _, _, 6, rfl, rfl, rfl, rfl⟩ | exact ⟨_, _, _, _, 7, rfl, rfl, rfl, rfl⟩ | exact ⟨_, _, _, _, 8, rfl, rfl, rfl, rfl⟩ | exact ⟨_, _, _, _, 9, rfl, rfl, rfl, rfl⟩ | exact ⟨_, _, _, _, 10, rfl, rfl, rfl, rfl⟩ | exact ⟨_, _, _, _, 11, rfl, rfl, rfl, rfl⟩ | exact ⟨_, _, _, _, 12, rfl, rfl, rfl, rfl⟩ | exact ⟨_, _, _, _, 13, rfl, rfl, rfl, rfl⟩ | exact ⟨_, _, _, _, 14, rfl, rfl, rfl, rfl⟩ | exact ⟨_, _, _, _, 15, rfl, rfl, rfl, rfl⟩ | exact ⟨_, _, _, _, 16, rfl, rfl, rfl, rfl⟩ | exact ⟨_, _, _, _, 17, rfl, rfl, rfl, rfl⟩ | exact ⟨_, _, _, _, 18, rfl, rfl, rfl, rfl⟩ | exact ⟨_, _, _, _, 19, rfl, rfl, rfl, rfl⟩ | exact ⟨_, _, _, _, 20, rfl, rfl, rfl, rfl⟩ | exact ⟨_, _, _, _, 21, rfl, rfl, rfl, rfl⟩ | exact ⟨_, _, _, _, 22, rfl, rfl, rfl, rfl⟩ | exact ⟨_, _, _, _, 23, rfl, rfl, rfl, rfl⟩), rfl, trivial⟩ (A := [diA r p, dmA m g, rowA q 3 (([p0, p1, p2] : List Nat).flatMap ptC), dlA p0 0, dlA p1 1, dlA p2 2]) (Ent.trans (M := [pt r (itC _ _ i j p)] ++ [dmA m g, rowA q 3 (([p0, p1, p2] : List Nat).flatMap ptC), dlA p0 0, dlA p1 1, dlA p2 2]) pk_ (Ent.append (di_close _ _ hi hj) (Ent.refl _))) ⟨⟨cm0, _, rfl⟩, rfl⟩)
theorem resume65 (β : Base) (r : Nat) (p : Int) (v : Bool) : Tri Tryz.prog β 65 [.pointer (some ⟨r, 0, none⟩), .bool v] [diA r p] (fun u L => u = .tuple #[] ∧ L = [diA r p]) := by
  refine Tri.intro tt_ok Tryz.func65 rfl rfl Tryz.ntmps65 rfl fun F => ?_
  (refine G tt_ok pk65 ?_; repeat (refine G1 tt_ok pk65 ?_; intro _))
  refine SQ.ent _ (Rm.to (A := diA r p) (by repeat (first | exact Rm.h | apply Rm.t)) (Ent.refl [diA r p])) ?_; refine SQ.open_ fun x => SQ.pure_ fun hx => ?_; obtain ⟨on, st, i, j⟩ := x; obtain ⟨hi, hj⟩ := hx; simp only at hi hj ⊢
  (refine G tt_ok pk65 ?_; repeat (refine G1 tt_ok pk65 ?_; intro _))
  cases st with
  | false =>
    (refine G tt_ok pk65 ?_; repeat (refine G1 tt_ok pk65 ?_; intro _))
    exact fin_normal (vs := []) rfl (A := [diA r p]) (Ent.trans (M := [pt r (itC on false i j p)]) pk_ (di_close on false hi hj)) ⟨rfl, rfl⟩
  | true =>
    (refine G tt_ok pk65 ?_; repeat (refine G1 tt_ok pk65 ?_; intro _))
    cases v with
    | false =>
      (refine G tt_ok pk65 ?_; repeat (refine G1 tt_ok pk65 ?_; intro _))
      exact fin_normal (vs := []) rfl (A := [diA r p]) (Ent.trans (M := [pt r (itC on false i j p)]) pk_ (di_close on false hi hj)) ⟨rfl, rfl⟩
    | true =>
      (refine G tt_ok pk65 ?_; repeat (refine G1 tt_ok pk65 ?_; intro _))
      refine SQ.ent _ (tk_ (As := [pt r (itC on true i j p)]) (di_close on true hi hj)) ?_
      (refine ka rfl rfl (pass123 β r p) ?_; rintro _ _ ⟨⟨_, rfl⟩, rfl⟩; refine w_ ?_)
      (refine G tt_ok pk65 ?_; repeat (refine G1 tt_ok pk65 ?_; intro _))
      refine SQ.ent _ (Rm.to (A := diA r p) (by repeat (first | exact Rm.h | apply Rm.t)) (Ent.refl [diA r p])) ?_; refine SQ.open_ fun x => SQ.pure_ fun hx => ?_; obtain ⟨on, st, i, j⟩ := x; obtain ⟨hi, hj⟩ := hx; simp only at hi hj ⊢
      (refine G tt_ok pk65 ?_; repeat (refine G1 tt_ok pk65 ?_; intro _))
      exact fin_normal (vs := []) rfl (A := [diA r p]) (Ent.trans (M := [pt r (itC on false i j p)]) pk_ (di_close on false hi hj)) ⟨rfl, rfl⟩
end Go.Proofs.YthhfoppaaehepaaGreatDoor.Sl
namespace Go.Proofs.YthhfoppaaehepaaGreatDoor.Sl
open Go Go.RowKit Go.Proofs
set_option linter.unusedVariables false
set_option linter.unusedSimpArgs false
attribute [local irreducible] CW Tri OW
set_option maxRecDepth 10000
@[reducible] def pk53 : List (Nat × Plan) := [(6, [(0, 0, []), (1, 0, []), (5, 0, []), (2, 1, []), (3, 0, []), (4, 1, []), (6, 0, [])])]
@[reducible] def pk26 : List (Nat × Plan) := []
theorem pk_fresh {p : Nat} {xs : List Value} {l : List Lp} : Ent [pt p xs, pkA colF l] [pureA (p ∉ l.map Lp.p), pt p xs, pkA colF l] := fun h s => by
  by_cases hm : p ∈ l.map Lp.p
  · exfalso
    obtain ⟨x, hx, rfl⟩ := List.mem_map.1 hm
    obtain ⟨k, hk⟩ := List.getElem?_of_mem hx
    obtain ⟨h2, s2, _⟩ := Ent.cons (pt x.p xs) (pk_open (f := colF) hk) h s
    obtain ⟨a, b, ⟨t, rfl⟩, ⟨c, d, ⟨t2, rfl⟩, _, _, rfl⟩, dj, rfl⟩ := s2
    have := dj x.p
    rcases this with e | e
    · simp [Hp.one] at e
    · simp [Hp.add, Hp.one] at e
  · exact Ent.pureA hm h s
set_option maxHeartbeats 4000000 in
theorem new53 (β : Base) : Tri Tryz.prog β 53 [.int .i64 4096] [] (fun v L => ∃ m g m' g', v = .tuple #[.pointer (some ⟨m, 0, none⟩), .pointer (some ⟨m', 0, none⟩)] ∧ L = memA m g (List.replicate 4096 0) ++ [dmA m' g']) := by
  refine Tri.intro tt_ok Tryz.func53 rfl rfl Tryz.ntmps53 rfl fun F => ?_
  (refine G tt_ok pk53 ?_; repeat (refine G1 tt_ok pk53 ?_; intro _))
  (refine ka rfl rfl (new96 β (n := 4096) (by omega)) ?_; rintro _ _ ⟨m, g, rfl, rfl⟩; refine w_ ?_)
  (refine G tt_ok pk53 ?_; repeat (refine G1 tt_ok pk53 ?_; intro _))
  refine SQ.make tt_ok rfl rfl 4096 rfl rfl (by decide) (by decide) (by decide) (fun g' => ⟨(by repeat (first | exact trivial | refine ⟨trivial, ?_⟩ | refine ⟨wk (by repeat (first | exact .h | exact .q | apply At.t)) (by rfl), ?_⟩)), ?_⟩)
  (refine G tt_ok pk53 ?_; repeat (refine G1 tt_ok pk53 ?_; intro _))
  rename_i m'
  refine CW.ret (fin_ret rfl (A := memA m g (List.replicate 4096 0) ++ [dmA m' g']) (Ent.trans (M := memA m g (List.replicate 4096 0) ++ [pt m' [.slice (some ⟨g', 0, none⟩) 4096 4096], pt g' (bys (List.replicate 4096 0))]) (by unfold memA; rw [← made_bys]; exact pk_) (Ent.append (Ent.refl _) (dm_close List.length_replicate))) ⟨m, g, m', g', rfl, rfl⟩)
/-- Where a world lies. -/
structure WH where
  s : Nat
  m : Nat
  g : Nat
  q : Option Addr
  c : Nat
  ps : List Nat
  r : Nat
  m' : Nat
  g' : Nat
  q' : Option Addr
  c' : Nat
  p0 : Nat
  p1 : Nat
  p2 : Nat
def WH.ok (h : WH) : Prop := h.ps.length = 3 ∧ h.ps.Nodup
/-- A world, the program's. -/
structure PS where
  w : SW
  on : Bool
  st : Bool
  i : Nat
  j : Nat
def PS.ok (x : PS) : Prop := x.w.ok ∧ x.i < 10 ∧ x.j < 10
@[reducible] def wC7 (h : WH) (ok : Bool) : List Value := [.pointer (some ⟨h.s, 0, none⟩), .pointer (some ⟨h.m, 0, none⟩), .slice h.q 3 h.c, .pointer (some ⟨h.r, 0, none⟩), .pointer (some ⟨h.m', 0, none⟩), .slice h.q' 3 h.c', .bool ok]
def wA (h : WH) (p : Int) (x : PS) : List Atom := pt h.s (itC x.on x.st x.i x.j p) :: rowA h.q 3 (h.ps.flatMap ptC) :: (swA h.m h.g h.ps x.w ++ [diA h.r p, dmA h.m' h.g', rowA h.q' 3 (([h.p0, h.p1, h.p2] : List Nat).flatMap ptC), dlA h.p0 0, dlA h.p1 1, dlA h.p2 2])
def pgI (pg : Bool) : Int := if pg then 32 else 0
theorem pgI_or (pg : Bool) : pgI pg = 0 ∨ pgI pg = 32 := by cases pg <;> simp [pgI]
def B0 (pg : Bool) : List Nat := if pg then leadV (leadV (List.replicate 4096 0) 0) 1 else List.replicate 4096 0
/-- The world at first, k parts of it. -/
def laidK (pg : Bool) : Nat → SW
  | 0 => ⟨B0 pg, []⟩
  | k + 1 => ⟨(enV k false [] (List.replicate (20 + 16 * k) 0) (laidK pg k).B).2.2, (laidK pg k).cs ++ [⟨true, (enV k false [] (List.replicate (20 + 16 * k) 0) (laidK pg k).B).1, (enV k false [] (List.replicate (20 + 16 * k) 0) (laidK pg k).B).2.1⟩]⟩
def laidS (pg : Bool) : PS := ⟨laidK pg 3, true, false, 0, 0⟩
theorem B0_ok (pg : Bool) : (B0 pg).length = 4096 ∧ byOk (B0 pg) := by
  have h0 : (List.replicate 4096 0).length = 4096 ∧ byOk (List.replicate 4096 0) := ⟨List.length_replicate, fun b hb => by have := List.eq_of_mem_replicate hb; omega⟩
  unfold B0
  cases pg with
  | false => exact h0
  | true =>
    have h1 := leadV_ok h0.1 h0.2 (k := 0) (by omega)
    exact leadV_ok h1.1 h1.2 (k := 1) (by omega)
theorem laidK_ok (pg : Bool) : ∀ k, k ≤ 3 → (laidK pg k).B.length = 4096 ∧ byOk (laidK pg k).B ∧ (laidK pg k).cs.length = k ∧ ∀ j, j < k → setOk ((laidK pg k).cs.getD j pc0).U ∧ ((laidK pg k).cs.getD j pc0).C.length = 20 + 16 * j
  | 0, _ => ⟨(B0_ok pg).1, (B0_ok pg).2, rfl, fun j hj => absurd hj (by omega)⟩
  | k + 1, hk => by
    obtain ⟨h1, h2, h3, h4⟩ := laidK_ok pg k (by omega)
    have hE := enK_ok (k := k) (by omega) (U := []) ⟨by simp, by simp⟩ h1 h2 (Nat.le_refl (20 + 16 * k))
    refine ⟨hE.2.1, hE.2.2, by simp [laidK, h3], fun j hj => ?_⟩
    by_cases e : j = k
    · subst e
      simp only [laidK, List.getD_eq_getElem?_getD]
      rw [List.getElem?_append_right (by omega), h3, Nat.sub_self]
      simp only [List.getElem?_cons_zero, Option.getD_some]
      exact ⟨hE.1, by unfold enV; simp only [Bool.false_eq_true, if_false]; rw [invK_len]; simp⟩
    · have := h4 j (by omega)
      simp only [laidK, List.getD_eq_getElem?_getD] at this ⊢
      rw [List.getElem?_append_left (by omega)]
      exact this
theorem laidS_ok (pg : Bool) : (laidS pg).ok := by
  obtain ⟨h1, h2, h3, h4⟩ := laidK_ok pg 3 (by omega)
  exact ⟨⟨h1, h2, h3, h4⟩, by simp [laidS], by simp [laidS]⟩
def dF (x : Nat × Nat) : List Atom := [dlA x.1 x.2]
def laidA (c2 c3 s m g r m' g' : Nat) (pg : Bool) (k : Nat) (l : List Lp) (dl : List (Nat × Nat)) (q : Option Addr) (c : Nat) (q' : Option Addr) (c' : Nat) : List Atom :=
  pkA colF l :: pkA dF dl :: [pt c2 [.pointer none, .pointer none, .slice none 0 0, .pointer none, .pointer none, .slice none 0 0, .bool false],
    pt c3 [.pointer (some ⟨s, 0, none⟩), .pointer (some ⟨m, 0, none⟩), .slice q k c, .pointer (some ⟨r, 0, none⟩), .pointer (some ⟨m', 0, none⟩), .slice q' k c', .bool false],
    own 50 1 (.slice q k c) k ((l.map Lp.p).flatMap ptC), own 124 1 (.slice q' k c') k ((dl.map Prod.fst).flatMap ptC), pt m [.slice (some ⟨g, 0, none⟩) (laidK pg k).B.length (laidK pg k).B.length], pt g (bys (laidK pg k).B), pt s (itC true false 0 0 (pgI pg)), diA r (pgI pg), dmA m' g']
set_option maxHeartbeats 16000000 in
theorem laid26 (β : Base) (pg : Bool) : Tri Tryz.prog β 26 [.bool pg] [] (fun v L => ∃ h : WH, h.ok ∧ v = .agg (wC7 h true).toArray ∧ L = wA h (pgI pg) (laidS pg)) := by
  refine Tri.intro tt_ok Tryz.func26 rfl rfl Tryz.ntmps26 rfl fun F => ?_
  (refine G tt_ok pk26 ?_; repeat (refine G1 tt_ok pk26 ?_; intro _))
  rename_i c2 c3
  (refine ka rfl rfl (new53 β) ?_; rintro _ _ ⟨m, g, m', g', rfl, rfl⟩; refine w_ ?_)
  (refine G tt_ok pk26 ?_; repeat (refine G1 tt_ok pk26 ?_; intro _))
  rename_i c6
  have h0 : (List.replicate 4096 0).length = 4096 := List.length_replicate
  have hb0 : byOk (List.replicate 4096 0) := fun b hb => by have := List.eq_of_mem_replicate hb; omega
  cases pg with
  | false =>
    (refine G tt_ok pk26 ?_; repeat (refine G1 tt_ok pk26 ?_; intro _))
    rename_i c7
    refine ke rfl rfl (new56 β) ?_
    (refine G tt_ok pk26 ?_; repeat (refine G1 tt_ok pk26 ?_; intro _))
    rename_i c8 s r
    refine cwtk (As := [pt r (itC true false 0 0 (pgI false))]) (di_close true false (by omega) (by omega)) ?_
    refine CW.ent (own_nil 50 1) (CW.ent (own_nil 124 1) (CW.ent (pk_nil (f := colF)) (CW.ent (pk_nil (f := dF)) ?_)))
    refine CW.loop (α := Nat × List Lp × List (Nat × Nat) × (Option Addr × Nat) × (Option Addr × Nat)) (fun x => x.1 ≤ 3 ∧ x.2.1.map Lp.pc = (laidK false x.1).cs ∧ x.2.1.map Lp.k = List.range x.1 ∧ (x.2.1.map Lp.p).Nodup ∧ x.2.2.1.map Prod.snd = List.range x.1)
      (fun x => [(10, .int .i64 x.1), (2, .pointer (some ⟨c2, 0, none⟩)), (3, .pointer (some ⟨c3, 0, none⟩)), (4, .pointer (some ⟨m, 0, none⟩)), (5, .pointer (some ⟨m', 0, none⟩))])
      (fun x => laidA c2 c3 s m g r m' g' false x.1 x.2.1 x.2.2.1 x.2.2.2.1.1 x.2.2.2.1.2 x.2.2.2.2.1 x.2.2.2.2.2) (fun x => 3 - x.1) (0, [], [], (none, 0), (none, 0)) ⟨by simp, rfl, rfl, by simp, rfl⟩ ⟨rfl, rfl, rfl, rfl, rfl, trivial⟩ (by unfold laidA; exact pk_) ?_
    rintro ⟨k, l, dl, ⟨q, c⟩, ⟨q', c'⟩⟩ ⟨hk, hl1, hl2, hl3, hl4⟩
    simp only at hk hl1 hl2 hl3 hl4 ⊢
    obtain ⟨hB, hb, _, _⟩ := laidK_ok false k hk
    unfold laidA
    (refine G tt_ok pk26 ?_; repeat (refine G1 tt_ok pk26 ?_; intro _))
    by_cases hlt : k < 3
    · rw [decide_eq_true (show (k : Int) < 3 by omega)]
      have e : IntKind.i64.wrap ((k : Int) + 1) = ((k + 1 : Nat) : Int) := by rw [wrap_id (by omega) (by omega)]; omega
      have e5 : IntKind.i64.wrap (560 + IntKind.i64.wrap (16 * (k : Int))) = ((560 + 16 * k : Nat) : Int) := by rw [wrap_id (x := 16 * (k : Int)) (by omega) (by omega), wrap_id (by omega) (by omega)]; omega
      have e2 : IntKind.i64.wrap (20 + IntKind.i64.wrap (16 * (k : Int))) = ((20 + 16 * k : Nat) : Int) := by rw [wrap_id (x := 16 * (k : Int)) (by omega) (by omega), wrap_id (by omega) (by omega)]; omega
      (refine G tt_ok pk26 ?_; repeat (refine G1 tt_ok pk26 ?_; intro _))
      rename_i c11 c12
      rw [e2, e5]
      (refine ka rfl rfl (new57 β m g hlt (laidK false k).B hB) ?_; rintro _ _ ⟨p, rr, S, rfl, rfl⟩; refine w_ ?_)
      refine SQ.ent _ (tk_ (As := [pt p (lpC k false rr S), pkA colF l]) pk_fresh) ?_
      refine SQ.pure_ fun hfr => ?_
      (refine G tt_ok pk26 ?_; repeat (refine G1 tt_ok pk26 ?_; intro _))
      rw [e2]
      (refine ka rfl rfl (new58 β m' g' hlt) ?_; rintro _ _ ⟨pd, rfl, rfl⟩; refine w_ ?_)
      (refine G tt_ok pk26 ?_; repeat (refine G1 tt_ok pk26 ?_; intro _))
      (refine ka rfl rfl (enable59 β p rr S m g none 0 hlt false (U := []) ⟨by simp, by simp⟩ (List.replicate (20 + 16 * k) 0) List.length_replicate (laidK false k).B hB hb) ?_; rintro _ _ ⟨q1, c1, rfl, rfl⟩; refine w_ ?_)
      (refine G tt_ok pk26 ?_; repeat (refine G1 tt_ok pk26 ?_; intro _))
      refine ke rfl rfl (enable60 β pd m' g' hlt) ?_
      (refine G tt_ok pk26 ?_; repeat (refine G1 tt_ok pk26 ?_; intro _))
      (refine SQ.built tt_ok rfl rfl (fun _ => w_ ?_))
      (refine G tt_ok pk26 ?_; repeat (refine G1 tt_ok pk26 ?_; intro _))
      (refine SQ.appA tt_ok rfl rfl (by repeat (first | exact Rm.h | apply Rm.t)) (by repeat (first | exact .h | exact .q | apply At.t)) ([.pointer (some ⟨p, 0, none⟩)]) rfl rfl rfl (scal_eq rfl) (by omega) (by show (k + 1) * 8 ≤ _; omega) (fun qa ca => w_ ?_))
      (refine G tt_ok pk26 ?_; repeat (refine G1 tt_ok pk26 ?_; intro _))
      (refine SQ.built tt_ok rfl rfl (fun _ => w_ ?_))
      (refine G tt_ok pk26 ?_; repeat (refine G1 tt_ok pk26 ?_; intro _))
      (refine SQ.appA tt_ok rfl rfl (by repeat (first | exact Rm.h | apply Rm.t)) (by repeat (first | exact .h | exact .q | apply At.t)) ([.pointer (some ⟨pd, 0, none⟩)]) rfl rfl rfl (scal_eq rfl) (by omega) (by show (k + 1) * 8 ≤ _; omega) (fun qb cb => w_ ?_))
      (refine G tt_ok pk26 ?_; repeat (refine G1 tt_ok pk26 ?_; intro _))
      refine ⟨(k + 1, l ++ [⟨p, rr, S, k, q1, c1, true, (enV k false [] (List.replicate (20 + 16 * k) 0) (laidK false k).B).1, (enV k false [] (List.replicate (20 + 16 * k) 0) (laidK false k).B).2.1⟩], dl ++ [(pd, k)], (qa, ca), (qb, cb)), ⟨by simp; omega, ?_, ?_, ?_, ?_⟩, by simp; omega, ⟨by rw [← e]; rfl, rfl, rfl, rfl, rfl, trivial⟩, ?_⟩
      · simp only [List.map_append, hl1]; rfl
      · simp only [List.map_append, hl2, List.range_succ]; rfl
      · simp only [List.map_append, List.map_cons, List.map_nil]
        exact List.nodup_append.2 ⟨hl3, by simp, fun a ha b hb => by simp only [List.mem_singleton] at hb; subst hb; intro e; subst e; exact hfr ha⟩
      · simp only [List.map_append, hl4, List.range_succ]; rfl
      · dsimp only [laidA]
        simp only [List.map_append, List.map_cons, List.map_nil, List.flatMap_append]
        refine Ent.trans (M := (colF ⟨p, rr, S, k, q1, c1, true, (enV k false [] (List.replicate (20 + 16 * k) 0) (laidK false k).B).1, (enV k false [] (List.replicate (20 + 16 * k) 0) (laidK false k).B).2.1⟩ ++ [pkA colF l]) ++ ((dF (pd, k) ++ [pkA dF dl]) ++ _)) ?_ (Ent.append pk_snoc (Ent.append pk_snoc (Ent.refl _)))
        unfold colF dF colA setL
        exact pk_
    · rw [decide_eq_false (show ¬ (k : Int) < 3 by omega)]
      (refine G tt_ok pk26 ?_; repeat (refine G1 tt_ok pk26 ?_; intro _))
      refine CW.exit ?_
      obtain rfl : k = 3 := by omega
      (refine G tt_ok pk26 ?_; repeat (refine G1 tt_ok pk26 ?_; intro _))
      obtain ⟨p0, p1, p2, rfl⟩ : ∃ p0 p1 p2, dl = [(p0, 0), (p1, 1), (p2, 2)] := by
        match dl, hl4 with
        | [(a, x), (b, y), (d, z)], h =>
          simp only [List.map_cons, List.map_nil, show List.range 3 = [0, 1, 2] from rfl, List.cons.injEq, and_true] at h
          obtain ⟨rfl, rfl, rfl⟩ := h
          exact ⟨a, b, d, rfl⟩
      have hC : Ent [pkA colF l] [colsA (l.map Lp.p) (laidK false 3).cs] := (Ent.pureA (L := [pkA colF l]) ⟨rfl, hl1, hl2⟩).trans (Ent.exA (f := fun l' : List Lp => [pureA (Cols (l.map Lp.p) (laidK false 3).cs l'), pkA colF l']) l)
      have hD : Ent [pkA dF [(p0, 0), (p1, 1), (p2, 2)]] [dlA p0 0, dlA p1 1, dlA p2 2] := by have := Ent.unpack (([(p0, 0), (p1, 1), (p2, 2)] : List (Nat × Nat)).flatMap dF) []; rw [List.append_nil] at this; exact this
      have hlen : (l.map Lp.p).length = 3 := by have := congrArg List.length hl2; simpa using this
      refine CW.ret (fin_cells [_] ⟨(by first | exact ⟨_, _, _, _, 0, rfl, rfl, rfl, rfl⟩ | exact ⟨_, _, _, _, 1, rfl, rfl, rfl, rfl⟩ | exact ⟨_, _, _, _, 2, rfl, rfl, rfl, rfl⟩ | exact ⟨_, _, _, _, 3, rfl, rfl, rfl, rfl⟩ | exact ⟨_, _, _, _, 4, rfl, rfl, rfl, rfl⟩ | exact ⟨_, _, _, _, 5, rfl, rfl, rfl, rfl⟩ | exact ⟨_, _, _, _, 6, rfl, rfl, rfl, rfl⟩ | exact ⟨_, _, _, _, 7, rfl, rfl, rfl, rfl⟩ | exact ⟨_, _, _, _, 8, rfl, rfl, rfl, rfl⟩ | exact ⟨_, _, _, _, 9, rfl, rfl, rfl, rfl⟩ | exact ⟨_, _, _, _, 10, rfl, rfl, rfl, rfl⟩ | exact ⟨_, _, _, _, 11, rfl, rfl, rfl, rfl⟩ | exact ⟨_, _, _, _, 12, rfl, rfl, rfl, rfl⟩ | exact ⟨_, _, _, _, 13, rfl, rfl, rfl, rfl⟩ | exact ⟨_, _, _, _, 14, rfl, rfl, rfl, rfl⟩ | exact ⟨_, _, _, _, 15, rfl, rfl, rfl, rfl⟩ | exact ⟨_, _, _, _, 16, rfl, rfl, rfl, rfl⟩ | exact ⟨_, _, _, _, 17, rfl, rfl, rfl, rfl⟩ | exact ⟨_, _, _, _, 18, rfl, rfl, rfl, rfl⟩ | exact ⟨_, _, _, _, 19, rfl, rfl, rfl, rfl⟩ | exact ⟨_, _, _, _, 20, rfl, rfl, rfl, rfl⟩ | exact ⟨_, _, _, _, 21, rfl, rfl, rfl, rfl⟩ | exact ⟨_, _, _, _, 22, rfl, rfl, rfl, rfl⟩ | exact ⟨_, _, _, _, 23, rfl, rfl, rfl, rfl⟩), trivial⟩ (A := wA ⟨s, m, g, q, c, l.map Lp.p, r, m', g', q', c', p0, p1, p2⟩ (pgI false) (laidS false)) ?_ ⟨⟨s, m, g, q, c, l.map Lp.p, r, m', g', q', c', p0, p1, p2⟩, ⟨hlen, hl3⟩, rfl, rfl⟩)
      refine Ent.trans (M := [pkA colF l] ++ ([pkA dF [(p0, 0), (p1, 1), (p2, 2)]] ++ [pt s (itC true false 0 0 (pgI false)), rowA q 3 ((l.map Lp.p).flatMap ptC), pt m [.slice (some ⟨g, 0, none⟩) (laidK false 3).B.length (laidK false 3).B.length], pt g (bys (laidK false 3).B), diA r (pgI false), dmA m' g', rowA q' 3 (([p0, p1, p2] : List Nat).flatMap ptC)])) pk_ ?_
      refine Ent.trans (Ent.append hC (Ent.append hD (Ent.refl _))) ?_
      unfold wA swA memA
      exact pk_
  | true =>
    (refine G tt_ok pk26 ?_; repeat (refine G1 tt_ok pk26 ?_; intro _))
    refine ke rfl rfl (lead54 β m g (List.replicate 4096 0) h0 (k := 0) (by omega)) ?_
    (refine G tt_ok pk26 ?_; repeat (refine G1 tt_ok pk26 ?_; intro _))
    refine ke rfl rfl (lead54 β m g (leadV (List.replicate 4096 0) 0) (leadV_ok h0 hb0 (k := 0) (by omega)).1 (k := 1) (by omega)) ?_
    (refine G tt_ok pk26 ?_; repeat (refine G1 tt_ok pk26 ?_; intro _))
    (refine ka rfl rfl (lead55 β m' g' 0 64 0 640) ?_; rintro _ _ ⟨⟨_, rfl⟩, rfl⟩; refine w_ ?_)
    (refine G tt_ok pk26 ?_; repeat (refine G1 tt_ok pk26 ?_; intro _))
    (refine ka rfl rfl (lead55 β m' g' 0 64 4 680) ?_; rintro _ _ ⟨⟨_, rfl⟩, rfl⟩; refine w_ ?_)
    (refine G tt_ok pk26 ?_; repeat (refine G1 tt_ok pk26 ?_; intro _))
    rename_i c7
    refine ke rfl rfl (new56 β) ?_
    (refine G tt_ok pk26 ?_; repeat (refine G1 tt_ok pk26 ?_; intro _))
    rename_i c8 s r
    refine cwtk (As := [pt r (itC true false 0 0 (pgI true))]) (di_close true false (by omega) (by omega)) ?_
    refine CW.ent (own_nil 50 1) (CW.ent (own_nil 124 1) (CW.ent (pk_nil (f := colF)) (CW.ent (pk_nil (f := dF)) ?_)))
    refine CW.loop (α := Nat × List Lp × List (Nat × Nat) × (Option Addr × Nat) × (Option Addr × Nat)) (fun x => x.1 ≤ 3 ∧ x.2.1.map Lp.pc = (laidK true x.1).cs ∧ x.2.1.map Lp.k = List.range x.1 ∧ (x.2.1.map Lp.p).Nodup ∧ x.2.2.1.map Prod.snd = List.range x.1)
      (fun x => [(10, .int .i64 x.1), (2, .pointer (some ⟨c2, 0, none⟩)), (3, .pointer (some ⟨c3, 0, none⟩)), (4, .pointer (some ⟨m, 0, none⟩)), (5, .pointer (some ⟨m', 0, none⟩))])
      (fun x => laidA c2 c3 s m g r m' g' true x.1 x.2.1 x.2.2.1 x.2.2.2.1.1 x.2.2.2.1.2 x.2.2.2.2.1 x.2.2.2.2.2) (fun x => 3 - x.1) (0, [], [], (none, 0), (none, 0)) ⟨by simp, rfl, rfl, by simp, rfl⟩ ⟨rfl, rfl, rfl, rfl, rfl, trivial⟩ (by unfold laidA; exact pk_) ?_
    rintro ⟨k, l, dl, ⟨q, c⟩, ⟨q', c'⟩⟩ ⟨hk, hl1, hl2, hl3, hl4⟩
    simp only at hk hl1 hl2 hl3 hl4 ⊢
    obtain ⟨hB, hb, _, _⟩ := laidK_ok true k hk
    unfold laidA
    (refine G tt_ok pk26 ?_; repeat (refine G1 tt_ok pk26 ?_; intro _))
    by_cases hlt : k < 3
    · rw [decide_eq_true (show (k : Int) < 3 by omega)]
      have e : IntKind.i64.wrap ((k : Int) + 1) = ((k + 1 : Nat) : Int) := by rw [wrap_id (by omega) (by omega)]; omega
      have e5 : IntKind.i64.wrap (560 + IntKind.i64.wrap (16 * (k : Int))) = ((560 + 16 * k : Nat) : Int) := by rw [wrap_id (x := 16 * (k : Int)) (by omega) (by omega), wrap_id (by omega) (by omega)]; omega
      have e2 : IntKind.i64.wrap (20 + IntKind.i64.wrap (16 * (k : Int))) = ((20 + 16 * k : Nat) : Int) := by rw [wrap_id (x := 16 * (k : Int)) (by omega) (by omega), wrap_id (by omega) (by omega)]; omega
      (refine G tt_ok pk26 ?_; repeat (refine G1 tt_ok pk26 ?_; intro _))
      rename_i c11 c12
      rw [e2, e5]
      (refine ka rfl rfl (new57 β m g hlt (laidK true k).B hB) ?_; rintro _ _ ⟨p, rr, S, rfl, rfl⟩; refine w_ ?_)
      refine SQ.ent _ (tk_ (As := [pt p (lpC k false rr S), pkA colF l]) pk_fresh) ?_
      refine SQ.pure_ fun hfr => ?_
      (refine G tt_ok pk26 ?_; repeat (refine G1 tt_ok pk26 ?_; intro _))
      rw [e2]
      (refine ka rfl rfl (new58 β m' g' hlt) ?_; rintro _ _ ⟨pd, rfl, rfl⟩; refine w_ ?_)
      (refine G tt_ok pk26 ?_; repeat (refine G1 tt_ok pk26 ?_; intro _))
      (refine ka rfl rfl (enable59 β p rr S m g none 0 hlt false (U := []) ⟨by simp, by simp⟩ (List.replicate (20 + 16 * k) 0) List.length_replicate (laidK true k).B hB hb) ?_; rintro _ _ ⟨q1, c1, rfl, rfl⟩; refine w_ ?_)
      (refine G tt_ok pk26 ?_; repeat (refine G1 tt_ok pk26 ?_; intro _))
      refine ke rfl rfl (enable60 β pd m' g' hlt) ?_
      (refine G tt_ok pk26 ?_; repeat (refine G1 tt_ok pk26 ?_; intro _))
      (refine SQ.built tt_ok rfl rfl (fun _ => w_ ?_))
      (refine G tt_ok pk26 ?_; repeat (refine G1 tt_ok pk26 ?_; intro _))
      (refine SQ.appA tt_ok rfl rfl (by repeat (first | exact Rm.h | apply Rm.t)) (by repeat (first | exact .h | exact .q | apply At.t)) ([.pointer (some ⟨p, 0, none⟩)]) rfl rfl rfl (scal_eq rfl) (by omega) (by show (k + 1) * 8 ≤ _; omega) (fun qa ca => w_ ?_))
      (refine G tt_ok pk26 ?_; repeat (refine G1 tt_ok pk26 ?_; intro _))
      (refine SQ.built tt_ok rfl rfl (fun _ => w_ ?_))
      (refine G tt_ok pk26 ?_; repeat (refine G1 tt_ok pk26 ?_; intro _))
      (refine SQ.appA tt_ok rfl rfl (by repeat (first | exact Rm.h | apply Rm.t)) (by repeat (first | exact .h | exact .q | apply At.t)) ([.pointer (some ⟨pd, 0, none⟩)]) rfl rfl rfl (scal_eq rfl) (by omega) (by show (k + 1) * 8 ≤ _; omega) (fun qb cb => w_ ?_))
      (refine G tt_ok pk26 ?_; repeat (refine G1 tt_ok pk26 ?_; intro _))
      refine ⟨(k + 1, l ++ [⟨p, rr, S, k, q1, c1, true, (enV k false [] (List.replicate (20 + 16 * k) 0) (laidK true k).B).1, (enV k false [] (List.replicate (20 + 16 * k) 0) (laidK true k).B).2.1⟩], dl ++ [(pd, k)], (qa, ca), (qb, cb)), ⟨by simp; omega, ?_, ?_, ?_, ?_⟩, by simp; omega, ⟨by rw [← e]; rfl, rfl, rfl, rfl, rfl, trivial⟩, ?_⟩
      · simp only [List.map_append, hl1]; rfl
      · simp only [List.map_append, hl2, List.range_succ]; rfl
      · simp only [List.map_append, List.map_cons, List.map_nil]
        exact List.nodup_append.2 ⟨hl3, by simp, fun a ha b hb => by simp only [List.mem_singleton] at hb; subst hb; intro e; subst e; exact hfr ha⟩
      · simp only [List.map_append, hl4, List.range_succ]; rfl
      · dsimp only [laidA]
        simp only [List.map_append, List.map_cons, List.map_nil, List.flatMap_append]
        refine Ent.trans (M := (colF ⟨p, rr, S, k, q1, c1, true, (enV k false [] (List.replicate (20 + 16 * k) 0) (laidK true k).B).1, (enV k false [] (List.replicate (20 + 16 * k) 0) (laidK true k).B).2.1⟩ ++ [pkA colF l]) ++ ((dF (pd, k) ++ [pkA dF dl]) ++ _)) ?_ (Ent.append pk_snoc (Ent.append pk_snoc (Ent.refl _)))
        unfold colF dF colA setL
        exact pk_
    · rw [decide_eq_false (show ¬ (k : Int) < 3 by omega)]
      (refine G tt_ok pk26 ?_; repeat (refine G1 tt_ok pk26 ?_; intro _))
      refine CW.exit ?_
      obtain rfl : k = 3 := by omega
      (refine G tt_ok pk26 ?_; repeat (refine G1 tt_ok pk26 ?_; intro _))
      obtain ⟨p0, p1, p2, rfl⟩ : ∃ p0 p1 p2, dl = [(p0, 0), (p1, 1), (p2, 2)] := by
        match dl, hl4 with
        | [(a, x), (b, y), (d, z)], h =>
          simp only [List.map_cons, List.map_nil, show List.range 3 = [0, 1, 2] from rfl, List.cons.injEq, and_true] at h
          obtain ⟨rfl, rfl, rfl⟩ := h
          exact ⟨a, b, d, rfl⟩
      have hC : Ent [pkA colF l] [colsA (l.map Lp.p) (laidK true 3).cs] := (Ent.pureA (L := [pkA colF l]) ⟨rfl, hl1, hl2⟩).trans (Ent.exA (f := fun l' : List Lp => [pureA (Cols (l.map Lp.p) (laidK true 3).cs l'), pkA colF l']) l)
      have hD : Ent [pkA dF [(p0, 0), (p1, 1), (p2, 2)]] [dlA p0 0, dlA p1 1, dlA p2 2] := by have := Ent.unpack (([(p0, 0), (p1, 1), (p2, 2)] : List (Nat × Nat)).flatMap dF) []; rw [List.append_nil] at this; exact this
      have hlen : (l.map Lp.p).length = 3 := by have := congrArg List.length hl2; simpa using this
      refine CW.ret (fin_cells [_] ⟨(by first | exact ⟨_, _, _, _, 0, rfl, rfl, rfl, rfl⟩ | exact ⟨_, _, _, _, 1, rfl, rfl, rfl, rfl⟩ | exact ⟨_, _, _, _, 2, rfl, rfl, rfl, rfl⟩ | exact ⟨_, _, _, _, 3, rfl, rfl, rfl, rfl⟩ | exact ⟨_, _, _, _, 4, rfl, rfl, rfl, rfl⟩ | exact ⟨_, _, _, _, 5, rfl, rfl, rfl, rfl⟩ | exact ⟨_, _, _, _, 6, rfl, rfl, rfl, rfl⟩ | exact ⟨_, _, _, _, 7, rfl, rfl, rfl, rfl⟩ | exact ⟨_, _, _, _, 8, rfl, rfl, rfl, rfl⟩ | exact ⟨_, _, _, _, 9, rfl, rfl, rfl, rfl⟩ | exact ⟨_, _, _, _, 10, rfl, rfl, rfl, rfl⟩ | exact ⟨_, _, _, _, 11, rfl, rfl, rfl, rfl⟩ | exact ⟨_, _, _, _, 12, rfl, rfl, rfl, rfl⟩ | exact ⟨_, _, _, _, 13, rfl, rfl, rfl, rfl⟩ | exact ⟨_, _, _, _, 14, rfl, rfl, rfl, rfl⟩ | exact ⟨_, _, _, _, 15, rfl, rfl, rfl, rfl⟩ | exact ⟨_, _, _, _, 16, rfl, rfl, rfl, rfl⟩ | exact ⟨_, _, _, _, 17, rfl, rfl, rfl, rfl⟩ | exact ⟨_, _, _, _, 18, rfl, rfl, rfl, rfl⟩ | exact ⟨_, _, _, _, 19, rfl, rfl, rfl, rfl⟩ | exact ⟨_, _, _, _, 20, rfl, rfl, rfl, rfl⟩ | exact ⟨_, _, _, _, 21, rfl, rfl, rfl, rfl⟩ | exact ⟨_, _, _, _, 22, rfl, rfl, rfl, rfl⟩ | exact ⟨_, _, _, _, 23, rfl, rfl, rfl, rfl⟩), trivial⟩ (A := wA ⟨s, m, g, q, c, l.map Lp.p, r, m', g', q', c', p0, p1, p2⟩ (pgI true) (laidS true)) ?_ ⟨⟨s, m, g, q, c, l.map Lp.p, r, m', g', q', c', p0, p1, p2⟩, ⟨hlen, hl3⟩, rfl, rfl⟩)
      refine Ent.trans (M := [pkA colF l] ++ ([pkA dF [(p0, 0), (p1, 1), (p2, 2)]] ++ [pt s (itC true false 0 0 (pgI true)), rowA q 3 ((l.map Lp.p).flatMap ptC), pt m [.slice (some ⟨g, 0, none⟩) (laidK true 3).B.length (laidK true 3).B.length], pt g (bys (laidK true 3).B), diA r (pgI true), dmA m' g', rowA q' 3 (([p0, p1, p2] : List Nat).flatMap ptC)])) pk_ ?_
      refine Ent.trans (Ent.append hC (Ent.append hD (Ent.refl _))) ?_
      unfold wA swA memA
      exact pk_
end Go.Proofs.YthhfoppaaehepaaGreatDoor.Sl
namespace Go.Proofs.YthhfoppaaehepaaGreatDoor.Sl
open Go Go.RowKit Go.Proofs
set_option linter.unusedVariables false
set_option linter.unusedSimpArgs false
attribute [local irreducible] CW Tri OW
set_option maxRecDepth 10000
@[reducible] def pk28 : List (Nat × Plan) := [(3, [(0, 0, []), (1, 0, []), (2, 0, []), (3, 0, []), (4, 0, []), (5, 0, []), (6, 0, []), (7, 0, []), (9, 0, []), (10, 0, []), (11, 0, []), (12, 0, []), (13, 0, []), (14, 0, []), (8, 1, [1, 3, 5, 7, 10, 12, 14]), (15, 1, [1, 3, 5, 7, 10, 12, 14]), (16, 0, []), (17, 0, [])]), (5, [(0, 0, []), (1, 0, []), (2, 0, []), (3, 0, []), (4, 0, []), (5, 0, []), (6, 0, []), (7, 0, []), (9, 0, []), (10, 0, []), (11, 0, []), (12, 0, []), (13, 0, []), (14, 0, []), (15, 0, []), (16, 0, []), (17, 0, []), (8, 1, [1, 5, 7, 10, 15, 17]), (18, 1, [1, 5, 7, 10, 15, 17]), (19, 0, []), (20, 0, [])]), (18, [(0, 0, []), (1, 0, []), (2, 0, []), (3, 0, []), (4, 0, []), (5, 0, []), (6, 0, []), (7, 0, []), (8, 0, []), (9, 0, []), (10, 0, []), (11, 0, []), (13, 0, []), (14, 0, []), (15, 0, []), (16, 0, []), (17, 0, []), (18, 0, []), (19, 0, []), (20, 0, []), (21, 0, []), (22, 0, []), (12, 1, [1, 3, 5, 8, 11, 14, 16, 19, 22]), (23, 1, [1, 3, 5, 8, 11, 14, 16, 19, 22]), (24, 0, []), (25, 0, [])]), (28, [(0, 0, []), (1, 0, []), (2, 0, []), (3, 0, []), (4, 0, []), (5, 0, []), (6, 0, []), (7, 0, []), (8, 1, [1, 3, 5, 7])]), (29, [(0, 0, []), (1, 0, []), (2, 0, []), (3, 0, []), (4, 0, []), (5, 0, []), (6, 0, []), (7, 0, []), (8, 0, []), (9, 0, []), (10, 1, [2, 4, 6, 9])]), (31, [(0, 0, []), (1, 0, []), (2, 0, []), (3, 0, []), (4, 0, []), (5, 0, []), (6, 0, []), (7, 0, []), (8, 1, [1, 3, 5, 7])]), (32, [(0, 0, []), (1, 0, []), (2, 0, []), (3, 0, []), (4, 0, []), (5, 0, []), (6, 0, []), (7, 0, []), (8, 0, []), (9, 0, []), (10, 1, [2, 4, 6, 9])])]
theorem slr_t {β : Base} (q : Option Addr) {ps : List Nat} (h : ps.length = 3) : SlR β (rowA q 3 (ps.flatMap ptC)) q 3 1 (ps.flatMap ptC) := slr_row (by rw [flatE_len (sz := 1) (fun _ => rfl), h])
theorem tsOk {β : Base} {h : WH} (hh : h.ok) : TsOk β (rowA h.q 3 (h.ps.flatMap ptC)) h.q h.ps := ⟨slr_t h.q hh.1, hh.1, hh.2⟩
/-- By how many parts a number waits. -/
def SW.count (w : SW) (n : Int) : Nat := (if w.has 0 n then 1 else 0) + (if w.has 1 n then 1 else 0) + (if w.has 2 n then 1 else 0)
/-- An act. -/
structure Ac where
  d : Int
  n : Int
  c : Cm
  is : Bool
  v : Int
@[reducible] def acC (a : Ac) : List Value := [.int .i64 a.d, .int .i64 a.n, .int .i64 a.c.1, .int .i64 a.c.2.1, .int .i64 a.c.2.2.1, .int .i64 a.c.2.2.2.1, .int .i64 a.c.2.2.2.2.1, .int .i64 a.c.2.2.2.2.2.1, .int .i64 a.c.2.2.2.2.2.2.1, .int .i64 a.c.2.2.2.2.2.2.2.1, .bool a.c.2.2.2.2.2.2.2.2, .bool a.is, .int .u64 a.v]
/-- An act is done. -/
def actV (p : Int) (x : PS) (a : Ac) : PS := if a.d = 1 then ⟨(doV p x.w a.c).1, x.on, x.st, x.i, x.j⟩ else if a.d = 2 then ⟨⟨(putV x.w.B x.i x.j a.c).1, x.w.cs⟩, x.on, x.st, x.i, (putV x.w.B x.i x.j a.c).2.1⟩ else
  if a.d = 3 then ⟨(stepV p x.on x.j ⟨x.w, x.st, x.i⟩).1.w, x.on, (stepV p x.on x.j ⟨x.w, x.st, x.i⟩).1.st, (stepV p x.on x.j ⟨x.w, x.st, x.i⟩).1.i, x.j⟩ else if a.d = 4 then ⟨x.w, x.on, false, resI x.st x.i x.j a.is, x.j⟩ else
  if a.d = 6 then ⟨(messageV p x.w x.on a.c.2.1 a.c.2.2.1).1, x.on, x.st, x.i, x.j⟩ else if a.d = 7 then ⟨x.w, a.is, x.st, x.i, x.j⟩ else
  if a.d = 9 ∧ 0 ≤ a.n ∧ a.n < 3 then ⟨if a.is then x.w.en a.n.toNat else x.w.dis a.n.toNat, x.on, x.st, x.i, x.j⟩ else x
set_option maxHeartbeats 32000000 in
theorem does28 (β : Base) (hG : TabOk β) {h : WH} (hh : h.ok) (ok : Bool) {p : Int} (hp : p = 0 ∨ p = 32) {x : PS} (hx : x.ok) (a : Ac) (h5 : a.d ≠ 5) (h8 : a.d ≠ 8) : Tri Tryz.prog β 28 [.agg (wC7 h ok).toArray, .agg (acC a).toArray] (wA h p x) (fun v L => (∃ b, v = .bool b) ∧ L = wA h p (actV p x a)) := by
  refine Tri.intro tt_ok Tryz.func28 rfl rfl Tryz.ntmps28 rfl fun F => ?_
  have hS := tsOk (β := β) hh
  have hS3 := slr_t (β := β) h.q hh.1
  obtain ⟨hw, hi, hj⟩ := hx
  obtain ⟨d, n, ⟨op, dev, ev, num, coll, tgt, b, ad, v⟩, is, vv⟩ := a
  obtain ⟨w, on, st, i, j⟩ := x
  obtain ⟨s, m, g, q, c, ps, r, m', g', q', c', p0, p1, p2⟩ := h
  simp only at hw hi hj h5 h8 hS hS3 hh ⊢
  (refine G tt_ok pk28 ?_; repeat (refine G1 tt_ok pk28 ?_; intro _))
  rename_i c2 c3
  by_cases h1 : d = 1
  · subst h1
    (refine G tt_ok pk28 ?_; repeat (refine G1 tt_ok pk28 ?_; intro _))
    refine ke rfl rfl (do14 β s m g c hS hp hw on st i j (op, dev, ev, num, coll, tgt, b, ad, v)) ?_
    (refine G tt_ok pk28 ?_; repeat (refine G1 tt_ok pk28 ?_; intro _))
    (refine ka rfl rfl (do61 β r m' g' q' c' p0 p1 p2 hp (op, dev, ev, num, coll, tgt, b, ad, v)) ?_; rintro _ _ ⟨⟨_, rfl⟩, rfl⟩; refine w_ ?_)
    (refine G tt_ok pk28 ?_; repeat (refine G1 tt_ok pk28 ?_; intro _))
    exact CW.ret (fin_ret rfl (A := wA ⟨s, m, g, q, c, ps, r, m', g', q', c', p0, p1, p2⟩ p ⟨(doV p w (op, dev, ev, num, coll, tgt, b, ad, v)).1, on, st, i, j⟩) pk_ ⟨⟨_, rfl⟩, by unfold actV; rfl⟩)
  · rw [show (d == 1) = false by simp [h1]]
    (refine G tt_ok pk28 ?_; repeat (refine G1 tt_ok pk28 ?_; intro _))
    by_cases h2 : d = 2
    · subst h2
      (refine G tt_ok pk28 ?_; repeat (refine G1 tt_ok pk28 ?_; intro _))
      refine ke rfl rfl (put51 β m g s w.B hw.1 on st p hi hj (op, dev, ev, num, coll, tgt, b, ad, v)) ?_
      (refine G tt_ok pk28 ?_; repeat (refine G1 tt_ok pk28 ?_; intro _))
      (refine ka rfl rfl (put62 β r m' g' p (op, dev, ev, num, coll, tgt, b, ad, v)) ?_; rintro _ _ ⟨⟨_, rfl⟩, rfl⟩; refine w_ ?_)
      (refine G tt_ok pk28 ?_; repeat (refine G1 tt_ok pk28 ?_; intro _))
      exact CW.ret (fin_ret rfl (A := wA ⟨s, m, g, q, c, ps, r, m', g', q', c', p0, p1, p2⟩ p ⟨⟨(putV w.B i j (op, dev, ev, num, coll, tgt, b, ad, v)).1, w.cs⟩, on, st, i, (putV w.B i j (op, dev, ev, num, coll, tgt, b, ad, v)).2.1⟩) pk_ ⟨⟨_, rfl⟩, by unfold actV; rfl⟩)
    · rw [show (d == 2) = false by simp [h2]]
      (refine G tt_ok pk28 ?_; repeat (refine G1 tt_ok pk28 ?_; intro _))
      by_cases h3 : d = 3
      · subst h3
        (refine G tt_ok pk28 ?_; repeat (refine G1 tt_ok pk28 ?_; intro _))
        have hst : IW.ok ⟨w, st, i⟩ := ⟨hw, hi⟩
        refine ke rfl rfl (step22 β s m g c hS hp hst on hj) ?_
        generalize hzz : stepV p on j ⟨w, st, i⟩ = zz
        obtain ⟨⟨w2, st2, i2⟩, ⟨d0, d1, d2, d3, d4, d5, d6, d7, d8⟩, e⟩ := zz
        simp only
        (refine G tt_ok pk28 ?_; repeat (refine G1 tt_ok pk28 ?_; intro _))
        (refine ka rfl rfl (step63 β r m' g' q' c' p0 p1 p2 hp) ?_; rintro _ _ ⟨⟨⟨k0, k1, k2, k3, k4, k5, k6, k7, k8⟩, e2, rfl⟩, rfl⟩; refine w_ ?_)
        unfold cmV
        simp only
        (refine G tt_ok pk28 ?_; repeat (refine G1 tt_ok pk28 ?_; intro _))
        refine SQ.eqs tt_ok rfl rfl rfl (by kernel_rfl) (by kernel_rfl) ?_
        (refine G tt_ok pk28 ?_; repeat (refine G1 tt_ok pk28 ?_; intro _))
        generalize (if true = true then _ else _ : Bool) = bb
        cases bb with
        | false =>
          (refine G tt_ok pk28 ?_; repeat (refine G1 tt_ok pk28 ?_; intro _))
          exact CW.ret (fin_ret rfl (A := wA ⟨s, m, g, q, c, ps, r, m', g', q', c', p0, p1, p2⟩ p ⟨w2, on, st2, i2, j⟩) pk_ ⟨⟨_, rfl⟩, by unfold actV; simp only [hzz]; rfl⟩)
        | true =>
          (refine G tt_ok pk28 ?_; repeat (refine G1 tt_ok pk28 ?_; intro _))
          exact CW.ret (fin_ret rfl (A := wA ⟨s, m, g, q, c, ps, r, m', g', q', c', p0, p1, p2⟩ p ⟨w2, on, st2, i2, j⟩) pk_ ⟨⟨_, rfl⟩, by unfold actV; simp only [hzz]; rfl⟩)
      · rw [show (d == 3) = false by simp [h3]]
        (refine G tt_ok pk28 ?_; repeat (refine G1 tt_ok pk28 ?_; intro _))
        by_cases h4 : d = 4
        · subst h4
          (refine G tt_ok pk28 ?_; repeat (refine G1 tt_ok pk28 ?_; intro _))
          refine ke rfl rfl (resume64 β s on st p hi hj is) ?_
          (refine G tt_ok pk28 ?_; repeat (refine G1 tt_ok pk28 ?_; intro _))
          refine ke rfl rfl (resume65 β r p is) ?_
          (refine G tt_ok pk28 ?_; repeat (refine G1 tt_ok pk28 ?_; intro _))
          exact CW.ret (fin_ret rfl (A := wA ⟨s, m, g, q, c, ps, r, m', g', q', c', p0, p1, p2⟩ p ⟨w, on, false, resI st i j is, j⟩) pk_ ⟨⟨_, rfl⟩, by unfold actV; rfl⟩)
        · rw [show (d == 4) = false by simp [h4]]
          (refine G tt_ok pk28 ?_; repeat (refine G1 tt_ok pk28 ?_; intro _))
          rw [show (d == 5) = false by simp [h5]]
          (refine G tt_ok pk28 ?_; repeat (refine G1 tt_ok pk28 ?_; intro _))
          by_cases h6 : d = 6
          · subst h6
            (refine G tt_ok pk28 ?_; repeat (refine G1 tt_ok pk28 ?_; intro _))
            refine ke rfl rfl (message24 β s m g c hS hp hw on st i j dev ev) ?_
            (refine G tt_ok pk28 ?_; repeat (refine G1 tt_ok pk28 ?_; intro _))
            (refine ka rfl rfl (message67 β r m' g' q' c' p0 p1 p2 hp dev ev) ?_; rintro _ _ ⟨⟨_, rfl⟩, rfl⟩; refine w_ ?_)
            (refine G tt_ok pk28 ?_; repeat (refine G1 tt_ok pk28 ?_; intro _))
            exact CW.ret (fin_ret rfl (A := wA ⟨s, m, g, q, c, ps, r, m', g', q', c', p0, p1, p2⟩ p ⟨(messageV p w on dev ev).1, on, st, i, j⟩) pk_ ⟨⟨_, rfl⟩, by unfold actV; rfl⟩)
          · rw [show (d == 6) = false by simp [h6]]
            (refine G tt_ok pk28 ?_; repeat (refine G1 tt_ok pk28 ?_; intro _))
            by_cases h7 : d = 7
            · subst h7
              (refine G tt_ok pk28 ?_; repeat (refine G1 tt_ok pk28 ?_; intro _))
              refine SQ.ent _ (Rm.to (A := diA r p) (by repeat (first | exact Rm.h | apply Rm.t)) (Ent.refl [diA r p])) ?_; refine SQ.open_ fun x => SQ.pure_ fun hx => ?_; obtain ⟨on', st', i', j'⟩ := x; obtain ⟨hi', hj'⟩ := hx; simp only at hi' hj' ⊢
              (refine G tt_ok pk28 ?_; repeat (refine G1 tt_ok pk28 ?_; intro _))
              refine CW.ret (fin_ret rfl (A := wA ⟨s, m, g, q, c, ps, r, m', g', q', c', p0, p1, p2⟩ p ⟨w, is, st, i, j⟩) ?_ ⟨⟨_, rfl⟩, by unfold actV; rfl⟩)
              refine Ent.trans (M := [pt r (itC is st' i' j' p)] ++ (pt s (itC is st i j p) :: rowA q 3 (ps.flatMap ptC) :: (swA m g ps w ++ [dmA m' g', rowA q' 3 (([p0, p1, p2] : List Nat).flatMap ptC), dlA p0 0, dlA p1 1, dlA p2 2]))) pk_ ?_
              refine Ent.trans (Ent.append (di_close is st' hi' hj') (Ent.refl _)) ?_
              exact pk_
            · rw [show (d == 7) = false by simp [h7]]
              (refine G tt_ok pk28 ?_; repeat (refine G1 tt_ok pk28 ?_; intro _))
              rw [show (d == 8) = false by simp [h8]]
              (refine G tt_ok pk28 ?_; repeat (refine G1 tt_ok pk28 ?_; intro _))
              by_cases h9 : d = 9
              · subst h9
                (refine G tt_ok pk28 ?_; repeat (refine G1 tt_ok pk28 ?_; intro _))
                by_cases hn : 0 ≤ n ∧ n < 3
                · rw [decide_eq_true (show n ≥ 0 from hn.1)]
                  (refine G tt_ok pk28 ?_; repeat (refine G1 tt_ok pk28 ?_; intro _))
                  rw [decide_eq_true (show n < ((3 : Nat) : Int) from hn.2)]
                  (refine G tt_ok pk28 ?_; repeat (refine G1 tt_ok pk28 ?_; intro _))
                  cases is with
                  | true =>
                    (refine G tt_ok pk28 ?_; repeat (refine G1 tt_ok pk28 ?_; intro _))
                    obtain ⟨k, rfl⟩ : ∃ k : Nat, n = (k : Int) := ⟨n.toNat, by omega⟩
                    have hk : k < 3 := by omega
                    obtain ⟨y, hy⟩ : ∃ y, ps[k]? = some y := ⟨_, List.getElem?_eq_getElem (by rw [hh.1]; exact hk)⟩
                    have hgy : y = ps.getD k 0 := by rw [List.getD_eq_getElem?_getD, hy]; rfl
                    (refine G tt_ok pk28 ?_; repeat (refine G1 tt_ok pk28 ?_; intro _))
                    (refine SQ.idxG tt_ok rfl rfl (hS3) (by repeat (first | exact .h | apply AtA.t)) (k) (rfl) (hk) rfl ?_)
                    (refine G tt_ok pk28 ?_; repeat (refine G1 tt_ok pk28 ?_; intro _))
                    (refine SQ.ldG tt_ok rfl rfl (hS3) (by repeat (first | exact .h | apply AtA.t)) (by omega) (fun cur hcs => pt_cur hcs hy) ?_)
                    (refine G tt_ok pk28 ?_; repeat (refine G1 tt_ok pk28 ?_; intro _))
                    rw [hgy]
                    (refine SQ.callA rfl rfl (enable59C β m g ps hw hk) (by repeat (first | exact .n | exact Rm.h | exact Rm.of own_row | exact Rm.of row_close0 | apply Tk.c | apply Rm.t)) ?_; rintro _ _ ⟨rfl, rfl⟩; refine ⟨(by repeat (first | exact trivial | refine ⟨trivial, ?_⟩ | refine ⟨RdAt.slr hS3 (by repeat (first | exact .h | apply AtA.t)) (by omega) (fun cur hcs => hgy ▸ pt_cur hcs hy), ?_⟩ | refine ⟨wk (by repeat (first | exact .h | exact .q | apply At.t)) (by rfl), ?_⟩)), ?_⟩)
                    (refine G tt_ok pk28 ?_; repeat (refine G1 tt_ok pk28 ?_; intro _))
                    have hA : actV p ⟨w, on, st, i, j⟩ ⟨9, (k : Int), (op, dev, ev, num, coll, tgt, b, ad, v), true, vv⟩ = ⟨w.en k, on, st, i, j⟩ := by
                      unfold actV
                      simp only
                      rw [if_neg (by decide), if_neg (by decide), if_neg (by decide), if_neg (by decide), if_neg (by decide), if_neg (by decide), if_pos ⟨trivial, by omega, by omega⟩, Int.toNat_natCast]
                      rfl
                    rw [hA]
                    generalize w.en k = w2
                    rcases lt3 hk with rfl | rfl | rfl
                    all_goals (
                      (refine SQ.idxG tt_ok rfl rfl ((slr_p q' p0 p1 p2)) (by repeat (first | exact .h | apply AtA.t)) (_) (rfl) (hk) rfl ?_)
                      (refine G tt_ok pk28 ?_; repeat (refine G1 tt_ok pk28 ?_; intro _))
                      (refine SQ.ldG tt_ok rfl rfl ((slr_p q' p0 p1 p2)) (by repeat (first | exact .h | apply AtA.t)) (by omega) (fun cur hcs => pt_curD hcs rfl) ?_)
                      (refine G tt_ok pk28 ?_; repeat (refine G1 tt_ok pk28 ?_; intro _))
                      (refine SQ.callA rfl rfl (enable60 β _ m' g' hk) (by repeat (first | exact .n | exact Rm.h | exact Rm.of own_row | exact Rm.of row_close0 | apply Tk.c | apply Rm.t)) ?_; rintro _ _ ⟨rfl, rfl⟩; refine ⟨(by repeat (first | exact trivial | refine ⟨trivial, ?_⟩ | refine ⟨RdAt.slr (slr_p q' p0 p1 p2) (by repeat (first | exact .h | apply AtA.t)) (by omega) (fun cur hcs => pt_curD hcs rfl), ?_⟩ | refine ⟨wk (by repeat (first | exact .h | exact .q | apply At.t)) (by rfl), ?_⟩)), ?_⟩)
                      (refine G tt_ok pk28 ?_; repeat (refine G1 tt_ok pk28 ?_; intro _))
                      exact CW.ret (fin_ret rfl (A := wA ⟨s, m, g, q, c, ps, r, m', g', q', c', p0, p1, p2⟩ p ⟨w2, on, st, i, j⟩) pk_ ⟨⟨_, rfl⟩, rfl⟩))
                  | false =>
                    (refine G tt_ok pk28 ?_; repeat (refine G1 tt_ok pk28 ?_; intro _))
                    rw [decide_eq_true (show n ≥ 0 from hn.1)]
                    (refine G tt_ok pk28 ?_; repeat (refine G1 tt_ok pk28 ?_; intro _))
                    rw [decide_eq_true (show n < ((3 : Nat) : Int) from hn.2)]
                    (refine G tt_ok pk28 ?_; repeat (refine G1 tt_ok pk28 ?_; intro _))
                    obtain ⟨k, rfl⟩ : ∃ k : Nat, n = (k : Int) := ⟨n.toNat, by omega⟩
                    have hk : k < 3 := by omega
                    obtain ⟨y, hy⟩ : ∃ y, ps[k]? = some y := ⟨_, List.getElem?_eq_getElem (by rw [hh.1]; exact hk)⟩
                    have hgy : y = ps.getD k 0 := by rw [List.getD_eq_getElem?_getD, hy]; rfl
                    (refine G tt_ok pk28 ?_; repeat (refine G1 tt_ok pk28 ?_; intro _))
                    (refine SQ.idxG tt_ok rfl rfl (hS3) (by repeat (first | exact .h | apply AtA.t)) (k) (rfl) (hk) rfl ?_)
                    (refine G tt_ok pk28 ?_; repeat (refine G1 tt_ok pk28 ?_; intro _))
                    (refine SQ.ldG tt_ok rfl rfl (hS3) (by repeat (first | exact .h | apply AtA.t)) (by omega) (fun cur hcs => pt_cur hcs hy) ?_)
                    (refine G tt_ok pk28 ?_; repeat (refine G1 tt_ok pk28 ?_; intro _))
                    rw [hgy]
                    (refine SQ.callA rfl rfl (disable70C β hG m g ps hw hk) (by repeat (first | exact .n | exact Rm.h | exact Rm.of own_row | exact Rm.of row_close0 | apply Tk.c | apply Rm.t)) ?_; rintro _ _ ⟨rfl, rfl⟩; refine ⟨(by repeat (first | exact trivial | refine ⟨trivial, ?_⟩ | refine ⟨RdAt.slr hS3 (by repeat (first | exact .h | apply AtA.t)) (by omega) (fun cur hcs => hgy ▸ pt_cur hcs hy), ?_⟩ | refine ⟨wk (by repeat (first | exact .h | exact .q | apply At.t)) (by rfl), ?_⟩)), ?_⟩)
                    (refine G tt_ok pk28 ?_; repeat (refine G1 tt_ok pk28 ?_; intro _))
                    have hA : actV p ⟨w, on, st, i, j⟩ ⟨9, (k : Int), (op, dev, ev, num, coll, tgt, b, ad, v), false, vv⟩ = ⟨w.dis k, on, st, i, j⟩ := by
                      unfold actV
                      simp only
                      rw [if_neg (by decide), if_neg (by decide), if_neg (by decide), if_neg (by decide), if_neg (by decide), if_neg (by decide), if_pos ⟨trivial, by omega, by omega⟩, Int.toNat_natCast]
                      rfl
                    rw [hA]
                    generalize w.dis k = w2
                    rcases lt3 hk with rfl | rfl | rfl
                    all_goals (
                      (refine SQ.idxG tt_ok rfl rfl ((slr_p q' p0 p1 p2)) (by repeat (first | exact .h | apply AtA.t)) (_) (rfl) (hk) rfl ?_)
                      (refine G tt_ok pk28 ?_; repeat (refine G1 tt_ok pk28 ?_; intro _))
                      (refine SQ.ldG tt_ok rfl rfl ((slr_p q' p0 p1 p2)) (by repeat (first | exact .h | apply AtA.t)) (by omega) (fun cur hcs => pt_curD hcs rfl) ?_)
                      (refine G tt_ok pk28 ?_; repeat (refine G1 tt_ok pk28 ?_; intro _))
                      (refine SQ.callA rfl rfl (disable71 β _ m' g' hk) (by repeat (first | exact .n | exact Rm.h | exact Rm.of own_row | exact Rm.of row_close0 | apply Tk.c | apply Rm.t)) ?_; rintro _ _ ⟨rfl, rfl⟩; refine ⟨(by repeat (first | exact trivial | refine ⟨trivial, ?_⟩ | refine ⟨RdAt.slr (slr_p q' p0 p1 p2) (by repeat (first | exact .h | apply AtA.t)) (by omega) (fun cur hcs => pt_curD hcs rfl), ?_⟩ | refine ⟨wk (by repeat (first | exact .h | exact .q | apply At.t)) (by rfl), ?_⟩)), ?_⟩)
                      (refine G tt_ok pk28 ?_; repeat (refine G1 tt_ok pk28 ?_; intro _))
                      exact CW.ret (fin_ret rfl (A := wA ⟨s, m, g, q, c, ps, r, m', g', q', c', p0, p1, p2⟩ p ⟨w2, on, st, i, j⟩) pk_ ⟨⟨_, rfl⟩, rfl⟩))
                · have hA : actV p ⟨w, on, st, i, j⟩ ⟨9, n, (op, dev, ev, num, coll, tgt, b, ad, v), is, vv⟩ = ⟨w, on, st, i, j⟩ := by
                    unfold actV
                    simp only
                    rw [if_neg (by decide), if_neg (by decide), if_neg (by decide), if_neg (by decide), if_neg (by decide), if_neg (by decide), if_neg (fun h => hn h.2)]
                  rw [hA]
                  by_cases h0 : n ≥ 0
                  · have h3 : ¬ n < ((3 : Nat) : Int) := fun h => hn ⟨h0, h⟩
                    rw [decide_eq_true h0]
                    (refine G tt_ok pk28 ?_; repeat (refine G1 tt_ok pk28 ?_; intro _))
                    rw [decide_eq_false h3]
                    (refine G tt_ok pk28 ?_; repeat (refine G1 tt_ok pk28 ?_; intro _))
                    rw [decide_eq_true h0]
                    (refine G tt_ok pk28 ?_; repeat (refine G1 tt_ok pk28 ?_; intro _))
                    rw [decide_eq_false h3]
                    (refine G tt_ok pk28 ?_; repeat (refine G1 tt_ok pk28 ?_; intro _))
                    exact CW.ret (fin_ret rfl (A := wA ⟨s, m, g, q, c, ps, r, m', g', q', c', p0, p1, p2⟩ p ⟨w, on, st, i, j⟩) pk_ ⟨⟨_, rfl⟩, rfl⟩)
                  · rw [decide_eq_false h0]
                    (refine G tt_ok pk28 ?_; repeat (refine G1 tt_ok pk28 ?_; intro _))
                    rw [decide_eq_false h0]
                    (refine G tt_ok pk28 ?_; repeat (refine G1 tt_ok pk28 ?_; intro _))
                    exact CW.ret (fin_ret rfl (A := wA ⟨s, m, g, q, c, ps, r, m', g', q', c', p0, p1, p2⟩ p ⟨w, on, st, i, j⟩) pk_ ⟨⟨_, rfl⟩, rfl⟩)
              · rw [show (d == 9) = false by simp [h9]]
                (refine G tt_ok pk28 ?_; repeat (refine G1 tt_ok pk28 ?_; intro _))
                have hA : actV p ⟨w, on, st, i, j⟩ ⟨d, n, (op, dev, ev, num, coll, tgt, b, ad, v), is, vv⟩ = ⟨w, on, st, i, j⟩ := by
                  unfold actV
                  simp only
                  rw [if_neg h1, if_neg h2, if_neg h3, if_neg h4, if_neg h6, if_neg h7, if_neg (fun h => h9 h.1)]
                rw [hA]
                exact CW.ret (fin_ret rfl (A := wA ⟨s, m, g, q, c, ps, r, m', g', q', c', p0, p1, p2⟩ p ⟨w, on, st, i, j⟩) pk_ ⟨⟨_, rfl⟩, rfl⟩)
end Go.Proofs.YthhfoppaaehepaaGreatDoor.Sl
namespace Go.Proofs.YthhfoppaaehepaaGreatDoor.Sl
open Go Go.RowKit Go.Proofs
set_option linter.unusedVariables false
set_option linter.unusedSimpArgs false
attribute [local irreducible] CW Tri OW
set_option maxRecDepth 10000
@[reducible] def pk9 : List (Nat × Plan) := []
theorem ac_cur {cs : List Value} {off n : Nat} {xs : List Ac} (h : (cs.drop off).take (n * 13) = xs.flatMap acC) {k : Nat} {a : Ac} (hk : xs[k]? = some a) : rdv ti82 cs (off + k * 13) = some (.agg (acC a).toArray) :=
  rd_enc (enc := acC) (fun _ => rfl) (ti := ti82) rfl rfl h hk
def lowA (a : Ac) : Prop := a.c.1 = 8 ∧ a.c.2.2.2.2.2.2.2.2 = true ∧ a.c.2.2.2.2.2.2.2.1 < 1024
def skipA (a : Ac) : Prop := a.d = 8 ∨ a.d = 5 ∨ lowA a
instance (a : Ac) : Decidable (lowA a) := by unfold lowA; infer_instance
instance (a : Ac) : Decidable (skipA a) := by unfold skipA; infer_instance
def stepA (p : Int) (x : PS) (a : Ac) : PS := if skipA a then x else actV p x a
theorem actV_ok {p : Int} {x : PS} (hx : x.ok) (a : Ac) : (actV p x a).ok := by
  obtain ⟨hw, hi, hj⟩ := hx
  unfold actV
  by_cases h1 : a.d = 1
  · rw [if_pos h1]; exact ⟨doV_ok hw _, hi, hj⟩
  rw [if_neg h1]
  by_cases h2 : a.d = 2
  · rw [if_pos h2]
    obtain ⟨a1, a2, a3⟩ := putV_in (i := x.i) (c := a.c) hw.1 hw.2.1 hj
    exact ⟨⟨a1, a2, hw.2.2⟩, hi, a3⟩
  rw [if_neg h2]
  by_cases h3 : a.d = 3
  · rw [if_pos h3]
    have := stepV_ok (p := p) (on := x.on) (j := x.j) (x := ⟨x.w, x.st, x.i⟩) ⟨hw, hi⟩
    exact ⟨this.1, this.2, hj⟩
  rw [if_neg h3]
  by_cases h4 : a.d = 4
  · rw [if_pos h4]
    refine ⟨hw, ?_, hj⟩
    show resI _ _ _ _ < 10
    unfold resI
    split
    · exact nxI_lt _ hi
    · exact hi
  rw [if_neg h4]
  by_cases h6 : a.d = 6
  · rw [if_pos h6]
    refine ⟨?_, hi, hj⟩
    show (messageV _ _ _ _ _).1.ok
    unfold messageV
    split
    · exact waitsV_ok hw _ _ _
    · exact hw
  rw [if_neg h6]
  by_cases h7 : a.d = 7
  · rw [if_pos h7]; exact ⟨hw, hi, hj⟩
  rw [if_neg h7]
  by_cases h9 : a.d = 9 ∧ 0 ≤ a.n ∧ a.n < 3
  · rw [if_pos h9]
    refine ⟨?_, hi, hj⟩
    show (if a.is = true then _ else _ : SW).ok
    split
    · exact SW.en_ok hw (by omega)
    · exact SW.dis_ok hw (by omega)
  · rw [if_neg h9]; exact ⟨hw, hi, hj⟩
theorem stepA_ok {p : Int} {x : PS} (hx : x.ok) (a : Ac) : (stepA p x a).ok := by
  unfold stepA
  split
  · exact hx
  · exact actV_ok hx a
def playV (pg : Bool) (al : List Ac) : PS := al.foldl (stepA (pgI pg)) (laidS pg)
theorem foldA_ok {p : Int} : ∀ {al : List Ac} {x : PS}, x.ok → (al.foldl (stepA p) x).ok
  | [], _, h => h
  | a :: al, x, h => foldA_ok (al := al) (stepA_ok h a)
set_option maxHeartbeats 16000000 in
theorem played9 (β : Base) (hG : TabOk β) (pg : Bool) {q : Option Addr} {n c : Nat} {al : List Ac} {A : Atom} (hS : SlR β A q n 13 (al.flatMap acC)) (hal : al.length = n) (hn : n ≤ 9223372036854775807) :
    Tri Tryz.prog β 9 [.bool pg, .slice q n c] [A] (fun v L => ∃ h : WH, h.ok ∧ v = .agg (wC7 h true).toArray ∧ L = A :: wA h (pgI pg) (playV pg al)) := by
  refine Tri.intro tt_ok Tryz.func9 rfl rfl Tryz.ntmps9 rfl fun F => ?_
  (refine G tt_ok pk9 ?_; repeat (refine G1 tt_ok pk9 ?_; intro _))
  rename_i c4
  (refine ka rfl rfl (laid26 β pg) ?_; rintro _ _ ⟨h, hh, rfl, rfl⟩; refine w_ ?_)
  (refine G tt_ok pk9 ?_; repeat (refine G1 tt_ok pk9 ?_; intro _))
  rename_i c5
  refine CW.loop (α := Nat) (fun k => k ≤ n) (fun k => [(6, .int .i64 k), (0, .bool pg), (1, .slice q n c), (4, .pointer (some ⟨c4, 0, none⟩)), (5, .pointer (some ⟨c5, 0, none⟩))])
    (fun k => [pt c4 [.pointer none, .pointer none, .slice none 0 0, .pointer none, .pointer none, .slice none 0 0, .bool false], pt c5 (wC7 h true), A] ++ wA h (pgI pg) ((al.take k).foldl (stepA (pgI pg)) (laidS pg))) (fun k => n - k) 0 (by omega) ⟨rfl, rfl, rfl, rfl, rfl, trivial⟩ pk_ ?_
  intro k hk
  have hok : ((al.take k).foldl (stepA (pgI pg)) (laidS pg)).ok := foldA_ok (laidS_ok pg)
  generalize hx : (al.take k).foldl (stepA (pgI pg)) (laidS pg) = x at hok ⊢
  (refine G tt_ok pk9 ?_; repeat (refine G1 tt_ok pk9 ?_; intro _))
  by_cases hlt : k < n
  · rw [decide_eq_true (show (k : Int) < (n : Int) by omega)]
    have e : IntKind.i64.wrap ((k : Int) + 1) = ((k + 1 : Nat) : Int) := by rw [wrap_id (by omega) (by omega)]; omega
    obtain ⟨a, ha⟩ : ∃ a, al[k]? = some a := ⟨_, List.getElem?_eq_getElem (by omega)⟩
    have htk : (al.take (k + 1)).foldl (stepA (pgI pg)) (laidS pg) = stepA (pgI pg) x a := by
      obtain ⟨h1, h2⟩ := List.getElem?_eq_some_iff.1 ha
      rw [← List.take_append_getElem h1, List.foldl_append, hx, h2]; rfl
    (refine G tt_ok pk9 ?_; repeat (refine G1 tt_ok pk9 ?_; intro _))
    (refine SQ.idxG tt_ok rfl rfl (hS) (by repeat (first | exact .h | apply AtA.t)) (k) (rfl) (hlt) rfl ?_)
    (refine G tt_ok pk9 ?_; repeat (refine G1 tt_ok pk9 ?_; intro _))
    (refine SQ.ldG tt_ok rfl rfl (hS) (by repeat (first | exact .h | apply AtA.t)) (by omega) (fun cur hcs => ac_cur hcs ha) ?_)
    have hdo := fun h5 h8 => does28 β hG hh true (pgI_or pg) hok a h5 h8
    obtain ⟨d, nn, ⟨op, dev, ev, num, coll, tgt, b, ad, v⟩, is, vv⟩ := a
    simp only at hdo
    (refine G tt_ok pk9 ?_; repeat (refine G1 tt_ok pk9 ?_; intro _))
    by_cases ho : op = 8
    · subst ho
      (refine G tt_ok pk9 ?_; repeat (refine G1 tt_ok pk9 ?_; intro _))
      cases v with
      | false =>
        (refine G tt_ok pk9 ?_; repeat (refine G1 tt_ok pk9 ?_; intro _))
        have hlo : ¬ lowA ⟨d, nn, (8, dev, ev, num, coll, tgt, b, ad, false), is, vv⟩ := fun h => by cases h.2.1
        by_cases h8 : d = 8
        · subst h8
          (refine G tt_ok pk9 ?_; repeat (refine G1 tt_ok pk9 ?_; intro _))
          have hs : stepA (pgI pg) x ⟨8, nn, (8, dev, ev, num, coll, tgt, b, ad, false), is, vv⟩ = x := if_pos (.inl rfl)
          exact ⟨k + 1, by omega, by omega, ⟨by rw [← e]; rfl, rfl, rfl, rfl, rfl, trivial⟩, by rw [htk, hs]; exact pk_⟩
        · rw [show (d != 8) = true by simp [h8]]
          (refine G tt_ok pk9 ?_; repeat (refine G1 tt_ok pk9 ?_; intro _))
          by_cases h5 : d = 5
          · subst h5
            (refine G tt_ok pk9 ?_; repeat (refine G1 tt_ok pk9 ?_; intro _))
            have hs : stepA (pgI pg) x ⟨5, nn, (8, dev, ev, num, coll, tgt, b, ad, false), is, vv⟩ = x := if_pos (.inr (.inl rfl))
            exact ⟨k + 1, by omega, by omega, ⟨by rw [← e]; rfl, rfl, rfl, rfl, rfl, trivial⟩, by rw [htk, hs]; exact pk_⟩
          · rw [show (d != 5) = true by simp [h5]]
            (refine G tt_ok pk9 ?_; repeat (refine G1 tt_ok pk9 ?_; intro _))
            (refine ka rfl rfl (hdo h5 h8) ?_; rintro _ _ ⟨⟨_, rfl⟩, rfl⟩; refine w_ ?_)
            (refine G tt_ok pk9 ?_; repeat (refine G1 tt_ok pk9 ?_; intro _))
            have hs : stepA (pgI pg) x ⟨d, nn, (8, dev, ev, num, coll, tgt, b, ad, false), is, vv⟩ = actV (pgI pg) x ⟨d, nn, (8, dev, ev, num, coll, tgt, b, ad, false), is, vv⟩ := if_neg (fun h => h.elim h8 (fun h => h.elim h5 hlo))
            exact ⟨k + 1, by omega, by omega, ⟨by rw [← e]; rfl, rfl, rfl, rfl, rfl, trivial⟩, by rw [htk, hs]; exact pk_⟩
      | true =>
        (refine G tt_ok pk9 ?_; repeat (refine G1 tt_ok pk9 ?_; intro _))
        by_cases had : ad < 1024
        · rw [decide_eq_true had]
          (refine G tt_ok pk9 ?_; repeat (refine G1 tt_ok pk9 ?_; intro _))
          have hlo : lowA ⟨d, nn, (8, dev, ev, num, coll, tgt, b, ad, true), is, vv⟩ := ⟨rfl, rfl, had⟩
          by_cases h8 : d = 8
          · subst h8
            (refine G tt_ok pk9 ?_; repeat (refine G1 tt_ok pk9 ?_; intro _))
            have hs : stepA (pgI pg) x ⟨8, nn, (8, dev, ev, num, coll, tgt, b, ad, true), is, vv⟩ = x := if_pos (.inl rfl)
            exact ⟨k + 1, by omega, by omega, ⟨by rw [← e]; rfl, rfl, rfl, rfl, rfl, trivial⟩, by rw [htk, hs]; exact pk_⟩
          · rw [show (d != 8) = true by simp [h8]]
            (refine G tt_ok pk9 ?_; repeat (refine G1 tt_ok pk9 ?_; intro _))
            by_cases h5 : d = 5
            · subst h5
              (refine G tt_ok pk9 ?_; repeat (refine G1 tt_ok pk9 ?_; intro _))
              have hs : stepA (pgI pg) x ⟨5, nn, (8, dev, ev, num, coll, tgt, b, ad, true), is, vv⟩ = x := if_pos (.inr (.inl rfl))
              exact ⟨k + 1, by omega, by omega, ⟨by rw [← e]; rfl, rfl, rfl, rfl, rfl, trivial⟩, by rw [htk, hs]; exact pk_⟩
            · rw [show (d != 5) = true by simp [h5]]
              (refine G tt_ok pk9 ?_; repeat (refine G1 tt_ok pk9 ?_; intro _))
              have hs : stepA (pgI pg) x ⟨d, nn, (8, dev, ev, num, coll, tgt, b, ad, true), is, vv⟩ = x := if_pos (.inr (.inr hlo))
              exact ⟨k + 1, by omega, by omega, ⟨by rw [← e]; rfl, rfl, rfl, rfl, rfl, trivial⟩, by rw [htk, hs]; exact pk_⟩
        · rw [decide_eq_false had]
          (refine G tt_ok pk9 ?_; repeat (refine G1 tt_ok pk9 ?_; intro _))
          have hlo : ¬ lowA ⟨d, nn, (8, dev, ev, num, coll, tgt, b, ad, true), is, vv⟩ := fun h => had h.2.2
          by_cases h8 : d = 8
          · subst h8
            (refine G tt_ok pk9 ?_; repeat (refine G1 tt_ok pk9 ?_; intro _))
            have hs : stepA (pgI pg) x ⟨8, nn, (8, dev, ev, num, coll, tgt, b, ad, true), is, vv⟩ = x := if_pos (.inl rfl)
            exact ⟨k + 1, by omega, by omega, ⟨by rw [← e]; rfl, rfl, rfl, rfl, rfl, trivial⟩, by rw [htk, hs]; exact pk_⟩
          · rw [show (d != 8) = true by simp [h8]]
            (refine G tt_ok pk9 ?_; repeat (refine G1 tt_ok pk9 ?_; intro _))
            by_cases h5 : d = 5
            · subst h5
              (refine G tt_ok pk9 ?_; repeat (refine G1 tt_ok pk9 ?_; intro _))
              have hs : stepA (pgI pg) x ⟨5, nn, (8, dev, ev, num, coll, tgt, b, ad, true), is, vv⟩ = x := if_pos (.inr (.inl rfl))
              exact ⟨k + 1, by omega, by omega, ⟨by rw [← e]; rfl, rfl, rfl, rfl, rfl, trivial⟩, by rw [htk, hs]; exact pk_⟩
            · rw [show (d != 5) = true by simp [h5]]
              (refine G tt_ok pk9 ?_; repeat (refine G1 tt_ok pk9 ?_; intro _))
              (refine ka rfl rfl (hdo h5 h8) ?_; rintro _ _ ⟨⟨_, rfl⟩, rfl⟩; refine w_ ?_)
              (refine G tt_ok pk9 ?_; repeat (refine G1 tt_ok pk9 ?_; intro _))
              have hs : stepA (pgI pg) x ⟨d, nn, (8, dev, ev, num, coll, tgt, b, ad, true), is, vv⟩ = actV (pgI pg) x ⟨d, nn, (8, dev, ev, num, coll, tgt, b, ad, true), is, vv⟩ := if_neg (fun h => h.elim h8 (fun h => h.elim h5 hlo))
              exact ⟨k + 1, by omega, by omega, ⟨by rw [← e]; rfl, rfl, rfl, rfl, rfl, trivial⟩, by rw [htk, hs]; exact pk_⟩
    · rw [show (op == 8) = false by simp [ho]]
      (refine G tt_ok pk9 ?_; repeat (refine G1 tt_ok pk9 ?_; intro _))
      have hlo : ¬ lowA ⟨d, nn, (op, dev, ev, num, coll, tgt, b, ad, v), is, vv⟩ := fun h => ho h.1
      by_cases h8 : d = 8
      · subst h8
        (refine G tt_ok pk9 ?_; repeat (refine G1 tt_ok pk9 ?_; intro _))
        have hs : stepA (pgI pg) x ⟨8, nn, (op, dev, ev, num, coll, tgt, b, ad, v), is, vv⟩ = x := if_pos (.inl rfl)
        exact ⟨k + 1, by omega, by omega, ⟨by rw [← e]; rfl, rfl, rfl, rfl, rfl, trivial⟩, by rw [htk, hs]; exact pk_⟩
      · rw [show (d != 8) = true by simp [h8]]
        (refine G tt_ok pk9 ?_; repeat (refine G1 tt_ok pk9 ?_; intro _))
        by_cases h5 : d = 5
        · subst h5
          (refine G tt_ok pk9 ?_; repeat (refine G1 tt_ok pk9 ?_; intro _))
          have hs : stepA (pgI pg) x ⟨5, nn, (op, dev, ev, num, coll, tgt, b, ad, v), is, vv⟩ = x := if_pos (.inr (.inl rfl))
          exact ⟨k + 1, by omega, by omega, ⟨by rw [← e]; rfl, rfl, rfl, rfl, rfl, trivial⟩, by rw [htk, hs]; exact pk_⟩
        · rw [show (d != 5) = true by simp [h5]]
          (refine G tt_ok pk9 ?_; repeat (refine G1 tt_ok pk9 ?_; intro _))
          (refine ka rfl rfl (hdo h5 h8) ?_; rintro _ _ ⟨⟨_, rfl⟩, rfl⟩; refine w_ ?_)
          (refine G tt_ok pk9 ?_; repeat (refine G1 tt_ok pk9 ?_; intro _))
          have hs : stepA (pgI pg) x ⟨d, nn, (op, dev, ev, num, coll, tgt, b, ad, v), is, vv⟩ = actV (pgI pg) x ⟨d, nn, (op, dev, ev, num, coll, tgt, b, ad, v), is, vv⟩ := if_neg (fun h => h.elim h8 (fun h => h.elim h5 hlo))
          exact ⟨k + 1, by omega, by omega, ⟨by rw [← e]; rfl, rfl, rfl, rfl, rfl, trivial⟩, by rw [htk, hs]; exact pk_⟩
  · rw [decide_eq_false (show ¬ (k : Int) < (n : Int) by omega)]
    (refine G tt_ok pk9 ?_; repeat (refine G1 tt_ok pk9 ?_; intro _))
    refine CW.exit ?_
    (refine G tt_ok pk9 ?_; repeat (refine G1 tt_ok pk9 ?_; intro _))
    obtain rfl : k = n := by omega
    have hxp : playV pg al = x := by rw [← hx, List.take_of_length_le (by omega)]; rfl
    rw [hxp]
    exact CW.ret (fin_cells [_] ⟨(by first | exact ⟨_, _, _, _, 0, rfl, rfl, rfl, rfl⟩ | exact ⟨_, _, _, _, 1, rfl, rfl, rfl, rfl⟩ | exact ⟨_, _, _, _, 2, rfl, rfl, rfl, rfl⟩ | exact ⟨_, _, _, _, 3, rfl, rfl, rfl, rfl⟩ | exact ⟨_, _, _, _, 4, rfl, rfl, rfl, rfl⟩ | exact ⟨_, _, _, _, 5, rfl, rfl, rfl, rfl⟩ | exact ⟨_, _, _, _, 6, rfl, rfl, rfl, rfl⟩ | exact ⟨_, _, _, _, 7, rfl, rfl, rfl, rfl⟩ | exact ⟨_, _, _, _, 8, rfl, rfl, rfl, rfl⟩ | exact ⟨_, _, _, _, 9, rfl, rfl, rfl, rfl⟩ | exact ⟨_, _, _, _, 10, rfl, rfl, rfl, rfl⟩ | exact ⟨_, _, _, _, 11, rfl, rfl, rfl, rfl⟩ | exact ⟨_, _, _, _, 12, rfl, rfl, rfl, rfl⟩ | exact ⟨_, _, _, _, 13, rfl, rfl, rfl, rfl⟩ | exact ⟨_, _, _, _, 14, rfl, rfl, rfl, rfl⟩ | exact ⟨_, _, _, _, 15, rfl, rfl, rfl, rfl⟩ | exact ⟨_, _, _, _, 16, rfl, rfl, rfl, rfl⟩ | exact ⟨_, _, _, _, 17, rfl, rfl, rfl, rfl⟩ | exact ⟨_, _, _, _, 18, rfl, rfl, rfl, rfl⟩ | exact ⟨_, _, _, _, 19, rfl, rfl, rfl, rfl⟩ | exact ⟨_, _, _, _, 20, rfl, rfl, rfl, rfl⟩ | exact ⟨_, _, _, _, 21, rfl, rfl, rfl, rfl⟩ | exact ⟨_, _, _, _, 22, rfl, rfl, rfl, rfl⟩ | exact ⟨_, _, _, _, 23, rfl, rfl, rfl, rfl⟩), trivial⟩ (A := A :: wA h (pgI pg) x) pk_ ⟨h, hh, rfl, rfl⟩)
end Go.Proofs.YthhfoppaaehepaaGreatDoor.Sl
namespace Go.Proofs.YthhfoppaaehepaaGreatDoor.Sl
open Go Go.RowKit Go.Proofs
set_option linter.unusedVariables false
set_option linter.unusedSimpArgs false
attribute [local irreducible] CW Tri OW
set_option maxRecDepth 10000
@[reducible] def pk27 : List (Nat × Plan) := [(4, [(0, 0, []), (1, 0, []), (2, 0, []), (3, 0, []), (4, 0, []), (5, 0, []), (6, 0, []), (7, 0, []), (8, 0, []), (9, 0, []), (10, 1, [1, 3, 5, 9]), (11, 0, [])])]
/-- Commands are carried out: what is left, were all. -/
def carV (p : Int) : SW → List Cm → SW × Bool
  | w, [] => (w, true)
  | w, c :: r => if (doV p w c).2 ≠ 0 then ((doV p w c).1, false) else carV p (doV p w c).1 r
theorem carV_s (p : Int) (w : SW) (c : Cm) (r : List Cm) : carV p w (c :: r) = if (doV p w c).2 ≠ 0 then ((doV p w c).1, false) else carV p (doV p w c).1 r := rfl
theorem carV_ok {p : Int} : ∀ {cs : List Cm} {w : SW}, w.ok → (carV p w cs).1.ok
  | [], w, h => h
  | c :: r, w, h => by
    unfold carV
    split
    · exact doV_ok h c
    · exact carV_ok (doV_ok h c)
theorem cm_rd {l : List Cm} {k : Nat} {x : Cm} (h : l[k]? = some x) : rdv ti25 (l.flatMap cmC) (0 + k * 9) = some (.agg (cmC x).toArray) :=
  cm_cur (n := l.length) (by rw [List.drop_zero, List.take_of_length_le (by rw [flatE_len (sz := 9) (fun _ => rfl)]; omega)]) h
set_option maxHeartbeats 16000000 in
theorem carried27 (β : Base) {h : WH} (hh : h.ok) (ok : Bool) {p : Int} (hp : p = 0 ∨ p = 32) {w : SW} (hw : w.ok) (on st : Bool) (i j : Nat) (b : Nat) (cs : List Cm) (hl : cs.length ≤ 1000) :
    Tri Tryz.prog β 27 [.agg (wC7 h ok).toArray, .slice (some ⟨b, 0, none⟩) cs.length cs.length] (pt b (cs.flatMap cmC) :: pt h.s (itC on st i j p) :: rowA h.q 3 (h.ps.flatMap ptC) :: swA h.m h.g h.ps w)
      (fun v L => v = .bool (carV p w cs).2 ∧ L = pt b (cs.flatMap cmC) :: pt h.s (itC on st i j p) :: rowA h.q 3 (h.ps.flatMap ptC) :: swA h.m h.g h.ps (carV p w cs).1) := by
  refine Tri.intro tt_ok Tryz.func27 rfl rfl Tryz.ntmps27 rfl fun F => ?_
  have hS := tsOk (β := β) hh
  (refine G tt_ok pk27 ?_; repeat (refine G1 tt_ok pk27 ?_; intro _))
  rename_i c2
  refine CW.loop (α := Nat × SW) (fun x => x.1 ≤ cs.length ∧ x.2.ok ∧ carV p x.2 (cs.drop x.1) = carV p w cs) (fun x => [(5, .int .i64 x.1), (1, .slice (some ⟨b, 0, none⟩) cs.length cs.length), (2, .pointer (some ⟨c2, 0, none⟩))])
    (fun x => [pt c2 (wC7 h ok), pt b (cs.flatMap cmC), pt h.s (itC on st i j p), rowA h.q 3 (h.ps.flatMap ptC)] ++ swA h.m h.g h.ps x.2) (fun x => cs.length - x.1) (0, w) ⟨by simp, hw, rfl⟩ ⟨rfl, rfl, rfl, trivial⟩ pk_ ?_
  rintro ⟨k, u⟩ ⟨hk, hu, hE⟩
  simp only at hk hu hE ⊢
  (refine G tt_ok pk27 ?_; repeat (refine G1 tt_ok pk27 ?_; intro _))
  by_cases hlt : k < cs.length
  · rw [decide_eq_true (show (k : Int) < (cs.length : Nat) by omega)]
    have e : IntKind.i64.wrap ((k : Int) + 1) = ((k + 1 : Nat) : Int) := by rw [wrap_id (by omega) (by omega)]; omega
    obtain ⟨x, hx⟩ : ∃ x, cs[k]? = some x := ⟨_, List.getElem?_eq_getElem hlt⟩
    have hdr : cs.drop k = x :: cs.drop (k + 1) := by
      obtain ⟨h1, h2⟩ := List.getElem?_eq_some_iff.1 hx
      rw [← h2]; exact List.drop_eq_getElem_cons h1
    rw [hdr, carV_s] at hE
    have hok := doV_ok (p := p) hu x
    (refine G tt_ok pk27 ?_; repeat (refine G1 tt_ok pk27 ?_; intro _))
    refine SQ.idx tt_ok rfl rfl k rfl hlt (o' := 0 + k * 9) rfl ?_
    (refine G tt_ok pk27 ?_; repeat (refine G1 tt_ok pk27 ?_; intro _))
    (refine SQ.ldA tt_ok rfl rfl (by repeat (first | exact .h | exact .q | apply At.t)) (cm_rd hx) ?_)
    (refine G tt_ok pk27 ?_; repeat (refine G1 tt_ok pk27 ?_; intro _))
    (refine SQ.callA rfl rfl (do14 β h.s h.m h.g h.c hS hp hu on st i j x) (by repeat (first | exact .n | exact Rm.h | exact Rm.of own_row | exact Rm.of row_close0 | apply Tk.c | apply Rm.t)) ?_; rintro _ _ ⟨rfl, rfl⟩; refine ⟨(by repeat (first | exact trivial | refine ⟨trivial, ?_⟩ | refine ⟨wk (by repeat (first | exact .h | exact .q | apply At.t)) (cm_rd hx), ?_⟩ | refine ⟨wk (by repeat (first | exact .h | exact .q | apply At.t)) (by rfl), ?_⟩)), ?_⟩)
    generalize doV p u x = z at hE hok ⊢
    obtain ⟨z, er⟩ := z
    simp only at hE hok ⊢
    (refine G tt_ok pk27 ?_; repeat (refine G1 tt_ok pk27 ?_; intro _))
    by_cases he : er = 0
    · subst he
      rw [if_neg (by simp)] at hE
      (refine G tt_ok pk27 ?_; repeat (refine G1 tt_ok pk27 ?_; intro _))
      exact ⟨(k + 1, z), ⟨by simp; omega, hok, hE⟩, by simp; omega, ⟨by rw [← e]; rfl, rfl, rfl, trivial⟩, pk_⟩
    · rw [if_pos he] at hE
      rw [show (er != 0) = true by simp [he], ← hE]
      (refine G tt_ok pk27 ?_; repeat (refine G1 tt_ok pk27 ?_; intro _))
      exact CW.ret (fin_ret rfl pk_ ⟨rfl, rfl⟩)
  · rw [decide_eq_false (show ¬ (k : Int) < (cs.length : Nat) by omega)]
    (refine G tt_ok pk27 ?_; repeat (refine G1 tt_ok pk27 ?_; intro _))
    refine CW.exit ?_
    rw [List.drop_eq_nil_of_le (by omega)] at hE
    have hE2 : carV p w cs = (u, true) := by rw [← hE]; rfl
    rw [hE2]
    (refine G tt_ok pk27 ?_; repeat (refine G1 tt_ok pk27 ?_; intro _))
    exact CW.ret (fin_ret rfl pk_ ⟨rfl, rfl⟩)
def awC1 : List Cm := [(9, 0, 0, 0, 1, 1, 0, 0, true), (8, 2, 0, 0, 0, 0, 1, 1024, true), (10, 2, 3, 8200, 1, 0, 0, 0, false)]
def awC2 : List Cm := [(9, 0, 0, 0, 0, 0, 0, 0, true), (1, 2, 3, 0, 0, 0, 0, 0, false)]
def awW0 : SW := laidK false 3
def awW1 : SW := (carV 0 awW0 awC1).1
def awW2 : SW := (waitsV 0 awW1 2 3 true).1
def awW3 : SW := (doV 0 awW2 (1, 2, 3, 0, 0, 0, 0, 0, false)).1
def awW4 : SW := (carV 0 awW3 awC2).1
def awW5 : SW := (doV 0 awW4 (15, 2, 3, 0, 0, 0, 0, 0, false)).1
def awW6 : SW := (waitsV 0 awW5 2 3 true).1
def awB : Bool := (carV 0 awW0 awC1).2 && ((waitsV 0 awW1 2 3 true).2 == 0 && (awW2.has 1 8200 && ((doV 0 awW2 (1, 2, 3, 0, 0, 0, 0, 0, false)).2 == 183 && ((carV 0 awW3 awC2).2 && (awW4.has 0 8200 && (!awW4.has 1 8200 && ((doV 0 awW4 (15, 2, 3, 0, 0, 0, 0, 0, false)).2 == 0 && (!awW5.has 0 8200 && ((waitsV 0 awW5 2 3 true).2 == 182 && (waitsV 0 awW6 3 0 true).2 == 181)))))))))
theorem awB_true : awB = true := by decide +kernel
end Go.Proofs.YthhfoppaaehepaaGreatDoor.Sl
namespace Go.Proofs.YthhfoppaaehepaaGreatDoor.Sl
open Go Go.RowKit Go.Proofs
set_option linter.unusedVariables false
set_option linter.unusedSimpArgs false
attribute [local irreducible] CW Tri OW
set_option maxRecDepth 10000
@[reducible] def pk8 : List (Nat × Plan) := [(6, [(0, 0, []), (1, 0, []), (2, 0, []), (3, 0, []), (4, 0, []), (5, 0, []), (6, 1, [1, 3, 5]), (7, 0, [])]), (9, [(0, 0, []), (1, 0, []), (2, 0, []), (3, 0, []), (4, 0, []), (5, 0, []), (6, 1, [1, 3, 5]), (7, 0, []), (8, 0, []), (9, 0, []), (10, 0, []), (11, 0, []), (12, 0, []), (13, 0, []), (14, 1, [1, 3, 5, 9, 11, 13]), (15, 0, []), (16, 0, []), (17, 0, [])]), (11, [(0, 0, []), (1, 0, []), (2, 0, []), (3, 0, []), (4, 0, []), (5, 0, []), (6, 1, [1, 3, 5]), (7, 0, []), (8, 0, [])])]
theorem aw_facts : (carV 0 awW0 awC1).2 = true ∧ (waitsV 0 awW1 2 3 true).2 = 0 ∧ awW2.has 1 8200 = true ∧ (doV 0 awW2 (1, 2, 3, 0, 0, 0, 0, 0, false)).2 = 183 ∧ (carV 0 awW3 awC2).2 = true ∧ awW4.has 0 8200 = true ∧ awW4.has 1 8200 = false ∧
    (doV 0 awW4 (15, 2, 3, 0, 0, 0, 0, 0, false)).2 = 0 ∧ awW5.has 0 8200 = false ∧ (waitsV 0 awW5 2 3 true).2 = 182 ∧ (waitsV 0 awW6 3 0 true).2 = 181 := by
  have h := awB_true
  unfold awB at h
  simp only [Bool.and_eq_true, beq_iff_eq, Bool.not_eq_true'] at h
  exact h
theorem aw0_ok : awW0.ok := (laidS_ok false).1
theorem aw1_ok : awW1.ok := carV_ok aw0_ok
theorem aw2_ok : awW2.ok := waitsV_ok aw1_ok _ _ _
theorem aw3_ok : awW3.ok := doV_ok aw2_ok _
theorem aw4_ok : awW4.ok := carV_ok aw3_ok
theorem aw5_ok : awW5.ok := doV_ok aw4_ok _
theorem aw6_ok : awW6.ok := waitsV_ok aw5_ok _ _ _
theorem pe {α : Type} {x : α × Int} {e : Int} (h : x.2 = e) : x = (x.1, e) := by rw [← h]
theorem pb {α : Type} {x : α × Bool} {e : Bool} (h : x.2 = e) : x = (x.1, e) := by rw [← h]
theorem aw_ex : ∃ w0 w1 w2 w3 w4 w5 w6 w7 : SW, laidK false 3 = w0 ∧ w0.ok ∧ w1.ok ∧ w2.ok ∧ w3.ok ∧ w4.ok ∧ w5.ok ∧ w6.ok ∧ carV 0 w0 awC1 = (w1, true) ∧ waitsV 0 w1 2 3 true = (w2, 0) ∧ w2.has 1 8200 = true ∧ doV 0 w2 (1, 2, 3, 0, 0, 0, 0, 0, false) = (w3, 183) ∧ carV 0 w3 awC2 = (w4, true) ∧ w4.has 0 8200 = true ∧ w4.has 1 8200 = false ∧
    doV 0 w4 (15, 2, 3, 0, 0, 0, 0, 0, false) = (w5, 0) ∧ w5.has 0 8200 = false ∧ waitsV 0 w5 2 3 true = (w6, 182) ∧ waitsV 0 w6 3 0 true = (w7, 181) := by
  obtain ⟨f1, f2, f3, f4, f5, f6, f7, f8, f9, f10, f11⟩ := aw_facts
  exact ⟨awW0, awW1, awW2, awW3, awW4, awW5, awW6, _, rfl, aw0_ok, aw1_ok, aw2_ok, aw3_ok, aw4_ok, aw5_ok, aw6_ok, pb f1, pe f2, f3, pe f4, pb f5, f6, f7, pe f8, f9, pe f10, pe f11⟩
theorem ts_rd {β : Base} {h : WH} (hh : h.ok) (k : Nat) (hk : k < 3) : ∃ x, h.ps[k]? = some x ∧ x = h.ps.getD k 0 := by
  have h1 : k < h.ps.length := by rw [hh.1]; exact hk
  exact ⟨h.ps[k], List.getElem?_eq_getElem h1, by rw [List.getD_eq_getElem?_getD, List.getElem?_eq_getElem h1]; rfl⟩
set_option maxHeartbeats 32000000 in
theorem awake8 (β : Base) : Tri Tryz.prog β 8 [] [] (fun v L => v = .bool true ∧ L = []) := by
  refine Tri.intro tt_ok Tryz.func8 rfl rfl Tryz.ntmps8 rfl fun F => ?_
  obtain ⟨w0, w1, w2, w3, w4, w5, w6, w7, e0, o0, o1, o2, o3, o4, o5, o6, f1, f2, f3, f4, f5, f6, f7, f8, f9, f10, f11⟩ := aw_ex
  (refine G tt_ok pk8 ?_; repeat (refine G1 tt_ok pk8 ?_; intro _))
  (refine ka rfl rfl (laid26 β false) ?_; rintro _ _ ⟨h, hh, rfl, rfl⟩; refine w_ ?_)
  have hS := tsOk (β := β) hh
  have hS3 := slr_t (β := β) h.q hh.1
  obtain ⟨x0, hx0, hg0⟩ := ts_rd (β := β) hh 0 (by omega)
  obtain ⟨x1, hx1, hg1⟩ := ts_rd (β := β) hh 1 (by omega)
  have hp : (0 : Int) = 0 ∨ (0 : Int) = 32 := .inl rfl
  refine SQ.ent _ (Ent.trans (M := [pt h.s (itC true false 0 0 0), rowA h.q 3 (h.ps.flatMap ptC)] ++ swA h.m h.g h.ps (laidK false 3)) pk_ (Ent.refl _)) ?_
  rw [e0]
  (refine G tt_ok pk8 ?_; repeat (refine G1 tt_ok pk8 ?_; intro _))
  rename_i c1
  (refine SQ.built tt_ok rfl rfl (fun _ => w_ ?_))
  (refine G tt_ok pk8 ?_; repeat (refine G1 tt_ok pk8 ?_; intro _))
  refine ke rfl rfl (carried27 β hh true hp o0 true false 0 0 _ awC1 (by decide)) ?_
  rw [f1]
  (refine G tt_ok pk8 ?_; repeat (refine G1 tt_ok pk8 ?_; intro _))
  refine ke rfl rfl (message24 β h.s h.m h.g h.c hS hp o1 true false 0 0 2 3) ?_
  rw [show messageV 0 w1 true 2 3 = waitsV 0 w1 2 3 true from rfl, f2]
  (refine G tt_ok pk8 ?_; repeat (refine G1 tt_ok pk8 ?_; intro _))
  (refine SQ.idxG tt_ok rfl rfl (hS3) (by repeat (first | exact .h | apply AtA.t)) (1) (rfl) (by omega) rfl ?_)
  (refine G tt_ok pk8 ?_; repeat (refine G1 tt_ok pk8 ?_; intro _))
  (refine SQ.ldG tt_ok rfl rfl (hS3) (by repeat (first | exact .h | apply AtA.t)) (by omega) (fun cur hcs => pt_cur hcs hx1) ?_)
  (refine G tt_ok pk8 ?_; repeat (refine G1 tt_ok pk8 ?_; intro _))
  rw [hg1]
  (refine SQ.callA rfl rfl (has17C β h.m h.g h.ps o2 (k := 1) (by omega) (n := 8200) (by omega)) (by repeat (first | exact .n | exact Rm.h | exact Rm.of own_row | exact Rm.of row_close0 | apply Tk.c | apply Rm.t)) ?_; rintro _ _ ⟨rfl, rfl⟩; refine ⟨(by repeat (first | exact trivial | refine ⟨trivial, ?_⟩ | refine ⟨RdAt.slr hS3 (by repeat (first | exact .h | apply AtA.t)) (by omega) (fun cur hcs => hg1 ▸ pt_cur hcs hx1), ?_⟩ | refine ⟨wk (by repeat (first | exact .h | exact .q | apply At.t)) (by rfl), ?_⟩)), ?_⟩)
  rw [f3]
  (refine G tt_ok pk8 ?_; repeat (refine G1 tt_ok pk8 ?_; intro _))
  refine ke rfl rfl (do14 β h.s h.m h.g h.c hS hp o2 true false 0 0 (1, 2, 3, 0, 0, 0, 0, 0, false)) ?_
  rw [f4]
  (refine G tt_ok pk8 ?_; repeat (refine G1 tt_ok pk8 ?_; intro _))
  (refine SQ.built tt_ok rfl rfl (fun _ => w_ ?_))
  (refine G tt_ok pk8 ?_; repeat (refine G1 tt_ok pk8 ?_; intro _))
  refine ke rfl rfl (carried27 β hh true hp o3 true false 0 0 _ awC2 (by decide)) ?_
  rw [f5]
  (refine G tt_ok pk8 ?_; repeat (refine G1 tt_ok pk8 ?_; intro _))
  (refine SQ.idxG tt_ok rfl rfl (hS3) (by repeat (first | exact .h | apply AtA.t)) (0) (rfl) (by omega) rfl ?_)
  (refine G tt_ok pk8 ?_; repeat (refine G1 tt_ok pk8 ?_; intro _))
  (refine SQ.ldG tt_ok rfl rfl (hS3) (by repeat (first | exact .h | apply AtA.t)) (by omega) (fun cur hcs => pt_cur hcs hx0) ?_)
  (refine G tt_ok pk8 ?_; repeat (refine G1 tt_ok pk8 ?_; intro _))
  rw [hg0]
  (refine SQ.callA rfl rfl (has17C β h.m h.g h.ps o4 (k := 0) (by omega) (n := 8200) (by omega)) (by repeat (first | exact .n | exact Rm.h | exact Rm.of own_row | exact Rm.of row_close0 | apply Tk.c | apply Rm.t)) ?_; rintro _ _ ⟨rfl, rfl⟩; refine ⟨(by repeat (first | exact trivial | refine ⟨trivial, ?_⟩ | refine ⟨RdAt.slr hS3 (by repeat (first | exact .h | apply AtA.t)) (by omega) (fun cur hcs => hg0 ▸ pt_cur hcs hx0), ?_⟩ | refine ⟨wk (by repeat (first | exact .h | exact .q | apply At.t)) (by rfl), ?_⟩)), ?_⟩)
  rw [f6]
  (refine G tt_ok pk8 ?_; repeat (refine G1 tt_ok pk8 ?_; intro _))
  (refine SQ.idxG tt_ok rfl rfl (hS3) (by repeat (first | exact .h | apply AtA.t)) (1) (rfl) (by omega) rfl ?_)
  (refine G tt_ok pk8 ?_; repeat (refine G1 tt_ok pk8 ?_; intro _))
  (refine SQ.ldG tt_ok rfl rfl (hS3) (by repeat (first | exact .h | apply AtA.t)) (by omega) (fun cur hcs => pt_cur hcs hx1) ?_)
  (refine G tt_ok pk8 ?_; repeat (refine G1 tt_ok pk8 ?_; intro _))
  rw [hg1]
  (refine SQ.callA rfl rfl (has17C β h.m h.g h.ps o4 (k := 1) (by omega) (n := 8200) (by omega)) (by repeat (first | exact .n | exact Rm.h | exact Rm.of own_row | exact Rm.of row_close0 | apply Tk.c | apply Rm.t)) ?_; rintro _ _ ⟨rfl, rfl⟩; refine ⟨(by repeat (first | exact trivial | refine ⟨trivial, ?_⟩ | refine ⟨RdAt.slr hS3 (by repeat (first | exact .h | apply AtA.t)) (by omega) (fun cur hcs => hg1 ▸ pt_cur hcs hx1), ?_⟩ | refine ⟨RdAt.slr hS3 (by repeat (first | exact .h | apply AtA.t)) (by omega) (fun cur hcs => hg0 ▸ pt_cur hcs hx0), ?_⟩ | refine ⟨wk (by repeat (first | exact .h | exact .q | apply At.t)) (by rfl), ?_⟩)), ?_⟩)
  rw [f7]
  (refine G tt_ok pk8 ?_; repeat (refine G1 tt_ok pk8 ?_; intro _))
  refine ke rfl rfl (do14 β h.s h.m h.g h.c hS hp o4 true false 0 0 (15, 2, 3, 0, 0, 0, 0, 0, false)) ?_
  rw [f8]
  (refine G tt_ok pk8 ?_; repeat (refine G1 tt_ok pk8 ?_; intro _))
  (refine SQ.idxG tt_ok rfl rfl (hS3) (by repeat (first | exact .h | apply AtA.t)) (0) (rfl) (by omega) rfl ?_)
  (refine G tt_ok pk8 ?_; repeat (refine G1 tt_ok pk8 ?_; intro _))
  (refine SQ.ldG tt_ok rfl rfl (hS3) (by repeat (first | exact .h | apply AtA.t)) (by omega) (fun cur hcs => pt_cur hcs hx0) ?_)
  (refine G tt_ok pk8 ?_; repeat (refine G1 tt_ok pk8 ?_; intro _))
  rw [hg0]
  (refine SQ.callA rfl rfl (has17C β h.m h.g h.ps o5 (k := 0) (by omega) (n := 8200) (by omega)) (by repeat (first | exact .n | exact Rm.h | exact Rm.of own_row | exact Rm.of row_close0 | apply Tk.c | apply Rm.t)) ?_; rintro _ _ ⟨rfl, rfl⟩; refine ⟨(by repeat (first | exact trivial | refine ⟨trivial, ?_⟩ | refine ⟨RdAt.slr hS3 (by repeat (first | exact .h | apply AtA.t)) (by omega) (fun cur hcs => hg0 ▸ pt_cur hcs hx0), ?_⟩ | refine ⟨wk (by repeat (first | exact .h | exact .q | apply At.t)) (by rfl), ?_⟩)), ?_⟩)
  rw [f9]
  (refine G tt_ok pk8 ?_; repeat (refine G1 tt_ok pk8 ?_; intro _))
  refine ke rfl rfl (message24 β h.s h.m h.g h.c hS hp o5 true false 0 0 2 3) ?_
  rw [show messageV 0 w5 true 2 3 = waitsV 0 w5 2 3 true from rfl, f10]
  (refine G tt_ok pk8 ?_; repeat (refine G1 tt_ok pk8 ?_; intro _))
  refine ke rfl rfl (message24 β h.s h.m h.g h.c hS hp o6 true false 0 0 3 0) ?_
  rw [show messageV 0 w6 true 3 0 = waitsV 0 w6 3 0 true from rfl, f11]
  (refine G tt_ok pk8 ?_; repeat (refine G1 tt_ok pk8 ?_; intro _))
  exact CW.ret (fin_ret rfl (Ent.dropAll _) ⟨rfl, rfl⟩)
end Go.Proofs.YthhfoppaaehepaaGreatDoor.Sl
namespace Go.Proofs.YthhfoppaaehepaaGreatDoor.Sl
open Go Go.RowKit Go.Proofs
set_option linter.unusedVariables false
set_option linter.unusedSimpArgs false
set_option maxRecDepth 10000
def extN (W : List Nat) (x : Nat × Nat × Nat) : Nat := W.getD x.1 0 / 2 ^ x.2.1 % 2 ^ x.2.2
theorem or_ext (x y a s : Nat) : (x ||| y) / 2 ^ a % 2 ^ s = (x / 2 ^ a % 2 ^ s) ||| (y / 2 ^ a % 2 ^ s) := by
  rw [← Nat.shiftRight_eq_div_pow, ← Nat.shiftRight_eq_div_pow, ← Nat.shiftRight_eq_div_pow, Nat.shiftRight_or_distrib, Nat.or_mod_two_pow]
theorem ext_same {n a s : Nat} (h : n < 2 ^ s) : n * 2 ^ a / 2 ^ a % 2 ^ s = n := by
  rw [Nat.mul_div_cancel _ (Nat.two_pow_pos a), Nat.mod_eq_of_lt h]
theorem ext_above {n a b s : Nat} (h : b + s ≤ a) : n * 2 ^ a / 2 ^ b % 2 ^ s = 0 := by
  obtain ⟨k, rfl⟩ : ∃ k, a = b + (s + k) := ⟨a - b - s, by omega⟩
  rw [Nat.pow_add, ← Nat.mul_assoc, Nat.mul_right_comm, Nat.mul_div_cancel _ (Nat.two_pow_pos b), Nat.pow_add, ← Nat.mul_assoc, Nat.mul_right_comm]
  exact Nat.mul_mod_left _ _
theorem ext_below {n a t b s : Nat} (hn : n < 2 ^ t) (h : a + t ≤ b) : n * 2 ^ a / 2 ^ b % 2 ^ s = 0 := by
  have h1 : n * 2 ^ a < 2 ^ b := by
    have h2 : n * 2 ^ a < 2 ^ t * 2 ^ a := Nat.mul_lt_mul_of_pos_right hn (Nat.two_pow_pos a)
    have h3 : 2 ^ t * 2 ^ a ≤ 2 ^ b := by rw [← Nat.pow_add]; exact Nat.pow_le_pow_right (by omega) (by omega)
    omega
  rw [Nat.div_eq_of_lt h1, Nat.zero_mod]
/-- Two fields of a command lie apart. -/
def apartF (x y : Nat × Nat × Nat) : Bool := x.1 != y.1 || (Nat.ble (x.2.1 + x.2.2) y.2.1 || Nat.ble (y.2.1 + y.2.2) x.2.1)
theorem parts_apart {o : Int} (ho : knownV o = true) : ∀ f, f < 8 → ∀ g, g < 8 → f ≠ g → (partV' o f).2 = true → (partV' o g).2 = true → apartF (partV' o f).1 (partV' o g).1 = true := by
  rcases known_cases ho with rfl | rfl | rfl | rfl | rfl | rfl | rfl | rfl | rfl | rfl | rfl | rfl <;> decide
theorem parts_op {o : Int} (ho : knownV o = true) : ∀ f, f < 8 → (partV' o f).2 = true → (partV' o f).1.1 = 0 → 8 ≤ (partV' o f).1.2.1 := by
  rcases known_cases ho with rfl | rfl | rfl | rfl | rfl | rfl | rfl | rfl | rfl | rfl | rfl | rfl <;> decide
theorem parts_w {o : Int} (ho : knownV o = true) : ∀ f, f < 8 → (partV' o f).1.1 < 4 := by
  rcases known_cases ho with rfl | rfl | rfl | rfl | rfl | rfl | rfl | rfl | rfl | rfl | rfl | rfl <;> decide
theorem enc_ext {c : Cm} (hk : knownV c.1 = true) : ∀ {f : Nat} {W : List Nat}, f ≤ 8 → encL c f = some W → W.length = 4 ∧ W.getD 0 0 % 256 = c.1.toNat ∧ ∀ g, g < 8 → (partV' c.1 g).2 = true → extN W (partV' c.1 g).1 = if g < f then (getF c g).toNat else 0
  | 0, W, _, h => by
    simp only [encL, Option.some.injEq] at h
    subst h
    have hop : c.1.toNat < 16 := by rcases known_cases hk with h | h | h | h | h | h | h | h | h | h | h | h <;> rw [h] <;> decide
    refine ⟨rfl, Nat.mod_eq_of_lt (show c.1.toNat < 256 by omega), fun g hg hh => ?_⟩
    rw [if_neg (by omega)]
    have h0 := parts_op hk g hg hh
    have h4 := parts_w hk g hg
    generalize (partV' c.1 g).1 = x at h0 h4 ⊢
    obtain ⟨w, a, s⟩ := x
    simp only at h0 h4 ⊢
    unfold extN
    simp only
    match w, h0, h4 with
    | 0, h0, _ =>
      simp only [List.getD_cons_zero]
      have h1 : c.1.toNat < 2 ^ a := by
        have := Nat.pow_le_pow_right (n := 2) (by omega) (h0 rfl)
        omega
      rw [Nat.div_eq_of_lt h1, Nat.zero_mod]
    | 1, _, _ => simp
    | 2, _, _ => simp
    | 3, _, _ => simp
  | f + 1, W, hf, h => by
    unfold encL at h
    cases h1 : encL c f with
    | none => rw [h1] at h; cases h
    | some V =>
      rw [h1] at h
      simp only at h
      obtain ⟨i1, i2, i3⟩ := enc_ext hk (show f ≤ 8 by omega) h1
      unfold encS at h
      split at h
      · cases h
      · rename_i hc
        simp only [Option.some.injEq] at h
        cases hh : (partV' c.1 f).2 with
        | false =>
          rw [hh, if_neg (by simp)] at h
          subst h
          refine ⟨i1, i2, fun g hg hgh => ?_⟩
          rw [i3 g hg hgh]
          have : g ≠ f := fun e => by subst e; rw [hh] at hgh; cases hgh
          by_cases hlt : g < f
          · rw [if_pos hlt, if_pos (by omega)]
          · rw [if_neg hlt, if_neg (by omega)]
        | true =>
          rw [hh, if_pos rfl] at h
          subst h
          have hw := parts_w hk f (by omega)
          have hop := parts_op hk f (by omega) hh
          have hn : (getF c f).toNat < 2 ^ (partV' c.1 f).1.2.2 := by
            by_cases h3 : getF c f ≥ ((2 ^ (partV' c.1 f).1.2.2 : Nat) : Int)
            · exact absurd (.inr (.inr h3)) hc
            · have := Nat.two_pow_pos (partV' c.1 f).1.2.2
              omega
          have hself := i3 f (by omega) hh
          rw [if_neg (by omega)] at hself
          have hap := fun g hg hgh hne => parts_apart hk f (by omega) g hg hne hh hgh
          generalize hx : (partV' c.1 f).1 = x at hw hop hn hself hap ⊢
          obtain ⟨w, a, s⟩ := x
          simp only at hw hop hn ⊢
          refine ⟨by simp [i1], ?_, fun g hg hgh => ?_⟩
          · rw [getD_set (by omega)]
            split
            · rename_i e
              subst e
              have ha := hop rfl
              have e8 : ∀ z : Nat, z % 256 = z / 2 ^ 0 % 2 ^ 8 := fun z => by simp
              rw [e8, or_ext, ← e8, i2, ext_above (show 0 + 8 ≤ a by omega), Nat.or_zero]
            · exact i2
          · have i3g := i3 g hg hgh
            by_cases hgf : g = f
            · subst hgf
              rw [if_pos (by omega)]
              rw [hx]
              unfold extN at hself ⊢
              simp only at hself ⊢
              rw [getD_set (by omega), if_pos rfl, or_ext, hself, ext_same hn, Nat.zero_or]
            · have hd := hap g hg hgh (fun e => hgf e.symm)
              have hgoal : extN (V.set w (V.getD w 0 ||| (getF c f).toNat * 2 ^ a)) (partV' c.1 g).1 = extN V (partV' c.1 g).1 := by
                generalize (partV' c.1 g).1 = y at hd ⊢
                obtain ⟨w2, a2, s2⟩ := y
                unfold extN
                simp only
                rw [getD_set (by omega)]
                split
                · rename_i e
                  subst e
                  unfold apartF at hd
                  simp only [bne_self_eq_false, Bool.false_or, Bool.or_eq_true, Nat.ble_eq] at hd
                  rw [or_ext]
                  rcases hd with hd | hd
                  · rw [ext_below hn hd, Nat.or_zero]
                  · rw [ext_above hd, Nat.or_zero]
                · rfl
              rw [hgoal, i3g]
              by_cases hlt : g < f
              · rw [if_pos hlt, if_pos (by omega)]
              · rw [if_neg hlt, if_neg (by omega)]
theorem dec_step {c d : Cm} {W : List Nat} (hk : knownV c.1 = true) (hW : ∀ g, g < 8 → (partV' c.1 g).2 = true → extN W (partV' c.1 g).1 = (getF c g).toNat) (h0 : ∀ g, g < 8 → 0 ≤ getF c g) {f : Nat} (hf : f < 8) (hd : d.1 = c.1) :
    decS W f d = if (partV' c.1 f).2 then putF d f (getF c f) else d := by
  unfold decS
  rw [hd]
  cases hh : (partV' c.1 f).2 with
  | false => rfl
  | true =>
    rw [if_pos rfl, if_pos rfl]
    have := hW f hf hh
    unfold extN at this
    rw [this]
    congr 1
    have := h0 f hf
    omega
theorem putF_op (d : Cm) (f : Nat) (n : Int) : (putF d f n).1 = d.1 := by
  unfold putF
  split <;> rfl
/-- What was encoded decodes to what it was. -/
theorem dec_enc {c : Cm} (h : (encV c).2 = 0) : decV (encV c).1 = (c, 0) := by
  obtain ⟨hk, h256, hg⟩ := enc_get h
  have hV : ∃ W, encL c 8 = some W ∧ encV c = (W, 0) := by
    unfold encV at h ⊢
    rw [if_pos ⟨hk, h256⟩] at h ⊢
    cases h1 : encL c 8 with
    | none => rw [h1] at h; exact absurd h (by simp)
    | some W => exact ⟨W, rfl, rfl⟩
  obtain ⟨W, hW, hE⟩ := hV
  obtain ⟨e1, e2, e3⟩ := enc_ext hk (Nat.le_refl 8) hW
  have e3 : ∀ g, g < 8 → (partV' c.1 g).2 = true → extN W (partV' c.1 g).1 = (getF c g).toNat := fun g hg' hh => by rw [e3 g hg' hh, if_pos hg']
  have h0 : ∀ g, g < 8 → 0 ≤ getF c g := fun g hg' => (hg g hg').2.1
  have hop : ((W.getD 0 0 % 256 : Nat) : Int) = c.1 := by
    rw [e2]
    rcases known_cases hk with h | h | h | h | h | h | h | h | h | h | h | h <;> rw [h] <;> rfl
  have hz : ∀ g, g < 8 → (partV' c.1 g).2 = false → getF c g = 0 := fun g hg' => (hg g hg').1
  have hd : decL W 8 = c := by
    have step := fun (d : Cm) (f : Nat) (hf : f < 8) (hd : d.1 = c.1) => dec_step hk e3 h0 hf hd
    have o0 : (decL W 0).1 = c.1 := hop
    have s1 : decL W 1 = if (partV' c.1 0).2 then putF (decL W 0) 0 (getF c 0) else decL W 0 := step _ 0 (by omega) o0
    have o1 : (decL W 1).1 = c.1 := by rw [s1]; split; rw [putF_op]; exact o0; exact o0
    have s2 : decL W 2 = if (partV' c.1 1).2 then putF (decL W 1) 1 (getF c 1) else decL W 1 := step _ 1 (by omega) o1
    have o2 : (decL W 2).1 = c.1 := by rw [s2]; split; rw [putF_op]; exact o1; exact o1
    have s3 : decL W 3 = if (partV' c.1 2).2 then putF (decL W 2) 2 (getF c 2) else decL W 2 := step _ 2 (by omega) o2
    have o3 : (decL W 3).1 = c.1 := by rw [s3]; split; rw [putF_op]; exact o2; exact o2
    have s4 : decL W 4 = if (partV' c.1 3).2 then putF (decL W 3) 3 (getF c 3) else decL W 3 := step _ 3 (by omega) o3
    have o4 : (decL W 4).1 = c.1 := by rw [s4]; split; rw [putF_op]; exact o3; exact o3
    have s5 : decL W 5 = if (partV' c.1 4).2 then putF (decL W 4) 4 (getF c 4) else decL W 4 := step _ 4 (by omega) o4
    have o5 : (decL W 5).1 = c.1 := by rw [s5]; split; rw [putF_op]; exact o4; exact o4
    have s6 : decL W 6 = if (partV' c.1 5).2 then putF (decL W 5) 5 (getF c 5) else decL W 5 := step _ 5 (by omega) o5
    have o6 : (decL W 6).1 = c.1 := by rw [s6]; split; rw [putF_op]; exact o5; exact o5
    have s7 : decL W 7 = if (partV' c.1 6).2 then putF (decL W 6) 6 (getF c 6) else decL W 6 := step _ 6 (by omega) o6
    have o7 : (decL W 7).1 = c.1 := by rw [s7]; split; rw [putF_op]; exact o6; exact o6
    have s8 : decL W 8 = if (partV' c.1 7).2 then putF (decL W 7) 7 (getF c 7) else decL W 7 := step _ 7 (by omega) o7
    have i0 : decL W 0 = (c.1, 0, 0, 0, 0, 0, 0, 0, false) := by unfold decL; rw [hop]
    have z0 := hz 0 (by omega); have z1 := hz 1 (by omega); have z2 := hz 2 (by omega); have z3 := hz 3 (by omega)
    have z4 := hz 4 (by omega); have z5 := hz 5 (by omega); have z6 := hz 6 (by omega); have z7 := hz 7 (by omega)
    obtain ⟨op, dev, ev, num, coll, tgt, b, a, v⟩ := c
    simp only [getF] at z0 z1 z2 z3 z4 z5 z6 z7 s1 s2 s3 s4 s5 s6 s7 s8 h256 i0
    have p1 : decL W 1 = (op, dev, 0, 0, 0, 0, 0, 0, false) := by
      rw [s1, i0]; cases hh : (partV' op 0).2 with
      | true => rfl
      | false => rw [z0 hh]; rfl
    have p2 : decL W 2 = (op, dev, ev, 0, 0, 0, 0, 0, false) := by
      rw [s2, p1]; cases hh : (partV' op 1).2 with
      | true => rfl
      | false => rw [z1 hh]; rfl
    have p3 : decL W 3 = (op, dev, ev, num, 0, 0, 0, 0, false) := by
      rw [s3, p2]; cases hh : (partV' op 2).2 with
      | true => rfl
      | false => rw [z2 hh]; rfl
    have p4 : decL W 4 = (op, dev, ev, num, coll, 0, 0, 0, false) := by
      rw [s4, p3]; cases hh : (partV' op 3).2 with
      | true => rfl
      | false => rw [z3 hh]; rfl
    have p5 : decL W 5 = (op, dev, ev, num, coll, tgt, 0, 0, false) := by
      rw [s5, p4]; cases hh : (partV' op 4).2 with
      | true => rfl
      | false => rw [z4 hh]; rfl
    have p6 : decL W 6 = (op, dev, ev, num, coll, tgt, b, 0, false) := by
      rw [s6, p5]; cases hh : (partV' op 5).2 with
      | true => rfl
      | false => rw [z5 hh]; rfl
    have p7 : decL W 7 = (op, dev, ev, num, coll, tgt, b, a, false) := by
      rw [s7, p6]; cases hh : (partV' op 6).2 with
      | true => rw [if_pos rfl]; simp only [putF]; rw [show a / 256 * 256 = a by omega]
      | false => rw [if_neg (by simp)]; rw [show a = 0 by have := z6 hh; omega]
    rw [s8, p7]
    cases hh : (partV' op 7).2 with
    | true => cases v <;> rfl
    | false =>
      have := z7 hh
      cases v with
      | true => simp at this
      | false => rfl
  have hok : decOk W (decL W 8) := by
    rw [hd]
    unfold decOk
    rw [hE]
    exact ⟨rfl, rfl, rfl, rfl, rfl⟩
  unfold decV
  rw [hE]
  simp only
  rw [if_pos hok, hd]
end Go.Proofs.YthhfoppaaehepaaGreatDoor.Sl
namespace Go.Proofs.YthhfoppaaehepaaGreatDoor.Sl
open Go Go.RowKit Go.Proofs
set_option linter.unusedVariables false
set_option linter.unusedSimpArgs false
set_option maxRecDepth 10000
def KS (S : Nat → Prop) (B B' : List Nat) : Prop := B'.length = B.length ∧ ∀ i, S i → B'[i]? = B[i]?
theorem KS.refl (S : Nat → Prop) (B : List Nat) : KS S B B := ⟨rfl, fun _ _ => rfl⟩
theorem KS.trans {S : Nat → Prop} {A B C : List Nat} (h1 : KS S A B) (h2 : KS S B C) : KS S A C := ⟨h2.1.trans h1.1, fun i hi => (h2.2 i hi).trans (h1.2 i hi)⟩
theorem KS.mono {S T : Nat → Prop} {A B : List Nat} (h : KS S A B) (hs : ∀ i, T i → S i) : KS T A B := ⟨h.1, fun i hi => h.2 i (hs i hi)⟩
theorem KS.rd {S : Nat → Prop} {B B' : List Nat} (h : KS S B B') {a w : Nat} (hs : ∀ i, a ≤ i → i < a + w → S i) : rdN B' a w = rdN B a w := by
  unfold rdN
  congr 1
  apply List.ext_getElem?
  intro k
  rw [List.getElem?_take, List.getElem?_take]
  split
  · rw [List.getElem?_drop, List.getElem?_drop, h.2 _ (hs _ (by omega) (by omega))]
  · rfl
theorem KS.wr {B : List Nat} {a w v : Nat} (h : a + w ≤ B.length) : KS (fun i => i < a ∨ a + w ≤ i) B (wrN B a w v) := ⟨wrN_len v h, fun i hi => by rw [wrN_at h, if_neg (by omega)]⟩
theorem wipe_at {B : List Nat} {A W : Nat} (h : A + W ≤ B.length) (i : Nat) : (wipeN B A W)[i]? = if A ≤ i ∧ i < A + W then some 0 else B[i]? := by
  unfold wipeN
  by_cases h1 : i < A
  · rw [if_neg (by omega), List.append_assoc, List.getElem?_append_left (by rw [List.length_take]; omega), List.getElem?_take_of_lt h1]
  · by_cases h2 : i < A + W
    · rw [if_pos (by omega), List.getElem?_append_left (by rw [List.length_append, List.length_take, List.length_replicate]; omega), List.getElem?_append_right (by rw [List.length_take]; omega), List.getElem?_replicate, if_pos (by rw [List.length_take]; omega)]
    · rw [if_neg (by omega), List.getElem?_append_right (by rw [List.length_append, List.length_take, List.length_replicate]; omega), List.getElem?_drop]
      congr 1
      rw [List.length_append, List.length_take, List.length_replicate]; omega
theorem KS.wipe {B : List Nat} {A W : Nat} (h : A + W ≤ B.length) : KS (fun i => i < A ∨ A + W ≤ i) B (wipeN B A W) := ⟨wipe_len h, fun i hi => by rw [wipe_at h, if_neg (by omega)]⟩
theorem rd_wipe {B : List Nat} {A W a w : Nat} (h : A + W ≤ B.length) (h1 : A ≤ a) (h2 : a + w ≤ A + W) : rdN (wipeN B A W) a w = 0 := by
  have e : ((wipeN B A W).drop a).take w = List.replicate w 0 := by
    apply List.ext_getElem?
    intro k
    rw [List.getElem?_take, List.getElem?_replicate]
    split
    · rw [List.getElem?_drop, wipe_at h, if_pos (by omega)]
    · rfl
  unfold rdN
  rw [e]
  clear e h h1 h2
  induction w with
  | zero => rfl
  | succ w ih => rw [List.replicate_succ]; simp only [leN, ih]
/-- All but where waits are written. -/
def P0 (i : Nat) : Prop := i < 560 ∨ 608 ≤ i
theorem stP_ks {B : List Nat} (hB : B.length = 4096) {k i : Nat} (hk : k < 3) (hi : i < 64) (v : Bool) : KS P0 B (stP B k i v) := by
  unfold stP
  exact (KS.wr (by omega)).mono fun j hj => by unfold P0 at hj; omega
theorem set_ks {w : SW} (hw : w.ok) {k : Nat} (hk : k < 3) {n : Int} (hn : n ≤ 9223372036854775807) (v : Bool) : KS P0 w.B (w.set k n v).B := by
  unfold SW.set setLV
  simp only
  split
  · rename_i h
    obtain ⟨i, hi, hi64, e1, e2, e3⟩ := idx_in hk hn h
    rw [e3]
    split
    · exact KS.refl _ _
    · exact stP_ks hw.1 hk hi64 v
  · exact KS.refl _ _
theorem move_ks {w : SW} (hw : w.ok) {n : Int} (hn : n ≤ 9223372036854775807) {a b : Nat} (ha : a < 3) (hb : b < 3) : KS P0 w.B (w.move n a b).B := by
  unfold SW.move
  split
  · exact (set_ks hw ha hn false).trans (set_ks (SW.set_ok hw ha hn false) hb hn true)
  · exact KS.refl _ _
theorem fold_ks {a b : Nat} (ha : a < 3) (hb : b < 3) : ∀ {l : List Int} {w : SW}, w.ok → (∀ x ∈ l, x ≤ 9000) → KS P0 w.B (l.foldl (mvS a b) w).B
  | [], w, _, _ => KS.refl _ _
  | x :: l, w, hw, h => by
    have hx := h x (by simp)
    exact (move_ks hw (by omega) ha hb).trans (fold_ks ha hb (mvS_ok ha hb w x hx hw) fun y hy => h y (by simp [hy]))
theorem moveA_ks {w : SW} (hw : w.ok) {a b : Nat} (ha : a < 3) (hb : b < 3) : KS P0 w.B (w.moveA a b).B := fold_ks ha hb hw (waitL_le a _ ha _ _ (Nat.le_refl _))
theorem enK_ks {k : Nat} (hk : k < 3) {U B : List Nat} (hU : setOk U) (hB : B.length = 4096) (hb : byOk B) : ∀ {j}, j ≤ 20 + 16 * k → KS P0 B (enK k U B j).2
  | 0, _ => KS.refl _ _
  | j + 1, hj => by
    have h1 := enK_ks hk hU hB hb (j := j) (by omega)
    have h2 := enK_ok hk hU hB hb (j := j) (by omega)
    unfold enK
    split
    · exact h1.trans (stP_ks h2.2.1 hk (by omega) false)
    · exact h1
theorem en_ks {w : SW} (hw : w.ok) {k : Nat} (hk : k < 3) : KS P0 w.B (w.en k).B := by
  unfold SW.en enV
  simp only
  split
  · exact KS.refl _ _
  · exact enK_ks hk (hw.2.2.2 k hk).1 hw.1 hw.2.1 (Nat.le_refl _)
theorem dis_ks {k : Nat} (hk : k < 3) : ∀ {xs : List Int} {s : List Nat × List Nat}, (∀ x ∈ xs, ∃ i : Nat, i < 64 ∧ x = (i : Int)) → s.2.length = 4096 → KS P0 s.2 (xs.foldl (disS k) s).2
  | [], s, _, _ => KS.refl _ _
  | x :: xs, s, h, h2 => by
    obtain ⟨i, hi, rfl⟩ := h x (by simp)
    have h3 : KS P0 s.2 (disS k s i).2 := stP_ks h2 hk (by simpa using hi) true
    exact h3.trans (dis_ks hk (s := disS k s i) (fun y hy => h y (by simp [hy])) (by rw [h3.1]; exact h2))
theorem disA_ks {w : SW} (hw : w.ok) {k : Nat} (hk : k < 3) : KS P0 w.B (w.dis k).B := dis_ks hk (s := ((w.at_ k).U, w.B)) bitsU_lt hw.1
theorem fgW_ks {w : SW} (hw : w.ok) {r : Rt} (hr : r.1 ≤ 9223372036854775807) : KS P0 w.B (fgW w r).B := by
  unfold fgW
  rcases sideV_cases w.B r.2.1 with ⟨e, he, h⟩ | ⟨k, hk, h⟩
  · rw [h]; exact KS.refl _ _
  · rw [h]; exact set_ks hw hk hr false
theorem mvO_ks {w : SW} (hw : w.ok) (c : Int) {n : Int} (hn : n ≤ 9223372036854775807) {t : Nat} (ht : t < 3) : KS P0 w.B (mvO w c n t).B := by
  unfold mvO
  rcases sideV_cases w.B c with ⟨e, he, h⟩ | ⟨k, hk, h⟩
  · rw [h]; exact KS.refl _ _
  · rw [h]; exact move_ks hw hn hk ht
theorem waits_ks {p : Int} {w : SW} (hw : w.ok) (dev ev : Int) (v : Bool) : KS P0 w.B (waitsV p w dev ev v).1.B := by
  have hlt := eventV_lt w.B p dev ev
  unfold waitsV
  split
  · exact KS.refl _ _
  · rcases sideV_cases w.B (eventV w.B p dev ev).1.2.1 with ⟨e, he, h⟩ | ⟨k, hk, h⟩
    · rw [h]; exact KS.refl _ _
    · rw [h]; exact set_ks hw hk hlt.2.1 v
def EvOk (B : List Nat) : Prop := ∀ k, 128 ≤ k → k < 512 → 2 ^ 63 ≤ rdN B (8 * k) 8 → 8192 ≤ rdN B (8 * k) 8 % 2 ^ 32 ∧ rdN B (8 * k) 8 % 2 ^ 32 < 16384
theorem EvOk.ks {S : Nat → Prop} {B B' : List Nat} (h : EvOk B) (ks : KS S B B') (hs : ∀ i, 1024 ≤ i → S i) : EvOk B' := fun k h1 h2 h3 => by
  rw [ks.rd fun i hi _ => hs i (by omega)] at h3 ⊢
  exact h k h1 h2 h3
theorem EvOk.wr {B : List Nat} (h : EvOk B) (hB : B.length = 4096) {j v : Nat} (hj : j < 512) (hv : v < 2 ^ 63 ∨ (v < 2 ^ 64 ∧ 8192 ≤ v % 2 ^ 32 ∧ v % 2 ^ 32 < 16384)) : EvOk (wrN B (8 * j) 8 v) := fun k h1 h2 h3 => by
  by_cases e : k = j
  · subst e
    rw [rd_wr v (by omega)] at h3 ⊢
    have h64 : (256 : Nat) ^ 8 = 2 ^ 64 := by decide
    have e : v % 256 ^ 8 = v := Nat.mod_eq_of_lt (by rw [h64]; omega)
    rw [e] at h3 ⊢
    rcases hv with hv | ⟨hv, h5⟩
    · omega
    · exact h5
  · rw [rd_apart v (by omega) (by omega)] at h3 ⊢
    exact h k h1 h2 h3
theorem EvOk.wipe {B : List Nat} (h : EvOk B) {a b : Nat} (hl : 8 * a + 8 * b ≤ B.length) : EvOk (wipeN B (8 * a) (8 * b)) := fun k h1 h2 h3 => by
  by_cases e : a ≤ k ∧ k < a + b
  · rw [rd_wipe hl (by omega) (by omega)] at h3; omega
  · have hr : rdN (wipeN B (8 * a) (8 * b)) (8 * k) 8 = rdN B (8 * k) 8 := (KS.wipe hl).rd fun i hi hj => by omega
    rw [hr] at h3 ⊢
    exact h k h1 h2 h3
def lowC (c : Cm) : Prop := c.1 = 8 ∧ c.2.2.2.2.2.2.2.2 = true ∧ c.2.2.2.2.2.2.2.1 < 1024
/-- What the memory of a world holds: tables above T alone (T is 512 or 1024). -/
structure GM (T : Nat) (p : Int) (B : List Nat) : Prop where
  len : B.length = 4096
  lead : p = 32 → rdN B 0 8 = 2 ^ 63 + 640 ∧ rdN B 8 8 = 2 ^ 63 + 680 ∧ ∀ k, 2 ≤ k → k < 8 → rdN B (8 * k) 8 = 0
  dev : ∀ id A, slotA B 0 64 p id = some A → 2 ^ 63 ≤ rdN B A 8 → T ≤ rdN B A 8 % 2 ^ 32
  evs : T = 1024 → EvOk B
theorem holds64 {n : Nat} (h : n = 4096) : holdsV n 0 64 = true := by subst h; decide
theorem slot_at {B : List Nat} (hB : B.length = 4096) {p : Int} (hp : p = 0 ∨ p = 32) (hl : p = 32 → rdN B 0 8 = 2 ^ 63 + 640 ∧ rdN B 8 8 = 2 ^ 63 + 680 ∧ ∀ k, 2 ≤ k → k < 8 → rdN B (8 * k) 8 = 0) {id : Int} {A : Nat} (h : slotA B 0 64 p id = some A) :
    ∃ k, A = 8 * k ∧ ((p = 0 ∧ k < 8) ∨ (p = 32 ∧ 80 ≤ k ∧ k < 89)) := by
  unfold slotA at h
  split at h
  · cases h
  · rename_i hid
    rcases hp with rfl | rfl
    · rw [if_pos rfl] at h
      have := entA_some h
      exact ⟨A / 8, by omega, .inl ⟨rfl, by omega⟩⟩
    · rw [if_neg (by decide)] at h
      split at h
      · rename_i hv
        obtain ⟨l0, l1, l2⟩ := hl rfl
        have hacc : accV B.length 0 64 (id / 4 * 8) 8 = 0 := by
          have h1 := hv.1
          unfold memRd at h1
          split at h1
          · assumption
          · exact h1
        obtain ⟨X, W, x1, x2, x3, x4, x5, x6, x7, x8⟩ := acc_in (by rw [hB]; omega) hacc
        have hrd : (memRd B 0 64 (id / 4 * 8) 8).1 = rdN B (id / 4 * 8).toNat 8 := by
          unfold memRd
          rw [if_pos hacc]
          simp only
          rw [show (0 + id / 4 * 8).toNat = (id / 4 * 8).toNat by omega]
          rfl
        have hk : ∃ k : Nat, k < 8 ∧ (id / 4 * 8).toNat = 8 * k := by
          refine ⟨(id / 4).toNat, ?_, by omega⟩
          unfold accV mayV at hacc
          rw [if_pos (holds64 hB)] at hacc
          rw [if_neg (by simp), if_neg (by rw [Int.tmod_eq_emod_of_nonneg (by omega)]; omega), wrap_id (by omega) (by omega)] at hacc
          split at hacc
          · cases hacc
          · omega
        obtain ⟨k, hk8, hk⟩ := hk
        rw [hrd, hk] at hv h
        have hk2 : k = 0 ∨ k = 1 := by
          by_cases h2 : 2 ≤ k
          · have := l2 k h2 hk8
            rw [this] at hv
            exact absurd hv.2 (by decide)
          · omega
        have he := entA_some h
        rcases hk2 with rfl | rfl
        · rw [show 8 * 0 = 0 from rfl, l0] at he
          simp only [show (2 ^ 63 + 640) % 2 ^ 32 = 640 by decide] at he
          exact ⟨A / 8, by omega, .inr ⟨rfl, by omega, by omega⟩⟩
        · rw [show 8 * 1 = 8 from rfl, l1] at he
          simp only [show (2 ^ 63 + 680) % 2 ^ 32 = 680 by decide] at he
          exact ⟨A / 8, by omega, .inr ⟨rfl, by omega, by omega⟩⟩
      · cases h
theorem slot_ks {S : Nat → Prop} {B B' : List Nat} (ks : KS S B B') (hB : B.length = 4096) (hs : ∀ i, i < 64 → S i) (p id : Int) : slotA B' 0 64 p id = slotA B 0 64 p id := by
  have hrd : memRd B' 0 64 (id / 4 * 8) 8 = memRd B 0 64 (id / 4 * 8) 8 := by
    unfold memRd
    rw [ks.1]
    split
    · rename_i hacc
      obtain ⟨X, W, x1, x2, x3, x4, x5, x6, x7, x8⟩ := acc_in (by rw [hB]; omega) hacc
      congr 1
      refine ks.rd fun i _ hi => hs i ?_
      unfold accV mayV at hacc
      rw [if_pos (holds64 hB)] at hacc
      rw [if_neg (by simp), if_neg (by rw [Int.tmod_eq_emod_of_nonneg (by omega)]; omega), wrap_id (by omega) (by omega)] at hacc
      split at hacc
      · cases hacc
      · have h8 : (8 : Int).toNat = 8 := rfl
        omega
    · rfl
  unfold slotA
  rw [hrd, ks.1]
/-- Places that no event is written to. -/
def KE (T : Nat) (i : Nat) : Prop := i < 448 ∨ (T = 1024 ∧ (i < 560 ∨ (608 ≤ i ∧ i < 1024)))
def EvK (T : Nat) (p : Int) (B B' : List Nat) : Prop := GM T p B' ∧ KS (KE T) B B'
def okT (T : Nat) : Prop := T = 512 ∨ T = 1024
def okP (p : Int) : Prop := p = 0 ∨ p = 32
theorem EvK.refl {T : Nat} {p : Int} {B : List Nat} (h : GM T p B) : EvK T p B B := ⟨h, KS.refl _ _⟩
theorem EvK.trans {T : Nat} {p : Int} {A B C : List Nat} (h1 : EvK T p A B) (h2 : EvK T p B C) : EvK T p A C := ⟨h2.1, h1.2.trans h2.2⟩
theorem lead_ks {S : Nat → Prop} {p : Int} {B B' : List Nat} (ks : KS S B B') (hs : ∀ i, i < 64 → S i) (h : p = 32 → rdN B 0 8 = 2 ^ 63 + 640 ∧ rdN B 8 8 = 2 ^ 63 + 680 ∧ ∀ k, 2 ≤ k → k < 8 → rdN B (8 * k) 8 = 0) :
    p = 32 → rdN B' 0 8 = 2 ^ 63 + 640 ∧ rdN B' 8 8 = 2 ^ 63 + 680 ∧ ∀ k, 2 ≤ k → k < 8 → rdN B' (8 * k) 8 = 0 := fun h32 => by
  obtain ⟨l0, l1, l2⟩ := h h32
  refine ⟨by rw [ks.rd fun i _ hi => hs i (by omega)]; exact l0, by rw [ks.rd fun i _ hi => hs i (by omega)]; exact l1, fun k h1 h2 => by rw [ks.rd fun i _ hi => hs i (by omega)]; exact l2 k h1 h2⟩
/-- Waits, and all that touches neither tables of devices nor events. -/
theorem GM.ks {T : Nat} {p : Int} (hp : okP p) {S : Nat → Prop} {B B' : List Nat} (h : GM T p B) (ks : KS S B B') (hs : ∀ i, i < 64 ∨ (640 ≤ i ∧ i < 712) → S i) (he : T = 1024 → ∀ i, 1024 ≤ i → S i) : GM T p B' := by
  refine ⟨ks.1.trans h.len, lead_ks ks (fun i hi => hs i (.inl hi)) h.lead, fun id A hA hv => ?_, fun hT => (h.evs hT).ks ks (he hT)⟩
  rw [slot_ks ks h.len fun i hi => hs i (.inl hi)] at hA
  obtain ⟨k, rfl, hk⟩ := slot_at h.len hp h.lead hA
  rw [ks.rd fun i h1 h2 => hs i (by omega)] at hv ⊢
  exact h.dev id _ hA hv
theorem GM.p0 {T : Nat} {p : Int} (hp : okP p) {B B' : List Nat} (h : GM T p B) (ks : KS P0 B B') : EvK T p B B' :=
  ⟨h.ks hp ks (fun i hi => by unfold P0; omega) (fun _ i hi => by unfold P0; omega), ks.mono fun i hi => by unfold KE at hi; unfold P0; omega⟩
theorem GM.wr {T : Nat} (hT : okT T) {p : Int} (hp : okP p) {B : List Nat} (h : GM T p B) {a v : Nat} (h1 : T ≤ 8 * a) (h2 : a < 512) (hv : v < 2 ^ 63 ∨ (v < 2 ^ 64 ∧ ((8192 ≤ v % 2 ^ 32 ∧ v % 2 ^ 32 < 16384) ∨ (70 ≤ a ∧ a < 76) ∨ (2 ^ 63 ≤ rdN B (8 * a) 8 ∧ v % 2 ^ 32 = rdN B (8 * a) 8 % 2 ^ 32)))) :
    EvK T p B (wrN B (8 * a) 8 v) := by
  have hl : 8 * a + 8 ≤ B.length := by rw [h.len]; omega
  have ks := KS.wr (v := v) hl
  have hT' : T = 512 ∨ T = 1024 := hT
  have h64 : v < 2 ^ 64 := by omega
  refine ⟨⟨ks.1.trans h.len, lead_ks ks (fun i hi => by omega) h.lead, fun id A hA hx => ?_, fun hT4 => ?_⟩, ks.mono fun i hi => by unfold KE at hi; omega⟩
  · rw [slot_ks ks h.len fun i hi => by omega] at hA
    obtain ⟨k, rfl, hk⟩ := slot_at h.len hp h.lead hA
    by_cases e : k = a
    · subst e
      have e : v % 256 ^ 8 = v := Nat.mod_eq_of_lt (by rw [show (256 : Nat) ^ 8 = 2 ^ 64 by decide]; exact h64)
      rw [rd_wr v hl, e] at hx ⊢
      rcases hv with hv | ⟨_, hv | hv | hv⟩
      · omega
      · omega
      · omega
      · rw [hv.2]; exact h.dev id _ hA hv.1
    · rw [rd_apart v hl (by omega)] at hx ⊢
      exact h.dev id _ hA hx
  · refine (h.evs hT4).wr h.len h2 ?_
    rcases hv with hv | ⟨_, hv | hv | hv⟩
    · exact .inl hv
    · exact .inr ⟨h64, hv⟩
    · omega
    · have := h.evs hT4 a (by omega) h2 hv.1
      exact .inr ⟨h64, by rw [hv.2]; exact this⟩
theorem GM.wipe {T : Nat} (hT : okT T) {p : Int} (hp : okP p) {B : List Nat} (h : GM T p B) {a b : Nat} (h1 : T ≤ 8 * a) (h2 : 8 * a + 8 * b ≤ 4096) : EvK T p B (wipeN B (8 * a) (8 * b)) := by
  have hl : 8 * a + 8 * b ≤ B.length := by rw [h.len]; exact h2
  have ks := KS.wipe hl
  have hT' : T = 512 ∨ T = 1024 := hT
  refine ⟨⟨ks.1.trans h.len, lead_ks ks (fun i hi => by omega) h.lead, fun id A hA hx => ?_, fun hT4 => (h.evs hT4).wipe hl⟩, ks.mono fun i hi => by unfold KE at hi; omega⟩
  rw [slot_ks ks h.len fun i hi => by omega] at hA
  obtain ⟨k, rfl, hk⟩ := slot_at h.len hp h.lead hA
  by_cases e : a ≤ k ∧ k < a + b
  · rw [rd_wipe hl (by omega) (by omega)] at hx; omega
  · have hr : rdN (wipeN B (8 * a) (8 * b)) (8 * k) 8 = rdN B (8 * k) 8 := ks.rd fun i hi hj => by omega
    rw [hr] at hx ⊢
    exact h.dev id _ hA hx
theorem slot_all {S : Nat → Prop} {p : Int} {B B' : List Nat} (ks : KS S B B') (hB : B.length = 4096) (h : p = 0 ∨ ∀ i, i < 64 → S i) (id : Int) : slotA B' 0 64 p id = slotA B 0 64 p id := by
  rcases h with rfl | h
  · unfold slotA
    simp only [if_pos]
    rw [ks.1]
  · exact slot_ks ks hB h p id
/-- A device's place is written. -/
theorem GM.put {T : Nat} (hT : okT T) {p : Int} (hp : okP p) {B : List Nat} (h : GM T p B) {id : Int} {A v : Nat} (hA : slotA B 0 64 p id = some A) (hv : v < 2 ^ 63 ∨ (v < 2 ^ 64 ∧ T ≤ v % 2 ^ 32)) :
    GM T p (wrN B A 8 v) ∧ KS (fun i => i < A ∨ A + 8 ≤ i) B (wrN B A 8 v) := by
  obtain ⟨k, rfl, hk⟩ := slot_at h.len hp h.lead hA
  have hl : 8 * k + 8 ≤ B.length := by rw [h.len]; omega
  have ks := KS.wr (v := v) hl
  have hT' : T = 512 ∨ T = 1024 := hT
  have h0 : p = 0 ∨ ∀ i, i < 64 → (i < 8 * k ∨ 8 * k + 8 ≤ i) := by
    rcases hk with hk | hk
    · exact .inl hk.1
    · exact .inr fun i hi => by omega
  refine ⟨⟨ks.1.trans h.len, fun h32 => lead_ks ks (h0.resolve_left (by omega)) h.lead h32, fun id' A' hA' hx => ?_, fun hT4 => ?_⟩, ks⟩
  · rw [slot_all ks h.len h0] at hA'
    obtain ⟨k', rfl, hk'⟩ := slot_at h.len hp h.lead hA'
    by_cases e : k' = k
    · subst e
      have e : v % 256 ^ 8 = v := Nat.mod_eq_of_lt (by rw [show (256 : Nat) ^ 8 = 2 ^ 64 by decide]; omega)
      rw [rd_wr v hl, e] at hx ⊢
      omega
    · rw [rd_apart v hl (by omega)] at hx ⊢
      exact h.dev id' _ hA' hx
  · exact (h.evs hT4).ks ks fun i hi => by omega
end Go.Proofs.YthhfoppaaehepaaGreatDoor.Sl
namespace Go.Proofs.YthhfoppaaehepaaGreatDoor.Sl
open Go Go.RowKit Go.Proofs
set_option linter.unusedVariables false
set_option linter.unusedSimpArgs false
set_option maxRecDepth 10000
/-- A device whose events lie above T. -/
def dvT (T : Nat) (d : Dv) : Prop := okDv d ∧ (d.1 = true → (T : Int) ≤ d.2.2 ∧ d.2.2 % 256 = 0)
theorem devV_T {T : Nat} (hT : okT T) {x : Nat} (h : 2 ^ 63 ≤ x → T ≤ x % 2 ^ 32) : dvT T (devV x) := by
  refine ⟨devV_ok x, fun hv => ?_⟩
  have hT' : T = 512 ∨ T = 1024 := hT
  unfold devV at hv ⊢
  split at hv
  · cases hv
  · rename_i h63
    have := h (by omega)
    rw [if_neg h63]
    simp only
    omega
theorem GM.tab {T : Nat} (hT : okT T) {p : Int} {B : List Nat} (h : GM T p B) (id : Int) : dvT T (tabGet B 0 64 p id).1 := by
  unfold tabGet
  cases hs : slotA B 0 64 p id with
  | none =>
    show dvT T ((false, 0, 0) : Dv)
    exact ⟨⟨by decide, by decide, by decide, by decide⟩, fun h => by cases h⟩
  | some A => exact devV_T hT (h.dev id A hs)
theorem GM.device {T : Nat} (hT : okT T) {p : Int} {B : List Nat} (h : GM T p B) (id : Int) : dvT T (deviceV B p id).1 := h.tab hT id
theorem evA_T {T n : Nat} {d : Dv} (hd : dvT T d) {ev : Int} {A : Nat} {e : Int} (h : evA n d ev = (some A, e)) : ∃ a, A = 8 * a ∧ T ≤ 8 * a ∧ 8 * a + 8 ≤ n ∧ (A : Int) = d.2.2 + ev * 8 ∧ e = 0 := by
  obtain ⟨h0, h1, h2, h3, h4, h5⟩ := evA_some hd.1 h
  have := hd.2 h5
  exact ⟨A / 8, by omega, by omega, by omega, h1, h0⟩
theorem routeN_lt {c n : Int} (h1 : 0 ≤ n ∧ n < 4294967296) (h2 : 0 ≤ c ∧ c < 65536) : routeN c n < 2 ^ 64 ∧ 2 ^ 63 ≤ routeN c n ∧ ((routeN c n % 2 ^ 32 : Nat) : Int) = n ∧ ((routeN c n / 2 ^ 32 % 2 ^ 16 : Nat) : Int) = c := by
  unfold routeN
  omega
/-- What a route's number must be to be written. -/
def numT (B : List Nat) (d : Dv) (ev : Int) (r : Rt) : Prop := r.2.2 = false ∨ (8192 ≤ r.1 ∧ r.1 < 16384) ∨ ∀ a e, evA B.length d ev = (some (8 * a), e) → (70 ≤ a ∧ a < 76) ∨ (2 ^ 63 ≤ rdN B (8 * a) 8 ∧ r.1 = ((rdN B (8 * a) 8 % 2 ^ 32 : Nat) : Int))
theorem GM.devSet {T : Nat} (hT : okT T) {p : Int} (hp : okP p) {B : List Nat} (h : GM T p B) {d : Dv} (hd : dvT T d) {ev : Int} {r : Rt} (hr : numT B d ev r) : EvK T p B (devSet B d ev r).1 := by
  unfold Sl.devSet
  cases he : evA B.length d ev with
  | mk o e =>
    cases o with
    | none => exact EvK.refl h
    | some A =>
      obtain ⟨a, rfl, h1, h2, h3, h4⟩ := evA_T hd he
      have h5 : a < 512 := by rw [h.len] at h2; omega
      simp only
      split
      · exact h.wr hT hp h1 h5 (.inl (by omega))
      · rename_i hv
        split
        · rename_i hn
          obtain ⟨r1, r2, r3, r4⟩ := routeN_lt ⟨hn.1, hn.2.1⟩ hn.2.2
          refine h.wr hT hp h1 h5 (.inr ⟨r1, ?_⟩)
          rcases hr with hr | hr | hr
          · exact absurd hr hv
          · exact .inl (by omega)
          · rcases hr a e he with hr | ⟨hr, hr2⟩
            · exact .inr (.inl hr)
            · exact .inr (.inr ⟨hr, by omega⟩)
        · exact EvK.refl h
def GW (T : Nat) (p : Int) (w : SW) : Prop := w.ok ∧ GM T p w.B
theorem fgV_k {T : Nat} (hT : okT T) {p : Int} (hp : okP p) {w : SW} (h : GW T p w) {d : Dv} (hd : dvT T d) {x : Er} (hx : x.2.1 ≤ 9223372036854775807) : EvK T p w.B (fgV d w x).B := by
  have h1 := h.2.p0 hp (fgW_ks h.1 hx)
  exact h1.trans (h1.1.devSet hT hp hd (.inl rfl))
theorem foldE_k {T : Nat} (hT : okT T) {p : Int} (hp : okP p) {d : Dv} (hd : dvT T d) : ∀ {pre : List Er} {w : SW}, GW T p w → (∀ x ∈ pre, 0 ≤ x.1 ∧ x.2.1 ≤ 9223372036854775807 ∧ 0 ≤ x.2.1) → EvK T p w.B (pre.foldl (fgV d) w).B
  | [], w, h, _ => EvK.refl h.2
  | x :: l, w, h, hx => by
    obtain ⟨a1, a2, a3⟩ := hx x (by simp)
    have h1 := fgV_k hT hp h hd a2
    exact h1.trans (foldE_k hT hp hd (w := fgV d w x) ⟨fgV_ok hd.1 w x a1 a2 a3 h.1, h1.1⟩ fun y hy => hx y (by simp [hy]))
theorem fgA_k {T : Nat} (hT : okT T) {p : Int} (hp : okP p) {w : SW} (h : GW T p w) {d : Dv} (hd : dvT T d) : EvK T p w.B (fgA d w).B := by
  unfold fgA
  split
  · exact foldE_k hT hp hd h (routesL_in d _ _ _)
  · exact EvK.refl h.2
theorem fgO_k {T : Nat} (hT : okT T) {p : Int} (hp : okP p) {w : SW} (h : GW T p w) {d : Dv} (hd : dvT T d) {x : Er} (hx : x.2.1 ≤ 9223372036854775807) : EvK T p w.B (fgO d w x).B := by
  unfold fgO
  split
  · exact fgV_k hT hp h hd hx
  · exact EvK.refl h.2
theorem invS_B (w : SW) (c n : Int) : (invS w c n).B = w.B := by
  unfold invS
  rcases sideV_cases w.B c with ⟨e, he, h⟩ | ⟨k, hk, h⟩
  · rw [h]
  · rw [h]; rfl
theorem maptiV_k {T : Nat} (hT : okT T) {p : Int} (hp : okP p) {w : SW} (h : GW T p w) (c : Cm) (n : Int) : EvK T p w.B (maptiV p w c n).1.B := by
  have hd := h.2.device hT c.2.1
  have hr := devRt_lt w.B (deviceV w.B p c.2.1).1 c.2.2.1
  unfold maptiV
  repeat' split
  all_goals first | exact EvK.refl h.2 | skip
  have h1 := fgO_k hT hp h hd (x := (c.2.2.1, (devRt w.B (deviceV w.B p c.2.1).1 c.2.2.1).1)) hr.2.1
  simp only
  rw [invS_B]
  exact h1.trans (h1.1.devSet hT hp hd (.inr (.inl (by omega))))
theorem device_ks {T : Nat} {p : Int} (hp : okP p) {S : Nat → Prop} {B B' : List Nat} (h : GM T p B) (ks : KS S B B') (hs : ∀ i, i < 64 ∨ (640 ≤ i ∧ i < 712) → S i) (id : Int) : tabGet B' 0 64 p id = tabGet B 0 64 p id := by
  unfold tabGet
  rw [slot_ks ks h.len fun i hi => hs i (.inl hi)]
  cases hA : slotA B 0 64 p id with
  | none => rfl
  | some A =>
    obtain ⟨k, rfl, hk⟩ := slot_at h.len hp h.lead hA
    simp only
    rw [ks.rd fun i h1 h2 => hs i (by omega)]
theorem deviceV_ks {T : Nat} {p : Int} (hp : okP p) {S : Nat → Prop} {B B' : List Nat} (h : GM T p B) (ks : KS S B B') (hs : ∀ i, i < 64 ∨ (640 ≤ i ∧ i < 712) → S i) (id : Int) : deviceV B' p id = deviceV B p id := by
  unfold deviceV
  rw [device_ks hp h ks hs]
theorem eventV_ok {B : List Nat} {p id ev : Int} (h : (eventV B p id ev).2 = 0) : (deviceV B p id).2 = 0 ∧ (devRt B (deviceV B p id).1 ev).2 = 0 ∧ (devRt B (deviceV B p id).1 ev).1.2.2 = true ∧ (eventV B p id ev).1 = (devRt B (deviceV B p id).1 ev).1 := by
  unfold eventV at h ⊢
  split at h
  · rename_i h1; exact absurd h h1
  · rename_i h1
    rw [if_neg h1]
    have h2 : (deviceV B p id).2 = 0 := by omega
    simp only at h ⊢
    split at h
    · cases h
    · rename_i h3
      refine ⟨h2, h, ?_, trivial⟩
      cases hb : (devRt B (deviceV B p id).1 ev).1.2.2
      · exact absurd ⟨h, by simp [hb]⟩ h3
      · rfl
/-- The place of a route that is read. -/
theorem devRt_at {T : Nat} {B : List Nat} {d : Dv} (hd : dvT T d) {ev : Int} (h : (devRt B d ev).2 = 0) : ∃ a, evA B.length d ev = (some (8 * a), 0) ∧ T ≤ 8 * a ∧ 8 * a + 8 ≤ B.length ∧ ((8 * a : Nat) : Int) = d.2.2 + ev * 8 ∧ devRt B d ev = (routeV (rdN B (8 * a) 8), 0) := by
  unfold devRt at h ⊢
  cases he : evA B.length d ev with
  | mk o e =>
    cases o with
    | none => rw [he] at h; exact absurd h (evA_err he)
    | some A =>
      obtain ⟨a, rfl, h1, h2, h3, rfl⟩ := evA_T hd he
      refine ⟨a, ?_, h1, h2, h3, ?_⟩ <;> first | rfl | trivial
theorem routeV_v {x : Nat} (h : (routeV x).2.2 = true) : 2 ^ 63 ≤ x ∧ (routeV x).1 = ((x % 2 ^ 32 : Nat) : Int) ∧ (routeV x).2.1 = ((x / 2 ^ 32 % 2 ^ 16 : Nat) : Int) := by
  unfold routeV at h ⊢
  split at h
  · cases h
  · rename_i h1; exact ⟨by omega, by rw [if_neg h1], by rw [if_neg h1]⟩
theorem invB (w : SW) (k : Nat) (n : Int) : (w.inv k n).B = w.B := rfl
theorem moviV_k {T : Nat} (hT : okT T) {p : Int} (hp : okP p) {w : SW} (h : GW T p w) (c : Cm) : EvK T p w.B (moviV p w c).1.B := by
  have hlt := eventV_lt w.B p c.2.1 c.2.2.1
  unfold moviV
  split
  · exact EvK.refl h.2
  · rename_i hev
    have hev0 : (eventV w.B p c.2.1 c.2.2.1).2 = 0 := by omega
    obtain ⟨e1, e2, e3, e4⟩ := eventV_ok hev0
    rcases sideV_cases w.B c.2.2.2.2.1 with ⟨e, he, hs⟩ | ⟨t, ht, hs⟩
    · rw [hs]; exact EvK.refl h.2
    · rw [hs]
      simp only
      generalize hx : eventV w.B p c.2.1 c.2.2.1 = x at hlt e4 ⊢
      obtain ⟨⟨n, co, v⟩, er⟩ := x
      simp only at hlt e4 ⊢
      rw [invB]
      have hks := mvO_ks h.1 co hlt.2.1 ht
      have h1 := h.2.p0 hp hks
      have hdv := deviceV_ks hp h.2 hks (fun i hi => by unfold P0; omega) c.2.1
      rw [hdv]
      refine h1.trans (h1.1.devSet hT hp (h.2.device hT c.2.1) (.inr (.inr fun a e he => ?_)))
      rw [hks.1] at he
      obtain ⟨a', g1, g2, g3, g4, g5⟩ := devRt_at (h.2.device hT c.2.1) e2
      rw [g1] at he
      obtain rfl : a' = a := by injection he with he _; injection he with he; omega
      by_cases ha : 70 ≤ a' ∧ a' < 76
      · exact .inl ha
      · right
        rw [hks.rd fun i _ _ => by unfold P0; omega]
        rw [g5] at e3 e4
        obtain ⟨r1, r2, r3⟩ := routeV_v e3
        have e4' : n = (routeV (rdN w.B (8 * a') 8)).1 := congrArg Prod.fst e4
        exact ⟨r1, by rw [e4', r2]⟩
theorem discardV_k {T : Nat} (hT : okT T) {p : Int} (hp : okP p) {w : SW} (h : GW T p w) (c : Cm) : EvK T p w.B (discardV p w c).1.B := by
  have hlt := eventV_lt w.B p c.2.1 c.2.2.1
  unfold discardV
  split
  · exact EvK.refl h.2
  · exact fgV_k hT hp h (h.2.device hT c.2.1) hlt.2.1
/-- What every command keeps: the invariant and the queue. -/
def DoK (T : Nat) (p : Int) (B B' : List Nat) : Prop := GM T p B' ∧ KS (fun i => 128 ≤ i ∧ i < 448) B B'
theorem EvK.dok {T : Nat} {p : Int} {B B' : List Nat} (h : EvK T p B B') : DoK T p B B' := ⟨h.1, h.2.mono fun i hi => .inl (by omega)⟩
theorem DoK.refl {T : Nat} {p : Int} {B : List Nat} (h : GM T p B) : DoK T p B B := ⟨h, KS.refl _ _⟩
theorem invE_k {T : Nat} {p : Int} {w : SW} (h : GW T p w) (c : Cm) : DoK T p w.B (invE p w c).1.B := by
  unfold invE
  split
  · exact DoK.refl h.2
  · rcases sideV_cases w.B (eventV w.B p c.2.1 c.2.2.1).1.2.1 with ⟨e, he, hs⟩ | ⟨t, ht, hs⟩ <;> (rw [hs]; exact DoK.refl h.2)
theorem invallV_k {T : Nat} {p : Int} {w : SW} (h : GW T p w) (c : Int) : DoK T p w.B (invallV w c).1.B := by
  unfold invallV
  rcases sideV_cases w.B c with ⟨e, he, hs⟩ | ⟨t, ht, hs⟩ <;> (rw [hs]; exact DoK.refl h.2)
theorem movallV_k {T : Nat} {p : Int} (hp : okP p) {w : SW} (h : GW T p w) {c : Cm} (h1 : 0 ≤ c.2.2.2.2.2.1) (h2 : 0 ≤ c.2.2.2.1) : DoK T p w.B (movallV w c).1.B := by
  unfold movallV
  split
  · exact DoK.refl h.2
  · exact (h.2.p0 hp (moveA_ks h.1 (by omega) (by omega))).dok
theorem setTg_ks {B : List Nat} (hB : B.length = 4096) (c t : Int) (v : Bool) : KS (fun i => i < 64 ∨ 128 ≤ i) B (setTg B 64 64 c t v).1 := by
  unfold setTg
  split
  · exact KS.refl _ _
  · split
    · exact KS.refl _ _
    · unfold memWr
      split
      · rename_i hacc
        rw [if_neg (by simp)]
        have hacc' := hacc
        obtain ⟨X, W, x1, x2, x3, x4, x5, x6, x7, x8⟩ := acc_in (by rw [hB]; omega) hacc
        unfold accV mayV at hacc'
        have h64 : holdsV B.length 64 64 = true := by rw [hB]; decide
        rw [if_pos h64, if_neg (by simp), if_neg (by rw [Int.tmod_eq_emod_of_nonneg (by omega)]; omega), wrap_id (by omega) (by omega)] at hacc'
        split at hacc'
        · cases hacc'
        · have h8 : (8 : Int).toNat = 8 := rfl
          refine (KS.wr (v := _) (by omega)).mono fun i hi => ?_
          omega
      · exact KS.refl _ _
theorem mapcV_k {T : Nat} {p : Int} (hp : okP p) {w : SW} (h : GW T p w) (c : Cm) : DoK T p w.B (mapcV w c).1.B := by
  unfold mapcV
  split
  · exact DoK.refl h.2
  · have ks := setTg_ks h.1.1 c.2.2.2.2.1 c.2.2.2.2.2.1 c.2.2.2.2.2.2.2.2
    exact ⟨h.2.ks hp ks (fun i hi => by omega) (fun _ i hi => by omega), ks.mono fun i hi => by omega⟩
theorem waitsV_k {T : Nat} {p : Int} (hp : okP p) {w : SW} (h : GW T p w) (dev ev : Int) (v : Bool) : EvK T p w.B (waitsV p w dev ev v).1.B := h.2.p0 hp (waits_ks h.1 dev ev v)
end Go.Proofs.YthhfoppaaehepaaGreatDoor.Sl
namespace Go.Proofs.YthhfoppaaehepaaGreatDoor.Sl
open Go Go.RowKit Go.Proofs
set_option linter.unusedVariables false
set_option linter.unusedSimpArgs false
set_option maxRecDepth 10000
theorem badW_no {n : Nat} (hn : n = 4096) {b a : Int} (hb0 : 0 ≤ b) (hb1 : b ≤ 31) {j : Nat} (ha : a = ((256 * j : Nat) : Int)) (h : badW n true b a = false) : 512 ≤ a ∧ a + 8 * evN b ≤ 4096 ∧ ∃ W : Nat, 1 ≤ W ∧ (8 * evN b).toNat = 8 * W ∧ a.toNat = 8 * (32 * j) ∧ 8 * (32 * j) + 8 * W ≤ 4096 := by
  subst hn
  have he := evN_le hb1
  unfold badW at h
  simp only [Bool.true_and, Bool.or_eq_false_iff, Bool.not_eq_false'] at h
  obtain ⟨h1, h2, h3, h4⟩ := h
  unfold holdsV at h1
  simp only [Bool.and_eq_true, decide_eq_true_eq] at h1
  have f1 : fairV a (8 * evN b) = true := by unfold fairV; rw [decide_eq_true_eq]; omega
  have f2 : ∀ x y : Int, 0 ≤ x → x ≤ 1000 → 0 ≤ y → y ≤ 1000 → fairV x y = true := fun x y _ _ _ _ => by unfold fairV; rw [decide_eq_true_eq]; omega
  unfold meetV at h2 h4
  rw [f1, f2 _ _ (by omega) (by omega) (by omega) (by omega)] at h2 h4
  simp only [Bool.true_and, decide_eq_false_iff_not] at h2 h4
  have h5 : 64 ≤ a := by
    by_cases h : a < 0
    · omega
    · rw [if_neg h] at h2; omega
  have h6 : 448 ≤ a := by
    by_cases h : a < 128
    · omega
    · rw [if_neg h] at h4; omega
  refine ⟨by omega, by omega, (evN b).toNat, by omega, by omega, by omega, by omega⟩
theorem mapdV_k {T : Nat} (hT : okT T) {p : Int} (hp : okP p) {w : SW} (h : GW T p w) {c : Cm} (he : (encV c).2 = 0) (hc : T = 1024 → c.2.2.2.2.2.2.2.2 = true → 1024 ≤ c.2.2.2.2.2.2.2.1) :
    DoK T p w.B (mapdV p w c).1.B ∧ ((tabGet w.B 0 64 p c.2.1).2 = 0 → badW w.B.length c.2.2.2.2.2.2.2.2 c.2.2.2.2.2.2.1 c.2.2.2.2.2.2.2.1 = false → (mapdV p w c).2 = 0) := by
  have hT' : T = 512 ∨ T = 1024 := hT
  obtain ⟨hb0, hb1, hpt⟩ := enc_bits he
  obtain ⟨op, dev, ev, num, coll, tgt, b, a, v⟩ := c
  simp only at hb0 hb1 hpt hc
  unfold mapdV
  simp only
  split
  · rename_i h0
    exact ⟨DoK.refl h.2, fun h1 => absurd h1 h0⟩
  · rename_i h0
    split
    · rename_i h1
      exact ⟨DoK.refl h.2, fun _ h2 => by rw [h2] at h1; cases h1⟩
    · rename_i hbad
      have hd := h.2.tab hT dev
      have h1 := fgA_k hT hp h hd
      have hw1 := fgA_ok hd.1 h.1
      generalize hu : fgA (tabGet w.B 0 64 p dev).1 w = u at h1 hw1 ⊢
      have h2 : EvK T p w.B (wpV v b a u.B) := by
        unfold wpV
        cases v with
        | false => exact h1
        | true =>
          obtain ⟨_, _, j, hj, hj2⟩ := hpt rfl
          simp only at hj2
          obtain ⟨k1, k2, W, k3, k4, k5, k6⟩ := badW_no h.1.1 hb0 hb1 hj2 (by simpa using hbad)
          have hl := hc
          rw [if_pos rfl, k4, k5]
          refine h1.trans (h1.1.wipe hT hp ?_ k6)
          rcases hT' with rfl | rfl
          · omega
          · have := hl rfl rfl; omega
      have hs : slotA (wpV v b a u.B) 0 64 p dev = slotA w.B 0 64 p dev := slot_ks h2.2 h.2.len (fun i hi => .inl (by omega)) p dev
      cases hA : slotA w.B 0 64 p dev with
      | none =>
        unfold tabGet at h0
        rw [hA] at h0
        exact absurd (show (180 : Int) ≠ 0 by decide) h0
      | some A =>
        have hA2 := hs.trans hA
        unfold tabPut
        rw [hA2]
        simp only
        obtain ⟨k, rfl, hk⟩ := slot_at h.2.len hp h.2.lead hA
        obtain ⟨g1, g2⟩ := h2.1.put hT hp hA2 (v := if v = true then devN b.toNat a.toNat else 0) (by
          cases v with
          | false => exact .inl (by rw [if_neg (by simp)]; omega)
          | true =>
            right
            obtain ⟨_, _, j, hj, hj2⟩ := hpt rfl
            simp only at hj2
            obtain ⟨k1, k2, W, k3, k4, k5, k6⟩ := badW_no h.1.1 hb0 hb1 hj2 (by simpa using hbad)
            rw [if_pos rfl]
            unfold devN
            rcases hT' with rfl | rfl
            · omega
            · have := hc rfl rfl; omega)
        refine ⟨⟨g1, (h2.2.mono fun i hi => .inl (by omega)).trans (g2.mono fun i hi => by omega)⟩, fun _ _ => by first | rfl | trivial⟩
theorem ite_q {α : Type} {Q : α → Prop} {c : Prop} [Decidable c] {a b : α} (h1 : c → Q a) (h2 : ¬ c → Q b) : Q (if c then a else b) := by split <;> simp_all
def lowT (T : Nat) (c : Cm) : Prop := T = 1024 → ¬ lowC c
theorem doV_k {T : Nat} (hT : okT T) {p : Int} (hp : okP p) {w : SW} (h : GW T p w) {c : Cm} (hc : lowT T c) : DoK T p w.B (doV p w c).1.B := by
  by_cases h0 : (encV c).2 ≠ 0
  · unfold doV; rw [if_pos h0]; exact DoK.refl h.2
  · unfold doV
    rw [if_neg h0]
    have h0 : (encV c).2 = 0 := by omega
    have hnm := enc_nums h0
    refine ite_q (Q := fun r : SW × Int => DoK T p w.B r.1.B) (fun h8 => (mapdV_k hT hp h h0 fun h1 hv => ?_).1) fun _ => ite_q (Q := fun r : SW × Int => DoK T p w.B r.1.B) (fun _ => mapcV_k hp h c) fun _ =>
      ite_q (Q := fun r : SW × Int => DoK T p w.B r.1.B) (fun _ => (maptiV_k hT hp h c _).dok) fun _ => ite_q (Q := fun r : SW × Int => DoK T p w.B r.1.B) (fun _ => (maptiV_k hT hp h c _).dok) fun _ =>
      ite_q (Q := fun r : SW × Int => DoK T p w.B r.1.B) (fun _ => (moviV_k hT hp h c).dok) fun _ => ite_q (Q := fun r : SW × Int => DoK T p w.B r.1.B) (fun _ => (discardV_k hT hp h c).dok) fun _ =>
      ite_q (Q := fun r : SW × Int => DoK T p w.B r.1.B) (fun _ => (waitsV_k hp h _ _ _).dok) fun _ => ite_q (Q := fun r : SW × Int => DoK T p w.B r.1.B) (fun _ => (waitsV_k hp h _ _ _).dok) fun _ =>
      ite_q (Q := fun r : SW × Int => DoK T p w.B r.1.B) (fun _ => invE_k h c) fun _ => ite_q (Q := fun r : SW × Int => DoK T p w.B r.1.B) (fun _ => invallV_k h _) fun _ =>
      ite_q (Q := fun r : SW × Int => DoK T p w.B r.1.B) (fun _ => movallV_k hp h (by omega) (by omega)) fun _ => ite_q (Q := fun r : SW × Int => DoK T p w.B r.1.B) (fun _ => DoK.refl h.2) fun _ => DoK.refl h.2
    have := hc h1
    unfold lowC at this
    by_cases ha : c.2.2.2.2.2.2.2.1 < 1024
    · exact absurd ⟨h8, hv, ha⟩ this
    · omega
end Go.Proofs.YthhfoppaaehepaaGreatDoor.Sl
namespace Go.Proofs.YthhfoppaaehepaaGreatDoor.Sl
open Go Go.RowKit Go.Proofs
set_option linter.unusedVariables false
set_option linter.unusedSimpArgs false
set_option maxRecDepth 10000
def queOk (B : List Nat) : Prop := ∀ k, k < 10 → ∀ c, decV (ldW B k) = (c, 0) → ¬ lowC c
theorem ldW_ks {S : Nat → Prop} {B B' : List Nat} (ks : KS S B B') {k : Nat} (hs : ∀ i, 128 + 32 * k ≤ i → i < 160 + 32 * k → S i) : ldW B' k = ldW B k := by
  unfold ldW ldK
  rw [ks.rd fun i h1 h2 => hs i (by omega) (by omega), ks.rd fun i h1 h2 => hs i (by omega) (by omega), ks.rd fun i h1 h2 => hs i (by omega) (by omega), ks.rd fun i h1 h2 => hs i (by omega) (by omega)]
theorem queOk.ks {S : Nat → Prop} {B B' : List Nat} (h : queOk B) (ks : KS S B B') (hs : ∀ i, 128 ≤ i → i < 448 → S i) : queOk B' := fun k hk c hc => by
  rw [ldW_ks ks fun i h1 h2 => hs i (by omega) (by omega)] at hc
  exact h k hk c hc
theorem stW_ks {B : List Nat} (hB : B.length = 4096) {j : Nat} (hj : j < 10) (E : List Nat) : ∀ {k}, k ≤ 4 → KS (fun i => i < 128 + 32 * j ∨ 160 + 32 * j ≤ i) B (stW B j E k)
  | 0, _ => KS.refl _ _
  | k + 1, hk => by
    have h1 := stW_ks hB hj E (k := k) (by omega)
    exact h1.trans ((KS.wr (by rw [h1.1, hB]; omega)).mono fun i hi => by omega)
theorem stW_rd {B : List Nat} (hB : B.length = 4096) {j : Nat} (hj : j < 10) {E : List Nat} (hE : ∀ k, E.getD k 0 < 2 ^ 64) : ∀ {k}, k ≤ 4 → ∀ g, g < k → ldK (stW B j E k) j g = E.getD g 0
  | 0, _, g, hg => absurd hg (by omega)
  | k + 1, hk, g, hg => by
    have hl := (stW_ks hB hj E (k := k) (by omega)).1
    unfold stW ldK
    by_cases e : g = k
    · subst e
      rw [rd_wr _ (by rw [hl, hB]; omega)]
      exact Nat.mod_eq_of_lt (by rw [show (256 : Nat) ^ 8 = 2 ^ 64 by decide]; exact hE g)
    · rw [rd_apart _ (by rw [hl, hB]; omega) (by omega)]
      exact stW_rd hB hj hE (k := k) (by omega) g (by omega)
theorem stW_ld {B : List Nat} (hB : B.length = 4096) {j : Nat} (hj : j < 10) (c : Cm) : ldW (stW B j (encV c).1 4) j = (encV c).1 := by
  have h := stW_rd hB hj (enc_lt c) (k := 4) (Nat.le_refl _)
  unfold ldW
  rw [h 0 (by omega), h 1 (by omega), h 2 (by omega), h 3 (by omega)]
  have hl := (encV_ok c).1
  generalize (encV c).1 = E at hl
  match E, hl with
  | [a, b, c, d], _ => rfl
/-- A command is put into the queue. -/
theorem putV_g {T : Nat} {p : Int} (hp : okP p) {B : List Nat} (h : GM T p B) {i j : Nat} (hj : j < 10) (c : Cm) : GM T p (putV B i j c).1 ∧ KS (fun i => i < 128 + 32 * j ∨ 160 + 32 * j ≤ i) B (putV B i j c).1 := by
  unfold putV
  split
  · exact ⟨h, KS.refl _ _⟩
  · split
    · have ks := stW_ks h.len hj (encV c).1 (k := 4) (Nat.le_refl _)
      exact ⟨h.ks hp ks (fun i hi => by omega) (fun _ i hi => by omega), ks⟩
    · exact ⟨h, KS.refl _ _⟩
theorem putV_que {T : Nat} {p : Int} {B : List Nat} (h : GM T p B) (hq : queOk B) {i j : Nat} (hj : j < 10) {c : Cm} (hc : ¬ lowC c) : queOk (putV B i j c).1 := by
  unfold putV
  split
  · exact hq
  · split
    · rename_i he
      have ks := stW_ks h.len hj (encV c).1 (k := 4) (Nat.le_refl _)
      intro k hk c' hc'
      by_cases e : k = j
      · subst e
        rw [stW_ld h.len hj, dec_enc he] at hc'
        obtain rfl : c = c' := congrArg Prod.fst hc'
        exact hc
      · rw [ldW_ks ks fun i h1 h2 => by omega] at hc'
        exact hq k hk c' hc'
    · exact hq
def GP (p : Int) (x : PS) : Prop := x.ok ∧ GM 1024 p x.w.B ∧ queOk x.w.B
theorem T4 : okT 1024 := .inr rfl
theorem T5 : okT 512 := .inl rfl
theorem doV_que {p : Int} (hp : okP p) {w : SW} (h : GW 1024 p w) (hq : queOk w.B) {c : Cm} (hc : ¬ lowC c) : GM 1024 p (doV p w c).1.B ∧ queOk (doV p w c).1.B := by
  have h1 := doV_k T4 hp h (fun _ => hc)
  exact ⟨h1.1, hq.ks h1.2 fun i h1 h2 => by omega⟩
theorem stepV_g {p : Int} (hp : okP p) {x : IW} (h : GW 1024 p x.w) (hq : queOk x.w.B) (hi : x.i < 10) (on : Bool) (j : Nat) : GM 1024 p (stepV p on j x).1.w.B ∧ queOk (stepV p on j x).1.w.B := by
  unfold stepV
  split
  · exact ⟨h.2, hq⟩
  · split
    · exact ⟨h.2, hq⟩
    · split
      · exact ⟨h.2, hq⟩
      · split
        · exact ⟨h.2, hq⟩
        · rename_i h1 h2
          have hc : ¬ lowC (headV x.w.B x.i j).1 := by
            have h0 : (headV x.w.B x.i j).2 = 0 := by omega
            unfold headV at h0 ⊢
            split at h0
            · cases h0
            · rename_i h3
              rw [if_neg h3]
              exact hq x.i hi _ (by rw [← h0])
          have h3 := doV_que hp h hq hc
          split <;> exact h3
theorem p0_que {B B' : List Nat} (hq : queOk B) (ks : KS P0 B B') : queOk B' := hq.ks ks fun i h1 h2 => by unfold P0; omega
theorem actV_g {p : Int} (hp : okP p) {x : PS} (h : GP p x) {a : Ac} (ha : ¬ lowA a) : GP p (actV p x a) := by
  refine ⟨actV_ok h.1 a, ?_⟩
  have hc : ¬ lowC a.c := ha
  obtain ⟨hx, hm, hq⟩ := h
  obtain ⟨hw, hi, hj⟩ := hx
  unfold actV
  by_cases h1 : a.d = 1
  · rw [if_pos h1]; exact doV_que hp ⟨hw, hm⟩ hq hc
  rw [if_neg h1]
  by_cases h2 : a.d = 2
  · rw [if_pos h2]; exact ⟨(putV_g hp hm hj a.c).1, putV_que hm hq hj hc⟩
  rw [if_neg h2]
  by_cases h3 : a.d = 3
  · rw [if_pos h3]; exact stepV_g hp (x := ⟨x.w, x.st, x.i⟩) ⟨hw, hm⟩ hq hi _ _
  rw [if_neg h3]
  by_cases h4 : a.d = 4
  · rw [if_pos h4]; exact ⟨hm, hq⟩
  rw [if_neg h4]
  by_cases h6 : a.d = 6
  · rw [if_pos h6]
    show GM 1024 p (messageV _ _ _ _ _).1.B ∧ queOk (messageV _ _ _ _ _).1.B
    unfold messageV
    split
    · have ks := waits_ks (p := p) hw a.c.2.1 a.c.2.2.1 true
      exact ⟨(hm.p0 hp ks).1, p0_que hq ks⟩
    · exact ⟨hm, hq⟩
  rw [if_neg h6]
  by_cases h7 : a.d = 7
  · rw [if_pos h7]; exact ⟨hm, hq⟩
  rw [if_neg h7]
  by_cases h9 : a.d = 9 ∧ 0 ≤ a.n ∧ a.n < 3
  · rw [if_pos h9]
    show GM 1024 p (if a.is = true then _ else _ : SW).B ∧ queOk (if a.is = true then _ else _ : SW).B
    split
    · have ks := en_ks hw (k := a.n.toNat) (by omega)
      exact ⟨(hm.p0 hp ks).1, p0_que hq ks⟩
    · have ks := disA_ks hw (k := a.n.toNat) (by omega)
      exact ⟨(hm.p0 hp ks).1, p0_que hq ks⟩
  · rw [if_neg h9]; exact ⟨hm, hq⟩
theorem stepA_g {p : Int} (hp : okP p) {x : PS} (h : GP p x) (a : Ac) : GP p (stepA p x a) := by
  unfold stepA
  split
  · exact h
  · rename_i hs
    exact actV_g hp h fun hl => hs (.inr (.inr hl))
theorem foldA_g {p : Int} (hp : okP p) : ∀ {al : List Ac} {x : PS}, GP p x → GP p (al.foldl (stepA p) x)
  | [], _, h => h
  | a :: al, x, h => foldA_g hp (al := al) (stepA_g hp h a)
theorem rd_zero (n a w : Nat) : rdN (List.replicate n 0) a w = 0 := by
  unfold rdN
  rw [List.drop_replicate, List.take_replicate]
  generalize min w (n - a) = k
  induction k with
  | zero => rfl
  | succ k ih => rw [List.replicate_succ]; simp only [leN, ih]
theorem ev_zero (n : Nat) : EvOk (List.replicate n 0) := fun k _ _ h => by rw [rd_zero] at h; omega
theorem que_zero (n : Nat) : queOk (List.replicate n 0) := fun k _ c hc => by
  unfold ldW ldK at hc
  rw [rd_zero, rd_zero, rd_zero, rd_zero] at hc
  have h2 : (decV [0, 0, 0, 0]).2 = 160 := by decide +kernel
  rw [hc] at h2
  cases h2
theorem B0_g (pg : Bool) : GM 1024 (pgI pg) (B0 pg) ∧ queOk (B0 pg) := by
  cases pg with
  | false =>
    refine ⟨⟨List.length_replicate, fun h => absurd h (by decide), fun id A _ h => ?_, fun _ => ev_zero _⟩, que_zero _⟩
    have : rdN (List.replicate 4096 0) A 8 = 0 := rd_zero _ _ _
    rw [show B0 false = List.replicate 4096 0 from rfl, this] at h
    omega
  | true =>
    have e : B0 true = wrN (wrN (List.replicate 4096 0) (8 * 0) 8 (2 ^ 63 + 640 + 40 * 0)) (8 * 1) 8 (2 ^ 63 + 640 + 40 * 1) := rfl
    rw [e]
    generalize hZ : List.replicate 4096 0 = Z
    have hz : ∀ a w, rdN Z a w = 0 := fun a w => by rw [← hZ]; exact rd_zero _ _ _
    have hl : Z.length = 4096 := by rw [← hZ]; exact List.length_replicate
    have k1 := KS.wr (B := Z) (a := 8 * 0) (w := 8) (v := 2 ^ 63 + 640 + 40 * 0) (by omega)
    have k2 := KS.wr (B := wrN Z (8 * 0) 8 (2 ^ 63 + 640 + 40 * 0)) (a := 8 * 1) (w := 8) (v := 2 ^ 63 + 640 + 40 * 1) (by rw [k1.1]; omega)
    have ks : KS (fun i => 16 ≤ i) Z _ := (k1.mono fun i (hi : 16 ≤ i) => by omega).trans (k2.mono fun i hi => by omega)
    have hlead : rdN (wrN (wrN Z (8 * 0) 8 (2 ^ 63 + 640 + 40 * 0)) (8 * 1) 8 (2 ^ 63 + 640 + 40 * 1)) 0 8 = 2 ^ 63 + 640 ∧ rdN (wrN (wrN Z (8 * 0) 8 (2 ^ 63 + 640 + 40 * 0)) (8 * 1) 8 (2 ^ 63 + 640 + 40 * 1)) 8 8 = 2 ^ 63 + 680 ∧ ∀ k, 2 ≤ k → k < 8 → rdN (wrN (wrN Z (8 * 0) 8 (2 ^ 63 + 640 + 40 * 0)) (8 * 1) 8 (2 ^ 63 + 640 + 40 * 1)) (8 * k) 8 = 0 := by
      refine ⟨?_, ?_, fun k h1 h2 => ?_⟩
      · rw [rd_apart _ (by rw [k1.1]; omega) (by omega)]
        exact (rd_wr _ (by omega)).trans (by decide)
      · exact (rd_wr _ (by rw [k1.1]; omega)).trans (by decide)
      · rw [ks.rd fun i _ _ => by omega]; exact hz _ _
    refine ⟨⟨ks.1.trans hl, fun _ => hlead, fun id A hA h => ?_, fun _ => ?_⟩, ?_⟩
    · obtain ⟨k, rfl, hk⟩ := slot_at (ks.1.trans hl) (p := 32) (.inr rfl) (fun _ => hlead) hA
      rw [ks.rd fun i _ _ => by omega, hz] at h
      omega
    · exact EvOk.ks (hZ ▸ ev_zero _) ks fun i hi => by omega
    · exact (hZ ▸ que_zero _ : queOk Z).ks ks fun i hi _ => by omega
theorem laidK_ks (pg : Bool) : ∀ k, k ≤ 3 → KS P0 (B0 pg) (laidK pg k).B
  | 0, _ => KS.refl _ _
  | k + 1, hk => by
    have h1 := laidK_ks pg k (by omega)
    have h2 := laidK_ok pg k (by omega)
    refine h1.trans ?_
    show KS P0 (laidK pg k).B (enV k false [] (List.replicate (20 + 16 * k) 0) (laidK pg k).B).2.2
    unfold enV
    rw [if_neg (by simp)]
    exact enK_ks (by omega) ⟨by simp, by simp⟩ h2.1 h2.2.1 (Nat.le_refl _)
theorem laidS_g (pg : Bool) : GP (pgI pg) (laidS pg) := by
  have ks := laidK_ks pg 3 (Nat.le_refl _)
  obtain ⟨h1, h2⟩ := B0_g pg
  exact ⟨laidS_ok pg, (h1.p0 (pgI_or pg) ks).1, p0_que h2 ks⟩
theorem playV_g (pg : Bool) (al : List Ac) : GP (pgI pg) (playV pg al) := foldA_g (pgI_or pg) (laidS_g pg)
end Go.Proofs.YthhfoppaaehepaaGreatDoor.Sl
namespace Go.Proofs.YthhfoppaaehepaaGreatDoor.Sl
open Go Go.RowKit Go.Proofs
set_option linter.unusedVariables false
set_option linter.unusedSimpArgs false
set_option maxRecDepth 10000
theorem tb (x j : Nat) : (x / 2 ^ j % 2 == 1) = x.testBit j := by
  rw [Nat.testBit_eq_decide_div_mod_eq, Bool.eq_iff_iff]; simp
theorem bitP_st {B : List Nat} (hB : B.length = 4096) {k i : Nat} (hk : k < 3) (hi : i < 64) (v : Bool) {j i' : Nat} (hj : j < 3) (hi' : i' < 64) : bitP (stP B k i v) j i' = if j = k ∧ i' = i then v else bitP B j i' := by
  have hl : 560 + 16 * k + i / 8 + 1 ≤ B.length := by rw [hB]; omega
  unfold bitP byP stP
  by_cases ha : j = k ∧ i' / 8 = i / 8
  · obtain ⟨rfl, ha⟩ := ha
    rw [ha, rd_wr _ hl, tb, tb, show (256 : Nat) ^ 1 = 2 ^ 8 by decide, Nat.testBit_mod_two_pow, bitN_bit _ (by omega) (by omega)]
    have h8 : i' % 8 < 8 := by omega
    rw [decide_eq_true h8, Bool.true_and]
    by_cases e : i' = i
    · subst e; simp
    · rw [if_neg (by omega), if_neg (by simp [e])]
      unfold byP
      rw [show 560 + 16 * j + i / 8 = 560 + 16 * j + i' / 8 by omega]
  · rw [rd_apart _ hl (by omega), if_neg (by omega)]
theorem at_set {w : SW} {k j : Nat} (h : k < w.cs.length) (B' : List Nat) (c : Pc) : (⟨B', w.cs.set k c⟩ : SW).at_ j = if j = k then c else w.at_ j := getD_set h
theorem set_no {w : SW} {k : Nat} {n : Int} (v : Bool) (h : idxV k n = false) : w.set k n v = w := by
  have e : setLV k (w.at_ k).on (w.at_ k).U w.B n v = ((w.at_ k).U, w.B) := by unfold setLV; rw [h]; rfl
  unfold SW.set
  rw [e]
  exact SW.same w k
/-- What waits after a wait is set or cleared. -/
theorem has_set {w : SW} (hw : w.ok) {k : Nat} (hk : k < 3) {n : Int} (hn : n ≤ 9223372036854775807) (v : Bool) {j : Nat} (hj : j < 3) {m : Int} (hm : m ≤ 9223372036854775807) :
    (w.set k n v).has j m = if j = k ∧ m = n ∧ idxV k n = true then v else w.has j m := by
  cases hx : idxV k n with
  | false => rw [set_no v hx]; simp
  | true =>
    obtain ⟨i, hi, hi64, e1, e2, e3⟩ := idx_in hk hn hx
    have hlen : k < w.cs.length := by rw [hw.2.2.1]; exact hk
    have hS : setOk (w.at_ k).U := (hw.2.2.2 k hk).1
    unfold SW.has SW.set
    rw [at_set hlen]
    unfold hasL
    cases hy : idxV j m with
    | false =>
      have : ¬ (j = k ∧ m = n ∧ true = true) := fun ⟨a, b, _⟩ => by subst a; subst b; rw [hx] at hy; cases hy
      rw [if_neg this]
      rfl
    | true =>
      obtain ⟨i', hi', hi64', f1, f2, f3⟩ := idx_in hj hm hy
      rw [f3, Bool.true_and, Bool.true_and]
      have hmn : (m = n) ↔ i' = i := by omega
      unfold setLV
      rw [hx, if_pos rfl, e3]
      by_cases hjk : j = k
      · subst hjk
        simp only [if_pos, true_and, and_true, hmn]
        cases ho : (w.at_ j).on with
        | true =>
          simp only [if_pos]
          cases v with
          | true => simp only [if_pos]; rw [has_putS hS hi64 hi64']; by_cases e : i' = i <;> simp [e]
          | false => simp only [Bool.false_eq_true, if_false]; rw [has_takeS hS hi64 hi64']; by_cases e : i' = i <;> simp [e]
        | false =>
          simp only [Bool.false_eq_true, if_false]
          rw [bitP_st hw.1 hk hi64 v hj hi64']
          simp
      · simp only [hjk, if_false, false_and]
        cases ho : (w.at_ j).on with
        | true => simp only [if_pos]
        | false =>
          simp only [Bool.false_eq_true, if_false]
          split
          · rfl
          · rw [bitP_st hw.1 hk hi64 v hj hi64', if_neg (by simp [hjk])]
theorem routeW_ok {B : List Nat} {p dev ev : Int} {on : Bool} {r : Rt} {t : Int} (h : routeW B p on dev ev = (r, t, 0)) : on = true ∧ (eventV B p dev ev).2 = 0 ∧ (eventV B p dev ev).1 = r ∧ (targetW B r.2.1).2 = 0 ∧ (targetW B r.2.1).1 = t := by
  unfold routeW at h
  split at h
  · injection h with _ h; injection h with _ h; cases h
  · split at h
    · rename_i h1; injection h with _ h; injection h with _ h; exact absurd h h1
    · split at h
      · rename_i h1; injection h with _ h; injection h with _ h; exact absurd h h1
      · rename_i h1 h2 h3
        injection h with e1 h; injection h with e2 _
        subst e1
        exact ⟨by simpa using h1, by omega, rfl, by omega, e2⟩
theorem sideV_t {B : List Nat} {c t : Int} (h0 : (targetW B c).2 = 0) (h1 : (targetW B c).1 = t) : sideV B c = if t ≥ 3 then (none, 130) else (some t.toNat, 0) := by
  unfold sideV
  rw [if_neg (by omega), h1]
theorem routeW_num {p : Int} (hp : okP p) {w : SW} (h : GW 1024 p w) {on : Bool} {dev ev : Int} {r : Rt} {t : Int} (hr : routeW w.B p on dev ev = (r, t, 0)) : 0 ≤ t ∧ 8192 ≤ r.1 ∧ r.1 < 16384 := by
  obtain ⟨h1, h2, h3, h4, h5⟩ := routeW_ok hr
  obtain ⟨e1, e2, e3, e4⟩ := eventV_ok h2
  obtain ⟨a, g1, g2, g3, g4, g5⟩ := devRt_at (h.2.device T4 dev) e2
  rw [g5] at e3 e4
  obtain ⟨r1, r2, r3⟩ := routeV_v e3
  have h6 := h.2.evs rfl a (by omega) (by rw [h.1.1] at g3; omega) r1
  have h7 : r.1 = ((rdN w.B (8 * a) 8 % 2 ^ 32 : Nat) : Int) := by rw [← h3, e4]; exact r2
  have h8 := targetW_pos w.B r.2.1
  omega
end Go.Proofs.YthhfoppaaehepaaGreatDoor.Sl
namespace Go.Proofs.YthhfoppaaehepaaGreatDoor.Sl
open Go Go.RowKit Go.Proofs
set_option linter.unusedVariables false
set_option linter.unusedSimpArgs false
set_option maxRecDepth 10000
theorem target_ks {S : Nat → Prop} {B B' : List Nat} (ks : KS S B B') (hB : B.length = 4096) (hs : ∀ i, 64 ≤ i → i < 128 → S i) (c : Int) : targetW B' c = targetW B c := by
  have hrd : memRd B' 64 64 (c * 8) 8 = memRd B 64 64 (c * 8) 8 := by
    unfold memRd
    rw [ks.1]
    split
    · rename_i hacc
      have hacc' := hacc
      obtain ⟨X, W, x1, x2, x3, x4, x5, x6, x7, x8⟩ := acc_in (by rw [hB]; omega) hacc
      unfold accV mayV at hacc'
      have h64 : holdsV B.length 64 64 = true := by rw [hB]; decide
      rw [if_pos h64, if_neg (by simp), if_neg (by rw [Int.tmod_eq_emod_of_nonneg (by omega)]; omega), wrap_id (by omega) (by omega)] at hacc'
      split at hacc'
      · cases hacc'
      · have h8 : (8 : Int).toNat = 8 := rfl
        congr 1
        exact ks.rd fun i _ hi => hs i (by omega) (by omega)
    · rfl
  unfold targetW targetV
  rw [hrd]
/-- Waits are what on, U and the bits say. -/
theorem has_same {w w' : SW} {S : Nat → Prop} (ks : KS S w.B w'.B) (hs : ∀ i, 560 ≤ i → i < 608 → S i) {j : Nat} (hj : j < 3) (h1 : (w'.at_ j).on = (w.at_ j).on) (h2 : (w'.at_ j).U = (w.at_ j).U) {m : Int} (hm : m ≤ 9223372036854775807) : w'.has j m = w.has j m := by
  unfold SW.has hasL
  cases hx : idxV j m with
  | false => rfl
  | true =>
    obtain ⟨i, hi, hi64, e1, e2, e3⟩ := idx_in hj hm hx
    rw [h1, h2, e3]
    congr 1
    split
    · rfl
    · unfold bitP byP
      rw [ks.rd fun i' g1 g2 => hs i' (by omega) (by omega)]
theorem has_inv {w : SW} (hw : w.ok) {k : Nat} (hk : k < 3) (n : Int) {j : Nat} (hj : j < 3) (m : Int) : (w.inv k n).has j m = w.has j m := by
  have hlen : k < w.cs.length := by rw [hw.2.2.1]; exact hk
  unfold SW.has SW.inv
  rw [at_set hlen]
  by_cases e : j = k
  · subst e; simp
  · simp [e]
theorem EvK.e4 {p : Int} {B B' : List Nat} (h : EvK 1024 p B B') : KS (fun i => i < 560 ∨ (608 ≤ i ∧ i < 1024)) B B' := h.2.mono fun i hi => by unfold KE; omega
theorem idx_mk {k : Nat} {n : Int} (h0 : 8192 ≤ n) (h1 : n < 16384) (h2 : IntKind.i64.wrap (n - 8192) < ((20 + 16 * k : Nat) : Int)) : idxV k n = true := by
  unfold idxV
  simp only [Bool.and_eq_true, decide_eq_true_eq]
  exact ⟨h0, h2⟩
theorem moved {w : SW} (hw : w.ok) {n : Int} (hn : n ≤ 9223372036854775807) {a b : Nat} (ha : a < 3) (hb : b < 3) (h : w.has a n = true) (hx : idxV b n = true) : (w.move n a b).has b n = true ∧ (a = b ∨ (w.move n a b).has a n = false) := by
  by_cases e : a = b
  · subst e
    have : w.move n a a = w := by unfold SW.move SW.moves; simp
    rw [this]
    exact ⟨h, .inl rfl⟩
  · have hm : w.moves n a b = true := by unfold SW.moves; rw [h, hx, decide_eq_true e]; rfl
    have hxa : idxV a n = true := by
      unfold SW.has hasL at h
      cases hx : idxV a n
      · rw [hx] at h; cases h
      · rfl
    unfold SW.move
    rw [if_pos hm]
    have hs := SW.set_ok hw ha hn false
    rw [has_set hs hb hn true hb hn, has_set hs hb hn true ha hn, has_set hw ha hn false ha hn, hx, hxa]
    refine ⟨if_pos ⟨rfl, rfl, rfl⟩, .inr ?_⟩
    rw [if_neg (fun h => e h.1), if_pos ⟨rfl, rfl, rfl⟩]
theorem doV_enc {p : Int} {w : SW} {c : Cm} (h : (doV p w c).2 = 0) : (encV c).2 = 0 := by
  by_cases e : (encV c).2 = 0
  · exact e
  · unfold doV at h; rw [if_pos e] at h; exact absurd h e
/-- MOVI. -/
theorem moves {p : Int} (hp : okP p) {w : SW} (h : GW 1024 p w) {dev ev : Int} {r : Rt} {t : Int} (hr : routeW w.B p true dev ev = (r, t, 0)) (ht : t < 3) {n : Int} {w' : SW} (hd : doV p w (1, dev, ev, 0, n, 0, 0, 0, false) = (w', 0)) :
    ∃ t' : Nat, t' < 3 ∧ routeW w'.B p true dev ev = ((r.1, n, true), (t' : Int), 0) ∧ (w.has t.toNat r.1 = true → IntKind.i64.wrap (r.1 - 8192) < ((20 + 16 * t' : Nat) : Int) → w'.has t' r.1 = true ∧ ((t' : Int) = t ∨ w'.has t.toNat r.1 = false)) := by
  obtain ⟨t0, n0, n1⟩ := routeW_num hp h hr
  obtain ⟨_, h2, h3, h4, h5⟩ := routeW_ok hr
  obtain ⟨e1, e2, e3, e4⟩ := eventV_ok h2
  have hD := h.2.device T4 dev
  obtain ⟨a, g1, g2, g3, g4, g5⟩ := devRt_at hD e2
  have hrv : r.2.2 = true := by rw [← h3, e4]; exact e3
  have h0 : (encV (1, dev, ev, 0, n, 0, 0, 0, false)).2 = 0 := doV_enc (congrArg Prod.snd hd)
  have hdo : doV p w (1, dev, ev, 0, n, 0, 0, 0, false) = moviV p w (1, dev, ev, 0, n, 0, 0, 0, false) := by
    unfold doV
    rw [if_neg (by rw [h0]; simp)]
    rfl
  rw [hdo] at hd
  have hnm := enc_nums h0
  unfold moviV at hd
  simp only at hd hnm
  rw [if_neg (by omega), h3] at hd
  rcases sideV_cases w.B n with ⟨e, he, hs⟩ | ⟨t', ht', hs⟩
  · rw [hs] at hd; injection hd with _ hd; exact absurd hd he
  rw [hs] at hd
  simp only at hd
  have hmv : mvO w r.2.1 r.1 t' = w.move r.1 t.toNat t' := by
    unfold mvO
    rw [sideV_t h4 h5, if_neg (by omega)]
  have hks := mvO_ks h.1 r.2.1 (n := r.1) (by omega) ht'
  have hu := mvO_ok h.1 r.2.1 (n := r.1) (by omega) ht'
  have hm1 := h.2.p0 hp hks
  rw [invB, deviceV_ks hp h.2 hks (fun i hi => by unfold P0; omega) dev] at hd
  rw [hmv] at hd hks hu hm1
  generalize hu1 : w.move r.1 t.toNat t' = u at hd hks hu hm1
  have hev : evA u.B.length (deviceV w.B p dev).1 ev = (some (8 * a), 0) := by rw [hks.1]; exact g1
  have hset : devSet u.B (deviceV w.B p dev).1 ev (r.1, n, r.2.2) = (wrN u.B (8 * a) 8 (routeN n r.1), 0) := by
    unfold devSet
    rw [hev]
    simp only
    rw [if_neg (by simp [hrv]), if_pos ⟨by omega, by omega, by omega, by omega⟩]
  rw [hset] at hd
  injection hd with hw'
  subst hw'
  have ha : 8 * a + 8 ≤ u.B.length := by rw [hks.1]; exact g3
  have hr4 := routeN_lt (c := n) (n := r.1) ⟨by omega, by omega⟩ ⟨by omega, by omega⟩
  have kw := KS.wr (v := routeN n r.1) ha
  have kall : KS (fun i => i < 560 ∨ (608 ≤ i ∧ i < 1024)) w.B (wrN u.B (8 * a) 8 (routeN n r.1)) := (hks.mono fun i hi => by unfold P0; omega).trans (kw.mono fun i hi => by omega)
  have hdev := deviceV_ks hp h.2 kall (fun i hi => by omega) dev
  have hrd : rdN (wrN u.B (8 * a) 8 (routeN n r.1)) (8 * a) 8 = routeN n r.1 := (rd_wr _ ha).trans (Nat.mod_eq_of_lt (by rw [show (256 : Nat) ^ 8 = 2 ^ 64 by decide]; exact hr4.1))
  have hrt : devRt (wrN u.B (8 * a) 8 (routeN n r.1)) (deviceV w.B p dev).1 ev = ((r.1, n, true), 0) := by
    unfold devRt
    rw [kall.1, g1]
    simp only
    rw [hrd]
    unfold routeV
    rw [if_neg (by omega), hr4.2.2.1, hr4.2.2.2]
  have hEv : eventV (wrN u.B (8 * a) 8 (routeN n r.1)) p dev ev = ((r.1, n, true), 0) := by
    unfold eventV
    rw [hdev, if_neg (by omega), hrt]
    rfl
  have htg : targetW w.B n = ((t' : Int), 0) := by
    unfold sideV at hs
    split at hs
    · cases hs
    · split at hs
      · cases hs
      · have hpos := targetW_pos w.B n
        injection hs with hs _
        injection hs with hs
        rw [show targetW w.B n = ((targetW w.B n).1, (targetW w.B n).2) from rfl]
        congr 1 <;> omega
  refine ⟨t', ht', ?_, fun hat hlt => ?_⟩
  · unfold routeW
    show (if true = false then _ else if (eventV (wrN u.B (8 * a) 8 (routeN n r.1)) p dev ev).2 ≠ 0 then _ else _) = _
    rw [hEv, if_neg (by simp), if_neg (by simp)]
    simp only
    rw [target_ks kall h.1.1 (fun i _ _ => by omega), htg]
    rfl
  · obtain ⟨m1, m2⟩ := moved h.1 (n := r.1) (by omega) (a := t.toNat) (b := t') (by omega) ht' hat (idx_mk n0 n1 hlt)
    rw [hu1] at m1 m2
    have hsm : ∀ j, j < 3 → (⟨wrN u.B (8 * a) 8 (routeN n r.1), (u.inv t' r.1).cs⟩ : SW).has j r.1 = u.has j r.1 := fun j hj => by
      rw [← has_inv hu ht' r.1 hj r.1]
      have kw' : KS (fun i => i < 1024) (u.inv t' r.1).B (⟨wrN u.B (8 * a) 8 (routeN n r.1), (u.inv t' r.1).cs⟩ : SW).B := kw.mono fun i hi => by omega
      exact has_same kw' (fun i _ _ => by omega) hj rfl rfl (by omega)
    rw [hsm _ ht', hsm _ (by omega)]
    exact ⟨m1, m2.elim (fun h => .inl (by omega)) .inr⟩
end Go.Proofs.YthhfoppaaehepaaGreatDoor.Sl
namespace Go.Proofs.YthhfoppaaehepaaGreatDoor.Sl
open Go Go.RowKit Go.Proofs
set_option linter.unusedVariables false
set_option linter.unusedSimpArgs false
set_option maxRecDepth 10000
end Go.Proofs.YthhfoppaaehepaaGreatDoor.Sl
namespace Go.Proofs.YthhfoppaaehepaaGreatDoor.Sl
open Go Go.RowKit Go.Proofs
set_option linter.unusedVariables false
set_option linter.unusedSimpArgs false
set_option maxRecDepth 10000
end Go.Proofs.YthhfoppaaehepaaGreatDoor.Sl
namespace Go.Proofs.YthhfoppaaehepaaGreatDoor.Sl
open Go Go.RowKit Go.Proofs
set_option linter.unusedVariables false
set_option linter.unusedSimpArgs false
set_option maxRecDepth 10000
theorem inv_no {w : SW} {k : Nat} {n : Int} (h : idxV k n = false) : w.inv k n = w := by
  have e : invV k (w.at_ k).C w.B n = (w.at_ k).C := by unfold invV; rw [h]; rfl
  unfold SW.inv
  rw [e]
  exact SW.same w k
theorem devSet_0 {T : Nat} {B B' : List Nat} (hl : B'.length = B.length) {d : Dv} (hd : dvT T d) {ev : Int} (h : (devRt B d ev).2 = 0) {r : Rt} (hr : r.2.2 = false ∨ (0 ≤ r.1 ∧ r.1 < 4294967296 ∧ 0 ≤ r.2.1 ∧ r.2.1 < 65536)) : (devSet B' d ev r).2 = 0 := by
  obtain ⟨a, g1, g2, g3, g4, g5⟩ := devRt_at hd h
  unfold devSet
  rw [hl, g1]
  simp only
  split
  · rfl
  · rename_i hv
    rw [if_pos (hr.resolve_left hv)]
theorem mapti_w {p : Int} {w : SW} (h : GW 512 p w) {c : Cm} (hc : (encV c).2 = 0) (n : Int) (he : (maptiV p w c n).2 ≠ 0) : (maptiV p w c n).1 = w := by
  have hd := h.2.device T5 c.2.1
  have hnm := enc_nums hc
  have hr := devRt_lt w.B (deviceV w.B p c.2.1).1 c.2.2.1
  unfold maptiV at he ⊢
  split
  · rfl
  · split
    · rfl
    · split
      · rfl
      · split
        · rfl
        · rename_i h1 h2 h3 h4
          rw [if_neg h1, if_neg h2, if_neg h3, if_neg h4] at he
          refine absurd (devSet_0 (B := w.B) ?_ hd (ev := c.2.2.1) (by omega) (.inr ⟨by simp only; omega, by simp only; omega, by simp only; omega, by simp only; omega⟩)) he
          rw [invS_B, (fgO_ok hd.1 h.1 (x := (c.2.2.1, (devRt w.B (deviceV w.B p c.2.1).1 c.2.2.1).1)) hr.2.1).1, h.1.1]
theorem movi_w {p : Int} (hp : okP p) {w : SW} (h : GW 512 p w) {c : Cm} (hc : (encV c).2 = 0) (he : (moviV p w c).2 ≠ 0) : (moviV p w c).1 = w := by
  have hnm := enc_nums hc
  have hlt := eventV_lt w.B p c.2.1 c.2.2.1
  unfold moviV at he ⊢
  split
  · rfl
  · rename_i hev
    rw [if_neg hev] at he
    have hev0 : (eventV w.B p c.2.1 c.2.2.1).2 = 0 := by omega
    obtain ⟨e1, e2, e3, e4⟩ := eventV_ok hev0
    rcases sideV_cases w.B c.2.2.2.2.1 with ⟨e, he', hs⟩ | ⟨t, ht, hs⟩
    · rw [hs]
    · rw [hs] at he
      have hks := mvO_ks h.1 (eventV w.B p c.2.1 c.2.2.1).1.2.1 hlt.2.1 ht
      simp only at he
      rw [invB, deviceV_ks hp h.2 hks (fun i hi => by unfold P0; omega) c.2.1] at he
      have hd := h.2.device T5 c.2.1
      obtain ⟨a, g1, g2, g3, g4, g5⟩ := devRt_at hd e2
      rw [g5] at e3 e4
      obtain ⟨r1, r2, r3⟩ := routeV_v e3
      have hn : (eventV w.B p c.2.1 c.2.2.1).1.1 = ((rdN w.B (8 * a) 8 % 2 ^ 32 : Nat) : Int) := by rw [e4]; exact r2
      refine absurd (devSet_0 hks.1 hd e2 (.inr ⟨?_, ?_, ?_, ?_⟩)) he
      · simp only; omega
      · simp only; rw [hn]; omega
      · simp only; omega
      · simp only; omega
theorem mapd_w {p : Int} (hp : okP p) {w : SW} (h : GW 512 p w) {c : Cm} (hc : (encV c).2 = 0) (he : (mapdV p w c).2 ≠ 0) : (mapdV p w c).1 = w := by
  have hk := (mapdV_k T5 hp h hc (fun h => by omega)).2
  by_cases h1 : (tabGet w.B 0 64 p c.2.1).2 = 0
  · cases h2 : badW w.B.length c.2.2.2.2.2.2.2.2 c.2.2.2.2.2.2.1 c.2.2.2.2.2.2.2.1 with
    | false => exact absurd (hk h1 h2) he
    | true =>
      unfold mapdV
      rw [if_neg (by omega), if_pos h2]
  · unfold mapdV
    rw [if_pos h1]
theorem setTg_w {B : List Nat} {c t : Int} {v : Bool} (he : (setTg B 64 64 c t v).2 ≠ 0) : (setTg B 64 64 c t v).1 = B := by
  unfold setTg at he ⊢
  generalize (if v = true then 2 ^ 63 + t.toNat else 0) = X at he ⊢
  split
  · rfl
  · split
    · rfl
    · split
      · rfl
      · rename_i h1 h2 h3
        rw [if_neg h1, if_neg h2, if_neg h3] at he
        exact absurd rfl he
theorem waits_w {p : Int} {w : SW} {dev ev : Int} {v : Bool} (he : (waitsV p w dev ev v).2 ≠ 0) : (waitsV p w dev ev v).1 = w := by
  unfold waitsV at he ⊢
  split
  · rfl
  · rename_i h1
    rw [if_neg h1] at he
    rcases sideV_cases w.B (eventV w.B p dev ev).1.2.1 with ⟨e, he', hs⟩ | ⟨t, ht, hs⟩
    · rw [hs]
    · rw [hs] at he ⊢
      simp only at he ⊢
      cases hx : idxV t (eventV w.B p dev ev).1.1 with
      | false => exact set_no v hx
      | true => rw [hx] at he; exact absurd rfl he
/-- A command that fails leaves all as it was. -/
theorem doV_w {p : Int} (hp : okP p) {w : SW} (h : GW 512 p w) (c : Cm) (he : (doV p w c).2 ≠ 0) : (doV p w c).1 = w := by
  by_cases h0 : (encV c).2 = 0
  · have hnm := enc_nums h0
    have Q : ∀ r : SW × Int, (r.2 ≠ 0 → r.1 = w) → (r.2 ≠ 0 → r.1 = w) := fun _ h => h
    unfold doV at he ⊢
    rw [if_neg (by omega)] at he ⊢
    revert he
    refine ite_q (Q := fun r : SW × Int => r.2 ≠ 0 → r.1 = w) (fun _ => mapd_w hp h h0) fun _ => ite_q (Q := fun r : SW × Int => r.2 ≠ 0 → r.1 = w) (fun _ => ?_) fun _ =>
      ite_q (Q := fun r : SW × Int => r.2 ≠ 0 → r.1 = w) (fun _ => mapti_w h h0 _) fun _ => ite_q (Q := fun r : SW × Int => r.2 ≠ 0 → r.1 = w) (fun _ => mapti_w h h0 _) fun _ =>
      ite_q (Q := fun r : SW × Int => r.2 ≠ 0 → r.1 = w) (fun _ => movi_w hp h h0) fun _ => ite_q (Q := fun r : SW × Int => r.2 ≠ 0 → r.1 = w) (fun _ => ?_) fun _ =>
      ite_q (Q := fun r : SW × Int => r.2 ≠ 0 → r.1 = w) (fun _ => waits_w) fun _ => ite_q (Q := fun r : SW × Int => r.2 ≠ 0 → r.1 = w) (fun _ => waits_w) fun _ =>
      ite_q (Q := fun r : SW × Int => r.2 ≠ 0 → r.1 = w) (fun _ => ?_) fun _ => ite_q (Q := fun r : SW × Int => r.2 ≠ 0 → r.1 = w) (fun _ => ?_) fun _ =>
      ite_q (Q := fun r : SW × Int => r.2 ≠ 0 → r.1 = w) (fun _ => ?_) fun _ => ite_q (Q := fun r : SW × Int => r.2 ≠ 0 → r.1 = w) (fun _ _ => rfl) fun _ _ => rfl
    · intro he
      unfold mapcV at he ⊢
      split
      · rfl
      · rename_i h1
        rw [if_neg h1] at he
        show (⟨_, w.cs⟩ : SW) = w
        rw [setTg_w he]
    · intro he
      unfold discardV at he ⊢
      split
      · rfl
      · rename_i h1
        rw [if_neg h1] at he
        exact absurd rfl he
    · intro he
      unfold invE at he ⊢
      split
      · rfl
      · rename_i h1
        rw [if_neg h1] at he
        rcases sideV_cases w.B (eventV w.B p c.2.1 c.2.2.1).1.2.1 with ⟨e, he', hs⟩ | ⟨t, ht, hs⟩
        · rw [hs]
        · rw [hs] at he ⊢
          simp only at he ⊢
          cases hx : idxV t (eventV w.B p c.2.1 c.2.2.1).1.1 with
          | false => exact inv_no hx
          | true => rw [hx] at he; exact absurd rfl he
    · intro he
      unfold invallV at he ⊢
      rcases sideV_cases w.B c.2.2.2.2.1 with ⟨e, he', hs⟩ | ⟨t, ht, hs⟩
      · rw [hs]
      · rw [hs] at he; exact absurd rfl he
    · intro he
      unfold movallV at he ⊢
      split
      · rfl
      · rename_i h1
        rw [if_neg h1] at he
        exact absurd rfl he
  · unfold doV; rw [if_pos h0]
theorem GM.weak {p : Int} {B : List Nat} (h : GM 1024 p B) : GM 512 p B := ⟨h.len, h.lead, fun id A hA hx => by have := h.dev id A hA hx; omega, fun h => by omega⟩
end Go.Proofs.YthhfoppaaehepaaGreatDoor.Sl
namespace Go.Proofs.YthhfoppaaehepaaGreatDoor.Sl
open Go Go.RowKit Go.Proofs
set_option linter.unusedVariables false
set_option linter.unusedSimpArgs false
set_option maxRecDepth 10000
@[reducible] def pk30 : List (Nat × Plan) := []
@[reducible] def pk11 : List (Nat × Plan) := [(3, [(0, 0, []), (1, 0, []), (2, 0, []), (3, 0, []), (4, 0, []), (5, 0, []), (6, 0, []), (7, 0, []), (8, 0, []), (9, 0, []), (10, 0, []), (11, 0, []), (12, 1, [3, 5, 7, 9]), (13, 0, []), (14, 0, [])])]
@[reducible] def pk15 : List (Nat × Plan) := [(6, [(0, 0, []), (1, 0, []), (2, 0, []), (3, 0, []), (4, 0, []), (5, 0, []), (6, 0, []), (7, 0, []), (8, 0, [])])]
section
variable {P : Program} {β : Base} {rnd : Option (Nat × Loop)} {N : Nat} {env : Env} {L : List Atom} {K : Env → List Atom → Prop} {ops : Array Oper} {T : TT}
def cvE (T : TT) (N : Nat) (ops : Array Oper) (env : Env) (o : Oper) : Option (Nat × Addr × Nat) :=
  match dstE N ops env o with
  | some d => match o.op with
    | .convert src dst x => match T.get src, T.get dst, ev env x with
      | some i, some j, some (.slice (some a) n _) => match i.desc, j.desc with
        | .slice e, .string => match T.get e with
          | some ei => match ei.desc with
            | .int .u8 => some (d, a, n)
            | _ => none
          | none => none
        | _, _ => none
      | _, _, _ => none
    | _ => none
  | none => none
theorem cvE_run (hT : TTok P T) {o : Oper} {d b off n : Nat} (h : cvE T N ops env o = some (d, (⟨b, off, none⟩ : Addr), n)) : dstE N ops env o = some d ∧ ∀ (ρ : Operand → Value), (∀ x u, ev env x = some u → ρ x = u) → ∀ (w : World) (ns : List Int), ns.length = n → Reads β w b off (ns.map (Value.int .u8)) →
    (execOp ρ o).run P w = .ok (.value (.string (strOfNums ns))) w := by
  unfold cvE at h
  split at h <;> try (cases h; done)
  rename_i d' hde
  split at h <;> try (cases h; done)
  rename_i src dst x hop
  split at h <;> try (cases h; done)
  rename_i i j a n' c hi hj hx
  split at h <;> try (cases h; done)
  rename_i e h1 h2
  split at h <;> try (cases h; done)
  rename_i ei hei
  split at h <;> try (cases h; done)
  rename_i h3
  simp only [Option.some.injEq, Prod.mk.injEq] at h
  obtain ⟨rfl, rfl, rfl⟩ := h
  have u1 := (hT.get hi).1.1
  have u2 := (hT.get hj).1.1
  have u3 := (hT.get hei).1.1
  rw [h1] at u1
  rw [h2] at u2
  rw [h3] at u3
  obtain ⟨ds, op', type, pos, after, guard⟩ := o
  simp only at hop
  subst hop
  refine ⟨hde, fun ρ hρ w ns hl hr => ?_⟩
  have hc := run_convert_bytes_arg (P := P) w src e u1 u3 b off n' c ns hl (fun k hk => by
    have h4 := hr k (.int .u8 (ns.getD k 0)) (by rw [List.getElem?_map, List.getElem?_eq_getElem (by omega)]; simp [List.getD, List.getElem?_eq_getElem (show k < ns.length by omega)])
    rw [addr_add] at h4
    exact h4) dst u2
  simp only [execOp, hρ _ _ hx, Sem.run_bind, hc, Result.andThen]
  rfl
theorem SQ.bstr (hT : TTok P T) {s : Stp} {r : List Stp} {obs : Obs} {d b off n : Nat} (hk : s.k = 1) (h : cvE T N ops env s.o = some (d, (⟨b, off, none⟩ : Addr), n)) {A : Atom} {ns : List Int} (hS : SlR β A (some ⟨b, off, none⟩) n 1 (ns.map (Value.int .u8))) (ha : AtA A L) (hl : ns.length = n)
    (hwt : watchOk β obs L s.watch) (k : SQ P β rnd N T ops K r obs ((d, .string (strOfNums ns)) :: env) L) : SQ P β rnd N T ops K (s :: r) obs env L := by
  obtain ⟨hde, hr⟩ := cvE_run (P := P) (β := β) hT h
  obtain ⟨hw, hd, hdl⟩ := dstE_eq hde
  refine SQ.act hk hw fun fm n Qx ac w st => ?_
  obtain ⟨hen, Ds, hds, s0⟩ := st
  have hrd := reads_slr hS ha (by rw [List.length_map]; omega) _ w s0
  rw [hr ac.eval (fun x u hx => hen.eval hx) w ns hl hrd]
  exact ⟨_, _, ⟨by rw [hd]; exact hen.put hdl _, Ds, by rw [hd]; exact hds, s0⟩, hwt, k⟩
theorem slr_pt {g n : Nat} {cs : List Value} (hl : cs.length = n) : SlR β (pt g cs) (some ⟨g, 0, none⟩) n 1 cs := fun h a => by
  obtain ⟨t, rfl⟩ := a
  exact .inr ⟨g, 0, cs, rfl, by rw [List.drop_zero, List.take_of_length_le (by omega)], .inl ⟨t, (0, 0), by simp [Hp.one]⟩⟩
end
attribute [local irreducible] CW Tri OW
theorem bys_one (B : List Nat) : ∀ u ∈ bys B, u.oneCell' = true := one_flat (fun _ => rfl) B
theorem clone30 (β : Base) (g : Nat) (B : List Nat) (hB : B.length = 4096) (c : Nat) :
    Tri Tryz.prog β 30 [.slice (some ⟨g, 0, none⟩) 4096 c] [pt g (bys B)] (fun v L => ∃ g1 c1, v = .slice (some ⟨g1, 0, none⟩) 4096 c1 ∧ L = [pt g (bys B), rowA (some ⟨g1, 0, none⟩) 4096 (bys B)]) := by
  refine Tri.intro tt_ok Tryz.func30 rfl rfl Tryz.ntmps30 rfl fun F => ?_
  have hl : (bys B).length = 4096 := by rw [bys_len, hB]
  (refine G tt_ok pk30 ?_; repeat (refine G1 tt_ok pk30 ?_; intro _))
  refine SQ.builtO tt_ok rfl rfl rfl rfl (fun b => ⟨(by repeat (first | exact trivial | refine ⟨trivial, ?_⟩ | refine ⟨wk (by repeat (first | exact .h | exact .q | apply At.t)) (by rfl), ?_⟩)), ?_⟩)
  (refine G tt_ok pk30 ?_; repeat (refine G1 tt_ok pk30 ?_; intro _))
  refine SQ.appG tt_ok rfl rfl 0 rfl (A := pt g (bys B)) (news := bys B) (sz := 1) (slr_pt hl) (.t .h) rfl hl rfl (bys_one B) (by omega) (by show (0 + 4096) * 1 ≤ _; omega) (fun v' => ⟨(by repeat (first | exact trivial | refine ⟨trivial, ?_⟩ | refine ⟨wk (by repeat (first | exact .h | exact .q | apply At.t)) (by rfl), ?_⟩)), ?_⟩)
  refine SQ.ent _ (Ent.head (own_shape _ _ _ _ _)) ?_
  refine SQ.open_ fun x => ?_
  refine SQ.pure_ fun hv => ?_
  subst hv
  obtain ⟨q1, c1⟩ := x
  refine SQ.ent _ (Ent.head (own_row.trans row_q)) ?_
  refine SQ.pure_ fun hq => ?_
  rcases hq with ⟨_, h⟩ | ⟨g1, rfl⟩
  · exact absurd h (by omega)
  (refine G tt_ok pk30 ?_; repeat (refine G1 tt_ok pk30 ?_; intro _))
  exact CW.ret (fin_ret rfl (A := [pt g (bys B), rowA (some ⟨g1, 0, none⟩) 4096 (bys B)]) pk_ ⟨g1, c1, rfl, rfl⟩)
theorem bytes11 (β : Base) (m g : Nat) (B : List Nat) (hB : B.length = 4096) :
    Tri Tryz.prog β 11 [.pointer (some ⟨m, 0, none⟩), .agg #[.int .i64 0, .int .i64 4096]] (memA m g B) (fun v L => ∃ g1 c1, v = .tuple #[.slice (some ⟨g1, 0, none⟩) 4096 c1, .int .i64 0] ∧ L = rowA (some ⟨g1, 0, none⟩) 4096 (bys B) :: memA m g B) := by
  refine Tri.intro tt_ok Tryz.func11 rfl rfl Tryz.ntmps11 rfl fun F => ?_
  have hh : holdsV 4096 0 4096 = true := by decide
  unfold memA
  rw [hB]
  (refine G tt_ok pk11 ?_; repeat (refine G1 tt_ok pk11 ?_; intro _))
  rename_i c3
  refine ke rfl rfl (holds29 β m (some ⟨g, 0, none⟩) (n := 4096) 4096 (by omega) 0 4096) ?_
  rw [hh]
  (refine G tt_ok pk11 ?_; repeat (refine G1 tt_ok pk11 ?_; intro _))
  (refine SQ.slc tt_ok rfl rfl (0) (4096) (rfl) (rfl) (by omega) (by omega) (by omega) (o' := 0) (n' := 4096) (c' := 4096) (by show _ + _ * 1 = _; omega) (by omega) (by omega) ?_)
  (refine G tt_ok pk11 ?_; repeat (refine G1 tt_ok pk11 ?_; intro _))
  (refine ka rfl rfl (clone30 β g B hB 4096) ?_; rintro _ _ ⟨g1, c1, rfl, rfl⟩; refine w_ ?_)
  (refine G tt_ok pk11 ?_; repeat (refine G1 tt_ok pk11 ?_; intro _))
  exact CW.ret (fin_ret rfl pk_ ⟨g1, c1, rfl, rfl⟩)
theorem i_rd {l : List Int} {k : Nat} {x : Int} (h : l[k]? = some x) (X : List Value) : rdv ti3 (l.flatMap iC ++ X) (0 + k * 1) = some (.int .i64 x) :=
  rd_partR (enc := iC) (sz := 1) (fun _ => rfl) h 0 (i := ti3) rfl (by decide) (by omega) (by decide) X
theorem same15 (β : Base) {q1 q2 : Option Addr} {c1 c2 : Nat} {l : List Int} (hn : l.length ≤ 1000000) :
    Tri Tryz.prog β 15 [.slice q1 l.length c1, .slice q2 l.length c2] [rowA q1 l.length (l.flatMap iC), rowA q2 l.length (l.flatMap iC)] (fun v L => v = .bool true ∧ L = [rowA q1 l.length (l.flatMap iC), rowA q2 l.length (l.flatMap iC)]) := by
  refine Tri.intro tt_ok Tryz.func15 rfl rfl Tryz.ntmps15 rfl fun F => ?_
  generalize hln : l.length = n at hn
  (refine G tt_ok pk15 ?_; repeat (refine G1 tt_ok pk15 ?_; intro _))
  rw [show ((n : Int) != n) = false by simp]
  (refine G tt_ok pk15 ?_; repeat (refine G1 tt_ok pk15 ?_; intro _))
  refine CW.loop (α := Nat) (fun k => k ≤ n) (fun k => [(5, .int .i64 k), (0, .slice q1 n c1), (1, .slice q2 n c2)]) (fun k => [rowA q1 n (l.flatMap iC), rowA q2 n (l.flatMap iC)]) (fun k => n - k) 0 (by omega) ⟨rfl, rfl, rfl, trivial⟩ pk_ ?_
  intro k hk
  (refine G tt_ok pk15 ?_; repeat (refine G1 tt_ok pk15 ?_; intro _))
  by_cases hlt : k < n
  · rw [decide_eq_true (show (k : Int) < n by omega)]
    have hw : IntKind.i64.wrap ((k : Int) + 1) = ((k + 1 : Nat) : Int) := by rw [wrap_id (by omega) (by omega)]; omega
    obtain ⟨x, hx⟩ : ∃ x, l[k]? = some x := ⟨_, List.getElem?_eq_getElem (by omega)⟩
    (refine G tt_ok pk15 ?_; repeat (refine G1 tt_ok pk15 ?_; intro _))
    (refine SQ.idxR tt_ok rfl rfl (by repeat (first | exact .h | apply AtR.t)) (k) (rfl) (hlt) rfl ?_)
    (refine G tt_ok pk15 ?_; repeat (refine G1 tt_ok pk15 ?_; intro _))
    (refine SQ.ldR tt_ok rfl rfl (by repeat (first | exact .h | apply AtR.t)) (by omega) (i_rd hx) ?_)
    (refine G tt_ok pk15 ?_; repeat (refine G1 tt_ok pk15 ?_; intro _))
    (refine SQ.idxR tt_ok rfl rfl (by repeat (first | exact .h | apply AtR.t)) (k) (rfl) (hlt) rfl ?_)
    (refine G tt_ok pk15 ?_; repeat (refine G1 tt_ok pk15 ?_; intro _))
    (refine SQ.ldR tt_ok rfl rfl (by repeat (first | exact .h | apply AtR.t)) (by omega) (i_rd hx) ?_)
    (refine G tt_ok pk15 ?_; repeat (refine G1 tt_ok pk15 ?_; intro _))
    rw [show (x != x) = false by simp]
    (refine G tt_ok pk15 ?_; repeat (refine G1 tt_ok pk15 ?_; intro _))
    exact ⟨k + 1, by omega, by omega, ⟨by rw [← hw]; rfl, rfl, rfl, trivial⟩, pk_⟩
  · rw [decide_eq_false (show ¬ (k : Int) < n by omega)]
    (refine G tt_ok pk15 ?_; repeat (refine G1 tt_ok pk15 ?_; intro _))
    refine CW.exit ?_
    (refine G tt_ok pk15 ?_; repeat (refine G1 tt_ok pk15 ?_; intro _))
    exact CW.ret (fin_ret rfl pk_ ⟨rfl, rfl⟩)
end Go.Proofs.YthhfoppaaehepaaGreatDoor.Sl
namespace Go.Proofs.YthhfoppaaehepaaGreatDoor.Sl
open Go Go.RowKit Go.Proofs
set_option linter.unusedVariables false
set_option linter.unusedSimpArgs false
attribute [local irreducible] CW Tri OW
set_option maxRecDepth 10000
/-- Who waits in a collection, as a list. -/
def wl (w : SW) (k : Nat) : List Int := waitL k (fun w _ => w) (20 + 16 * k) w
theorem wl_len (w : SW) {k : Nat} (hk : k < 3) : (wl w k).length ≤ 400 := by
  have := waitL_len k (fun w _ => w) (20 + 16 * k) w
  unfold wl; omega
theorem fold_id (w : SW) : ∀ pre : List Int, pre.foldl (fun w _ => w) w = w
  | [] => rfl
  | _ :: r => fold_id w r
theorem waitIter (β : Base) (m g b2 b3 : Nat) (ps : List Nat) {w : SW} (hw : w.ok) {k : Nat} (hk : k < 3) :
    IterD Tryz.prog β 31 [.pointer (some ⟨b2, 0, none⟩), .pointer (some ⟨b3, 0, none⟩)] (fun _ => pt b2 [cpV ps k] :: pt b3 [.pointer (some ⟨m, 0, none⟩)] :: swA m g ps w) iC (wl w k) := by
  have h := iter31 β m g b2 b3 ps (step := fun w _ => w) (fun w _ _ h => h) hw hk
  have e : (fun pre : List Int => pt b2 [cpV ps k] :: pt b3 [.pointer (some ⟨m, 0, none⟩)] :: swA m g ps (pre.foldl (fun w _ => w) w)) = fun _ => pt b2 [cpV ps k] :: pt b3 [.pointer (some ⟨m, 0, none⟩)] :: swA m g ps w := funext fun pre => by rw [fold_id]
  rw [e] at h
  exact h
theorem bys_map : ∀ B : List Nat, bys B = (B.map Int.ofNat).map (Value.int .u8)
  | [] => rfl
  | b :: r => congrArg (Value.int .u8 (b : Int) :: ·) (bys_map r)
/-- A list that was taken. -/
structure Ls where
  q : Option Addr
  c : Nat
  l : List Int
theorem size10m (β : Base) (m g : Nat) {B : List Nat} (hB : B.length = 4096) : Tri Tryz.prog β 10 [.pointer (some ⟨m, 0, none⟩)] (memA m g B) (fun v L => v = .int .i64 4096 ∧ L = memA m g B) := by
  have h := (size10 β m (some ⟨g, 0, none⟩) (n := B.length) B.length).fr (L := memA m g B)
  refine h.mono fun v L ⟨A', ⟨e1, e2⟩, e3⟩ => ⟨by rw [e1, hB]; rfl, by rw [e3, e2]; rfl⟩
end Go.Proofs.YthhfoppaaehepaaGreatDoor.Sl
namespace Go.Proofs.YthhfoppaaehepaaGreatDoor.Sl
open Go Go.RowKit Go.Proofs
set_option linter.unusedVariables false
set_option linter.unusedSimpArgs false
set_option maxRecDepth 10000
theorem putV_0 {B : List Nat} {i j : Nat} {c : Cm} (h : (putV B i j c).2.2 = 0) : lefN i j ≠ 9 ∧ (encV c).2 = 0 ∧ putV B i j c = (stW B j (encV c).1 4, (j + 1) % 10, 0) := by
  unfold putV at h ⊢
  split at h
  · cases h
  · rename_i h9
    split at h
    · rename_i he
      exact ⟨h9, he, by rw [if_neg h9, if_pos he]⟩
    · rename_i he; exact absurd h he
theorem putV_1 {B : List Nat} {i j : Nat} {c : Cm} (h : (putV B i j c).2.2 ≠ 0) : putV B i j c = (B, j, (putV B i j c).2.2) := by
  unfold putV at h ⊢
  split
  · rfl
  · split
    · rename_i h9 he
      rw [if_neg h9, if_pos he] at h
      exact absurd rfl h
    · rfl
theorem fill_stop {B : List Nat} {i j : Nat} {xs : List Cm} {k : Nat} (h : fillE B i j xs k ≠ 0) : fillK B i j xs (k + 1) = fillK B i j xs k := by
  have := putV_1 h
  show ((putV (fillK B i j xs k).1 i (fillK B i j xs k).2 (xs.getD k cm0)).1, (putV (fillK B i j xs k).1 i (fillK B i j xs k).2 (xs.getD k cm0)).2.1) = _
  rw [this]
structure Filled (T : Nat) (p : Int) (B : List Nat) (i : Nat) (xs : List Cm) (k : Nat) : Prop where
  at_ : (fillK B i i xs k).2 = (i + k) % 10
  le : k ≤ 9
  gm : GM T p (fillK B i i xs k).1
  en : ∀ l, l < k → (encV (xs.getD l cm0)).2 = 0 ∧ ldW (fillK B i i xs k).1 ((i + l) % 10) = (encV (xs.getD l cm0)).1
theorem filled {T : Nat} {p : Int} (hp : okP p) {B : List Nat} (h : GM T p B) {i : Nat} (hi : i < 10) {xs : List Cm} : ∀ {k : Nat}, (∀ l, l < k → fillE B i i xs l = 0) → Filled T p B i xs k
  | 0, _ => ⟨by show i = _; omega, by omega, h, fun l hl => absurd hl (by omega)⟩
  | k + 1, hE => by
    obtain ⟨h1, h2, h3, h4⟩ := filled hp h hi (xs := xs) (k := k) fun l hl => hE l (by omega)
    have h0 := hE k (by omega)
    unfold fillE at h0
    rw [h1] at h0
    obtain ⟨g1, g2, g3⟩ := putV_0 h0
    have e : fillK B i i xs (k + 1) = (stW (fillK B i i xs k).1 ((i + k) % 10) (encV (xs.getD k cm0)).1 4, ((i + k) % 10 + 1) % 10) := by
      show ((putV (fillK B i i xs k).1 i (fillK B i i xs k).2 (xs.getD k cm0)).1, (putV (fillK B i i xs k).1 i (fillK B i i xs k).2 (xs.getD k cm0)).2.1) = _
      rw [h1, g3]
    have hj : (i + k) % 10 < 10 := by omega
    have hk9 : k < 9 := by unfold lefN at g1; omega
    have ks := stW_ks h3.len hj (encV (xs.getD k cm0)).1 (k := 4) (Nat.le_refl _)
    refine ⟨by rw [e]; show ((i + k) % 10 + 1) % 10 = _; omega, by omega, ?_, fun l hl => ?_⟩
    · rw [e]; exact h3.ks hp ks (fun i hi => by omega) (fun _ i hi => by omega)
    · rw [e]
      by_cases hlk : l = k
      · subst hlk
        exact ⟨g2, stW_ld h3.len hj _⟩
      · obtain ⟨m1, m2⟩ := h4 l (by omega)
        refine ⟨m1, ?_⟩
        rw [← m2]
        exact ldW_ks ks fun i' a b => by omega
theorem tab_err {B : List Nat} {p id : Int} : (tabGet B 0 64 p id).2 = 0 ∨ (tabGet B 0 64 p id).2 = 180 := by
  unfold tabGet; split <;> simp
theorem dev_err {B : List Nat} {p id : Int} : (deviceV B p id).2 = 0 ∨ (deviceV B p id).2 = 180 ∨ (deviceV B p id).2 = 181 := by
  have := tab_err (B := B) (p := p) (id := id)
  unfold deviceV
  simp only
  split <;> omega
theorem evA_errs {n : Nat} {d : Dv} {ev : Int} {e : Int} (h : evA n d ev = (none, e)) : e = 180 ∨ e = 182 := by
  unfold evA at h
  split at h
  · injection h with _ h; omega
  · split at h
    · cases h
    · injection h with _ h; omega
theorem rt_err {B : List Nat} {d : Dv} {ev : Int} : (devRt B d ev).2 = 0 ∨ (devRt B d ev).2 = 180 ∨ (devRt B d ev).2 = 182 := by
  unfold devRt
  split
  · exact .inl rfl
  · rename_i h; have := evA_errs h; simp only; omega
theorem set_err {B : List Nat} {d : Dv} {ev : Int} {r : Rt} : (devSet B d ev r).2 ≠ 170 := by
  unfold devSet
  split
  · split
    · simp
    · split <;> simp
  · rename_i h; have := evA_errs h; simp only; omega
theorem ev_err {B : List Nat} {p id ev : Int} : (eventV B p id ev).2 ≠ 170 := by
  have h1 := dev_err (B := B) (p := p) (id := id)
  have h2 := rt_err (B := B) (d := (deviceV B p id).1) (ev := ev)
  unfold eventV
  split
  · simp only; omega
  · simp only; split <;> omega
theorem tg_err {B : List Nat} {c : Int} : (targetV B 64 64 c).2.2 = 0 ∨ (targetV B 64 64 c).2.2 = 183 := by
  unfold targetV
  repeat' split
  all_goals simp
theorem side_err {B : List Nat} {c : Int} : (sideV B c).2 ≠ 170 := by
  have h1 := tg_err (B := B) (c := c)
  unfold sideV targetW
  simp only
  repeat' split
  all_goals simp only
  all_goals omega
theorem stg_err {B : List Nat} {c t : Int} {v : Bool} : (setTg B 64 64 c t v).2 ≠ 170 := by
  unfold setTg
  generalize (if v = true then 2 ^ 63 + t.toNat else 0) = X
  repeat' split
  all_goals simp
theorem waits_err {p : Int} {w : SW} {dev ev : Int} {v : Bool} : (waitsV p w dev ev v).2 ≠ 170 := by
  have h1 := ev_err (B := w.B) (p := p) (id := dev) (ev := ev)
  have h2 := side_err (B := w.B) (c := (eventV w.B p dev ev).1.2.1)
  unfold waitsV
  split
  · exact h1
  · rcases sideV_cases w.B (eventV w.B p dev ev).1.2.1 with ⟨e, he, hs⟩ | ⟨t, ht, hs⟩
    · rw [hs] at h2 ⊢; exact h2
    · rw [hs]; simp only; split <;> omega
theorem doV_170 (p : Int) (w : SW) (c : Cm) : (doV p w c).2 ≠ 170 := by
  by_cases h0 : (encV c).2 = 0
  · unfold doV
    rw [if_neg (by omega)]
    have hmt : ∀ n, (maptiV p w c n).2 ≠ 170 := fun n => by
      have h1 := dev_err (B := w.B) (p := p) (id := c.2.1)
      have h2 := rt_err (B := w.B) (d := (deviceV w.B p c.2.1).1) (ev := c.2.2.1)
      have h3 := tg_err (B := w.B) (c := c.2.2.2.2.1)
      unfold maptiV
      repeat' split
      all_goals first | exact set_err | (simp only; omega)
    refine ite_q (Q := fun r : SW × Int => r.2 ≠ 170) (fun _ => ?_) fun _ => ite_q (Q := fun r : SW × Int => r.2 ≠ 170) (fun _ => ?_) fun _ =>
      ite_q (Q := fun r : SW × Int => r.2 ≠ 170) (fun _ => hmt _) fun _ => ite_q (Q := fun r : SW × Int => r.2 ≠ 170) (fun _ => hmt _) fun _ =>
      ite_q (Q := fun r : SW × Int => r.2 ≠ 170) (fun _ => ?_) fun _ => ite_q (Q := fun r : SW × Int => r.2 ≠ 170) (fun _ => ?_) fun _ =>
      ite_q (Q := fun r : SW × Int => r.2 ≠ 170) (fun _ => waits_err) fun _ => ite_q (Q := fun r : SW × Int => r.2 ≠ 170) (fun _ => waits_err) fun _ =>
      ite_q (Q := fun r : SW × Int => r.2 ≠ 170) (fun _ => ?_) fun _ => ite_q (Q := fun r : SW × Int => r.2 ≠ 170) (fun _ => ?_) fun _ =>
      ite_q (Q := fun r : SW × Int => r.2 ≠ 170) (fun _ => ?_) fun _ => ite_q (Q := fun r : SW × Int => r.2 ≠ 170) (fun _ => ?_) fun _ => (show (160 : Int) ≠ 170 by decide)
    · have h1 := tab_err (B := w.B) (p := p) (id := c.2.1)
      unfold mapdV
      split
      · simp only; omega
      · split
        · exact (show (180 : Int) ≠ 170 by decide)
        · simp only
          unfold tabPut
          split
          · exact (show (0 : Int) ≠ 170 by decide)
          · exact (show (180 : Int) ≠ 170 by decide)
    · unfold mapcV
      split
      · exact (show (130 : Int) ≠ 170 by decide)
      · exact stg_err
    · have h1 := ev_err (B := w.B) (p := p) (id := c.2.1) (ev := c.2.2.1)
      have h2 := side_err (B := w.B) (c := c.2.2.2.2.1)
      unfold moviV
      split
      · exact h1
      · rcases sideV_cases w.B c.2.2.2.2.1 with ⟨e, he, hs⟩ | ⟨t, ht, hs⟩
        · rw [hs] at h2 ⊢; exact h2
        · rw [hs]; exact set_err
    · have h1 := ev_err (B := w.B) (p := p) (id := c.2.1) (ev := c.2.2.1)
      unfold discardV
      split
      · exact h1
      · exact (show (0 : Int) ≠ 170 by decide)
    · have h1 := ev_err (B := w.B) (p := p) (id := c.2.1) (ev := c.2.2.1)
      have h2 := side_err (B := w.B) (c := (eventV w.B p c.2.1 c.2.2.1).1.2.1)
      unfold invE
      split
      · exact h1
      · rcases sideV_cases w.B (eventV w.B p c.2.1 c.2.2.1).1.2.1 with ⟨e, he, hs⟩ | ⟨t, ht, hs⟩
        · rw [hs] at h2 ⊢; exact h2
        · rw [hs]; simp only; split <;> omega
    · have h2 := side_err (B := w.B) (c := c.2.2.2.2.1)
      unfold invallV
      rcases sideV_cases w.B c.2.2.2.2.1 with ⟨e, he, hs⟩ | ⟨t, ht, hs⟩
      · rw [hs] at h2 ⊢; exact h2
      · rw [hs]; exact (show (0 : Int) ≠ 170 by decide)
    · unfold movallV
      split
      · exact (show (130 : Int) ≠ 170 by decide)
      · exact (show (0 : Int) ≠ 170 by decide)
    · split
      · exact (show (130 : Int) ≠ 170 by decide)
      · exact (show (0 : Int) ≠ 170 by decide)
  · have h1 : (encV c).2 = 160 := by
      unfold encV at h0 ⊢
      split
      · split
        · rename_i hk _ _ hW; rw [if_pos hk, hW] at h0; exact absurd rfl h0
        · rfl
      · rfl
    unfold doV; rw [if_pos h0, h1]; exact (show (160 : Int) ≠ 170 by decide)
def stN (p : Int) (w : SW) (xs : List Cm) (k : Nat) : SW := (xs.take k).foldl (fun u c => (doV p u c).1) w
theorem stN_s (p : Int) (w : SW) {xs : List Cm} {k : Nat} (hk : k < xs.length) : stN p w xs (k + 1) = (doV p (stN p w xs k) (xs.getD k cm0)).1 := by
  unfold stN
  rw [← List.take_append_getElem hk, List.foldl_append, List.getD_eq_getElem?_getD, List.getElem?_eq_getElem hk]
  rfl
theorem stN_g {p : Int} (hp : okP p) {w : SW} (h : GW 512 p w) {xs : List Cm} : ∀ k, k ≤ xs.length → GW 512 p (stN p w xs k) ∧ KS (fun i => 128 ≤ i ∧ i < 448) w.B (stN p w xs k).B
  | 0, _ => ⟨h, KS.refl _ _⟩
  | k + 1, hk => by
    obtain ⟨h1, h2⟩ := stN_g hp h (xs := xs) k (by omega)
    rw [stN_s p w (by omega)]
    have h3 := doV_k T5 hp h1 (c := xs.getD k cm0) (fun h => by omega)
    exact ⟨⟨doV_ok h1.1 _, h3.1⟩, h2.trans h3.2⟩
structure Ran (p : Int) (w : SW) (xs : List Cm) (i sent d : Nat) (why : Int) (x : IW) : Prop where
  le : d ≤ sent
  ok : ∀ l, l < d → (doV p (stN p w xs l) (xs.getD l cm0)).2 = 0
  xw : x.w = stN p w xs d
  xi : x.i = (i + d) % 10
  fin : (why = 0 ∧ d = sent ∧ x.st = false) ∨ (why ≠ 0 ∧ d < sent ∧ x.st = true ∧ doV p (stN p w xs d) (xs.getD d cm0) = (stN p w xs d, why))
theorem ran {p : Int} (hp : okP p) {w : SW} (h : GW 512 p w) {xs : List Cm} {i sent : Nat} (hi : i < 10) (hs : sent ≤ 9) (hsx : sent ≤ xs.length) (hq : ∀ l, l < sent → (encV (xs.getD l cm0)).2 = 0 ∧ ldW w.B ((i + l) % 10) = (encV (xs.getD l cm0)).1) :
    ∀ r n, n + r = sent + 1 → n ≤ sent → (∀ l, l < n → (doV p (stN p w xs l) (xs.getD l cm0)).2 = 0) →
      Ran p w xs i sent (runV p true ((i + sent) % 10) r n ⟨stN p w xs n, false, (i + n) % 10⟩).2.1 (runV p true ((i + sent) % 10) r n ⟨stN p w xs n, false, (i + n) % 10⟩).2.2 (runV p true ((i + sent) % 10) r n ⟨stN p w xs n, false, (i + n) % 10⟩).1
  | 0, n, hr, hn, _ => by omega
  | r + 1, n, hr, hn, hok => by
    obtain ⟨g1, g2⟩ := stN_g hp h (xs := xs) n (by omega)
    rw [runV_s]
    by_cases hns : n = sent
    · have hh : headV (stN p w xs n).B ((i + n) % 10) ((i + sent) % 10) = (cm0, 170) := by
        unfold headV
        rw [if_pos (by unfold lefN; omega)]
      have hst : stepV p true ((i + sent) % 10) ⟨stN p w xs n, false, (i + n) % 10⟩ = (⟨stN p w xs n, false, (i + n) % 10⟩, cm0, 170) := by
        unfold stepV
        rw [if_neg (by simp), if_neg (by simp), hh]
        rfl
      rw [hst, if_pos rfl]
      exact ⟨hn, hok, rfl, rfl, .inl ⟨rfl, hns, rfl⟩⟩
    · obtain ⟨q1, q2⟩ := hq n (by omega)
      have hh : headV (stN p w xs n).B ((i + n) % 10) ((i + sent) % 10) = (xs.getD n cm0, 0) := by
        unfold headV
        rw [if_neg (by unfold lefN; omega), ldW_ks g2 (fun i' a b => by omega), q2]
        exact dec_enc q1
      generalize hD : doV p (stN p w xs n) (xs.getD n cm0) = D
      obtain ⟨u, e⟩ := D
      have h170 := doV_170 p (stN p w xs n) (xs.getD n cm0)
      rw [hD] at h170
      by_cases he : e = 0
      · subst he
        have hst : stepV p true ((i + sent) % 10) ⟨stN p w xs n, false, (i + n) % 10⟩ = (⟨u, false, nxI ((i + n) % 10) ((i + sent) % 10)⟩, xs.getD n cm0, 0) := by
          unfold stepV
          rw [if_neg (by simp), if_neg (by simp), hh]
          simp only [hD]
          rfl
        rw [hst, if_neg (show ¬ (0 : Int) = 170 by decide), if_neg (show ¬ (0 : Int) ≠ 0 by decide)]
        have hu : u = stN p w xs (n + 1) := by rw [stN_s p w (by omega), hD]
        have hnx : nxI ((i + n) % 10) ((i + sent) % 10) = (i + (n + 1)) % 10 := by
          unfold nxI
          rw [if_neg (by unfold lefN; omega)]
          omega
        rw [hnx, hu]
        refine ran hp h hi hs hsx hq r (n + 1) (by omega) (by omega) fun l hl => ?_
        by_cases hln : l = n
        · subst hln; rw [hD]
        · exact hok l (by omega)
      · have hu : u = stN p w xs n := by
          have := doV_w hp g1 (xs.getD n cm0) (by rw [hD]; exact he)
          rw [hD] at this
          exact this
        have hst : stepV p true ((i + sent) % 10) ⟨stN p w xs n, false, (i + n) % 10⟩ = (⟨u, true, (i + n) % 10⟩, cm0, e) := by
          unfold stepV
          rw [if_neg (by simp), if_neg (by simp), hh]
          simp only [hD]
          rw [if_neg (by decide), if_neg (by simp), if_pos he]
        rw [hst, if_neg h170, if_pos he]
        exact ⟨hn, hok, hu, rfl, .inr ⟨he, by show n < sent; omega, rfl, by rw [hD, hu]⟩⟩
end Go.Proofs.YthhfoppaaehepaaGreatDoor.Sl
