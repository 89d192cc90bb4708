/-
  Part 3 of the proof: contracts of the code's functions, and what is plain.
-/
import Derived.Test.YthhfoppaaehepaaGreatDoorM2
namespace Go.Proofs.YthhfoppaaehepaaGreatDoor.Sl
open Go Go.RowKit Go.Proofs
set_option linter.unusedVariables false
set_option linter.unusedSimpArgs false
attribute [local irreducible] CW Tri OW
set_option maxRecDepth 10000
@[reducible] def pk164 : List (Nat × Plan) := [(5, [(0, 0, []), (1, 0, []), (2, 0, []), (3, 0, []), (4, 0, []), (5, 0, []), (6, 0, []), (7, 0, []), (8, 1, [2, 5]), (9, 0, []), (10, 0, []), (11, 0, []), (12, 0, []), (13, 0, [])]), (11, [(0, 0, []), (1, 0, []), (2, 0, []), (3, 0, []), (4, 0, []), (5, 0, []), (6, 0, []), (7, 0, []), (8, 0, []), (9, 0, []), (10, 0, []), (11, 0, []), (12, 1, [5, 9]), (13, 0, []), (14, 0, []), (15, 0, []), (16, 0, [])])]
@[reducible] def pk55 : List (Nat × Plan) := [(6, [(0, 0, []), (1, 0, []), (2, 0, []), (3, 0, []), (4, 0, []), (5, 0, []), (6, 0, []), (7, 0, []), (8, 1, [2, 5]), (9, 0, []), (10, 0, []), (11, 0, []), (12, 0, []), (13, 0, [])])]
@[reducible] def pl164_0 : Plan := [(0, 0, []), (1, 0, []), (2, 0, []), (3, 0, []), (4, 0, []), (5, 0, []), (6, 0, []), (7, 0, []), (8, 1, [2, 5]), (9, 0, []), (10, 0, []), (11, 0, []), (12, 0, []), (13, 0, [])]
@[reducible] def pl164_1 : Plan := [(0, 0, []), (1, 0, []), (2, 0, []), (3, 0, []), (4, 0, []), (5, 0, []), (6, 0, []), (7, 0, []), (8, 0, []), (9, 0, []), (10, 0, []), (11, 0, []), (12, 1, [5, 9]), (13, 0, []), (14, 0, []), (15, 0, []), (16, 0, [])]
@[reducible] def pl55_0 : Plan := [(0, 0, []), (1, 0, []), (2, 0, []), (3, 0, []), (4, 0, []), (5, 0, []), (6, 0, []), (7, 0, []), (8, 1, [2, 5]), (9, 0, []), (10, 0, []), (11, 0, []), (12, 0, []), (13, 0, [])]
set_option maxHeartbeats 4000000 in
theorem power135 (β : Base) (n : Int) : Tri Tryz.prog β 135 [.int .i64 n] [] (fun v L => (∃ b, v = .bool b) ∧ L = []) := by
  refine Tri.intro tt_ok Tryz.func135 rfl rfl Tryz.ntmps135 rfl fun F => ?_
  (refine G tt_ok [] ?_; repeat (refine G1 tt_ok [] ?_; intro _))
  refine CW.loop (α := Nat) (fun p => 1 ≤ p ∧ p ≤ 262144) (fun p => [(3, .int .i64 p), (0, .int .i64 n)]) (fun p => []) (fun p => 262144 - p) 8 (by omega) ⟨rfl, rfl, trivial⟩ pk_ ?_
  intro p hp
  (refine G tt_ok [] ?_; repeat (refine G1 tt_ok [] ?_; intro _))
  by_cases h : p ≤ 131072
  · rw [decide_eq_true (show (p : Int) ≤ 131072 by omega)]
    (refine G tt_ok [] ?_; repeat (refine G1 tt_ok [] ?_; intro _))
    cases ((p : Int) == n) with
    | true =>
      (refine G tt_ok [] ?_; repeat (refine G1 tt_ok [] ?_; intro _))
      exact CW.ret (fin_ret rfl pk_ ⟨⟨_, rfl⟩, rfl⟩)
    | false =>
      (refine G tt_ok [] ?_; repeat (refine G1 tt_ok [] ?_; intro _))
      have e : IntKind.i64.wrap (2 * (p : Int)) = ((2 * p : Nat) : Int) := by rw [wrap_id (by omega) (by omega)]; omega
      exact ⟨2 * p, by omega, by omega, ⟨by rw [← e]; rfl, rfl, trivial⟩, pk_⟩
  · rw [decide_eq_false (show ¬ (p : Int) ≤ 131072 by omega)]
    (refine G tt_ok [] ?_; repeat (refine G1 tt_ok [] ?_; intro _))
    refine CW.exit ?_
    (refine G tt_ok [] ?_; repeat (refine G1 tt_ok [] ?_; intro _))
    exact CW.ret (fin_ret rfl pk_ ⟨⟨_, rfl⟩, rfl⟩)
set_option maxHeartbeats 4000000 in
theorem right99 (β : Base) (m g : Nat) (a s p : Int) : Tri Tryz.prog β 99 [.agg #[.int .i64 a, .int .i64 s, .int .i64 p], .pointer (some ⟨m, 0, none⟩)] [dmA m g] (fun v L => (∃ e, v = .int .i64 e) ∧ L = [dmA m g]) := by
  refine Tri.intro tt_ok Tryz.func99 rfl rfl Tryz.ntmps99 rfl fun F => ?_
  (refine G tt_ok [] ?_; repeat (refine G1 tt_ok [] ?_; intro _))
  refine ke rfl rfl (holds100 β m g a s) ?_
  cases holdsV 4096 a s with
  | false =>
    (refine G tt_ok [] ?_; repeat (refine G1 tt_ok [] ?_; intro _))
    exact CW.ret (fin_ret rfl pk_ ⟨⟨_, rfl⟩, rfl⟩)
  | true =>
    (refine G tt_ok [] ?_; repeat (refine G1 tt_ok [] ?_; intro _))
    cases (p != 0) with
    | false =>
      (refine G tt_ok [] ?_; repeat (refine G1 tt_ok [] ?_; intro _))
      exact CW.ret (fin_ret rfl pk_ ⟨⟨_, rfl⟩, rfl⟩)
    | true =>
      (refine G tt_ok [] ?_; repeat (refine G1 tt_ok [] ?_; intro _))
      (refine ka rfl rfl (power135 β p) ?_; rintro _ _ ⟨⟨b, rfl⟩, rfl⟩; refine w_ ?_)
      cases b <;> (
        (refine G tt_ok [] ?_; repeat (refine G1 tt_ok [] ?_; intro _))
        exact CW.ret (fin_ret rfl pk_ ⟨⟨_, rfl⟩, rfl⟩))
set_option maxHeartbeats 4000000 in
theorem place164 (β : Base) (m g : Nat) (a s : Int) {p : Int} (hp : p = 0 ∨ p = 32) (id : Int) : Tri Tryz.prog β 164 [.agg #[.int .i64 a, .int .i64 s, .int .i64 p], .pointer (some ⟨m, 0, none⟩), .int .i64 id] [dmA m g] (fun v L => enOk v ∧ L = [dmA m g]) := by
  refine Tri.intro tt_ok Tryz.func164 rfl rfl Tryz.ntmps164 rfl fun F => ?_
  rcases hp with rfl | rfl
  · (repeat' (first | refine CW.seq ?_ | refine CW.region tt_ok rfl ?_ | refine CW.regionD tt_ok (by kernel_rfl) pl164_0 (by decide +kernel) ?_ | refine CW.regionD tt_ok (by kernel_rfl) pl164_1 (by decide +kernel) ?_ | refine CW.block ?_ | refine CW.skip ?_ | refine SQ.nil ?_ | refine SQ.pures1 tt_ok rfl ?_ | refine SQ.pure1 tt_ok rfl ?_ | refine SQ.new _ _ rfl rfl (fun _ => ?_) | refine SQ.ldA tt_ok rfl rfl (by repeat (first | exact .h | exact .q | apply At.t)) (by rfl) ?_ | refine SQ.stA tt_ok rfl rfl (by repeat (first | apply Up.h | apply Up.t)) (by rfl) (by rfl) (by repeat (first | exact trivial | refine ⟨trivial, ?_⟩ | refine ⟨wk (by repeat (first | exact .h | exact .q | apply At.t)) (by rfl), ?_⟩)) ?_ | refine CW.cond_tt rfl ?_ | refine CW.cond_ff rfl ?_ | ((first | refine CW.cond rfl (fun hc => ?_) (fun hc => ?_) | refine SQ.gsplit rfl (fun hc => ?_) (fun hc => ?_)) <;> try (exfalso; simp_all; done))))
    all_goals first | exact CW.ret (fin_ret rfl pk_ ⟨⟨_, _, rfl, fun h => by cases h⟩, rfl⟩) | skip
    all_goals (refine ka rfl rfl (entry101 β m g a s id) ?_; rintro _ _ ⟨⟨x, ok, rfl, hok⟩, rfl⟩; refine w_ ?_)
    all_goals (refine G tt_ok pk164 ?_; repeat (refine G1 tt_ok pk164 ?_; intro _))
    all_goals exact CW.ret (fin_ret rfl pk_ ⟨⟨_, _, rfl, hok⟩, rfl⟩)
  · have h8 : IntKind.i64.wrap ((32 : Int).tdiv 8) = 4 := rfl
    (refine G tt_ok pk164 ?_; repeat (refine G1 tt_ok pk164 ?_; intro _))
    by_cases h1 : id < 0
    · rw [decide_eq_true h1]
      (refine G tt_ok pk164 ?_; repeat (refine G1 tt_ok pk164 ?_; intro _))
      exact CW.ret (fin_ret rfl pk_ ⟨⟨_, _, rfl, fun h => by cases h⟩, rfl⟩)
    · rw [decide_eq_false h1]
      (refine G tt_ok pk164 ?_; repeat (refine G1 tt_ok pk164 ?_; intro _))
      by_cases h2 : id ≥ 131072
      · rw [decide_eq_true h2]
        (refine G tt_ok pk164 ?_; repeat (refine G1 tt_ok pk164 ?_; intro _))
        exact CW.ret (fin_ret rfl pk_ ⟨⟨_, _, rfl, fun h => by cases h⟩, rfl⟩)
      · rw [decide_eq_false h2]
        (refine G tt_ok pk164 ?_; repeat (refine G1 tt_ok pk164 ?_; intro _))
        rw [h8]
        (refine G tt_ok pk164 ?_; repeat (refine G1 tt_ok pk164 ?_; intro _))
        (refine ka rfl rfl (entry101 β m g a s _) ?_; rintro _ _ ⟨⟨x, ok, rfl, hok⟩, rfl⟩; refine w_ ?_)
        (refine G tt_ok pk164 ?_; repeat (refine G1 tt_ok pk164 ?_; intro _))
        cases ok with
        | false =>
          (refine G tt_ok pk164 ?_; repeat (refine G1 tt_ok pk164 ?_; intro _))
          exact CW.ret (fin_ret rfl pk_ ⟨⟨_, _, rfl, fun h => by cases h⟩, rfl⟩)
        | true =>
          obtain ⟨A, rfl, hA⟩ := hok rfl
          (refine G tt_ok pk164 ?_; repeat (refine G1 tt_ok pk164 ?_; intro _))
          (refine ka rfl rfl (get165 β m g hA) ?_; rintro _ _ ⟨⟨z, b, rfl⟩, rfl⟩; refine w_ ?_)
          (refine G tt_ok pk164 ?_; repeat (refine G1 tt_ok pk164 ?_; intro _))
          cases b with
          | false =>
            (refine G tt_ok pk164 ?_; repeat (refine G1 tt_ok pk164 ?_; intro _))
            exact CW.ret (fin_ret rfl pk_ ⟨⟨_, _, rfl, fun h => by cases h⟩, rfl⟩)
          | true =>
            (refine G tt_ok pk164 ?_; repeat (refine G1 tt_ok pk164 ?_; intro _))
            rw [h8]
            (refine G tt_ok pk164 ?_; repeat (refine G1 tt_ok pk164 ?_; intro _))
            (refine ka rfl rfl (entry101 β m g _ _ _) ?_; rintro _ _ ⟨⟨x, ok, rfl, hok⟩, rfl⟩; refine w_ ?_)
            (refine G tt_ok pk164 ?_; repeat (refine G1 tt_ok pk164 ?_; intro _))
            exact CW.ret (fin_ret rfl pk_ ⟨⟨_, _, rfl, hok⟩, rfl⟩)
set_option maxHeartbeats 4000000 in
theorem get140 (β : Base) (m g : Nat) (a s : Int) {p : Int} (hp : p = 0 ∨ p = 32) (id : Int) : Tri Tryz.prog β 140 [.agg #[.int .i64 a, .int .i64 s, .int .i64 p], .pointer (some ⟨m, 0, none⟩), .int .i64 id] [dmA m g]
    (fun v L => (∃ (d : Dv) (e : Int), v = .tuple #[.agg #[.bool d.1, .int .i64 d.2.1, .int .i64 d.2.2], .int .i64 e]) ∧ L = [dmA m g]) := by
  refine Tri.intro tt_ok Tryz.func140 rfl rfl Tryz.ntmps140 rfl fun F => ?_
  (refine G tt_ok [] ?_; repeat (refine G1 tt_ok [] ?_; intro _))
  (refine ka rfl rfl (right99 β m g a s p) ?_; rintro _ _ ⟨⟨e, rfl⟩, rfl⟩; refine w_ ?_)
  (refine G tt_ok [] ?_; repeat (refine G1 tt_ok [] ?_; intro _))
  cases (e != 0) with
  | true =>
    (refine G tt_ok [] ?_; repeat (refine G1 tt_ok [] ?_; intro _))
    exact CW.ret (fin_cells [_, _] ⟨(by first | exact ⟨_, _, _, _, 0, rfl, rfl, rfl, rfl⟩ | exact ⟨_, _, _, _, 1, rfl, rfl, rfl, rfl⟩ | exact ⟨_, _, _, _, 2, rfl, rfl, rfl, rfl⟩ | exact ⟨_, _, _, _, 3, rfl, rfl, rfl, rfl⟩ | exact ⟨_, _, _, _, 4, rfl, rfl, rfl, rfl⟩ | exact ⟨_, _, _, _, 5, rfl, rfl, rfl, rfl⟩ | exact ⟨_, _, _, _, 6, rfl, rfl, rfl, rfl⟩ | exact ⟨_, _, _, _, 7, rfl, rfl, rfl, rfl⟩ | exact ⟨_, _, _, _, 8, rfl, rfl, rfl, rfl⟩ | exact ⟨_, _, _, _, 9, rfl, rfl, rfl, rfl⟩ | exact ⟨_, _, _, _, 10, rfl, rfl, rfl, rfl⟩ | exact ⟨_, _, _, _, 11, rfl, rfl, rfl, rfl⟩ | exact ⟨_, _, _, _, 12, rfl, rfl, rfl, rfl⟩ | exact ⟨_, _, _, _, 13, rfl, rfl, rfl, rfl⟩ | exact ⟨_, _, _, _, 14, rfl, rfl, rfl, rfl⟩ | exact ⟨_, _, _, _, 15, rfl, rfl, rfl, rfl⟩ | exact ⟨_, _, _, _, 16, rfl, rfl, rfl, rfl⟩ | exact ⟨_, _, _, _, 17, rfl, rfl, rfl, rfl⟩ | exact ⟨_, _, _, _, 18, rfl, rfl, rfl, rfl⟩ | exact ⟨_, _, _, _, 19, rfl, rfl, rfl, rfl⟩ | exact ⟨_, _, _, _, 20, rfl, rfl, rfl, rfl⟩ | exact ⟨_, _, _, _, 21, rfl, rfl, rfl, rfl⟩ | exact ⟨_, _, _, _, 22, rfl, rfl, rfl, rfl⟩ | exact ⟨_, _, _, _, 23, rfl, rfl, rfl, rfl⟩), rfl, trivial⟩ pk_ ⟨⟨(false, 0, 0), _, rfl⟩, rfl⟩)
  | false =>
    (refine G tt_ok [] ?_; repeat (refine G1 tt_ok [] ?_; intro _))
    (refine ka rfl rfl (place164 β m g a s hp id) ?_; rintro _ _ ⟨⟨x, ok, rfl, hok⟩, rfl⟩; refine w_ ?_)
    (refine G tt_ok [] ?_; repeat (refine G1 tt_ok [] ?_; intro _))
    cases ok with
    | false =>
      (refine G tt_ok [] ?_; repeat (refine G1 tt_ok [] ?_; intro _))
      exact CW.ret (fin_cells [_, _] ⟨(by first | exact ⟨_, _, _, _, 0, rfl, rfl, rfl, rfl⟩ | exact ⟨_, _, _, _, 1, rfl, rfl, rfl, rfl⟩ | exact ⟨_, _, _, _, 2, rfl, rfl, rfl, rfl⟩ | exact ⟨_, _, _, _, 3, rfl, rfl, rfl, rfl⟩ | exact ⟨_, _, _, _, 4, rfl, rfl, rfl, rfl⟩ | exact ⟨_, _, _, _, 5, rfl, rfl, rfl, rfl⟩ | exact ⟨_, _, _, _, 6, rfl, rfl, rfl, rfl⟩ | exact ⟨_, _, _, _, 7, rfl, rfl, rfl, rfl⟩ | exact ⟨_, _, _, _, 8, rfl, rfl, rfl, rfl⟩ | exact ⟨_, _, _, _, 9, rfl, rfl, rfl, rfl⟩ | exact ⟨_, _, _, _, 10, rfl, rfl, rfl, rfl⟩ | exact ⟨_, _, _, _, 11, rfl, rfl, rfl, rfl⟩ | exact ⟨_, _, _, _, 12, rfl, rfl, rfl, rfl⟩ | exact ⟨_, _, _, _, 13, rfl, rfl, rfl, rfl⟩ | exact ⟨_, _, _, _, 14, rfl, rfl, rfl, rfl⟩ | exact ⟨_, _, _, _, 15, rfl, rfl, rfl, rfl⟩ | exact ⟨_, _, _, _, 16, rfl, rfl, rfl, rfl⟩ | exact ⟨_, _, _, _, 17, rfl, rfl, rfl, rfl⟩ | exact ⟨_, _, _, _, 18, rfl, rfl, rfl, rfl⟩ | exact ⟨_, _, _, _, 19, rfl, rfl, rfl, rfl⟩ | exact ⟨_, _, _, _, 20, rfl, rfl, rfl, rfl⟩ | exact ⟨_, _, _, _, 21, rfl, rfl, rfl, rfl⟩ | exact ⟨_, _, _, _, 22, rfl, rfl, rfl, rfl⟩ | exact ⟨_, _, _, _, 23, rfl, rfl, rfl, rfl⟩), rfl, trivial⟩ pk_ ⟨⟨(false, 0, 0), _, rfl⟩, rfl⟩)
    | true =>
      obtain ⟨A, rfl, hA⟩ := hok rfl
      (refine G tt_ok [] ?_; repeat (refine G1 tt_ok [] ?_; intro _))
      (refine ka rfl rfl (get165 β m g hA) ?_; rintro _ _ ⟨⟨z, b, rfl⟩, rfl⟩; refine w_ ?_)
      (refine G tt_ok [] ?_; repeat (refine G1 tt_ok [] ?_; intro _))
      cases b with
      | false =>
        (refine G tt_ok [] ?_; repeat (refine G1 tt_ok [] ?_; intro _))
        exact CW.ret (fin_cells [_, _] ⟨(by first | exact ⟨_, _, _, _, 0, rfl, rfl, rfl, rfl⟩ | exact ⟨_, _, _, _, 1, rfl, rfl, rfl, rfl⟩ | exact ⟨_, _, _, _, 2, rfl, rfl, rfl, rfl⟩ | exact ⟨_, _, _, _, 3, rfl, rfl, rfl, rfl⟩ | exact ⟨_, _, _, _, 4, rfl, rfl, rfl, rfl⟩ | exact ⟨_, _, _, _, 5, rfl, rfl, rfl, rfl⟩ | exact ⟨_, _, _, _, 6, rfl, rfl, rfl, rfl⟩ | exact ⟨_, _, _, _, 7, rfl, rfl, rfl, rfl⟩ | exact ⟨_, _, _, _, 8, rfl, rfl, rfl, rfl⟩ | exact ⟨_, _, _, _, 9, rfl, rfl, rfl, rfl⟩ | exact ⟨_, _, _, _, 10, rfl, rfl, rfl, rfl⟩ | exact ⟨_, _, _, _, 11, rfl, rfl, rfl, rfl⟩ | exact ⟨_, _, _, _, 12, rfl, rfl, rfl, rfl⟩ | exact ⟨_, _, _, _, 13, rfl, rfl, rfl, rfl⟩ | exact ⟨_, _, _, _, 14, rfl, rfl, rfl, rfl⟩ | exact ⟨_, _, _, _, 15, rfl, rfl, rfl, rfl⟩ | exact ⟨_, _, _, _, 16, rfl, rfl, rfl, rfl⟩ | exact ⟨_, _, _, _, 17, rfl, rfl, rfl, rfl⟩ | exact ⟨_, _, _, _, 18, rfl, rfl, rfl, rfl⟩ | exact ⟨_, _, _, _, 19, rfl, rfl, rfl, rfl⟩ | exact ⟨_, _, _, _, 20, rfl, rfl, rfl, rfl⟩ | exact ⟨_, _, _, _, 21, rfl, rfl, rfl, rfl⟩ | exact ⟨_, _, _, _, 22, rfl, rfl, rfl, rfl⟩ | exact ⟨_, _, _, _, 23, rfl, rfl, rfl, rfl⟩), rfl, trivial⟩ pk_ ⟨⟨(false, 0, 0), _, rfl⟩, rfl⟩)
      | true =>
        (refine G tt_ok [] ?_; repeat (refine G1 tt_ok [] ?_; intro _))
        exact CW.ret (fin_cells [_, _] ⟨(by first | exact ⟨_, _, _, _, 0, rfl, rfl, rfl, rfl⟩ | exact ⟨_, _, _, _, 1, rfl, rfl, rfl, rfl⟩ | exact ⟨_, _, _, _, 2, rfl, rfl, rfl, rfl⟩ | exact ⟨_, _, _, _, 3, rfl, rfl, rfl, rfl⟩ | exact ⟨_, _, _, _, 4, rfl, rfl, rfl, rfl⟩ | exact ⟨_, _, _, _, 5, rfl, rfl, rfl, rfl⟩ | exact ⟨_, _, _, _, 6, rfl, rfl, rfl, rfl⟩ | exact ⟨_, _, _, _, 7, rfl, rfl, rfl, rfl⟩ | exact ⟨_, _, _, _, 8, rfl, rfl, rfl, rfl⟩ | exact ⟨_, _, _, _, 9, rfl, rfl, rfl, rfl⟩ | exact ⟨_, _, _, _, 10, rfl, rfl, rfl, rfl⟩ | exact ⟨_, _, _, _, 11, rfl, rfl, rfl, rfl⟩ | exact ⟨_, _, _, _, 12, rfl, rfl, rfl, rfl⟩ | exact ⟨_, _, _, _, 13, rfl, rfl, rfl, rfl⟩ | exact ⟨_, _, _, _, 14, rfl, rfl, rfl, rfl⟩ | exact ⟨_, _, _, _, 15, rfl, rfl, rfl, rfl⟩ | exact ⟨_, _, _, _, 16, rfl, rfl, rfl, rfl⟩ | exact ⟨_, _, _, _, 17, rfl, rfl, rfl, rfl⟩ | exact ⟨_, _, _, _, 18, rfl, rfl, rfl, rfl⟩ | exact ⟨_, _, _, _, 19, rfl, rfl, rfl, rfl⟩ | exact ⟨_, _, _, _, 20, rfl, rfl, rfl, rfl⟩ | exact ⟨_, _, _, _, 21, rfl, rfl, rfl, rfl⟩ | exact ⟨_, _, _, _, 22, rfl, rfl, rfl, rfl⟩ | exact ⟨_, _, _, _, 23, rfl, rfl, rfl, rfl⟩), rfl, trivial⟩ pk_ ⟨⟨(true, _, _), _, rfl⟩, rfl⟩)
set_option maxHeartbeats 4000000 in
theorem put146 (β : Base) (m g : Nat) (a s : Int) {p : Int} (hp : p = 0 ∨ p = 32) (id : Int) (d : Dv) : Tri Tryz.prog β 146 [.agg #[.int .i64 a, .int .i64 s, .int .i64 p], .pointer (some ⟨m, 0, none⟩), .int .i64 id, .agg #[.bool d.1, .int .i64 d.2.1, .int .i64 d.2.2]] [dmA m g]
    (fun v L => (∃ e, v = .int .i64 e) ∧ L = [dmA m g]) := by
  refine Tri.intro tt_ok Tryz.func146 rfl rfl Tryz.ntmps146 rfl fun F => ?_
  obtain ⟨d0, d1, d2⟩ := d
  (refine G tt_ok [] ?_; repeat (refine G1 tt_ok [] ?_; intro _))
  (refine ka rfl rfl (right99 β m g a s p) ?_; rintro _ _ ⟨⟨e, rfl⟩, rfl⟩; refine w_ ?_)
  (refine G tt_ok [] ?_; repeat (refine G1 tt_ok [] ?_; intro _))
  cases (e != 0) with
  | true =>
    (refine G tt_ok [] ?_; repeat (refine G1 tt_ok [] ?_; intro _))
    exact CW.ret (fin_ret rfl pk_ ⟨⟨_, rfl⟩, rfl⟩)
  | false =>
    (refine G tt_ok [] ?_; repeat (refine G1 tt_ok [] ?_; intro _))
    (refine ka rfl rfl (place164 β m g a s hp id) ?_; rintro _ _ ⟨⟨x, ok, rfl, hok⟩, rfl⟩; refine w_ ?_)
    (refine G tt_ok [] ?_; repeat (refine G1 tt_ok [] ?_; intro _))
    cases ok with
    | false =>
      (refine G tt_ok [] ?_; repeat (refine G1 tt_ok [] ?_; intro _))
      exact CW.ret (fin_ret rfl pk_ ⟨⟨_, rfl⟩, rfl⟩)
    | true =>
      obtain ⟨A, rfl, hA⟩ := hok rfl
      (refine G tt_ok [] ?_; repeat (refine G1 tt_ok [] ?_; intro _))
      cases d0 with
      | false =>
        (refine G tt_ok [] ?_; repeat (refine G1 tt_ok [] ?_; intro _))
        refine ke rfl rfl (put102 β m g hA 0) ?_
        (refine G tt_ok [] ?_; repeat (refine G1 tt_ok [] ?_; intro _))
        exact CW.ret (fin_ret rfl pk_ ⟨⟨_, rfl⟩, rfl⟩)
      | true =>
        (repeat' (first | refine CW.seq ?_ | refine CW.region tt_ok rfl ?_ | refine CW.block ?_ | refine CW.skip ?_ | refine SQ.nil ?_ | refine SQ.pures1 tt_ok rfl ?_ | refine SQ.pure1 tt_ok rfl ?_ | refine SQ.new _ _ rfl rfl (fun _ => ?_) | refine SQ.ldA tt_ok rfl rfl (by repeat (first | exact .h | exact .q | apply At.t)) (by rfl) ?_ | refine SQ.stA tt_ok rfl rfl (by repeat (first | apply Up.h | apply Up.t)) (by rfl) (by rfl) (by exact trivial) ?_ | refine CW.cond_tt rfl ?_ | refine CW.cond_ff rfl ?_ | (refine SQ.callA rfl rfl (put102 β m g hA _) (by repeat (first | exact .n | exact Rm.h | exact Rm.of own_row | exact Rm.of row_close0 | apply Tk.c | apply Rm.t)) ?_; rintro _ _ ⟨rfl, rfl⟩; refine ⟨(by exact trivial), ?_⟩) | ((first | refine CW.cond rfl (fun hc => ?_) (fun hc => ?_) | refine SQ.gsplit rfl (fun hc => ?_) (fun hc => ?_)) <;> try (exfalso; simp_all; done))))
        all_goals exact CW.ret (fin_ret rfl pk_ ⟨⟨_, rfl⟩, rfl⟩)
set_option maxHeartbeats 4000000 in
theorem lead55 (β : Base) (m g : Nat) (a s id t : Int) : Tri Tryz.prog β 55 [.agg #[.int .i64 a, .int .i64 s, .int .i64 32], .pointer (some ⟨m, 0, none⟩), .int .i64 id, .int .i64 t] [dmA m g] (fun v L => (∃ e, v = .int .i64 e) ∧ L = [dmA m g]) := by
  refine Tri.intro tt_ok Tryz.func55 rfl rfl Tryz.ntmps55 rfl fun F => ?_
  have h8 : IntKind.i64.wrap ((32 : Int).tdiv 8) = 4 := rfl
  (refine G tt_ok pk55 ?_; repeat (refine G1 tt_ok pk55 ?_; intro _))
  (refine ka rfl rfl (right99 β m g a s 32) ?_; rintro _ _ ⟨⟨e, rfl⟩, rfl⟩; refine w_ ?_)
  (refine G tt_ok pk55 ?_; repeat (refine G1 tt_ok pk55 ?_; intro _))
  cases (e != 0) with
  | true =>
    (refine G tt_ok pk55 ?_; repeat (refine G1 tt_ok pk55 ?_; intro _))
    exact CW.ret (fin_ret rfl pk_ ⟨⟨_, rfl⟩, rfl⟩)
  | false =>
    (repeat' (first | refine CW.seq ?_ | refine CW.region tt_ok rfl ?_ | refine CW.regionD tt_ok (by kernel_rfl) pl55_0 (by decide +kernel) ?_ | refine CW.block ?_ | refine CW.skip ?_ | refine SQ.nil ?_ | refine SQ.pures1 tt_ok rfl ?_ | refine SQ.pure1 tt_ok rfl ?_ | refine SQ.new _ _ rfl rfl (fun _ => ?_) | refine SQ.ldA tt_ok rfl rfl (by repeat (first | exact .h | exact .q | apply At.t)) (by rfl) ?_ | refine SQ.stA tt_ok rfl rfl (by repeat (first | apply Up.h | apply Up.t)) (by rfl) (by rfl) (by repeat (first | exact trivial | refine ⟨trivial, ?_⟩ | refine ⟨wk (by repeat (first | exact .h | exact .q | apply At.t)) (by rfl), ?_⟩)) ?_ | refine CW.cond_tt rfl ?_ | refine CW.cond_ff rfl ?_ | (refine SQ.callA rfl rfl (holds100 β m g _ _) (by repeat (first | exact .n | exact Rm.h | exact Rm.of own_row | exact Rm.of row_close0 | apply Tk.c | apply Rm.t)) ?_; rintro _ _ ⟨rfl, rfl⟩; refine ⟨(by repeat (first | exact trivial | refine ⟨trivial, ?_⟩ | refine ⟨wk (by repeat (first | exact .h | exact .q | apply At.t)) (by rfl), ?_⟩)), ?_⟩) | ((first | refine CW.cond rfl (fun hc => ?_) (fun hc => ?_) | refine SQ.gsplit rfl (fun hc => ?_) (fun hc => ?_)) <;> try (exfalso; simp_all; done))))
    all_goals first | exact CW.ret (fin_ret rfl pk_ ⟨⟨_, rfl⟩, rfl⟩) | skip
    all_goals rw [h8]
    all_goals (refine G tt_ok pk55 ?_; repeat (refine G1 tt_ok pk55 ?_; intro _))
    all_goals (refine ka rfl rfl (entry101 β m g a s _) ?_; rintro _ _ ⟨⟨x, ok, rfl, hok⟩, rfl⟩; refine w_ ?_)
    all_goals (refine G tt_ok pk55 ?_; repeat (refine G1 tt_ok pk55 ?_; intro _))
    all_goals cases ok
    all_goals first | ((refine G tt_ok pk55 ?_; repeat (refine G1 tt_ok pk55 ?_; intro _)); exact CW.ret (fin_ret rfl pk_ ⟨⟨_, rfl⟩, rfl⟩)) | skip
    all_goals obtain ⟨A, rfl, hA⟩ := hok rfl
    all_goals (refine G tt_ok pk55 ?_; repeat (refine G1 tt_ok pk55 ?_; intro _))
    all_goals refine ke rfl rfl (put102 β m g hA _) ?_
    all_goals (refine G tt_ok pk55 ?_; repeat (refine G1 tt_ok pk55 ?_; intro _))
    all_goals exact CW.ret (fin_ret rfl pk_ ⟨⟨_, rfl⟩, rfl⟩)
end Go.Proofs.YthhfoppaaehepaaGreatDoor.Sl
namespace Go.Proofs.YthhfoppaaehepaaGreatDoor.Sl
open Go Go.RowKit Go.Proofs
set_option linter.unusedVariables false
set_option linter.unusedSimpArgs false
attribute [local irreducible] CW Tri OW
set_option maxRecDepth 10000
@[reducible] def pk173 : List (Nat × Plan) := [(10, [(0, 0, []), (1, 0, []), (2, 0, []), (3, 0, []), (4, 0, []), (5, 0, []), (6, 0, []), (7, 0, []), (8, 0, []), (9, 0, []), (10, 0, []), (11, 0, []), (12, 0, []), (13, 0, []), (14, 0, []), (15, 0, []), (16, 0, [])])]
@[reducible] def pk69 : List (Nat × Plan) := [(9, [(0, 0, []), (1, 0, []), (2, 0, []), (3, 0, []), (4, 0, []), (5, 0, []), (6, 0, []), (7, 0, []), (8, 0, []), (9, 0, []), (10, 0, []), (11, 0, []), (12, 0, []), (13, 0, []), (14, 1, [])])]
set_option maxHeartbeats 4000000 in
theorem events141 (β : Base) (d : Dv) : Tri Tryz.prog β 141 [.agg #[.bool d.1, .int .i64 d.2.1, .int .i64 d.2.2]] [] (fun v L => (∃ e, v = .int .i64 e) ∧ L = []) := by
  refine Tri.intro tt_ok Tryz.func141 rfl rfl Tryz.ntmps141 rfl fun F => ?_
  obtain ⟨d0, d1, d2⟩ := d
  (refine G tt_ok [] ?_; repeat (refine G1 tt_ok [] ?_; intro _))
  rename_i c1
  refine CW.loop (α := Nat × Int) (fun x => x.1 ≤ 31) (fun x => [(4, .int .i64 x.1), (3, .int .i64 x.2), (1, .pointer (some ⟨c1, 0, none⟩))]) (fun x => [pt c1 [.bool d0, .int .i64 d1, .int .i64 d2]]) (fun x => 31 - x.1) (0, 2) (by simp) ⟨rfl, rfl, rfl, trivial⟩ pk_ ?_
  rintro ⟨k, x⟩ hk
  simp only at hk ⊢
  (refine G tt_ok [] ?_; repeat (refine G1 tt_ok [] ?_; intro _))
  have e : IntKind.i64.wrap ((k : Int) + 1) = ((k + 1 : Nat) : Int) := by rw [wrap_id (by omega) (by omega)]; omega
  cases decide ((k : Int) < d1) with
  | false =>
    (refine G tt_ok [] ?_; repeat (refine G1 tt_ok [] ?_; intro _))
    refine CW.exit ?_
    (refine G tt_ok [] ?_; repeat (refine G1 tt_ok [] ?_; intro _))
    exact CW.ret (fin_ret rfl (Ent.dropAll _) ⟨⟨_, rfl⟩, rfl⟩)
  | true =>
    (refine G tt_ok [] ?_; repeat (refine G1 tt_ok [] ?_; intro _))
    by_cases h : k < 31
    · rw [decide_eq_true (show (k : Int) < 31 by omega)]
      (refine G tt_ok [] ?_; repeat (refine G1 tt_ok [] ?_; intro _))
      exact ⟨(k + 1, _), by simp; omega, by simp; omega, ⟨by rw [← e]; rfl, rfl, rfl, trivial⟩, pk_⟩
    · rw [decide_eq_false (show ¬ (k : Int) < 31 by omega)]
      (refine G tt_ok [] ?_; repeat (refine G1 tt_ok [] ?_; intro _))
      refine CW.exit ?_
      (refine G tt_ok [] ?_; repeat (refine G1 tt_ok [] ?_; intro _))
      exact CW.ret (fin_ret rfl (Ent.dropAll _) ⟨⟨_, rfl⟩, rfl⟩)
def plOk (v : Value) : Prop := ∃ a e : Int, v = .tuple #[.int .i64 a, .int .i64 e] ∧ (e = 0 → ∃ A : Nat, a = (A : Int) ∧ A + 8 ≤ 4096)
set_option maxHeartbeats 4000000 in
theorem place167 (β : Base) (m g : Nat) (d : Dv) (ev : Int) : Tri Tryz.prog β 167 [.agg #[.bool d.1, .int .i64 d.2.1, .int .i64 d.2.2], .pointer (some ⟨m, 0, none⟩), .int .i64 ev] [dmA m g] (fun v L => plOk v ∧ L = [dmA m g]) := by
  refine Tri.intro tt_ok Tryz.func167 rfl rfl Tryz.ntmps167 rfl fun F => ?_
  obtain ⟨d0, d1, d2⟩ := d
  refine CW.open_ fun B => CW.pure_ fun hB => ?_
  (refine G tt_ok [] ?_; repeat (refine G1 tt_ok [] ?_; intro _))
  cases d0 with
  | false =>
    (refine G tt_ok [] ?_; repeat (refine G1 tt_ok [] ?_; intro _))
    exact CW.ret (fin_ret rfl (Ent.trans pk_ (dm_close hB)) ⟨⟨_, _, rfl, fun h => by cases h⟩, rfl⟩)
  | true =>
    (refine G tt_ok [] ?_; repeat (refine G1 tt_ok [] ?_; intro _))
    cases decide (ev < 0) with
    | true =>
      (refine G tt_ok [] ?_; repeat (refine G1 tt_ok [] ?_; intro _))
      exact CW.ret (fin_ret rfl (Ent.trans pk_ (dm_close hB)) ⟨⟨_, _, rfl, fun h => by cases h⟩, rfl⟩)
    | false =>
      (refine G tt_ok [] ?_; repeat (refine G1 tt_ok [] ?_; intro _))
      (refine ka rfl rfl (events141 β (true, d1, d2)) ?_; rintro _ _ ⟨⟨n, rfl⟩, rfl⟩; refine w_ ?_)
      (refine G tt_ok [] ?_; repeat (refine G1 tt_ok [] ?_; intro _))
      cases decide (ev ≥ n) with
      | true =>
        (refine G tt_ok [] ?_; repeat (refine G1 tt_ok [] ?_; intro _))
        exact CW.ret (fin_ret rfl (Ent.trans pk_ (dm_close hB)) ⟨⟨_, _, rfl, fun h => by cases h⟩, rfl⟩)
      | false =>
        (refine G tt_ok [] ?_; repeat (refine G1 tt_ok [] ?_; intro _))
        generalize IntKind.i64.wrap (d2 + IntKind.i64.wrap (8 * ev)) = x
        by_cases h1 : x < 0
        · rw [decide_eq_true h1]
          (refine G tt_ok [] ?_; repeat (refine G1 tt_ok [] ?_; intro _))
          exact CW.ret (fin_ret rfl (Ent.trans pk_ (dm_close hB)) ⟨⟨_, _, rfl, fun h => by cases h⟩, rfl⟩)
        · rw [decide_eq_false h1]
          (refine G tt_ok [] ?_; repeat (refine G1 tt_ok [] ?_; intro _))
          rw [show IntKind.i64.wrap (((4096 : Nat) : Int) - 8) = 4088 from rfl]
          by_cases h2 : x > 4088
          · rw [decide_eq_true h2]
            (refine G tt_ok [] ?_; repeat (refine G1 tt_ok [] ?_; intro _))
            exact CW.ret (fin_ret rfl (Ent.trans pk_ (dm_close hB)) ⟨⟨_, _, rfl, fun h => by cases h⟩, rfl⟩)
          · rw [decide_eq_false h2]
            (refine G tt_ok [] ?_; repeat (refine G1 tt_ok [] ?_; intro _))
            exact CW.ret (fin_ret rfl (Ent.trans pk_ (dm_close hB)) ⟨⟨_, _, rfl, fun _ => ⟨x.toNat, by omega, by omega⟩⟩, rfl⟩)
set_option maxHeartbeats 4000000 in
theorem route143 (β : Base) (m g : Nat) (d : Dv) (ev : Int) : Tri Tryz.prog β 143 [.agg #[.bool d.1, .int .i64 d.2.1, .int .i64 d.2.2], .pointer (some ⟨m, 0, none⟩), .int .i64 ev] [dmA m g]
    (fun v L => (∃ (r : Rt) (e : Int), v = .tuple #[.agg #[.int .i64 r.1, .int .i64 r.2.1, .bool r.2.2], .int .i64 e]) ∧ L = [dmA m g]) := by
  refine Tri.intro tt_ok Tryz.func143 rfl rfl Tryz.ntmps143 rfl fun F => ?_
  have hT := place167 β m g d ev
  obtain ⟨d0, d1, d2⟩ := d
  (refine G tt_ok [] ?_; repeat (refine G1 tt_ok [] ?_; intro _))
  (refine ka rfl rfl (hT) ?_; rintro _ _ ⟨⟨a, e, rfl, hok⟩, rfl⟩; refine w_ ?_)
  (refine G tt_ok [] ?_; repeat (refine G1 tt_ok [] ?_; intro _))
  by_cases he : e = 0
  · obtain ⟨A, rfl, hA⟩ := hok he
    subst he
    (refine G tt_ok [] ?_; repeat (refine G1 tt_ok [] ?_; intro _))
    (refine ka rfl rfl (get165 β m g hA) ?_; rintro _ _ ⟨⟨z, b, rfl⟩, rfl⟩; refine w_ ?_)
    (refine G tt_ok [] ?_; repeat (refine G1 tt_ok [] ?_; intro _))
    cases b with
    | false =>
      (refine G tt_ok [] ?_; repeat (refine G1 tt_ok [] ?_; intro _))
      exact CW.ret (fin_cells [_, _] ⟨(by first | exact ⟨_, _, _, _, 0, rfl, rfl, rfl, rfl⟩ | exact ⟨_, _, _, _, 1, rfl, rfl, rfl, rfl⟩ | exact ⟨_, _, _, _, 2, rfl, rfl, rfl, rfl⟩ | exact ⟨_, _, _, _, 3, rfl, rfl, rfl, rfl⟩ | exact ⟨_, _, _, _, 4, rfl, rfl, rfl, rfl⟩ | exact ⟨_, _, _, _, 5, rfl, rfl, rfl, rfl⟩ | exact ⟨_, _, _, _, 6, rfl, rfl, rfl, rfl⟩ | exact ⟨_, _, _, _, 7, rfl, rfl, rfl, rfl⟩ | exact ⟨_, _, _, _, 8, rfl, rfl, rfl, rfl⟩ | exact ⟨_, _, _, _, 9, rfl, rfl, rfl, rfl⟩ | exact ⟨_, _, _, _, 10, rfl, rfl, rfl, rfl⟩ | exact ⟨_, _, _, _, 11, rfl, rfl, rfl, rfl⟩ | exact ⟨_, _, _, _, 12, rfl, rfl, rfl, rfl⟩ | exact ⟨_, _, _, _, 13, rfl, rfl, rfl, rfl⟩ | exact ⟨_, _, _, _, 14, rfl, rfl, rfl, rfl⟩ | exact ⟨_, _, _, _, 15, rfl, rfl, rfl, rfl⟩ | exact ⟨_, _, _, _, 16, rfl, rfl, rfl, rfl⟩ | exact ⟨_, _, _, _, 17, rfl, rfl, rfl, rfl⟩ | exact ⟨_, _, _, _, 18, rfl, rfl, rfl, rfl⟩ | exact ⟨_, _, _, _, 19, rfl, rfl, rfl, rfl⟩ | exact ⟨_, _, _, _, 20, rfl, rfl, rfl, rfl⟩ | exact ⟨_, _, _, _, 21, rfl, rfl, rfl, rfl⟩ | exact ⟨_, _, _, _, 22, rfl, rfl, rfl, rfl⟩ | exact ⟨_, _, _, _, 23, rfl, rfl, rfl, rfl⟩), rfl, trivial⟩ pk_ ⟨⟨(0, 0, false), _, rfl⟩, rfl⟩)
    | true =>
      (refine G tt_ok [] ?_; repeat (refine G1 tt_ok [] ?_; intro _))
      exact CW.ret (fin_cells [_, _] ⟨(by first | exact ⟨_, _, _, _, 0, rfl, rfl, rfl, rfl⟩ | exact ⟨_, _, _, _, 1, rfl, rfl, rfl, rfl⟩ | exact ⟨_, _, _, _, 2, rfl, rfl, rfl, rfl⟩ | exact ⟨_, _, _, _, 3, rfl, rfl, rfl, rfl⟩ | exact ⟨_, _, _, _, 4, rfl, rfl, rfl, rfl⟩ | exact ⟨_, _, _, _, 5, rfl, rfl, rfl, rfl⟩ | exact ⟨_, _, _, _, 6, rfl, rfl, rfl, rfl⟩ | exact ⟨_, _, _, _, 7, rfl, rfl, rfl, rfl⟩ | exact ⟨_, _, _, _, 8, rfl, rfl, rfl, rfl⟩ | exact ⟨_, _, _, _, 9, rfl, rfl, rfl, rfl⟩ | exact ⟨_, _, _, _, 10, rfl, rfl, rfl, rfl⟩ | exact ⟨_, _, _, _, 11, rfl, rfl, rfl, rfl⟩ | exact ⟨_, _, _, _, 12, rfl, rfl, rfl, rfl⟩ | exact ⟨_, _, _, _, 13, rfl, rfl, rfl, rfl⟩ | exact ⟨_, _, _, _, 14, rfl, rfl, rfl, rfl⟩ | exact ⟨_, _, _, _, 15, rfl, rfl, rfl, rfl⟩ | exact ⟨_, _, _, _, 16, rfl, rfl, rfl, rfl⟩ | exact ⟨_, _, _, _, 17, rfl, rfl, rfl, rfl⟩ | exact ⟨_, _, _, _, 18, rfl, rfl, rfl, rfl⟩ | exact ⟨_, _, _, _, 19, rfl, rfl, rfl, rfl⟩ | exact ⟨_, _, _, _, 20, rfl, rfl, rfl, rfl⟩ | exact ⟨_, _, _, _, 21, rfl, rfl, rfl, rfl⟩ | exact ⟨_, _, _, _, 22, rfl, rfl, rfl, rfl⟩ | exact ⟨_, _, _, _, 23, rfl, rfl, rfl, rfl⟩), rfl, trivial⟩ pk_ ⟨⟨(_, _, true), _, rfl⟩, rfl⟩)
  · rw [show (e != 0) = true by simp [he]]
    (refine G tt_ok [] ?_; repeat (refine G1 tt_ok [] ?_; intro _))
    exact CW.ret (fin_cells [_, _] ⟨(by first | exact ⟨_, _, _, _, 0, rfl, rfl, rfl, rfl⟩ | exact ⟨_, _, _, _, 1, rfl, rfl, rfl, rfl⟩ | exact ⟨_, _, _, _, 2, rfl, rfl, rfl, rfl⟩ | exact ⟨_, _, _, _, 3, rfl, rfl, rfl, rfl⟩ | exact ⟨_, _, _, _, 4, rfl, rfl, rfl, rfl⟩ | exact ⟨_, _, _, _, 5, rfl, rfl, rfl, rfl⟩ | exact ⟨_, _, _, _, 6, rfl, rfl, rfl, rfl⟩ | exact ⟨_, _, _, _, 7, rfl, rfl, rfl, rfl⟩ | exact ⟨_, _, _, _, 8, rfl, rfl, rfl, rfl⟩ | exact ⟨_, _, _, _, 9, rfl, rfl, rfl, rfl⟩ | exact ⟨_, _, _, _, 10, rfl, rfl, rfl, rfl⟩ | exact ⟨_, _, _, _, 11, rfl, rfl, rfl, rfl⟩ | exact ⟨_, _, _, _, 12, rfl, rfl, rfl, rfl⟩ | exact ⟨_, _, _, _, 13, rfl, rfl, rfl, rfl⟩ | exact ⟨_, _, _, _, 14, rfl, rfl, rfl, rfl⟩ | exact ⟨_, _, _, _, 15, rfl, rfl, rfl, rfl⟩ | exact ⟨_, _, _, _, 16, rfl, rfl, rfl, rfl⟩ | exact ⟨_, _, _, _, 17, rfl, rfl, rfl, rfl⟩ | exact ⟨_, _, _, _, 18, rfl, rfl, rfl, rfl⟩ | exact ⟨_, _, _, _, 19, rfl, rfl, rfl, rfl⟩ | exact ⟨_, _, _, _, 20, rfl, rfl, rfl, rfl⟩ | exact ⟨_, _, _, _, 21, rfl, rfl, rfl, rfl⟩ | exact ⟨_, _, _, _, 22, rfl, rfl, rfl, rfl⟩ | exact ⟨_, _, _, _, 23, rfl, rfl, rfl, rfl⟩), rfl, trivial⟩ pk_ ⟨⟨(0, 0, false), _, rfl⟩, rfl⟩)
set_option maxHeartbeats 4000000 in
theorem setRoute150 (β : Base) (m g : Nat) (d : Dv) (ev : Int) (r : Rt) : Tri Tryz.prog β 150 [.agg #[.bool d.1, .int .i64 d.2.1, .int .i64 d.2.2], .pointer (some ⟨m, 0, none⟩), .int .i64 ev, .agg #[.int .i64 r.1, .int .i64 r.2.1, .bool r.2.2]] [dmA m g]
    (fun v L => (∃ e, v = .int .i64 e) ∧ L = [dmA m g]) := by
  refine Tri.intro tt_ok Tryz.func150 rfl rfl Tryz.ntmps150 rfl fun F => ?_
  have hT := place167 β m g d ev
  obtain ⟨d0, d1, d2⟩ := d
  obtain ⟨r0, r1, r2⟩ := r
  (refine G tt_ok [] ?_; repeat (refine G1 tt_ok [] ?_; intro _))
  (refine ka rfl rfl (hT) ?_; rintro _ _ ⟨⟨a, e, rfl, hok⟩, rfl⟩; refine w_ ?_)
  (refine G tt_ok [] ?_; repeat (refine G1 tt_ok [] ?_; intro _))
  by_cases he : e = 0
  · obtain ⟨A, rfl, hA⟩ := hok he
    subst he
    (refine G tt_ok [] ?_; repeat (refine G1 tt_ok [] ?_; intro _))
    cases r2 with
    | false =>
      (refine G tt_ok [] ?_; repeat (refine G1 tt_ok [] ?_; intro _))
      refine ke rfl rfl (put102 β m g hA 0) ?_
      (refine G tt_ok [] ?_; repeat (refine G1 tt_ok [] ?_; intro _))
      exact CW.ret (fin_ret rfl pk_ ⟨⟨_, rfl⟩, rfl⟩)
    | true =>
      (repeat' (first | refine CW.seq ?_ | refine CW.region tt_ok rfl ?_ | refine CW.block ?_ | refine CW.skip ?_ | refine SQ.nil ?_ | refine SQ.pures1 tt_ok rfl ?_ | refine SQ.pure1 tt_ok rfl ?_ | refine SQ.new _ _ rfl rfl (fun _ => ?_) | refine SQ.ldA tt_ok rfl rfl (by repeat (first | exact .h | exact .q | apply At.t)) (by rfl) ?_ | refine SQ.stA tt_ok rfl rfl (by repeat (first | apply Up.h | apply Up.t)) (by rfl) (by rfl) (by exact trivial) ?_ | refine CW.cond_tt rfl ?_ | refine CW.cond_ff rfl ?_ | (refine SQ.callA rfl rfl (put102 β m g hA _) (by repeat (first | exact .n | exact Rm.h | exact Rm.of own_row | exact Rm.of row_close0 | apply Tk.c | apply Rm.t)) ?_; rintro _ _ ⟨rfl, rfl⟩; refine ⟨(by exact trivial), ?_⟩) | ((first | refine CW.cond rfl (fun hc => ?_) (fun hc => ?_) | refine SQ.gsplit rfl (fun hc => ?_) (fun hc => ?_)) <;> try (exfalso; simp_all; done))))
      all_goals exact CW.ret (fin_ret rfl pk_ ⟨⟨_, rfl⟩, rfl⟩)
  · rw [show (e != 0) = true by simp [he]]
    (refine G tt_ok [] ?_; repeat (refine G1 tt_ok [] ?_; intro _))
    exact CW.ret (fin_ret rfl pk_ ⟨⟨_, rfl⟩, rfl⟩)
set_option maxHeartbeats 4000000 in
theorem target148 (β : Base) (m g : Nat) (a s c : Int) : Tri Tryz.prog β 148 [.pointer (some ⟨m, 0, none⟩), .agg #[.int .i64 a, .int .i64 s], .int .i64 c] [dmA m g]
    (fun v L => (∃ (t : Nat) (b : Bool) (e : Int), v = .tuple #[.int .i64 t, .bool b, .int .i64 e]) ∧ L = [dmA m g]) := by
  refine Tri.intro tt_ok Tryz.func148 rfl rfl Tryz.ntmps148 rfl fun F => ?_
  (refine G tt_ok [] ?_; repeat (refine G1 tt_ok [] ?_; intro _))
  (refine ka rfl rfl (entry101 β m g a s c) ?_; rintro _ _ ⟨⟨x, ok, rfl, hok⟩, rfl⟩; refine w_ ?_)
  (refine G tt_ok [] ?_; repeat (refine G1 tt_ok [] ?_; intro _))
  cases ok with
  | false =>
    (refine G tt_ok [] ?_; repeat (refine G1 tt_ok [] ?_; intro _))
    exact CW.ret (fin_ret rfl pk_ ⟨⟨0, _, _, rfl⟩, rfl⟩)
  | true =>
    obtain ⟨A, rfl, hA⟩ := hok rfl
    (refine G tt_ok [] ?_; repeat (refine G1 tt_ok [] ?_; intro _))
    (refine ka rfl rfl (get165 β m g hA) ?_; rintro _ _ ⟨⟨z, b, rfl⟩, rfl⟩; refine w_ ?_)
    (refine G tt_ok [] ?_; repeat (refine G1 tt_ok [] ?_; intro _))
    cases b with
    | false =>
      (refine G tt_ok [] ?_; repeat (refine G1 tt_ok [] ?_; intro _))
      exact CW.ret (fin_ret rfl pk_ ⟨⟨0, _, _, rfl⟩, rfl⟩)
    | true =>
      (refine G tt_ok [] ?_; repeat (refine G1 tt_ok [] ?_; intro _))
      rw [show IntKind.i64.wrap ((z : Int).tmod 65536) = ((z % 65536 : Nat) : Int) by rw [Int.tmod_eq_emod_of_nonneg (by omega), wrap_id (by omega) (by omega)]; omega]
      exact CW.ret (fin_ret rfl pk_ ⟨⟨_, _, _, rfl⟩, rfl⟩)
set_option maxHeartbeats 4000000 in
theorem setTarget113 (β : Base) (m g : Nat) (a s c t : Int) (is : Bool) : Tri Tryz.prog β 113 [.pointer (some ⟨m, 0, none⟩), .agg #[.int .i64 a, .int .i64 s], .int .i64 c, .int .i64 t, .bool is] [dmA m g]
    (fun v L => (∃ e, v = .int .i64 e) ∧ L = [dmA m g]) := by
  refine Tri.intro tt_ok Tryz.func113 rfl rfl Tryz.ntmps113 rfl fun F => ?_
  (repeat' (first | refine CW.seq ?_ | refine CW.region tt_ok rfl ?_ | refine CW.block ?_ | refine CW.skip ?_ | refine SQ.nil ?_ | refine SQ.pures1 tt_ok rfl ?_ | refine SQ.pure1 tt_ok rfl ?_ | refine SQ.new _ _ rfl rfl (fun _ => ?_) | refine SQ.ldA tt_ok rfl rfl (by repeat (first | exact .h | exact .q | apply At.t)) (by rfl) ?_ | refine SQ.stA tt_ok rfl rfl (by repeat (first | apply Up.h | apply Up.t)) (by rfl) (by rfl) (by exact trivial) ?_ | refine CW.cond_tt rfl ?_ | refine CW.cond_ff rfl ?_ | ((first | refine CW.cond rfl (fun hc => ?_) (fun hc => ?_) | refine SQ.gsplit rfl (fun hc => ?_) (fun hc => ?_)) <;> try (exfalso; simp_all; done))))
  all_goals first | exact CW.ret (fin_ret rfl pk_ ⟨⟨_, rfl⟩, rfl⟩) | skip
  all_goals (refine ka rfl rfl (entry101 β m g a s c) ?_; rintro _ _ ⟨⟨x, ok, rfl, hok⟩, rfl⟩; refine w_ ?_)
  all_goals (refine G tt_ok [] ?_; repeat (refine G1 tt_ok [] ?_; intro _))
  all_goals cases ok
  all_goals first | ((refine G tt_ok [] ?_; repeat (refine G1 tt_ok [] ?_; intro _)); exact CW.ret (fin_ret rfl pk_ ⟨⟨_, rfl⟩, rfl⟩)) | skip
  all_goals obtain ⟨A, rfl, hA⟩ := hok rfl
  all_goals (refine G tt_ok [] ?_; repeat (refine G1 tt_ok [] ?_; intro _))
  all_goals cases is
  all_goals (refine G tt_ok [] ?_; repeat (refine G1 tt_ok [] ?_; intro _))
  all_goals refine ke rfl rfl (put102 β m g hA _) ?_
  all_goals (refine G tt_ok [] ?_; repeat (refine G1 tt_ok [] ?_; intro _))
  all_goals exact CW.ret (fin_ret rfl pk_ ⟨⟨_, rfl⟩, rfl⟩)
set_option maxHeartbeats 4000000 in
theorem may125 (β : Base) {s : Int} (h0 : 0 ≤ s) (h1 : s ≤ 4096) (o : Int) : Tri Tryz.prog β 125 [.int .i64 s, .int .i64 o, .int .i64 8] [] (fun v L => (∃ e : Int, v = .int .i64 e ∧ (e = 0 → 0 ≤ o ∧ o ≤ s - 8)) ∧ L = []) := by
  refine Tri.intro tt_ok Tryz.func125 rfl rfl Tryz.ntmps125 rfl fun F => ?_
  (refine G tt_ok [] ?_; repeat (refine G1 tt_ok [] ?_; intro _))
  cases (o.tmod 8 != 0) with
  | true =>
    (refine G tt_ok [] ?_; repeat (refine G1 tt_ok [] ?_; intro _))
    exact CW.ret (fin_ret rfl pk_ ⟨⟨_, rfl, fun h => by cases h⟩, rfl⟩)
  | false =>
    (refine G tt_ok [] ?_; repeat (refine G1 tt_ok [] ?_; intro _))
    by_cases h2 : o < 0
    · rw [decide_eq_true h2]
      (refine G tt_ok [] ?_; repeat (refine G1 tt_ok [] ?_; intro _))
      exact CW.ret (fin_ret rfl pk_ ⟨⟨_, rfl, fun h => by cases h⟩, rfl⟩)
    · rw [decide_eq_false h2]
      (refine G tt_ok [] ?_; repeat (refine G1 tt_ok [] ?_; intro _))
      rw [wrap_id (x := s - 8) (by omega) (by omega)]
      by_cases h3 : o > s - 8
      · rw [decide_eq_true h3]
        (refine G tt_ok [] ?_; repeat (refine G1 tt_ok [] ?_; intro _))
        exact CW.ret (fin_ret rfl pk_ ⟨⟨_, rfl, fun h => by cases h⟩, rfl⟩)
      · rw [decide_eq_false h3]
        (refine G tt_ok [] ?_; repeat (refine G1 tt_ok [] ?_; intro _))
        exact CW.ret (fin_ret rfl pk_ ⟨⟨_, rfl, fun _ => ⟨by omega, by omega⟩⟩, rfl⟩)
set_option maxHeartbeats 4000000 in
theorem read173 (β : Base) (m g : Nat) (a s o : Int) : Tri Tryz.prog β 173 [.pointer (some ⟨m, 0, none⟩), .agg #[.int .i64 a, .int .i64 s], .int .i64 o, .int .i64 8] [dmA m g] (fun v L => (∃ (n : Nat) (e : Int), v = .tuple #[.int .u64 n, .int .i64 e]) ∧ L = [dmA m g]) := by
  refine Tri.intro tt_ok Tryz.func173 rfl rfl Tryz.ntmps173 rfl fun F => ?_
  (refine G tt_ok pk173 ?_; repeat (refine G1 tt_ok pk173 ?_; intro _))
  rename_i c5
  refine ke rfl rfl (holds100 β m g a s) ?_
  cases hh : holdsV 4096 a s with
  | false =>
    (refine G tt_ok pk173 ?_; repeat (refine G1 tt_ok pk173 ?_; intro _))
    exact CW.ret (fin_ret rfl pk_ ⟨⟨0, _, rfl⟩, rfl⟩)
  | true =>
    unfold holdsV at hh
    simp only [Bool.and_eq_true, decide_eq_true_eq] at hh
    (refine G tt_ok pk173 ?_; repeat (refine G1 tt_ok pk173 ?_; intro _))
    (refine ka rfl rfl (may125 β (s := s) (by omega) (by omega) o) ?_; rintro _ _ ⟨⟨e, rfl, hok⟩, rfl⟩; refine w_ ?_)
    (refine G tt_ok pk173 ?_; repeat (refine G1 tt_ok pk173 ?_; intro _))
    by_cases he : e = 0
    · have hb := hok he
      subst he
      obtain ⟨A, hA⟩ : ∃ A : Nat, a + o = (A : Int) := ⟨(a + o).toNat, by omega⟩
      (refine G tt_ok pk173 ?_; repeat (refine G1 tt_ok pk173 ?_; intro _))
      refine CW.ent (L' := dmA m g :: [pt c5 [.int .i64 a, .int .i64 s]]) pk_ ?_
      refine CW.open_ fun B => CW.pure_ fun hB => ?_
      refine CW.loop (α := Nat × Nat) (fun x => x.1 ≤ 8) (fun x => [(12, .int .i64 (7 - (x.1 : Int))), (11, .int .u64 x.2), (0, .pointer (some ⟨m, 0, none⟩)), (5, .pointer (some ⟨c5, 0, none⟩)), (2, .int .i64 o)])
        (fun x => [pt c5 [.int .i64 a, .int .i64 s], pt m [.slice (some ⟨g, 0, none⟩) 4096 4096], pt g (bys B)]) (fun x => 8 - x.1) (0, 0) (by simp) ⟨rfl, rfl, rfl, rfl, rfl, trivial⟩ pk_ ?_
      rintro ⟨i, x⟩ hi
      simp only at hi ⊢
      (refine G tt_ok pk173 ?_; repeat (refine G1 tt_ok pk173 ?_; intro _))
      by_cases hlt : i < 8
      · rw [decide_eq_true (show (7 : Int) - (i : Int) ≥ 0 by omega)]
        (refine G tt_ok pk173 ?_; repeat (refine G1 tt_ok pk173 ?_; intro _))
        rw [show IntKind.i64.wrap (IntKind.i64.wrap (a + o) + (7 - (i : Int))) = ((A + (7 - i) : Nat) : Int) by rw [wrap_id (x := a + o) (by omega) (by omega), wrap_id (by omega) (by omega)]; omega]
        refine SQ.idx tt_ok rfl rfl (A + (7 - i)) rfl (by omega) (o' := 0 + (A + (7 - i)) * 1) rfl ?_
        (refine SQ.ldA tt_ok rfl rfl (by repeat (first | exact .h | exact .q | apply At.t)) (bys_at (getD_some (show A + (7 - i) < B.length by omega))) ?_)
        (refine G tt_ok pk173 ?_; repeat (refine G1 tt_ok pk173 ?_; intro _))
        obtain ⟨z, hz⟩ := u64_nat (IntKind.u64.wrap ((x : Int) * 256) + IntKind.u64.wrap ((B.getD (A + (7 - i)) 0 : Nat) : Int))
        rw [hz]
        have e : IntKind.i64.wrap ((7 : Int) - (i : Int) - 1) = 7 - ((i + 1 : Nat) : Int) := by rw [wrap_id (by omega) (by omega)]; omega
        exact ⟨(i + 1, z), by simp; omega, by simp; omega, ⟨by rw [← e]; rfl, rfl, rfl, rfl, rfl, trivial⟩, pk_⟩
      · rw [decide_eq_false (show ¬ (7 : Int) - (i : Int) ≥ 0 by omega)]
        (refine G tt_ok pk173 ?_; repeat (refine G1 tt_ok pk173 ?_; intro _))
        refine CW.exit ?_
        (refine G tt_ok pk173 ?_; repeat (refine G1 tt_ok pk173 ?_; intro _))
        exact CW.ret (fin_ret rfl (Ent.trans pk_ (dm_close hB)) ⟨⟨_, _, rfl⟩, rfl⟩)
    · rw [show (e != 0) = true by simp [he]]
      (refine G tt_ok pk173 ?_; repeat (refine G1 tt_ok pk173 ?_; intro _))
      exact CW.ret (fin_ret rfl pk_ ⟨⟨0, _, rfl⟩, rfl⟩)
set_option maxHeartbeats 4000000 in
theorem write69 (β : Base) (m g : Nat) (a s o v : Int) : Tri Tryz.prog β 69 [.pointer (some ⟨m, 0, none⟩), .agg #[.int .i64 a, .int .i64 s], .int .i64 o, .int .i64 8, .int .u64 v] [dmA m g] (fun v L => (∃ (e : Int), v = .int .i64 e) ∧ L = [dmA m g]) := by
  refine Tri.intro tt_ok Tryz.func69 rfl rfl Tryz.ntmps69 rfl fun F => ?_
  (refine G tt_ok pk69 ?_; repeat (refine G1 tt_ok pk69 ?_; intro _))
  rename_i c6
  refine ke rfl rfl (holds100 β m g a s) ?_
  cases hh : holdsV 4096 a s with
  | false =>
    (refine G tt_ok pk69 ?_; repeat (refine G1 tt_ok pk69 ?_; intro _))
    exact CW.ret (fin_ret rfl pk_ ⟨⟨_, rfl⟩, rfl⟩)
  | true =>
    unfold holdsV at hh
    simp only [Bool.and_eq_true, decide_eq_true_eq] at hh
    (refine G tt_ok pk69 ?_; repeat (refine G1 tt_ok pk69 ?_; intro _))
    (refine ka rfl rfl (may125 β (s := s) (by omega) (by omega) o) ?_; rintro _ _ ⟨⟨e, rfl, hok⟩, rfl⟩; refine w_ ?_)
    (refine G tt_ok pk69 ?_; repeat (refine G1 tt_ok pk69 ?_; intro _))
    by_cases he : e = 0
    · have hb := hok he
      subst he
      obtain ⟨A, hA⟩ : ∃ A : Nat, a + o = (A : Int) := ⟨(a + o).toNat, by omega⟩
      (refine G tt_ok pk69 ?_; repeat (refine G1 tt_ok pk69 ?_; intro _))
      refine CW.ent (L' := dmA m g :: [pt c6 [.int .i64 a, .int .i64 s]]) pk_ ?_
      refine CW.open_ fun B => CW.pure_ fun hB => ?_
      refine CW.loop (α := Nat × Int × List Nat) (fun x => x.1 ≤ 8 ∧ x.2.2.length = 4096) (fun x => [(12, .int .i64 x.1), (4, .int .u64 x.2.1), (0, .pointer (some ⟨m, 0, none⟩)), (6, .pointer (some ⟨c6, 0, none⟩)), (2, .int .i64 o), (3, .int .i64 8)])
        (fun x => [pt c6 [.int .i64 a, .int .i64 s], pt m [.slice (some ⟨g, 0, none⟩) 4096 4096], pt g (bys x.2.2)]) (fun x => 8 - x.1) (0, v, B) ⟨by simp, hB⟩ ⟨rfl, rfl, rfl, rfl, rfl, rfl, trivial⟩ pk_ ?_
      rintro ⟨i, x, C⟩ ⟨hi, hC⟩
      simp only at hi hC ⊢
      (refine G tt_ok pk69 ?_; repeat (refine G1 tt_ok pk69 ?_; intro _))
      by_cases hlt : i < 8
      · rw [decide_eq_true (show (i : Int) < 8 by omega)]
        (refine G tt_ok pk69 ?_; repeat (refine G1 tt_ok pk69 ?_; intro _))
        rw [show IntKind.i64.wrap (IntKind.i64.wrap (a + o) + (i : Int)) = ((A + i : Nat) : Int) by rw [wrap_id (x := a + o) (by omega) (by omega), wrap_id (by omega) (by omega)]; omega]
        refine SQ.idx tt_ok rfl rfl (A + i) rfl (by omega) (o' := 0 + (A + i) * 1) rfl ?_
        obtain ⟨z, hz⟩ := u8_nat (x.tmod 256)
        rw [hz]
        (refine SQ.stA tt_ok rfl rfl (by repeat (first | apply Up.h | apply Up.t)) (by rfl) (bys_wr (show A + i < C.length by omega) z) (by repeat (first | exact trivial | refine ⟨trivial, ?_⟩ | refine ⟨wk (by repeat (first | exact .h | exact .q | apply At.t)) (by rfl), ?_⟩)) ?_)
        (refine G tt_ok pk69 ?_; repeat (refine G1 tt_ok pk69 ?_; intro _))
        have e : IntKind.i64.wrap ((i : Int) + 1) = ((i + 1 : Nat) : Int) := by rw [wrap_id (by omega) (by omega)]; omega
        exact ⟨(i + 1, _, C.set (A + i) z), ⟨by simp; omega, by simp [hC]⟩, by simp; omega, ⟨by rw [← e]; rfl, rfl, rfl, rfl, rfl, rfl, trivial⟩, pk_⟩
      · rw [decide_eq_false (show ¬ (i : Int) < 8 by omega)]
        (refine G tt_ok pk69 ?_; repeat (refine G1 tt_ok pk69 ?_; intro _))
        refine CW.exit ?_
        (refine G tt_ok pk69 ?_; repeat (refine G1 tt_ok pk69 ?_; intro _))
        exact CW.ret (fin_ret rfl (Ent.trans pk_ (dm_close hC)) ⟨⟨_, rfl⟩, rfl⟩)
    · rw [show (e != 0) = true by simp [he]]
      (refine G tt_ok pk69 ?_; repeat (refine G1 tt_ok pk69 ?_; intro _))
      exact CW.ret (fin_ret rfl pk_ ⟨⟨_, rfl⟩, rfl⟩)
end Go.Proofs.YthhfoppaaehepaaGreatDoor.Sl
namespace Go.Proofs.YthhfoppaaehepaaGreatDoor.Sl
open Go Go.RowKit Go.Proofs
set_option linter.unusedVariables false
set_option linter.unusedSimpArgs false
attribute [local irreducible] CW Tri OW
set_option maxRecDepth 10000
@[reducible] def pk138 : List (Nat × Plan) := [(32, [(0, 0, []), (1, 0, []), (2, 0, []), (3, 0, []), (4, 0, []), (5, 0, [])])]
theorem op_rd {l : List Int} {k : Nat} {x : Int} (h : l[k]? = some x) : rdv ti23 (l.flatMap iC) (0 + k * 1) = some (.int .i64 x) :=
  rd_part (enc := iC) (sz := 1) (fun _ => rfl) h 0 (i := ti23) rfl (by decide) (by omega) (by decide)
set_option maxHeartbeats 4000000 in
theorem has162 (β : Base) (b : Nat) (l : List Int) (hl : l.length ≤ 100) (o : Int) : Tri Tryz.prog β 162 [.int .i64 o, .slice (some ⟨b, 0, none⟩) l.length l.length] [pt b (l.flatMap iC)] (fun v L => v = .bool (l.contains o) ∧ L = [pt b (l.flatMap iC)]) := by
  refine Tri.intro tt_ok Tryz.func162 rfl rfl Tryz.ntmps162 rfl fun F => ?_
  (refine G tt_ok [] ?_; repeat (refine G1 tt_ok [] ?_; intro _))
  refine CW.loop (α := Nat) (fun k => k ≤ l.length ∧ ∀ j x, j < k → l[j]? = some x → x ≠ o) (fun k => [(5, .int .i64 k), (0, .int .i64 o), (1, .slice (some ⟨b, 0, none⟩) l.length l.length)]) (fun k => [pt b (l.flatMap iC)]) (fun k => l.length - k) 0 ⟨by omega, fun j x hj => absurd hj (by omega)⟩ ⟨rfl, rfl, rfl, trivial⟩ pk_ ?_
  rintro k ⟨hk, hn⟩
  (refine G tt_ok [] ?_; repeat (refine G1 tt_ok [] ?_; intro _))
  by_cases hlt : k < l.length
  · rw [decide_eq_true (show (k : Int) < (l.length : Nat) by omega)]
    obtain ⟨x, hx⟩ : ∃ x, l[k]? = some x := ⟨_, List.getElem?_eq_getElem hlt⟩
    (refine G tt_ok [] ?_; repeat (refine G1 tt_ok [] ?_; intro _))
    refine SQ.idx tt_ok rfl rfl k rfl hlt (o' := 0 + k * 1) rfl ?_
    (refine SQ.ldA tt_ok rfl rfl (by repeat (first | exact .h | exact .q | apply At.t)) (op_rd hx) ?_)
    (refine G tt_ok [] ?_; repeat (refine G1 tt_ok [] ?_; intro _))
    by_cases he : x = o
    · rw [show (x == o) = true by simp [he]]
      (refine G tt_ok [] ?_; repeat (refine G1 tt_ok [] ?_; intro _))
      have hc : l.contains o = true := by simp only [List.contains_iff_mem]; rw [← he]; exact List.mem_of_getElem? hx
      rw [hc]
      exact CW.ret (fin_ret rfl pk_ ⟨rfl, rfl⟩)
    · rw [show (x == o) = false by simp [he]]
      (refine G tt_ok [] ?_; repeat (refine G1 tt_ok [] ?_; intro _))
      have e : IntKind.i64.wrap ((k : Int) + 1) = ((k + 1 : Nat) : Int) := by rw [wrap_id (by omega) (by omega)]; omega
      refine ⟨k + 1, ⟨by omega, fun j y hj hy => ?_⟩, by omega, ⟨by rw [← e]; rfl, rfl, rfl, trivial⟩, pk_⟩
      by_cases h : j = k
      · subst h; rw [hx] at hy; cases hy; exact he
      · exact hn j y (by omega) hy
  · rw [decide_eq_false (show ¬ (k : Int) < (l.length : Nat) by omega)]
    (refine G tt_ok [] ?_; repeat (refine G1 tt_ok [] ?_; intro _))
    refine CW.exit ?_
    (refine G tt_ok [] ?_; repeat (refine G1 tt_ok [] ?_; intro _))
    have hc : l.contains o = false := by
      rw [Bool.eq_false_iff]
      intro h
      rw [List.contains_iff_mem] at h
      obtain ⟨j, hj⟩ := List.getElem?_of_mem h
      exact hn j o (by have := (List.getElem?_eq_some_iff.1 hj).1; omega) hj rfl
    rw [hc]
    exact CW.ret (fin_ret rfl pk_ ⟨rfl, rfl⟩)
theorem one163 (β : Base) (v : Bool) : Tri Tryz.prog β 163 [.bool v] [] (fun u L => u = .int .i64 (if v then 1 else 0) ∧ L = []) := by
  refine Tri.intro tt_ok Tryz.func163 rfl rfl Tryz.ntmps163 rfl fun F => ?_
  cases v <;> (
    (refine G tt_ok [] ?_; repeat (refine G1 tt_ok [] ?_; intro _))
    exact CW.ret (fin_ret rfl pk_ ⟨rfl, rfl⟩))
theorem known139 (β : Base) (o : Int) : Tri Tryz.prog β 139 [.int .i64 o] [] (fun u L => (∃ b, u = .bool b) ∧ L = []) := by
  refine Tri.intro tt_ok Tryz.func139 rfl rfl Tryz.ntmps139 rfl fun F => ?_
  (refine G tt_ok [] ?_; repeat (refine G1 tt_ok [] ?_; intro _))
  (refine SQ.built tt_ok rfl rfl (fun _ => w_ ?_))
  (refine G tt_ok [] ?_; repeat (refine G1 tt_ok [] ?_; intro _))
  refine ke rfl rfl (has162 β _ ([1, 3, 4, 5, 8, 9, 10, 11, 12, 13, 14, 15] : List Int) (by decide) _) ?_
  (refine G tt_ok [] ?_; repeat (refine G1 tt_ok [] ?_; intro _))
  exact CW.ret (fin_ret rfl (Ent.dropAll _) ⟨⟨_, rfl⟩, rfl⟩)
/-- A field of a command: its word, from which bit on, how many bits, its number. -/
abbrev Fd := Nat × Nat × Nat × Int
@[reducible] def fdC (x : Fd) : List Value := [.int .i64 (x.1 : Int), .int .i64 (x.2.1 : Int), .int .i64 (x.2.2.1 : Int), .int .i64 x.2.2.2]
def fdOk (x : Fd) : Prop := x.1 < 4 ∧ x.2.1 < 64 ∧ x.2.2.1 < 64
def fdsV (op num tgt : Int) (v : Value) (L : List Atom) : Prop := ∃ (fs : List Fd) (q : Option Addr) (c : Nat) (ok : Bool), (fs.length ≤ 5 ∧ (∀ x ∈ fs, fdOk x) ∧ (op = 14 → (∃ x ∈ fs, x.2.2.2 = num) ∧ ∃ x ∈ fs, x.2.2.2 = tgt)) ∧ v = .tuple #[.slice q fs.length c, .bool ok] ∧ L = [rowA q fs.length (fs.flatMap fdC)]
set_option maxHeartbeats 8000000 in
theorem fields1 (β : Base) (dev ev num coll tgt b a : Int) (v : Bool) : Tri Tryz.prog β 138 [.agg #[.int .i64 1, .int .i64 dev, .int .i64 ev, .int .i64 num, .int .i64 coll, .int .i64 tgt, .int .i64 b, .int .i64 a, .bool v]] [] (fdsV 1 num tgt) := by
  refine Tri.intro tt_ok Tryz.func138 rfl rfl Tryz.ntmps138 rfl fun F => ?_
  refine CW.ent (own_nil 208 4) ?_
  (refine G tt_ok pk138 ?_; repeat (refine G1 tt_ok pk138 ?_; intro _))
  (refine SQ.built tt_ok rfl rfl (fun _ => w_ ?_))
  (refine G tt_ok pk138 ?_; repeat (refine G1 tt_ok pk138 ?_; intro _))
  refine ke rfl rfl (has162 β _ ([9, 13, 14, 5] : List Int) (by decide) _) ?_
  (refine G tt_ok pk138 ?_; repeat (refine G1 tt_ok pk138 ?_; intro _))
  (refine SQ.built tt_ok rfl rfl (fun _ => w_ ?_))
  (refine G tt_ok pk138 ?_; repeat (refine G1 tt_ok pk138 ?_; intro _))
  (refine SQ.appA tt_ok rfl rfl (by repeat (first | exact Rm.h | apply Rm.t)) (by repeat (first | exact .h | exact .q | apply At.t)) ([.int .i64 0, .int .i64 32, .int .i64 32, .int .i64 (dev)]) rfl rfl rfl (scal_eq rfl) (by omega) (by show (0 + 1) * 32 ≤ _; omega) (fun q1 c1 => w_ ?_))
  (refine G tt_ok pk138 ?_; repeat (refine G1 tt_ok pk138 ?_; intro _))
  (refine SQ.built tt_ok rfl rfl (fun _ => w_ ?_))
  (refine G tt_ok pk138 ?_; repeat (refine G1 tt_ok pk138 ?_; intro _))
  refine ke rfl rfl (has162 β _ ([10, 11, 1, 3, 4, 12, 15] : List Int) (by decide) _) ?_
  (refine G tt_ok pk138 ?_; repeat (refine G1 tt_ok pk138 ?_; intro _))
  (refine SQ.built tt_ok rfl rfl (fun _ => w_ ?_))
  (refine G tt_ok pk138 ?_; repeat (refine G1 tt_ok pk138 ?_; intro _))
  (refine SQ.appA tt_ok rfl rfl (by repeat (first | exact Rm.h | apply Rm.t)) (by repeat (first | exact .h | exact .q | apply At.t)) ([.int .i64 1, .int .i64 0, .int .i64 32, .int .i64 (ev)]) rfl rfl rfl (scal_eq rfl) (by omega) (by show (1 + 1) * 32 ≤ _; omega) (fun q2 c2 => w_ ?_))
  (refine G tt_ok pk138 ?_; repeat (refine G1 tt_ok pk138 ?_; intro _))
  (refine G tt_ok pk138 ?_; repeat (refine G1 tt_ok pk138 ?_; intro _))
  (refine G tt_ok pk138 ?_; repeat (refine G1 tt_ok pk138 ?_; intro _))
  (refine SQ.built tt_ok rfl rfl (fun _ => w_ ?_))
  (refine G tt_ok pk138 ?_; repeat (refine G1 tt_ok pk138 ?_; intro _))
  refine ke rfl rfl (has162 β _ ([9, 10, 11, 1, 13] : List Int) (by decide) _) ?_
  (refine G tt_ok pk138 ?_; repeat (refine G1 tt_ok pk138 ?_; intro _))
  (refine SQ.built tt_ok rfl rfl (fun _ => w_ ?_))
  (refine G tt_ok pk138 ?_; repeat (refine G1 tt_ok pk138 ?_; intro _))
  (refine SQ.appA tt_ok rfl rfl (by repeat (first | exact Rm.h | apply Rm.t)) (by repeat (first | exact .h | exact .q | apply At.t)) ([.int .i64 2, .int .i64 0, .int .i64 16, .int .i64 (coll)]) rfl rfl rfl (scal_eq rfl) (by omega) (by show (2 + 1) * 32 ≤ _; omega) (fun q3 c3 => w_ ?_))
  (refine G tt_ok pk138 ?_; repeat (refine G1 tt_ok pk138 ?_; intro _))
  (refine SQ.built tt_ok rfl rfl (fun _ => w_ ?_))
  (refine G tt_ok pk138 ?_; repeat (refine G1 tt_ok pk138 ?_; intro _))
  refine ke rfl rfl (has162 β _ ([9, 14, 5] : List Int) (by decide) _) ?_
  (refine G tt_ok pk138 ?_; repeat (refine G1 tt_ok pk138 ?_; intro _))
  (refine G tt_ok pk138 ?_; repeat (refine G1 tt_ok pk138 ?_; intro _))
  refine SQ.eqs tt_ok rfl rfl rfl (by kernel_rfl) (by kernel_rfl) ?_
  (refine G tt_ok pk138 ?_; repeat (refine G1 tt_ok pk138 ?_; intro _))
  exact CW.ret (fin_ret rfl (A := [rowA q3 3 (([(0, 32, 32, dev), (1, 0, 32, ev), (2, 0, 16, coll)] : List Fd).flatMap fdC)]) pk_ ⟨[(0, 32, 32, dev), (1, 0, 32, ev), (2, 0, 16, coll)], q3, c3, _, ⟨by simp, by simp [fdOk], fun h => absurd h (by decide)⟩, rfl, rfl⟩)
set_option maxHeartbeats 8000000 in
theorem fields3 (β : Base) (dev ev num coll tgt b a : Int) (v : Bool) : Tri Tryz.prog β 138 [.agg #[.int .i64 3, .int .i64 dev, .int .i64 ev, .int .i64 num, .int .i64 coll, .int .i64 tgt, .int .i64 b, .int .i64 a, .bool v]] [] (fdsV 3 num tgt) := by
  refine Tri.intro tt_ok Tryz.func138 rfl rfl Tryz.ntmps138 rfl fun F => ?_
  refine CW.ent (own_nil 208 4) ?_
  (refine G tt_ok pk138 ?_; repeat (refine G1 tt_ok pk138 ?_; intro _))
  (refine SQ.built tt_ok rfl rfl (fun _ => w_ ?_))
  (refine G tt_ok pk138 ?_; repeat (refine G1 tt_ok pk138 ?_; intro _))
  refine ke rfl rfl (has162 β _ ([9, 13, 14, 5] : List Int) (by decide) _) ?_
  (refine G tt_ok pk138 ?_; repeat (refine G1 tt_ok pk138 ?_; intro _))
  (refine SQ.built tt_ok rfl rfl (fun _ => w_ ?_))
  (refine G tt_ok pk138 ?_; repeat (refine G1 tt_ok pk138 ?_; intro _))
  (refine SQ.appA tt_ok rfl rfl (by repeat (first | exact Rm.h | apply Rm.t)) (by repeat (first | exact .h | exact .q | apply At.t)) ([.int .i64 0, .int .i64 32, .int .i64 32, .int .i64 (dev)]) rfl rfl rfl (scal_eq rfl) (by omega) (by show (0 + 1) * 32 ≤ _; omega) (fun q1 c1 => w_ ?_))
  (refine G tt_ok pk138 ?_; repeat (refine G1 tt_ok pk138 ?_; intro _))
  (refine SQ.built tt_ok rfl rfl (fun _ => w_ ?_))
  (refine G tt_ok pk138 ?_; repeat (refine G1 tt_ok pk138 ?_; intro _))
  refine ke rfl rfl (has162 β _ ([10, 11, 1, 3, 4, 12, 15] : List Int) (by decide) _) ?_
  (refine G tt_ok pk138 ?_; repeat (refine G1 tt_ok pk138 ?_; intro _))
  (refine SQ.built tt_ok rfl rfl (fun _ => w_ ?_))
  (refine G tt_ok pk138 ?_; repeat (refine G1 tt_ok pk138 ?_; intro _))
  (refine SQ.appA tt_ok rfl rfl (by repeat (first | exact Rm.h | apply Rm.t)) (by repeat (first | exact .h | exact .q | apply At.t)) ([.int .i64 1, .int .i64 0, .int .i64 32, .int .i64 (ev)]) rfl rfl rfl (scal_eq rfl) (by omega) (by show (1 + 1) * 32 ≤ _; omega) (fun q2 c2 => w_ ?_))
  (refine G tt_ok pk138 ?_; repeat (refine G1 tt_ok pk138 ?_; intro _))
  (refine G tt_ok pk138 ?_; repeat (refine G1 tt_ok pk138 ?_; intro _))
  (refine G tt_ok pk138 ?_; repeat (refine G1 tt_ok pk138 ?_; intro _))
  (refine SQ.built tt_ok rfl rfl (fun _ => w_ ?_))
  (refine G tt_ok pk138 ?_; repeat (refine G1 tt_ok pk138 ?_; intro _))
  refine ke rfl rfl (has162 β _ ([9, 10, 11, 1, 13] : List Int) (by decide) _) ?_
  (refine G tt_ok pk138 ?_; repeat (refine G1 tt_ok pk138 ?_; intro _))
  (refine SQ.built tt_ok rfl rfl (fun _ => w_ ?_))
  (refine G tt_ok pk138 ?_; repeat (refine G1 tt_ok pk138 ?_; intro _))
  refine ke rfl rfl (has162 β _ ([9, 14, 5] : List Int) (by decide) _) ?_
  (refine G tt_ok pk138 ?_; repeat (refine G1 tt_ok pk138 ?_; intro _))
  (refine G tt_ok pk138 ?_; repeat (refine G1 tt_ok pk138 ?_; intro _))
  refine SQ.eqs tt_ok rfl rfl rfl (by kernel_rfl) (by kernel_rfl) ?_
  (refine G tt_ok pk138 ?_; repeat (refine G1 tt_ok pk138 ?_; intro _))
  exact CW.ret (fin_ret rfl (A := [rowA q2 2 (([(0, 32, 32, dev), (1, 0, 32, ev)] : List Fd).flatMap fdC)]) pk_ ⟨[(0, 32, 32, dev), (1, 0, 32, ev)], q2, c2, _, ⟨by simp, by simp [fdOk], fun h => absurd h (by decide)⟩, rfl, rfl⟩)
set_option maxHeartbeats 8000000 in
theorem fields4 (β : Base) (dev ev num coll tgt b a : Int) (v : Bool) : Tri Tryz.prog β 138 [.agg #[.int .i64 4, .int .i64 dev, .int .i64 ev, .int .i64 num, .int .i64 coll, .int .i64 tgt, .int .i64 b, .int .i64 a, .bool v]] [] (fdsV 4 num tgt) := by
  refine Tri.intro tt_ok Tryz.func138 rfl rfl Tryz.ntmps138 rfl fun F => ?_
  refine CW.ent (own_nil 208 4) ?_
  (refine G tt_ok pk138 ?_; repeat (refine G1 tt_ok pk138 ?_; intro _))
  (refine SQ.built tt_ok rfl rfl (fun _ => w_ ?_))
  (refine G tt_ok pk138 ?_; repeat (refine G1 tt_ok pk138 ?_; intro _))
  refine ke rfl rfl (has162 β _ ([9, 13, 14, 5] : List Int) (by decide) _) ?_
  (refine G tt_ok pk138 ?_; repeat (refine G1 tt_ok pk138 ?_; intro _))
  (refine SQ.built tt_ok rfl rfl (fun _ => w_ ?_))
  (refine G tt_ok pk138 ?_; repeat (refine G1 tt_ok pk138 ?_; intro _))
  (refine SQ.appA tt_ok rfl rfl (by repeat (first | exact Rm.h | apply Rm.t)) (by repeat (first | exact .h | exact .q | apply At.t)) ([.int .i64 0, .int .i64 32, .int .i64 32, .int .i64 (dev)]) rfl rfl rfl (scal_eq rfl) (by omega) (by show (0 + 1) * 32 ≤ _; omega) (fun q1 c1 => w_ ?_))
  (refine G tt_ok pk138 ?_; repeat (refine G1 tt_ok pk138 ?_; intro _))
  (refine SQ.built tt_ok rfl rfl (fun _ => w_ ?_))
  (refine G tt_ok pk138 ?_; repeat (refine G1 tt_ok pk138 ?_; intro _))
  refine ke rfl rfl (has162 β _ ([10, 11, 1, 3, 4, 12, 15] : List Int) (by decide) _) ?_
  (refine G tt_ok pk138 ?_; repeat (refine G1 tt_ok pk138 ?_; intro _))
  (refine SQ.built tt_ok rfl rfl (fun _ => w_ ?_))
  (refine G tt_ok pk138 ?_; repeat (refine G1 tt_ok pk138 ?_; intro _))
  (refine SQ.appA tt_ok rfl rfl (by repeat (first | exact Rm.h | apply Rm.t)) (by repeat (first | exact .h | exact .q | apply At.t)) ([.int .i64 1, .int .i64 0, .int .i64 32, .int .i64 (ev)]) rfl rfl rfl (scal_eq rfl) (by omega) (by show (1 + 1) * 32 ≤ _; omega) (fun q2 c2 => w_ ?_))
  (refine G tt_ok pk138 ?_; repeat (refine G1 tt_ok pk138 ?_; intro _))
  (refine G tt_ok pk138 ?_; repeat (refine G1 tt_ok pk138 ?_; intro _))
  (refine G tt_ok pk138 ?_; repeat (refine G1 tt_ok pk138 ?_; intro _))
  (refine SQ.built tt_ok rfl rfl (fun _ => w_ ?_))
  (refine G tt_ok pk138 ?_; repeat (refine G1 tt_ok pk138 ?_; intro _))
  refine ke rfl rfl (has162 β _ ([9, 10, 11, 1, 13] : List Int) (by decide) _) ?_
  (refine G tt_ok pk138 ?_; repeat (refine G1 tt_ok pk138 ?_; intro _))
  (refine SQ.built tt_ok rfl rfl (fun _ => w_ ?_))
  (refine G tt_ok pk138 ?_; repeat (refine G1 tt_ok pk138 ?_; intro _))
  refine ke rfl rfl (has162 β _ ([9, 14, 5] : List Int) (by decide) _) ?_
  (refine G tt_ok pk138 ?_; repeat (refine G1 tt_ok pk138 ?_; intro _))
  (refine G tt_ok pk138 ?_; repeat (refine G1 tt_ok pk138 ?_; intro _))
  refine SQ.eqs tt_ok rfl rfl rfl (by kernel_rfl) (by kernel_rfl) ?_
  (refine G tt_ok pk138 ?_; repeat (refine G1 tt_ok pk138 ?_; intro _))
  exact CW.ret (fin_ret rfl (A := [rowA q2 2 (([(0, 32, 32, dev), (1, 0, 32, ev)] : List Fd).flatMap fdC)]) pk_ ⟨[(0, 32, 32, dev), (1, 0, 32, ev)], q2, c2, _, ⟨by simp, by simp [fdOk], fun h => absurd h (by decide)⟩, rfl, rfl⟩)
set_option maxHeartbeats 8000000 in
theorem fields5 (β : Base) (dev ev num coll tgt b a : Int) (v : Bool) : Tri Tryz.prog β 138 [.agg #[.int .i64 5, .int .i64 dev, .int .i64 ev, .int .i64 num, .int .i64 coll, .int .i64 tgt, .int .i64 b, .int .i64 a, .bool v]] [] (fdsV 5 num tgt) := by
  refine Tri.intro tt_ok Tryz.func138 rfl rfl Tryz.ntmps138 rfl fun F => ?_
  refine CW.ent (own_nil 208 4) ?_
  (refine G tt_ok pk138 ?_; repeat (refine G1 tt_ok pk138 ?_; intro _))
  (refine SQ.built tt_ok rfl rfl (fun _ => w_ ?_))
  (refine G tt_ok pk138 ?_; repeat (refine G1 tt_ok pk138 ?_; intro _))
  refine ke rfl rfl (has162 β _ ([9, 13, 14, 5] : List Int) (by decide) _) ?_
  (refine G tt_ok pk138 ?_; repeat (refine G1 tt_ok pk138 ?_; intro _))
  (refine SQ.built tt_ok rfl rfl (fun _ => w_ ?_))
  (refine G tt_ok pk138 ?_; repeat (refine G1 tt_ok pk138 ?_; intro _))
  refine ke rfl rfl (has162 β _ ([10, 11, 1, 3, 4, 12, 15] : List Int) (by decide) _) ?_
  (refine G tt_ok pk138 ?_; repeat (refine G1 tt_ok pk138 ?_; intro _))
  (refine G tt_ok pk138 ?_; repeat (refine G1 tt_ok pk138 ?_; intro _))
  (refine G tt_ok pk138 ?_; repeat (refine G1 tt_ok pk138 ?_; intro _))
  (refine SQ.built tt_ok rfl rfl (fun _ => w_ ?_))
  (refine G tt_ok pk138 ?_; repeat (refine G1 tt_ok pk138 ?_; intro _))
  refine ke rfl rfl (has162 β _ ([9, 10, 11, 1, 13] : List Int) (by decide) _) ?_
  (refine G tt_ok pk138 ?_; repeat (refine G1 tt_ok pk138 ?_; intro _))
  (refine SQ.built tt_ok rfl rfl (fun _ => w_ ?_))
  (refine G tt_ok pk138 ?_; repeat (refine G1 tt_ok pk138 ?_; intro _))
  refine ke rfl rfl (has162 β _ ([9, 14, 5] : List Int) (by decide) _) ?_
  (refine G tt_ok pk138 ?_; repeat (refine G1 tt_ok pk138 ?_; intro _))
  (refine SQ.built tt_ok rfl rfl (fun _ => w_ ?_))
  (refine G tt_ok pk138 ?_; repeat (refine G1 tt_ok pk138 ?_; intro _))
  (refine SQ.appA tt_ok rfl rfl (by repeat (first | exact Rm.h | apply Rm.t)) (by repeat (first | exact .h | exact .q | apply At.t)) ([.int .i64 2, .int .i64 16, .int .i64 16, .int .i64 (tgt)]) rfl rfl rfl (scal_eq rfl) (by omega) (by show (0 + 1) * 32 ≤ _; omega) (fun q1 c1 => w_ ?_))
  (refine G tt_ok pk138 ?_; repeat (refine G1 tt_ok pk138 ?_; intro _))
  (refine G tt_ok pk138 ?_; repeat (refine G1 tt_ok pk138 ?_; intro _))
  refine SQ.eqs tt_ok rfl rfl rfl (by kernel_rfl) (by kernel_rfl) ?_
  (refine G tt_ok pk138 ?_; repeat (refine G1 tt_ok pk138 ?_; intro _))
  exact CW.ret (fin_ret rfl (A := [rowA q1 1 (([(2, 16, 16, tgt)] : List Fd).flatMap fdC)]) pk_ ⟨[(2, 16, 16, tgt)], q1, c1, _, ⟨by simp, by simp [fdOk], fun h => absurd h (by decide)⟩, rfl, rfl⟩)
set_option maxHeartbeats 8000000 in
theorem fields8 (β : Base) (dev ev num coll tgt b a : Int) (v : Bool) : Tri Tryz.prog β 138 [.agg #[.int .i64 8, .int .i64 dev, .int .i64 ev, .int .i64 num, .int .i64 coll, .int .i64 tgt, .int .i64 b, .int .i64 a, .bool v]] [] (fdsV 8 num tgt) := by
  refine Tri.intro tt_ok Tryz.func138 rfl rfl Tryz.ntmps138 rfl fun F => ?_
  refine CW.ent (own_nil 208 4) ?_
  (refine G tt_ok pk138 ?_; repeat (refine G1 tt_ok pk138 ?_; intro _))
  (refine SQ.built tt_ok rfl rfl (fun _ => w_ ?_))
  (refine G tt_ok pk138 ?_; repeat (refine G1 tt_ok pk138 ?_; intro _))
  refine ke rfl rfl (has162 β _ ([9, 13, 14, 5] : List Int) (by decide) _) ?_
  (refine G tt_ok pk138 ?_; repeat (refine G1 tt_ok pk138 ?_; intro _))
  (refine SQ.built tt_ok rfl rfl (fun _ => w_ ?_))
  (refine G tt_ok pk138 ?_; repeat (refine G1 tt_ok pk138 ?_; intro _))
  (refine SQ.appA tt_ok rfl rfl (by repeat (first | exact Rm.h | apply Rm.t)) (by repeat (first | exact .h | exact .q | apply At.t)) ([.int .i64 0, .int .i64 32, .int .i64 32, .int .i64 (dev)]) rfl rfl rfl (scal_eq rfl) (by omega) (by show (0 + 1) * 32 ≤ _; omega) (fun q1 c1 => w_ ?_))
  (refine G tt_ok pk138 ?_; repeat (refine G1 tt_ok pk138 ?_; intro _))
  (refine SQ.built tt_ok rfl rfl (fun _ => w_ ?_))
  (refine G tt_ok pk138 ?_; repeat (refine G1 tt_ok pk138 ?_; intro _))
  refine ke rfl rfl (has162 β _ ([10, 11, 1, 3, 4, 12, 15] : List Int) (by decide) _) ?_
  (refine G tt_ok pk138 ?_; repeat (refine G1 tt_ok pk138 ?_; intro _))
  (refine G tt_ok pk138 ?_; repeat (refine G1 tt_ok pk138 ?_; intro _))
  (refine G tt_ok pk138 ?_; repeat (refine G1 tt_ok pk138 ?_; intro _))
  (refine SQ.built tt_ok rfl rfl (fun _ => w_ ?_))
  (refine G tt_ok pk138 ?_; repeat (refine G1 tt_ok pk138 ?_; intro _))
  refine ke rfl rfl (has162 β _ ([9, 10, 11, 1, 13] : List Int) (by decide) _) ?_
  (refine G tt_ok pk138 ?_; repeat (refine G1 tt_ok pk138 ?_; intro _))
  (refine SQ.built tt_ok rfl rfl (fun _ => w_ ?_))
  (refine G tt_ok pk138 ?_; repeat (refine G1 tt_ok pk138 ?_; intro _))
  refine ke rfl rfl (has162 β _ ([9, 14, 5] : List Int) (by decide) _) ?_
  (refine G tt_ok pk138 ?_; repeat (refine G1 tt_ok pk138 ?_; intro _))
  (refine G tt_ok pk138 ?_; repeat (refine G1 tt_ok pk138 ?_; intro _))
  (refine SQ.built tt_ok rfl rfl (fun _ => w_ ?_))
  (refine G tt_ok pk138 ?_; repeat (refine G1 tt_ok pk138 ?_; intro _))
  (refine SQ.appA tt_ok rfl rfl (by repeat (first | exact Rm.h | apply Rm.t)) (by repeat (first | exact .h | exact .q | apply At.t)) ([.int .i64 1, .int .i64 0, .int .i64 5, .int .i64 (b)]) rfl rfl rfl (scal_eq rfl) (by omega) (by show (1 + 1) * 32 ≤ _; omega) (fun q2 c2 => w_ ?_))
  (refine G tt_ok pk138 ?_; repeat (refine G1 tt_ok pk138 ?_; intro _))
  cases decide (a < 0) with
  | true =>
    (refine G tt_ok pk138 ?_; repeat (refine G1 tt_ok pk138 ?_; intro _))
    exact CW.ret (fin_ret rfl (A := [rowA none 0 []]) ((Ent.dropAll _).trans row_nil) ⟨[], none, 0, _, ⟨by simp, by simp, fun h => absurd h (by decide)⟩, rfl, rfl⟩)
  | false =>
    (refine G tt_ok pk138 ?_; repeat (refine G1 tt_ok pk138 ?_; intro _))
    cases (a.tmod 256 != 0) with
    | true =>
      (refine G tt_ok pk138 ?_; repeat (refine G1 tt_ok pk138 ?_; intro _))
      exact CW.ret (fin_ret rfl (A := [rowA none 0 []]) ((Ent.dropAll _).trans row_nil) ⟨[], none, 0, _, ⟨by simp, by simp, fun h => absurd h (by decide)⟩, rfl, rfl⟩)
    | false =>
      (refine G tt_ok pk138 ?_; repeat (refine G1 tt_ok pk138 ?_; intro _))
      (refine SQ.built tt_ok rfl rfl (fun _ => w_ ?_))
      (refine G tt_ok pk138 ?_; repeat (refine G1 tt_ok pk138 ?_; intro _))
      (refine SQ.appA tt_ok rfl rfl (by repeat (first | exact Rm.h | apply Rm.t)) (by repeat (first | exact .h | exact .q | apply At.t)) ([.int .i64 2, .int .i64 8, .int .i64 40, .int .i64 (IntKind.i64.wrap (a.tdiv 256))]) rfl rfl rfl (scal_eq rfl) (by omega) (by show (2 + 1) * 32 ≤ _; omega) (fun q3 c3 => w_ ?_))
      (refine G tt_ok pk138 ?_; repeat (refine G1 tt_ok pk138 ?_; intro _))
      refine ke rfl rfl (one163 β _) ?_
      (refine G tt_ok pk138 ?_; repeat (refine G1 tt_ok pk138 ?_; intro _))
      (refine SQ.built tt_ok rfl rfl (fun _ => w_ ?_))
      (refine G tt_ok pk138 ?_; repeat (refine G1 tt_ok pk138 ?_; intro _))
      (refine SQ.appA tt_ok rfl rfl (by repeat (first | exact Rm.h | apply Rm.t)) (by repeat (first | exact .h | exact .q | apply At.t)) ([.int .i64 2, .int .i64 63, .int .i64 1, .int .i64 (if v then 1 else 0)]) rfl rfl rfl (scal_eq rfl) (by omega) (by show (3 + 1) * 32 ≤ _; omega) (fun q4 c4 => w_ ?_))
      (refine G tt_ok pk138 ?_; repeat (refine G1 tt_ok pk138 ?_; intro _))
      refine SQ.eqs tt_ok rfl rfl rfl (by kernel_rfl) (by kernel_rfl) ?_
      (refine G tt_ok pk138 ?_; repeat (refine G1 tt_ok pk138 ?_; intro _))
      exact CW.ret (fin_ret rfl (A := [rowA q4 4 (([(0, 32, 32, dev), (1, 0, 5, b), (2, 8, 40, IntKind.i64.wrap (a.tdiv 256)), (2, 63, 1, if v then 1 else 0)] : List Fd).flatMap fdC)]) pk_ ⟨[(0, 32, 32, dev), (1, 0, 5, b), (2, 8, 40, IntKind.i64.wrap (a.tdiv 256)), (2, 63, 1, if v then 1 else 0)], q4, c4, _, ⟨by simp, by simp [fdOk], fun h => absurd h (by decide)⟩, rfl, rfl⟩)
set_option maxHeartbeats 8000000 in
theorem fields9 (β : Base) (dev ev num coll tgt b a : Int) (v : Bool) : Tri Tryz.prog β 138 [.agg #[.int .i64 9, .int .i64 dev, .int .i64 ev, .int .i64 num, .int .i64 coll, .int .i64 tgt, .int .i64 b, .int .i64 a, .bool v]] [] (fdsV 9 num tgt) := by
  refine Tri.intro tt_ok Tryz.func138 rfl rfl Tryz.ntmps138 rfl fun F => ?_
  refine CW.ent (own_nil 208 4) ?_
  (refine G tt_ok pk138 ?_; repeat (refine G1 tt_ok pk138 ?_; intro _))
  (refine SQ.built tt_ok rfl rfl (fun _ => w_ ?_))
  (refine G tt_ok pk138 ?_; repeat (refine G1 tt_ok pk138 ?_; intro _))
  refine ke rfl rfl (has162 β _ ([9, 13, 14, 5] : List Int) (by decide) _) ?_
  (refine G tt_ok pk138 ?_; repeat (refine G1 tt_ok pk138 ?_; intro _))
  (refine SQ.built tt_ok rfl rfl (fun _ => w_ ?_))
  (refine G tt_ok pk138 ?_; repeat (refine G1 tt_ok pk138 ?_; intro _))
  refine ke rfl rfl (has162 β _ ([10, 11, 1, 3, 4, 12, 15] : List Int) (by decide) _) ?_
  (refine G tt_ok pk138 ?_; repeat (refine G1 tt_ok pk138 ?_; intro _))
  (refine G tt_ok pk138 ?_; repeat (refine G1 tt_ok pk138 ?_; intro _))
  (refine G tt_ok pk138 ?_; repeat (refine G1 tt_ok pk138 ?_; intro _))
  (refine SQ.built tt_ok rfl rfl (fun _ => w_ ?_))
  (refine G tt_ok pk138 ?_; repeat (refine G1 tt_ok pk138 ?_; intro _))
  refine ke rfl rfl (has162 β _ ([9, 10, 11, 1, 13] : List Int) (by decide) _) ?_
  (refine G tt_ok pk138 ?_; repeat (refine G1 tt_ok pk138 ?_; intro _))
  (refine SQ.built tt_ok rfl rfl (fun _ => w_ ?_))
  (refine G tt_ok pk138 ?_; repeat (refine G1 tt_ok pk138 ?_; intro _))
  (refine SQ.appA tt_ok rfl rfl (by repeat (first | exact Rm.h | apply Rm.t)) (by repeat (first | exact .h | exact .q | apply At.t)) ([.int .i64 2, .int .i64 0, .int .i64 16, .int .i64 (coll)]) rfl rfl rfl (scal_eq rfl) (by omega) (by show (0 + 1) * 32 ≤ _; omega) (fun q1 c1 => w_ ?_))
  (refine G tt_ok pk138 ?_; repeat (refine G1 tt_ok pk138 ?_; intro _))
  (refine SQ.built tt_ok rfl rfl (fun _ => w_ ?_))
  (refine G tt_ok pk138 ?_; repeat (refine G1 tt_ok pk138 ?_; intro _))
  refine ke rfl rfl (has162 β _ ([9, 14, 5] : List Int) (by decide) _) ?_
  (refine G tt_ok pk138 ?_; repeat (refine G1 tt_ok pk138 ?_; intro _))
  (refine SQ.built tt_ok rfl rfl (fun _ => w_ ?_))
  (refine G tt_ok pk138 ?_; repeat (refine G1 tt_ok pk138 ?_; intro _))
  (refine SQ.appA tt_ok rfl rfl (by repeat (first | exact Rm.h | apply Rm.t)) (by repeat (first | exact .h | exact .q | apply At.t)) ([.int .i64 2, .int .i64 16, .int .i64 16, .int .i64 (tgt)]) rfl rfl rfl (scal_eq rfl) (by omega) (by show (1 + 1) * 32 ≤ _; omega) (fun q2 c2 => w_ ?_))
  (refine G tt_ok pk138 ?_; repeat (refine G1 tt_ok pk138 ?_; intro _))
  (refine G tt_ok pk138 ?_; repeat (refine G1 tt_ok pk138 ?_; intro _))
  refine ke rfl rfl (one163 β _) ?_
  (refine G tt_ok pk138 ?_; repeat (refine G1 tt_ok pk138 ?_; intro _))
  (refine SQ.built tt_ok rfl rfl (fun _ => w_ ?_))
  (refine G tt_ok pk138 ?_; repeat (refine G1 tt_ok pk138 ?_; intro _))
  (refine SQ.appA tt_ok rfl rfl (by repeat (first | exact Rm.h | apply Rm.t)) (by repeat (first | exact .h | exact .q | apply At.t)) ([.int .i64 2, .int .i64 63, .int .i64 1, .int .i64 (if v then 1 else 0)]) rfl rfl rfl (scal_eq rfl) (by omega) (by show (2 + 1) * 32 ≤ _; omega) (fun q3 c3 => w_ ?_))
  (refine G tt_ok pk138 ?_; repeat (refine G1 tt_ok pk138 ?_; intro _))
  refine SQ.eqs tt_ok rfl rfl rfl (by kernel_rfl) (by kernel_rfl) ?_
  (refine G tt_ok pk138 ?_; repeat (refine G1 tt_ok pk138 ?_; intro _))
  exact CW.ret (fin_ret rfl (A := [rowA q3 3 (([(2, 0, 16, coll), (2, 16, 16, tgt), (2, 63, 1, if v then 1 else 0)] : List Fd).flatMap fdC)]) pk_ ⟨[(2, 0, 16, coll), (2, 16, 16, tgt), (2, 63, 1, if v then 1 else 0)], q3, c3, _, ⟨by simp, by simp [fdOk], fun h => absurd h (by decide)⟩, rfl, rfl⟩)
set_option maxHeartbeats 8000000 in
theorem fields10 (β : Base) (dev ev num coll tgt b a : Int) (v : Bool) : Tri Tryz.prog β 138 [.agg #[.int .i64 10, .int .i64 dev, .int .i64 ev, .int .i64 num, .int .i64 coll, .int .i64 tgt, .int .i64 b, .int .i64 a, .bool v]] [] (fdsV 10 num tgt) := by
  refine Tri.intro tt_ok Tryz.func138 rfl rfl Tryz.ntmps138 rfl fun F => ?_
  refine CW.ent (own_nil 208 4) ?_
  (refine G tt_ok pk138 ?_; repeat (refine G1 tt_ok pk138 ?_; intro _))
  (refine SQ.built tt_ok rfl rfl (fun _ => w_ ?_))
  (refine G tt_ok pk138 ?_; repeat (refine G1 tt_ok pk138 ?_; intro _))
  refine ke rfl rfl (has162 β _ ([9, 13, 14, 5] : List Int) (by decide) _) ?_
  (refine G tt_ok pk138 ?_; repeat (refine G1 tt_ok pk138 ?_; intro _))
  (refine SQ.built tt_ok rfl rfl (fun _ => w_ ?_))
  (refine G tt_ok pk138 ?_; repeat (refine G1 tt_ok pk138 ?_; intro _))
  (refine SQ.appA tt_ok rfl rfl (by repeat (first | exact Rm.h | apply Rm.t)) (by repeat (first | exact .h | exact .q | apply At.t)) ([.int .i64 0, .int .i64 32, .int .i64 32, .int .i64 (dev)]) rfl rfl rfl (scal_eq rfl) (by omega) (by show (0 + 1) * 32 ≤ _; omega) (fun q1 c1 => w_ ?_))
  (refine G tt_ok pk138 ?_; repeat (refine G1 tt_ok pk138 ?_; intro _))
  (refine SQ.built tt_ok rfl rfl (fun _ => w_ ?_))
  (refine G tt_ok pk138 ?_; repeat (refine G1 tt_ok pk138 ?_; intro _))
  refine ke rfl rfl (has162 β _ ([10, 11, 1, 3, 4, 12, 15] : List Int) (by decide) _) ?_
  (refine G tt_ok pk138 ?_; repeat (refine G1 tt_ok pk138 ?_; intro _))
  (refine SQ.built tt_ok rfl rfl (fun _ => w_ ?_))
  (refine G tt_ok pk138 ?_; repeat (refine G1 tt_ok pk138 ?_; intro _))
  (refine SQ.appA tt_ok rfl rfl (by repeat (first | exact Rm.h | apply Rm.t)) (by repeat (first | exact .h | exact .q | apply At.t)) ([.int .i64 1, .int .i64 0, .int .i64 32, .int .i64 (ev)]) rfl rfl rfl (scal_eq rfl) (by omega) (by show (1 + 1) * 32 ≤ _; omega) (fun q2 c2 => w_ ?_))
  (refine G tt_ok pk138 ?_; repeat (refine G1 tt_ok pk138 ?_; intro _))
  (refine G tt_ok pk138 ?_; repeat (refine G1 tt_ok pk138 ?_; intro _))
  (refine SQ.built tt_ok rfl rfl (fun _ => w_ ?_))
  (refine G tt_ok pk138 ?_; repeat (refine G1 tt_ok pk138 ?_; intro _))
  (refine SQ.appA tt_ok rfl rfl (by repeat (first | exact Rm.h | apply Rm.t)) (by repeat (first | exact .h | exact .q | apply At.t)) ([.int .i64 1, .int .i64 32, .int .i64 32, .int .i64 (num)]) rfl rfl rfl (scal_eq rfl) (by omega) (by show (2 + 1) * 32 ≤ _; omega) (fun q3 c3 => w_ ?_))
  (refine G tt_ok pk138 ?_; repeat (refine G1 tt_ok pk138 ?_; intro _))
  (refine G tt_ok pk138 ?_; repeat (refine G1 tt_ok pk138 ?_; intro _))
  (refine SQ.built tt_ok rfl rfl (fun _ => w_ ?_))
  (refine G tt_ok pk138 ?_; repeat (refine G1 tt_ok pk138 ?_; intro _))
  refine ke rfl rfl (has162 β _ ([9, 10, 11, 1, 13] : List Int) (by decide) _) ?_
  (refine G tt_ok pk138 ?_; repeat (refine G1 tt_ok pk138 ?_; intro _))
  (refine SQ.built tt_ok rfl rfl (fun _ => w_ ?_))
  (refine G tt_ok pk138 ?_; repeat (refine G1 tt_ok pk138 ?_; intro _))
  (refine SQ.appA tt_ok rfl rfl (by repeat (first | exact Rm.h | apply Rm.t)) (by repeat (first | exact .h | exact .q | apply At.t)) ([.int .i64 2, .int .i64 0, .int .i64 16, .int .i64 (coll)]) rfl rfl rfl (scal_eq rfl) (by omega) (by show (3 + 1) * 32 ≤ _; omega) (fun q4 c4 => w_ ?_))
  (refine G tt_ok pk138 ?_; repeat (refine G1 tt_ok pk138 ?_; intro _))
  (refine SQ.built tt_ok rfl rfl (fun _ => w_ ?_))
  (refine G tt_ok pk138 ?_; repeat (refine G1 tt_ok pk138 ?_; intro _))
  refine ke rfl rfl (has162 β _ ([9, 14, 5] : List Int) (by decide) _) ?_
  (refine G tt_ok pk138 ?_; repeat (refine G1 tt_ok pk138 ?_; intro _))
  (refine G tt_ok pk138 ?_; repeat (refine G1 tt_ok pk138 ?_; intro _))
  refine SQ.eqs tt_ok rfl rfl rfl (by kernel_rfl) (by kernel_rfl) ?_
  (refine G tt_ok pk138 ?_; repeat (refine G1 tt_ok pk138 ?_; intro _))
  exact CW.ret (fin_ret rfl (A := [rowA q4 4 (([(0, 32, 32, dev), (1, 0, 32, ev), (1, 32, 32, num), (2, 0, 16, coll)] : List Fd).flatMap fdC)]) pk_ ⟨[(0, 32, 32, dev), (1, 0, 32, ev), (1, 32, 32, num), (2, 0, 16, coll)], q4, c4, _, ⟨by simp, by simp [fdOk], fun h => absurd h (by decide)⟩, rfl, rfl⟩)
set_option maxHeartbeats 8000000 in
theorem fields11 (β : Base) (dev ev num coll tgt b a : Int) (v : Bool) : Tri Tryz.prog β 138 [.agg #[.int .i64 11, .int .i64 dev, .int .i64 ev, .int .i64 num, .int .i64 coll, .int .i64 tgt, .int .i64 b, .int .i64 a, .bool v]] [] (fdsV 11 num tgt) := by
  refine Tri.intro tt_ok Tryz.func138 rfl rfl Tryz.ntmps138 rfl fun F => ?_
  refine CW.ent (own_nil 208 4) ?_
  (refine G tt_ok pk138 ?_; repeat (refine G1 tt_ok pk138 ?_; intro _))
  (refine SQ.built tt_ok rfl rfl (fun _ => w_ ?_))
  (refine G tt_ok pk138 ?_; repeat (refine G1 tt_ok pk138 ?_; intro _))
  refine ke rfl rfl (has162 β _ ([9, 13, 14, 5] : List Int) (by decide) _) ?_
  (refine G tt_ok pk138 ?_; repeat (refine G1 tt_ok pk138 ?_; intro _))
  (refine SQ.built tt_ok rfl rfl (fun _ => w_ ?_))
  (refine G tt_ok pk138 ?_; repeat (refine G1 tt_ok pk138 ?_; intro _))
  (refine SQ.appA tt_ok rfl rfl (by repeat (first | exact Rm.h | apply Rm.t)) (by repeat (first | exact .h | exact .q | apply At.t)) ([.int .i64 0, .int .i64 32, .int .i64 32, .int .i64 (dev)]) rfl rfl rfl (scal_eq rfl) (by omega) (by show (0 + 1) * 32 ≤ _; omega) (fun q1 c1 => w_ ?_))
  (refine G tt_ok pk138 ?_; repeat (refine G1 tt_ok pk138 ?_; intro _))
  (refine SQ.built tt_ok rfl rfl (fun _ => w_ ?_))
  (refine G tt_ok pk138 ?_; repeat (refine G1 tt_ok pk138 ?_; intro _))
  refine ke rfl rfl (has162 β _ ([10, 11, 1, 3, 4, 12, 15] : List Int) (by decide) _) ?_
  (refine G tt_ok pk138 ?_; repeat (refine G1 tt_ok pk138 ?_; intro _))
  (refine SQ.built tt_ok rfl rfl (fun _ => w_ ?_))
  (refine G tt_ok pk138 ?_; repeat (refine G1 tt_ok pk138 ?_; intro _))
  (refine SQ.appA tt_ok rfl rfl (by repeat (first | exact Rm.h | apply Rm.t)) (by repeat (first | exact .h | exact .q | apply At.t)) ([.int .i64 1, .int .i64 0, .int .i64 32, .int .i64 (ev)]) rfl rfl rfl (scal_eq rfl) (by omega) (by show (1 + 1) * 32 ≤ _; omega) (fun q2 c2 => w_ ?_))
  (refine G tt_ok pk138 ?_; repeat (refine G1 tt_ok pk138 ?_; intro _))
  (refine G tt_ok pk138 ?_; repeat (refine G1 tt_ok pk138 ?_; intro _))
  (refine G tt_ok pk138 ?_; repeat (refine G1 tt_ok pk138 ?_; intro _))
  (refine SQ.built tt_ok rfl rfl (fun _ => w_ ?_))
  (refine G tt_ok pk138 ?_; repeat (refine G1 tt_ok pk138 ?_; intro _))
  refine ke rfl rfl (has162 β _ ([9, 10, 11, 1, 13] : List Int) (by decide) _) ?_
  (refine G tt_ok pk138 ?_; repeat (refine G1 tt_ok pk138 ?_; intro _))
  (refine SQ.built tt_ok rfl rfl (fun _ => w_ ?_))
  (refine G tt_ok pk138 ?_; repeat (refine G1 tt_ok pk138 ?_; intro _))
  (refine SQ.appA tt_ok rfl rfl (by repeat (first | exact Rm.h | apply Rm.t)) (by repeat (first | exact .h | exact .q | apply At.t)) ([.int .i64 2, .int .i64 0, .int .i64 16, .int .i64 (coll)]) rfl rfl rfl (scal_eq rfl) (by omega) (by show (2 + 1) * 32 ≤ _; omega) (fun q3 c3 => w_ ?_))
  (refine G tt_ok pk138 ?_; repeat (refine G1 tt_ok pk138 ?_; intro _))
  (refine SQ.built tt_ok rfl rfl (fun _ => w_ ?_))
  (refine G tt_ok pk138 ?_; repeat (refine G1 tt_ok pk138 ?_; intro _))
  refine ke rfl rfl (has162 β _ ([9, 14, 5] : List Int) (by decide) _) ?_
  (refine G tt_ok pk138 ?_; repeat (refine G1 tt_ok pk138 ?_; intro _))
  (refine G tt_ok pk138 ?_; repeat (refine G1 tt_ok pk138 ?_; intro _))
  refine SQ.eqs tt_ok rfl rfl rfl (by kernel_rfl) (by kernel_rfl) ?_
  (refine G tt_ok pk138 ?_; repeat (refine G1 tt_ok pk138 ?_; intro _))
  exact CW.ret (fin_ret rfl (A := [rowA q3 3 (([(0, 32, 32, dev), (1, 0, 32, ev), (2, 0, 16, coll)] : List Fd).flatMap fdC)]) pk_ ⟨[(0, 32, 32, dev), (1, 0, 32, ev), (2, 0, 16, coll)], q3, c3, _, ⟨by simp, by simp [fdOk], fun h => absurd h (by decide)⟩, rfl, rfl⟩)
set_option maxHeartbeats 8000000 in
theorem fields12 (β : Base) (dev ev num coll tgt b a : Int) (v : Bool) : Tri Tryz.prog β 138 [.agg #[.int .i64 12, .int .i64 dev, .int .i64 ev, .int .i64 num, .int .i64 coll, .int .i64 tgt, .int .i64 b, .int .i64 a, .bool v]] [] (fdsV 12 num tgt) := by
  refine Tri.intro tt_ok Tryz.func138 rfl rfl Tryz.ntmps138 rfl fun F => ?_
  refine CW.ent (own_nil 208 4) ?_
  (refine G tt_ok pk138 ?_; repeat (refine G1 tt_ok pk138 ?_; intro _))
  (refine SQ.built tt_ok rfl rfl (fun _ => w_ ?_))
  (refine G tt_ok pk138 ?_; repeat (refine G1 tt_ok pk138 ?_; intro _))
  refine ke rfl rfl (has162 β _ ([9, 13, 14, 5] : List Int) (by decide) _) ?_
  (refine G tt_ok pk138 ?_; repeat (refine G1 tt_ok pk138 ?_; intro _))
  (refine SQ.built tt_ok rfl rfl (fun _ => w_ ?_))
  (refine G tt_ok pk138 ?_; repeat (refine G1 tt_ok pk138 ?_; intro _))
  (refine SQ.appA tt_ok rfl rfl (by repeat (first | exact Rm.h | apply Rm.t)) (by repeat (first | exact .h | exact .q | apply At.t)) ([.int .i64 0, .int .i64 32, .int .i64 32, .int .i64 (dev)]) rfl rfl rfl (scal_eq rfl) (by omega) (by show (0 + 1) * 32 ≤ _; omega) (fun q1 c1 => w_ ?_))
  (refine G tt_ok pk138 ?_; repeat (refine G1 tt_ok pk138 ?_; intro _))
  (refine SQ.built tt_ok rfl rfl (fun _ => w_ ?_))
  (refine G tt_ok pk138 ?_; repeat (refine G1 tt_ok pk138 ?_; intro _))
  refine ke rfl rfl (has162 β _ ([10, 11, 1, 3, 4, 12, 15] : List Int) (by decide) _) ?_
  (refine G tt_ok pk138 ?_; repeat (refine G1 tt_ok pk138 ?_; intro _))
  (refine SQ.built tt_ok rfl rfl (fun _ => w_ ?_))
  (refine G tt_ok pk138 ?_; repeat (refine G1 tt_ok pk138 ?_; intro _))
  (refine SQ.appA tt_ok rfl rfl (by repeat (first | exact Rm.h | apply Rm.t)) (by repeat (first | exact .h | exact .q | apply At.t)) ([.int .i64 1, .int .i64 0, .int .i64 32, .int .i64 (ev)]) rfl rfl rfl (scal_eq rfl) (by omega) (by show (1 + 1) * 32 ≤ _; omega) (fun q2 c2 => w_ ?_))
  (refine G tt_ok pk138 ?_; repeat (refine G1 tt_ok pk138 ?_; intro _))
  (refine G tt_ok pk138 ?_; repeat (refine G1 tt_ok pk138 ?_; intro _))
  (refine G tt_ok pk138 ?_; repeat (refine G1 tt_ok pk138 ?_; intro _))
  (refine SQ.built tt_ok rfl rfl (fun _ => w_ ?_))
  (refine G tt_ok pk138 ?_; repeat (refine G1 tt_ok pk138 ?_; intro _))
  refine ke rfl rfl (has162 β _ ([9, 10, 11, 1, 13] : List Int) (by decide) _) ?_
  (refine G tt_ok pk138 ?_; repeat (refine G1 tt_ok pk138 ?_; intro _))
  (refine SQ.built tt_ok rfl rfl (fun _ => w_ ?_))
  (refine G tt_ok pk138 ?_; repeat (refine G1 tt_ok pk138 ?_; intro _))
  refine ke rfl rfl (has162 β _ ([9, 14, 5] : List Int) (by decide) _) ?_
  (refine G tt_ok pk138 ?_; repeat (refine G1 tt_ok pk138 ?_; intro _))
  (refine G tt_ok pk138 ?_; repeat (refine G1 tt_ok pk138 ?_; intro _))
  refine SQ.eqs tt_ok rfl rfl rfl (by kernel_rfl) (by kernel_rfl) ?_
  (refine G tt_ok pk138 ?_; repeat (refine G1 tt_ok pk138 ?_; intro _))
  exact CW.ret (fin_ret rfl (A := [rowA q2 2 (([(0, 32, 32, dev), (1, 0, 32, ev)] : List Fd).flatMap fdC)]) pk_ ⟨[(0, 32, 32, dev), (1, 0, 32, ev)], q2, c2, _, ⟨by simp, by simp [fdOk], fun h => absurd h (by decide)⟩, rfl, rfl⟩)
set_option maxHeartbeats 8000000 in
theorem fields13 (β : Base) (dev ev num coll tgt b a : Int) (v : Bool) : Tri Tryz.prog β 138 [.agg #[.int .i64 13, .int .i64 dev, .int .i64 ev, .int .i64 num, .int .i64 coll, .int .i64 tgt, .int .i64 b, .int .i64 a, .bool v]] [] (fdsV 13 num tgt) := by
  refine Tri.intro tt_ok Tryz.func138 rfl rfl Tryz.ntmps138 rfl fun F => ?_
  refine CW.ent (own_nil 208 4) ?_
  (refine G tt_ok pk138 ?_; repeat (refine G1 tt_ok pk138 ?_; intro _))
  (refine SQ.built tt_ok rfl rfl (fun _ => w_ ?_))
  (refine G tt_ok pk138 ?_; repeat (refine G1 tt_ok pk138 ?_; intro _))
  refine ke rfl rfl (has162 β _ ([9, 13, 14, 5] : List Int) (by decide) _) ?_
  (refine G tt_ok pk138 ?_; repeat (refine G1 tt_ok pk138 ?_; intro _))
  (refine SQ.built tt_ok rfl rfl (fun _ => w_ ?_))
  (refine G tt_ok pk138 ?_; repeat (refine G1 tt_ok pk138 ?_; intro _))
  refine ke rfl rfl (has162 β _ ([10, 11, 1, 3, 4, 12, 15] : List Int) (by decide) _) ?_
  (refine G tt_ok pk138 ?_; repeat (refine G1 tt_ok pk138 ?_; intro _))
  (refine G tt_ok pk138 ?_; repeat (refine G1 tt_ok pk138 ?_; intro _))
  (refine G tt_ok pk138 ?_; repeat (refine G1 tt_ok pk138 ?_; intro _))
  (refine SQ.built tt_ok rfl rfl (fun _ => w_ ?_))
  (refine G tt_ok pk138 ?_; repeat (refine G1 tt_ok pk138 ?_; intro _))
  refine ke rfl rfl (has162 β _ ([9, 10, 11, 1, 13] : List Int) (by decide) _) ?_
  (refine G tt_ok pk138 ?_; repeat (refine G1 tt_ok pk138 ?_; intro _))
  (refine SQ.built tt_ok rfl rfl (fun _ => w_ ?_))
  (refine G tt_ok pk138 ?_; repeat (refine G1 tt_ok pk138 ?_; intro _))
  (refine SQ.appA tt_ok rfl rfl (by repeat (first | exact Rm.h | apply Rm.t)) (by repeat (first | exact .h | exact .q | apply At.t)) ([.int .i64 2, .int .i64 0, .int .i64 16, .int .i64 (coll)]) rfl rfl rfl (scal_eq rfl) (by omega) (by show (0 + 1) * 32 ≤ _; omega) (fun q1 c1 => w_ ?_))
  (refine G tt_ok pk138 ?_; repeat (refine G1 tt_ok pk138 ?_; intro _))
  (refine SQ.built tt_ok rfl rfl (fun _ => w_ ?_))
  (refine G tt_ok pk138 ?_; repeat (refine G1 tt_ok pk138 ?_; intro _))
  refine ke rfl rfl (has162 β _ ([9, 14, 5] : List Int) (by decide) _) ?_
  (refine G tt_ok pk138 ?_; repeat (refine G1 tt_ok pk138 ?_; intro _))
  (refine G tt_ok pk138 ?_; repeat (refine G1 tt_ok pk138 ?_; intro _))
  refine SQ.eqs tt_ok rfl rfl rfl (by kernel_rfl) (by kernel_rfl) ?_
  (refine G tt_ok pk138 ?_; repeat (refine G1 tt_ok pk138 ?_; intro _))
  exact CW.ret (fin_ret rfl (A := [rowA q1 1 (([(2, 0, 16, coll)] : List Fd).flatMap fdC)]) pk_ ⟨[(2, 0, 16, coll)], q1, c1, _, ⟨by simp, by simp [fdOk], fun h => absurd h (by decide)⟩, rfl, rfl⟩)
set_option maxHeartbeats 8000000 in
theorem fields14 (β : Base) (dev ev num coll tgt b a : Int) (v : Bool) : Tri Tryz.prog β 138 [.agg #[.int .i64 14, .int .i64 dev, .int .i64 ev, .int .i64 num, .int .i64 coll, .int .i64 tgt, .int .i64 b, .int .i64 a, .bool v]] [] (fdsV 14 num tgt) := by
  refine Tri.intro tt_ok Tryz.func138 rfl rfl Tryz.ntmps138 rfl fun F => ?_
  refine CW.ent (own_nil 208 4) ?_
  (refine G tt_ok pk138 ?_; repeat (refine G1 tt_ok pk138 ?_; intro _))
  (refine SQ.built tt_ok rfl rfl (fun _ => w_ ?_))
  (refine G tt_ok pk138 ?_; repeat (refine G1 tt_ok pk138 ?_; intro _))
  refine ke rfl rfl (has162 β _ ([9, 13, 14, 5] : List Int) (by decide) _) ?_
  (refine G tt_ok pk138 ?_; repeat (refine G1 tt_ok pk138 ?_; intro _))
  (refine SQ.built tt_ok rfl rfl (fun _ => w_ ?_))
  (refine G tt_ok pk138 ?_; repeat (refine G1 tt_ok pk138 ?_; intro _))
  refine ke rfl rfl (has162 β _ ([10, 11, 1, 3, 4, 12, 15] : List Int) (by decide) _) ?_
  (refine G tt_ok pk138 ?_; repeat (refine G1 tt_ok pk138 ?_; intro _))
  (refine G tt_ok pk138 ?_; repeat (refine G1 tt_ok pk138 ?_; intro _))
  (refine G tt_ok pk138 ?_; repeat (refine G1 tt_ok pk138 ?_; intro _))
  (refine SQ.built tt_ok rfl rfl (fun _ => w_ ?_))
  (refine G tt_ok pk138 ?_; repeat (refine G1 tt_ok pk138 ?_; intro _))
  (refine SQ.appA tt_ok rfl rfl (by repeat (first | exact Rm.h | apply Rm.t)) (by repeat (first | exact .h | exact .q | apply At.t)) ([.int .i64 3, .int .i64 16, .int .i64 16, .int .i64 (num)]) rfl rfl rfl (scal_eq rfl) (by omega) (by show (0 + 1) * 32 ≤ _; omega) (fun q1 c1 => w_ ?_))
  (refine G tt_ok pk138 ?_; repeat (refine G1 tt_ok pk138 ?_; intro _))
  (refine SQ.built tt_ok rfl rfl (fun _ => w_ ?_))
  (refine G tt_ok pk138 ?_; repeat (refine G1 tt_ok pk138 ?_; intro _))
  refine ke rfl rfl (has162 β _ ([9, 10, 11, 1, 13] : List Int) (by decide) _) ?_
  (refine G tt_ok pk138 ?_; repeat (refine G1 tt_ok pk138 ?_; intro _))
  (refine SQ.built tt_ok rfl rfl (fun _ => w_ ?_))
  (refine G tt_ok pk138 ?_; repeat (refine G1 tt_ok pk138 ?_; intro _))
  refine ke rfl rfl (has162 β _ ([9, 14, 5] : List Int) (by decide) _) ?_
  (refine G tt_ok pk138 ?_; repeat (refine G1 tt_ok pk138 ?_; intro _))
  (refine SQ.built tt_ok rfl rfl (fun _ => w_ ?_))
  (refine G tt_ok pk138 ?_; repeat (refine G1 tt_ok pk138 ?_; intro _))
  (refine SQ.appA tt_ok rfl rfl (by repeat (first | exact Rm.h | apply Rm.t)) (by repeat (first | exact .h | exact .q | apply At.t)) ([.int .i64 2, .int .i64 16, .int .i64 16, .int .i64 (tgt)]) rfl rfl rfl (scal_eq rfl) (by omega) (by show (1 + 1) * 32 ≤ _; omega) (fun q2 c2 => w_ ?_))
  (refine G tt_ok pk138 ?_; repeat (refine G1 tt_ok pk138 ?_; intro _))
  (refine G tt_ok pk138 ?_; repeat (refine G1 tt_ok pk138 ?_; intro _))
  refine SQ.eqs tt_ok rfl rfl rfl (by kernel_rfl) (by kernel_rfl) ?_
  (refine G tt_ok pk138 ?_; repeat (refine G1 tt_ok pk138 ?_; intro _))
  exact CW.ret (fin_ret rfl (A := [rowA q2 2 (([(3, 16, 16, num), (2, 16, 16, tgt)] : List Fd).flatMap fdC)]) pk_ ⟨[(3, 16, 16, num), (2, 16, 16, tgt)], q2, c2, _, ⟨by simp, by simp [fdOk], fun _ => ⟨by simp, by simp⟩⟩, rfl, rfl⟩)
set_option maxHeartbeats 8000000 in
theorem fields15 (β : Base) (dev ev num coll tgt b a : Int) (v : Bool) : Tri Tryz.prog β 138 [.agg #[.int .i64 15, .int .i64 dev, .int .i64 ev, .int .i64 num, .int .i64 coll, .int .i64 tgt, .int .i64 b, .int .i64 a, .bool v]] [] (fdsV 15 num tgt) := by
  refine Tri.intro tt_ok Tryz.func138 rfl rfl Tryz.ntmps138 rfl fun F => ?_
  refine CW.ent (own_nil 208 4) ?_
  (refine G tt_ok pk138 ?_; repeat (refine G1 tt_ok pk138 ?_; intro _))
  (refine SQ.built tt_ok rfl rfl (fun _ => w_ ?_))
  (refine G tt_ok pk138 ?_; repeat (refine G1 tt_ok pk138 ?_; intro _))
  refine ke rfl rfl (has162 β _ ([9, 13, 14, 5] : List Int) (by decide) _) ?_
  (refine G tt_ok pk138 ?_; repeat (refine G1 tt_ok pk138 ?_; intro _))
  (refine SQ.built tt_ok rfl rfl (fun _ => w_ ?_))
  (refine G tt_ok pk138 ?_; repeat (refine G1 tt_ok pk138 ?_; intro _))
  (refine SQ.appA tt_ok rfl rfl (by repeat (first | exact Rm.h | apply Rm.t)) (by repeat (first | exact .h | exact .q | apply At.t)) ([.int .i64 0, .int .i64 32, .int .i64 32, .int .i64 (dev)]) rfl rfl rfl (scal_eq rfl) (by omega) (by show (0 + 1) * 32 ≤ _; omega) (fun q1 c1 => w_ ?_))
  (refine G tt_ok pk138 ?_; repeat (refine G1 tt_ok pk138 ?_; intro _))
  (refine SQ.built tt_ok rfl rfl (fun _ => w_ ?_))
  (refine G tt_ok pk138 ?_; repeat (refine G1 tt_ok pk138 ?_; intro _))
  refine ke rfl rfl (has162 β _ ([10, 11, 1, 3, 4, 12, 15] : List Int) (by decide) _) ?_
  (refine G tt_ok pk138 ?_; repeat (refine G1 tt_ok pk138 ?_; intro _))
  (refine SQ.built tt_ok rfl rfl (fun _ => w_ ?_))
  (refine G tt_ok pk138 ?_; repeat (refine G1 tt_ok pk138 ?_; intro _))
  (refine SQ.appA tt_ok rfl rfl (by repeat (first | exact Rm.h | apply Rm.t)) (by repeat (first | exact .h | exact .q | apply At.t)) ([.int .i64 1, .int .i64 0, .int .i64 32, .int .i64 (ev)]) rfl rfl rfl (scal_eq rfl) (by omega) (by show (1 + 1) * 32 ≤ _; omega) (fun q2 c2 => w_ ?_))
  (refine G tt_ok pk138 ?_; repeat (refine G1 tt_ok pk138 ?_; intro _))
  (refine G tt_ok pk138 ?_; repeat (refine G1 tt_ok pk138 ?_; intro _))
  (refine G tt_ok pk138 ?_; repeat (refine G1 tt_ok pk138 ?_; intro _))
  (refine SQ.built tt_ok rfl rfl (fun _ => w_ ?_))
  (refine G tt_ok pk138 ?_; repeat (refine G1 tt_ok pk138 ?_; intro _))
  refine ke rfl rfl (has162 β _ ([9, 10, 11, 1, 13] : List Int) (by decide) _) ?_
  (refine G tt_ok pk138 ?_; repeat (refine G1 tt_ok pk138 ?_; intro _))
  (refine SQ.built tt_ok rfl rfl (fun _ => w_ ?_))
  (refine G tt_ok pk138 ?_; repeat (refine G1 tt_ok pk138 ?_; intro _))
  refine ke rfl rfl (has162 β _ ([9, 14, 5] : List Int) (by decide) _) ?_
  (refine G tt_ok pk138 ?_; repeat (refine G1 tt_ok pk138 ?_; intro _))
  (refine G tt_ok pk138 ?_; repeat (refine G1 tt_ok pk138 ?_; intro _))
  refine SQ.eqs tt_ok rfl rfl rfl (by kernel_rfl) (by kernel_rfl) ?_
  (refine G tt_ok pk138 ?_; repeat (refine G1 tt_ok pk138 ?_; intro _))
  exact CW.ret (fin_ret rfl (A := [rowA q2 2 (([(0, 32, 32, dev), (1, 0, 32, ev)] : List Fd).flatMap fdC)]) pk_ ⟨[(0, 32, 32, dev), (1, 0, 32, ev)], q2, c2, _, ⟨by simp, by simp [fdOk], fun h => absurd h (by decide)⟩, rfl, rfl⟩)
set_option maxHeartbeats 8000000 in
theorem fieldsN (β : Base) {op : Int} (h1 : op ≠ 1) (h3 : op ≠ 3) (h4 : op ≠ 4) (h5 : op ≠ 5) (h8 : op ≠ 8) (h9 : op ≠ 9) (h10 : op ≠ 10) (h11 : op ≠ 11) (h12 : op ≠ 12) (h13 : op ≠ 13) (h14 : op ≠ 14) (h15 : op ≠ 15) (dev ev num coll tgt b a : Int) (v : Bool) : Tri Tryz.prog β 138 [.agg #[.int .i64 op, .int .i64 dev, .int .i64 ev, .int .i64 num, .int .i64 coll, .int .i64 tgt, .int .i64 b, .int .i64 a, .bool v]] [] (fdsV op num tgt) := by
  refine Tri.intro tt_ok Tryz.func138 rfl rfl Tryz.ntmps138 rfl fun F => ?_
  refine CW.ent (own_nil 208 4) ?_
  (refine G tt_ok pk138 ?_; repeat (refine G1 tt_ok pk138 ?_; intro _))
  (refine SQ.built tt_ok rfl rfl (fun _ => w_ ?_))
  (refine G tt_ok pk138 ?_; repeat (refine G1 tt_ok pk138 ?_; intro _))
  refine ke rfl rfl (has162 β _ ([9, 13, 14, 5] : List Int) (by decide) _) ?_
  rw [show (([9, 13, 14, 5] : List Int).contains op) = false by simp [h9, h13, h14, h5]]
  (refine G tt_ok pk138 ?_; repeat (refine G1 tt_ok pk138 ?_; intro _))
  (refine SQ.built tt_ok rfl rfl (fun _ => w_ ?_))
  (refine G tt_ok pk138 ?_; repeat (refine G1 tt_ok pk138 ?_; intro _))
  (refine SQ.appA tt_ok rfl rfl (by repeat (first | exact Rm.h | apply Rm.t)) (by repeat (first | exact .h | exact .q | apply At.t)) ([.int .i64 0, .int .i64 32, .int .i64 32, .int .i64 (dev)]) rfl rfl rfl (scal_eq rfl) (by omega) (by show (0 + 1) * 32 ≤ _; omega) (fun q1 c1 => w_ ?_))
  (refine G tt_ok pk138 ?_; repeat (refine G1 tt_ok pk138 ?_; intro _))
  (refine SQ.built tt_ok rfl rfl (fun _ => w_ ?_))
  (refine G tt_ok pk138 ?_; repeat (refine G1 tt_ok pk138 ?_; intro _))
  refine ke rfl rfl (has162 β _ ([10, 11, 1, 3, 4, 12, 15] : List Int) (by decide) _) ?_
  rw [show (([10, 11, 1, 3, 4, 12, 15] : List Int).contains op) = false by simp [h10, h11, h1, h3, h4, h12, h15]]
  (refine G tt_ok pk138 ?_; repeat (refine G1 tt_ok pk138 ?_; intro _))
  rw [show (op == 10) = false by simp [h10]]
  (refine G tt_ok pk138 ?_; repeat (refine G1 tt_ok pk138 ?_; intro _))
  rw [show (op == 14) = false by simp [h14]]
  (refine G tt_ok pk138 ?_; repeat (refine G1 tt_ok pk138 ?_; intro _))
  (refine SQ.built tt_ok rfl rfl (fun _ => w_ ?_))
  (refine G tt_ok pk138 ?_; repeat (refine G1 tt_ok pk138 ?_; intro _))
  refine ke rfl rfl (has162 β _ ([9, 10, 11, 1, 13] : List Int) (by decide) _) ?_
  rw [show (([9, 10, 11, 1, 13] : List Int).contains op) = false by simp [h9, h10, h11, h1, h13]]
  (refine G tt_ok pk138 ?_; repeat (refine G1 tt_ok pk138 ?_; intro _))
  (refine SQ.built tt_ok rfl rfl (fun _ => w_ ?_))
  (refine G tt_ok pk138 ?_; repeat (refine G1 tt_ok pk138 ?_; intro _))
  refine ke rfl rfl (has162 β _ ([9, 14, 5] : List Int) (by decide) _) ?_
  rw [show (([9, 14, 5] : List Int).contains op) = false by simp [h9, h14, h5]]
  (refine G tt_ok pk138 ?_; repeat (refine G1 tt_ok pk138 ?_; intro _))
  rw [show (op == 8) = false by simp [h8]]
  (refine G tt_ok pk138 ?_; repeat (refine G1 tt_ok pk138 ?_; intro _))
  rw [show (op == 8) = false by simp [h8]]
  (refine G tt_ok pk138 ?_; repeat (refine G1 tt_ok pk138 ?_; intro _))
  rw [show (op == 9) = false by simp [h9]]
  (refine G tt_ok pk138 ?_; repeat (refine G1 tt_ok pk138 ?_; intro _))
  refine SQ.eqs tt_ok rfl rfl rfl (by kernel_rfl) (by kernel_rfl) ?_
  (refine G tt_ok pk138 ?_; repeat (refine G1 tt_ok pk138 ?_; intro _))
  exact CW.ret (fin_ret rfl (A := [rowA q1 1 (([(0, 32, 32, dev)] : List Fd).flatMap fdC)]) pk_ ⟨[(0, 32, 32, dev)], q1, c1, _, ⟨by simp, by simp [fdOk], fun h => absurd h h14⟩, rfl, rfl⟩)
theorem fields138 (β : Base) (c : Cm) : Tri Tryz.prog β 138 [.agg #[.int .i64 c.1, .int .i64 c.2.1, .int .i64 c.2.2.1, .int .i64 c.2.2.2.1, .int .i64 c.2.2.2.2.1, .int .i64 c.2.2.2.2.2.1, .int .i64 c.2.2.2.2.2.2.1, .int .i64 c.2.2.2.2.2.2.2.1, .bool c.2.2.2.2.2.2.2.2]] [] (fdsV c.1 c.2.2.2.1 c.2.2.2.2.2.1) := by
  obtain ⟨op, dev, ev, num, coll, tgt, b, a, v⟩ := c
  by_cases h1 : op = 1
  · subst h1; exact fields1 β dev ev num coll tgt b a v
  by_cases h3 : op = 3
  · subst h3; exact fields3 β dev ev num coll tgt b a v
  by_cases h4 : op = 4
  · subst h4; exact fields4 β dev ev num coll tgt b a v
  by_cases h5 : op = 5
  · subst h5; exact fields5 β dev ev num coll tgt b a v
  by_cases h8 : op = 8
  · subst h8; exact fields8 β dev ev num coll tgt b a v
  by_cases h9 : op = 9
  · subst h9; exact fields9 β dev ev num coll tgt b a v
  by_cases h10 : op = 10
  · subst h10; exact fields10 β dev ev num coll tgt b a v
  by_cases h11 : op = 11
  · subst h11; exact fields11 β dev ev num coll tgt b a v
  by_cases h12 : op = 12
  · subst h12; exact fields12 β dev ev num coll tgt b a v
  by_cases h13 : op = 13
  · subst h13; exact fields13 β dev ev num coll tgt b a v
  by_cases h14 : op = 14
  · subst h14; exact fields14 β dev ev num coll tgt b a v
  by_cases h15 : op = 15
  · subst h15; exact fields15 β dev ev num coll tgt b a v
  exact fieldsN β h1 h3 h4 h5 h8 h9 h10 h11 h12 h13 h14 h15 dev ev num coll tgt b a v
end Go.Proofs.YthhfoppaaehepaaGreatDoor.Sl
namespace Go.Proofs.YthhfoppaaehepaaGreatDoor.Sl
open Go Go.RowKit Go.Proofs
set_option linter.unusedVariables false
set_option linter.unusedSimpArgs false
attribute [local irreducible] CW Tri OW
set_option maxRecDepth 10000
@[reducible] def pk179 : List (Nat × Plan) := [(1, [(0, 0, []), (1, 0, []), (2, 0, []), (3, 0, []), (4, 0, []), (5, 0, []), (6, 0, []), (7, 0, [])])]
@[reducible] def pk111 : List (Nat × Plan) := [(9, [(0, 0, []), (1, 0, []), (2, 0, []), (3, 0, []), (4, 0, []), (5, 0, []), (6, 0, []), (7, 0, []), (8, 0, []), (9, 0, []), (10, 0, [])]), (11, [(0, 0, []), (1, 0, []), (2, 0, []), (3, 0, []), (4, 0, []), (5, 0, []), (6, 0, []), (7, 0, []), (8, 0, []), (9, 0, []), (10, 0, []), (11, 0, []), (12, 0, []), (13, 0, []), (14, 1, [])])]
theorem fd_cur {cs : List Value} {off n : Nat} {xs : List Fd} (h : (cs.drop off).take (n * 4) = xs.flatMap fdC) {k : Nat} {x : Fd} (hk : xs[k]? = some x) : rdv ti208 cs (off + k * 4) = some (.agg (fdC x).toArray) :=
  rd_enc (enc := fdC) (fun _ => rfl) (ti := ti208) rfl rfl h hk
theorem pow_ne (s : Nat) (h : s < 64) : IntKind.u64.wrap (1 * 2 ^ min s IntKind.u64.bits) ≠ 0 := by
  rw [one_shl h]
  have := Nat.two_pow_pos s
  omega
theorem part179 (β : Base) (x f : Nat) {s : Nat} (hs : s < 64) : Tri Tryz.prog β 179 [.int .u64 x, .int .i64 f, .int .i64 s] [] (fun v L => (∃ n, v = .int .i64 n) ∧ L = []) := by
  refine Tri.intro tt_ok Tryz.func179 rfl rfl Tryz.ntmps179 rfl fun F => ?_
  (refine G tt_ok pk179 ?_; repeat (refine G1 tt_ok pk179 ?_; intro _))
  refine SQ.div tt_ok rfl rfl (pow_ne s hs) rfl ?_
  (refine G tt_ok pk179 ?_; repeat (refine G1 tt_ok pk179 ?_; intro _))
  exact CW.ret (fin_ret rfl pk_ ⟨⟨_, rfl⟩, rfl⟩)
def arW (W : List Nat) : Value := .agg #[.int .u64 (W.getD 0 0 : Nat), .int .u64 (W.getD 1 0 : Nat), .int .u64 (W.getD 2 0 : Nat), .int .u64 (W.getD 3 0 : Nat)]
theorem list4 {W : List Nat} (h : W.length = 4) : W = [W.getD 0 0, W.getD 1 0, W.getD 2 0, W.getD 3 0] := by
  match W, h with
  | [a, b, c, d], _ => rfl
set_option maxHeartbeats 8000000 in
theorem encode111 (β : Base) (c : Cm) : Tri Tryz.prog β 111 [.agg #[.int .i64 c.1, .int .i64 c.2.1, .int .i64 c.2.2.1, .int .i64 c.2.2.2.1, .int .i64 c.2.2.2.2.1, .int .i64 c.2.2.2.2.2.1, .int .i64 c.2.2.2.2.2.2.1, .int .i64 c.2.2.2.2.2.2.2.1, .bool c.2.2.2.2.2.2.2.2]] [] (fun v L => (∃ (W : List Nat) (ok : Bool), v = .tuple #[arW W, .bool ok] ∧ (ok = true → c.1 = 14 → 0 ≤ c.2.2.2.1 ∧ 0 ≤ c.2.2.2.2.2.1)) ∧ L = []) := by
  refine Tri.intro tt_ok Tryz.func111 rfl rfl Tryz.ntmps111 rfl fun F => ?_
  have hT := fields138 β c
  obtain ⟨op, dev, ev, num, coll, tgt, b, a, v⟩ := c
  simp only at hT
  unfold fdsV at hT
  (refine G tt_ok pk111 ?_; repeat (refine G1 tt_ok pk111 ?_; intro _))
  rename_i c1 c2
  (refine ka rfl rfl (hT) ?_; rintro _ _ ⟨fs, q, n, ok, hfs, rfl, rfl⟩; refine w_ ?_)
  (refine G tt_ok pk111 ?_; repeat (refine G1 tt_ok pk111 ?_; intro _))
  cases ok with
  | false =>
    (refine G tt_ok pk111 ?_; repeat (refine G1 tt_ok pk111 ?_; intro _))
    refine SQ.bArr tt_ok rfl rfl ?_
    (refine G tt_ok pk111 ?_; repeat (refine G1 tt_ok pk111 ?_; intro _))
    exact CW.ret (fin_cells [_, _] ⟨(by first | exact ⟨_, _, _, _, 0, rfl, rfl, rfl, rfl⟩ | exact ⟨_, _, _, _, 1, rfl, rfl, rfl, rfl⟩ | exact ⟨_, _, _, _, 2, rfl, rfl, rfl, rfl⟩ | exact ⟨_, _, _, _, 3, rfl, rfl, rfl, rfl⟩ | exact ⟨_, _, _, _, 4, rfl, rfl, rfl, rfl⟩ | exact ⟨_, _, _, _, 5, rfl, rfl, rfl, rfl⟩ | exact ⟨_, _, _, _, 6, rfl, rfl, rfl, rfl⟩ | exact ⟨_, _, _, _, 7, rfl, rfl, rfl, rfl⟩ | exact ⟨_, _, _, _, 8, rfl, rfl, rfl, rfl⟩ | exact ⟨_, _, _, _, 9, rfl, rfl, rfl, rfl⟩ | exact ⟨_, _, _, _, 10, rfl, rfl, rfl, rfl⟩ | exact ⟨_, _, _, _, 11, rfl, rfl, rfl, rfl⟩ | exact ⟨_, _, _, _, 12, rfl, rfl, rfl, rfl⟩ | exact ⟨_, _, _, _, 13, rfl, rfl, rfl, rfl⟩ | exact ⟨_, _, _, _, 14, rfl, rfl, rfl, rfl⟩ | exact ⟨_, _, _, _, 15, rfl, rfl, rfl, rfl⟩ | exact ⟨_, _, _, _, 16, rfl, rfl, rfl, rfl⟩ | exact ⟨_, _, _, _, 17, rfl, rfl, rfl, rfl⟩ | exact ⟨_, _, _, _, 18, rfl, rfl, rfl, rfl⟩ | exact ⟨_, _, _, _, 19, rfl, rfl, rfl, rfl⟩ | exact ⟨_, _, _, _, 20, rfl, rfl, rfl, rfl⟩ | exact ⟨_, _, _, _, 21, rfl, rfl, rfl, rfl⟩ | exact ⟨_, _, _, _, 22, rfl, rfl, rfl, rfl⟩ | exact ⟨_, _, _, _, 23, rfl, rfl, rfl, rfl⟩), rfl, trivial⟩ (Ent.dropAll _) ⟨⟨[0, 0, 0, 0], _, rfl, fun h => by cases h⟩, rfl⟩)
  | true =>
    (refine G tt_ok pk111 ?_; repeat (refine G1 tt_ok pk111 ?_; intro _))
    (refine ka rfl rfl (known139 β op) ?_; rintro _ _ ⟨⟨kn, rfl⟩, rfl⟩; refine w_ ?_)
    (refine G tt_ok pk111 ?_; repeat (refine G1 tt_ok pk111 ?_; intro _))
    cases kn with
    | false =>
      (refine G tt_ok pk111 ?_; repeat (refine G1 tt_ok pk111 ?_; intro _))
      refine SQ.bArr tt_ok rfl rfl ?_
      (refine G tt_ok pk111 ?_; repeat (refine G1 tt_ok pk111 ?_; intro _))
      exact CW.ret (fin_cells [_, _] ⟨(by first | exact ⟨_, _, _, _, 0, rfl, rfl, rfl, rfl⟩ | exact ⟨_, _, _, _, 1, rfl, rfl, rfl, rfl⟩ | exact ⟨_, _, _, _, 2, rfl, rfl, rfl, rfl⟩ | exact ⟨_, _, _, _, 3, rfl, rfl, rfl, rfl⟩ | exact ⟨_, _, _, _, 4, rfl, rfl, rfl, rfl⟩ | exact ⟨_, _, _, _, 5, rfl, rfl, rfl, rfl⟩ | exact ⟨_, _, _, _, 6, rfl, rfl, rfl, rfl⟩ | exact ⟨_, _, _, _, 7, rfl, rfl, rfl, rfl⟩ | exact ⟨_, _, _, _, 8, rfl, rfl, rfl, rfl⟩ | exact ⟨_, _, _, _, 9, rfl, rfl, rfl, rfl⟩ | exact ⟨_, _, _, _, 10, rfl, rfl, rfl, rfl⟩ | exact ⟨_, _, _, _, 11, rfl, rfl, rfl, rfl⟩ | exact ⟨_, _, _, _, 12, rfl, rfl, rfl, rfl⟩ | exact ⟨_, _, _, _, 13, rfl, rfl, rfl, rfl⟩ | exact ⟨_, _, _, _, 14, rfl, rfl, rfl, rfl⟩ | exact ⟨_, _, _, _, 15, rfl, rfl, rfl, rfl⟩ | exact ⟨_, _, _, _, 16, rfl, rfl, rfl, rfl⟩ | exact ⟨_, _, _, _, 17, rfl, rfl, rfl, rfl⟩ | exact ⟨_, _, _, _, 18, rfl, rfl, rfl, rfl⟩ | exact ⟨_, _, _, _, 19, rfl, rfl, rfl, rfl⟩ | exact ⟨_, _, _, _, 20, rfl, rfl, rfl, rfl⟩ | exact ⟨_, _, _, _, 21, rfl, rfl, rfl, rfl⟩ | exact ⟨_, _, _, _, 22, rfl, rfl, rfl, rfl⟩ | exact ⟨_, _, _, _, 23, rfl, rfl, rfl, rfl⟩), rfl, trivial⟩ (Ent.dropAll _) ⟨⟨[0, 0, 0, 0], _, rfl, fun h => by cases h⟩, rfl⟩)
    | true =>
      obtain ⟨o', ho'⟩ := u64_nat op
      (refine G tt_ok pk111 ?_; repeat (refine G1 tt_ok pk111 ?_; intro _))
      rw [ho']
      (refine G tt_ok pk111 ?_; repeat (refine G1 tt_ok pk111 ?_; intro _))
      refine SQ.bArr tt_ok rfl rfl ?_
      (refine G tt_ok pk111 ?_; repeat (refine G1 tt_ok pk111 ?_; intro _))
      rename_i c6
      have hS : SlR β (rowA q fs.length (fs.flatMap fdC)) q fs.length 4 (fs.flatMap fdC) := slr_row (flatE_len (sz := 4) (fun _ => rfl) fs)
      refine CW.loop (α := Nat × List Nat) (fun x => x.1 ≤ fs.length ∧ x.2.length = 4 ∧ ∀ y ∈ fs.take x.1, 0 ≤ y.2.2.2) (fun x => [(7, .int .i64 x.1), (4, .slice q fs.length n), (6, .pointer (some ⟨c6, 0, none⟩)), (2, .pointer (some ⟨c2, 0, none⟩))])
        (fun x => [pt c6 (x.2.flatMap wC), pt c2 [.int .u64 0, .int .u64 0, .int .u64 0, .int .u64 0], rowA q fs.length (fs.flatMap fdC)]) (fun x => fs.length - x.1) (0, [o', 0, 0, 0]) ⟨by simp, rfl, by simp⟩ ⟨rfl, rfl, rfl, rfl, trivial⟩ pk_ ?_
      rintro ⟨k, W⟩ ⟨hk, hW, hpos⟩
      simp only at hk hW hpos ⊢
      (refine G tt_ok pk111 ?_; repeat (refine G1 tt_ok pk111 ?_; intro _))
      by_cases hlt : k < fs.length
      · rw [decide_eq_true (show (k : Int) < (fs.length : Nat) by omega)]
        obtain ⟨x, hx⟩ : ∃ x, fs[k]? = some x := ⟨_, List.getElem?_eq_getElem hlt⟩
        have hxo := hfs.2.1 x (List.mem_of_getElem? hx)
        have htk : fs.take (k + 1) = fs.take k ++ [x] := by
          obtain ⟨h1, h2⟩ := List.getElem?_eq_some_iff.1 hx
          rw [← h2]; exact (List.take_append_getElem h1).symm
        have e : IntKind.i64.wrap ((k : Int) + 1) = ((k + 1 : Nat) : Int) := by have := hfs.1; rw [wrap_id (by omega) (by omega)]; omega
        (refine G tt_ok pk111 ?_; repeat (refine G1 tt_ok pk111 ?_; intro _))
        (refine SQ.idxG tt_ok rfl rfl (hS) (by repeat (first | exact .h | apply AtA.t)) (k) (rfl) (hlt) rfl ?_)
        (refine G tt_ok pk111 ?_; repeat (refine G1 tt_ok pk111 ?_; intro _))
        (refine SQ.ldG tt_ok rfl rfl (hS) (by repeat (first | exact .h | apply AtA.t)) (by omega) (fun cur hcs => fd_cur hcs hx) ?_)
        obtain ⟨w, f, s, nn⟩ := x
        unfold fdOk at hxo
        simp only at hxo
        (refine G tt_ok pk111 ?_; repeat (refine G1 tt_ok pk111 ?_; intro _))
        rename_i c8
        cases hn0 : decide (nn < 0) with
        | true =>
          (refine G tt_ok pk111 ?_; repeat (refine G1 tt_ok pk111 ?_; intro _))
          refine SQ.bArr tt_ok rfl rfl ?_
          (refine G tt_ok pk111 ?_; repeat (refine G1 tt_ok pk111 ?_; intro _))
          exact CW.ret (fin_cells [_, _] ⟨(by first | exact ⟨_, _, _, _, 0, rfl, rfl, rfl, rfl⟩ | exact ⟨_, _, _, _, 1, rfl, rfl, rfl, rfl⟩ | exact ⟨_, _, _, _, 2, rfl, rfl, rfl, rfl⟩ | exact ⟨_, _, _, _, 3, rfl, rfl, rfl, rfl⟩ | exact ⟨_, _, _, _, 4, rfl, rfl, rfl, rfl⟩ | exact ⟨_, _, _, _, 5, rfl, rfl, rfl, rfl⟩ | exact ⟨_, _, _, _, 6, rfl, rfl, rfl, rfl⟩ | exact ⟨_, _, _, _, 7, rfl, rfl, rfl, rfl⟩ | exact ⟨_, _, _, _, 8, rfl, rfl, rfl, rfl⟩ | exact ⟨_, _, _, _, 9, rfl, rfl, rfl, rfl⟩ | exact ⟨_, _, _, _, 10, rfl, rfl, rfl, rfl⟩ | exact ⟨_, _, _, _, 11, rfl, rfl, rfl, rfl⟩ | exact ⟨_, _, _, _, 12, rfl, rfl, rfl, rfl⟩ | exact ⟨_, _, _, _, 13, rfl, rfl, rfl, rfl⟩ | exact ⟨_, _, _, _, 14, rfl, rfl, rfl, rfl⟩ | exact ⟨_, _, _, _, 15, rfl, rfl, rfl, rfl⟩ | exact ⟨_, _, _, _, 16, rfl, rfl, rfl, rfl⟩ | exact ⟨_, _, _, _, 17, rfl, rfl, rfl, rfl⟩ | exact ⟨_, _, _, _, 18, rfl, rfl, rfl, rfl⟩ | exact ⟨_, _, _, _, 19, rfl, rfl, rfl, rfl⟩ | exact ⟨_, _, _, _, 20, rfl, rfl, rfl, rfl⟩ | exact ⟨_, _, _, _, 21, rfl, rfl, rfl, rfl⟩ | exact ⟨_, _, _, _, 22, rfl, rfl, rfl, rfl⟩ | exact ⟨_, _, _, _, 23, rfl, rfl, rfl, rfl⟩), rfl, trivial⟩ (Ent.dropAll _) ⟨⟨[0, 0, 0, 0], _, rfl, fun h => by cases h⟩, rfl⟩)
        | false =>
          (refine G tt_ok pk111 ?_; repeat (refine G1 tt_ok pk111 ?_; intro _))
          cases decide (nn ≥ IntKind.i64.wrap (1 * 2 ^ min s IntKind.i64.bits)) with
          | true =>
            (refine G tt_ok pk111 ?_; repeat (refine G1 tt_ok pk111 ?_; intro _))
            refine SQ.bArr tt_ok rfl rfl ?_
            (refine G tt_ok pk111 ?_; repeat (refine G1 tt_ok pk111 ?_; intro _))
            exact CW.ret (fin_cells [_, _] ⟨(by first | exact ⟨_, _, _, _, 0, rfl, rfl, rfl, rfl⟩ | exact ⟨_, _, _, _, 1, rfl, rfl, rfl, rfl⟩ | exact ⟨_, _, _, _, 2, rfl, rfl, rfl, rfl⟩ | exact ⟨_, _, _, _, 3, rfl, rfl, rfl, rfl⟩ | exact ⟨_, _, _, _, 4, rfl, rfl, rfl, rfl⟩ | exact ⟨_, _, _, _, 5, rfl, rfl, rfl, rfl⟩ | exact ⟨_, _, _, _, 6, rfl, rfl, rfl, rfl⟩ | exact ⟨_, _, _, _, 7, rfl, rfl, rfl, rfl⟩ | exact ⟨_, _, _, _, 8, rfl, rfl, rfl, rfl⟩ | exact ⟨_, _, _, _, 9, rfl, rfl, rfl, rfl⟩ | exact ⟨_, _, _, _, 10, rfl, rfl, rfl, rfl⟩ | exact ⟨_, _, _, _, 11, rfl, rfl, rfl, rfl⟩ | exact ⟨_, _, _, _, 12, rfl, rfl, rfl, rfl⟩ | exact ⟨_, _, _, _, 13, rfl, rfl, rfl, rfl⟩ | exact ⟨_, _, _, _, 14, rfl, rfl, rfl, rfl⟩ | exact ⟨_, _, _, _, 15, rfl, rfl, rfl, rfl⟩ | exact ⟨_, _, _, _, 16, rfl, rfl, rfl, rfl⟩ | exact ⟨_, _, _, _, 17, rfl, rfl, rfl, rfl⟩ | exact ⟨_, _, _, _, 18, rfl, rfl, rfl, rfl⟩ | exact ⟨_, _, _, _, 19, rfl, rfl, rfl, rfl⟩ | exact ⟨_, _, _, _, 20, rfl, rfl, rfl, rfl⟩ | exact ⟨_, _, _, _, 21, rfl, rfl, rfl, rfl⟩ | exact ⟨_, _, _, _, 22, rfl, rfl, rfl, rfl⟩ | exact ⟨_, _, _, _, 23, rfl, rfl, rfl, rfl⟩), rfl, trivial⟩ (Ent.dropAll _) ⟨⟨[0, 0, 0, 0], _, rfl, fun h => by cases h⟩, rfl⟩)
          | false =>
            (refine G tt_ok pk111 ?_; repeat (refine G1 tt_ok pk111 ?_; intro _))
            refine SQ.idx tt_ok rfl rfl w rfl hxo.1 (o' := 0 + w * 1) rfl ?_
            (refine SQ.ldA tt_ok rfl rfl (by repeat (first | exact .h | exact .q | apply At.t)) (w_rd (getD_some (show w < W.length by omega))) ?_)
            (refine G tt_ok pk111 ?_; repeat (refine G1 tt_ok pk111 ?_; intro _))
            obtain ⟨z, hz⟩ := u64_nat (((W.getD w 0 : Nat) : Int) + IntKind.u64.wrap (IntKind.u64.wrap nn * 2 ^ min f IntKind.u64.bits))
            (refine G tt_ok pk111 ?_; repeat (refine G1 tt_ok pk111 ?_; intro _))
            rw [hz]
            refine SQ.idx tt_ok rfl rfl w rfl hxo.1 (o' := 0 + w * 1) rfl ?_
            (refine SQ.stA tt_ok rfl rfl (by repeat (first | apply Up.h | apply Up.t)) (by rfl) (w_wr (show w < W.length by omega) z) (by repeat (first | exact trivial | refine ⟨trivial, ?_⟩ | refine ⟨wk (by repeat (first | exact .h | exact .q | apply At.t)) (by rfl), ?_⟩)) ?_)
            (refine G tt_ok pk111 ?_; repeat (refine G1 tt_ok pk111 ?_; intro _))
            exact ⟨(k + 1, W.set w z), ⟨by simp; omega, by simp [hW], by
              simp only [htk]
              intro y hy
              rcases List.mem_append.1 hy with h | h
              · exact hpos y h
              · simp only [List.mem_singleton] at h
                subst h
                simpa using hn0⟩, by simp; omega, ⟨by rw [← e]; rfl, rfl, rfl, rfl, trivial⟩, pk_⟩
      · rw [decide_eq_false (show ¬ (k : Int) < (fs.length : Nat) by omega)]
        (refine G tt_ok pk111 ?_; repeat (refine G1 tt_ok pk111 ?_; intro _))
        refine CW.exit ?_
        rw [list4 hW]
        (refine G tt_ok pk111 ?_; repeat (refine G1 tt_ok pk111 ?_; intro _))
        rw [List.take_of_length_le (by omega)] at hpos
        refine CW.ret (fin_cells [_, _] ⟨(by first | exact ⟨_, _, _, _, 0, rfl, rfl, rfl, rfl⟩ | exact ⟨_, _, _, _, 1, rfl, rfl, rfl, rfl⟩ | exact ⟨_, _, _, _, 2, rfl, rfl, rfl, rfl⟩ | exact ⟨_, _, _, _, 3, rfl, rfl, rfl, rfl⟩ | exact ⟨_, _, _, _, 4, rfl, rfl, rfl, rfl⟩ | exact ⟨_, _, _, _, 5, rfl, rfl, rfl, rfl⟩ | exact ⟨_, _, _, _, 6, rfl, rfl, rfl, rfl⟩ | exact ⟨_, _, _, _, 7, rfl, rfl, rfl, rfl⟩ | exact ⟨_, _, _, _, 8, rfl, rfl, rfl, rfl⟩ | exact ⟨_, _, _, _, 9, rfl, rfl, rfl, rfl⟩ | exact ⟨_, _, _, _, 10, rfl, rfl, rfl, rfl⟩ | exact ⟨_, _, _, _, 11, rfl, rfl, rfl, rfl⟩ | exact ⟨_, _, _, _, 12, rfl, rfl, rfl, rfl⟩ | exact ⟨_, _, _, _, 13, rfl, rfl, rfl, rfl⟩ | exact ⟨_, _, _, _, 14, rfl, rfl, rfl, rfl⟩ | exact ⟨_, _, _, _, 15, rfl, rfl, rfl, rfl⟩ | exact ⟨_, _, _, _, 16, rfl, rfl, rfl, rfl⟩ | exact ⟨_, _, _, _, 17, rfl, rfl, rfl, rfl⟩ | exact ⟨_, _, _, _, 18, rfl, rfl, rfl, rfl⟩ | exact ⟨_, _, _, _, 19, rfl, rfl, rfl, rfl⟩ | exact ⟨_, _, _, _, 20, rfl, rfl, rfl, rfl⟩ | exact ⟨_, _, _, _, 21, rfl, rfl, rfl, rfl⟩ | exact ⟨_, _, _, _, 22, rfl, rfl, rfl, rfl⟩ | exact ⟨_, _, _, _, 23, rfl, rfl, rfl, rfl⟩), rfl, trivial⟩ (Ent.dropAll _) ⟨⟨W, _, rfl, fun _ h14 => ?_⟩, rfl⟩)
        obtain ⟨⟨y, hy, e1⟩, ⟨z, hz, e2⟩⟩ := hfs.2.2 h14
        show 0 ≤ num ∧ 0 ≤ tgt
        rw [← e1, ← e2]
        exact ⟨hpos y hy, hpos z hz⟩
end Go.Proofs.YthhfoppaaehepaaGreatDoor.Sl
namespace Go.Proofs.YthhfoppaaehepaaGreatDoor.Sl
open Go Go.RowKit Go.Proofs
set_option linter.unusedVariables false
set_option linter.unusedSimpArgs false
attribute [local irreducible] CW Tri OW
set_option maxRecDepth 10000
@[reducible] def pk174 : List (Nat × Plan) := [(10, [(0, 0, []), (1, 0, []), (2, 0, []), (3, 0, []), (4, 0, []), (5, 0, []), (6, 0, []), (7, 0, []), (8, 1, [1, 3, 5, 7]), (9, 0, [])])]
def cmV (c : Cm) : Value := .agg #[.int .i64 c.1, .int .i64 c.2.1, .int .i64 c.2.2.1, .int .i64 c.2.2.2.1, .int .i64 c.2.2.2.2.1, .int .i64 c.2.2.2.2.2.1, .int .i64 c.2.2.2.2.2.2.1, .int .i64 c.2.2.2.2.2.2.2.1, .bool c.2.2.2.2.2.2.2.2]
set_option maxHeartbeats 16000000 in
theorem decode174 (β : Base) (W : List Nat) : Tri Tryz.prog β 174 [arW W] [] (fun v L => (∃ (c : Cm) (ok : Bool), v = .tuple #[cmV c, .bool ok]) ∧ L = []) := by
  refine Tri.intro tt_ok Tryz.func174 rfl rfl Tryz.ntmps174 rfl fun F => ?_
  unfold arW
  generalize W.getD 0 0 = w0
  generalize W.getD 1 0 = w1
  generalize W.getD 2 0 = w2
  generalize W.getD 3 0 = w3
  (refine G tt_ok pk174 ?_; repeat (refine G1 tt_ok pk174 ?_; intro _))
  rename_i c1 c2
  refine SQ.idx tt_ok rfl rfl 0 rfl (by decide) (o' := 0 + 0 * 1) rfl ?_
  (refine G tt_ok pk174 ?_; repeat (refine G1 tt_ok pk174 ?_; intro _))
  generalize IntKind.i64.wrap ((w0 : Int).tmod 256) = op
  rename_i c4 c5
  have hT := fields138 β (op, 0, 0, 0, 0, 0, 0, 0, false)
  simp only at hT
  unfold fdsV at hT
  (refine ka rfl rfl (hT) ?_; rintro _ _ ⟨fs, q, n, ok, hfs, rfl, rfl⟩; refine w_ ?_)
  (refine G tt_ok pk174 ?_; repeat (refine G1 tt_ok pk174 ?_; intro _))
  (refine ka rfl rfl (known139 β op) ?_; rintro _ _ ⟨⟨kn, rfl⟩, rfl⟩; refine w_ ?_)
  (refine G tt_ok pk174 ?_; repeat (refine G1 tt_ok pk174 ?_; intro _))
  cases kn with
  | false =>
    (refine G tt_ok pk174 ?_; repeat (refine G1 tt_ok pk174 ?_; intro _))
    exact CW.ret (fin_cells [_, _] ⟨(by first | exact ⟨_, _, _, _, 0, rfl, rfl, rfl, rfl⟩ | exact ⟨_, _, _, _, 1, rfl, rfl, rfl, rfl⟩ | exact ⟨_, _, _, _, 2, rfl, rfl, rfl, rfl⟩ | exact ⟨_, _, _, _, 3, rfl, rfl, rfl, rfl⟩ | exact ⟨_, _, _, _, 4, rfl, rfl, rfl, rfl⟩ | exact ⟨_, _, _, _, 5, rfl, rfl, rfl, rfl⟩ | exact ⟨_, _, _, _, 6, rfl, rfl, rfl, rfl⟩ | exact ⟨_, _, _, _, 7, rfl, rfl, rfl, rfl⟩ | exact ⟨_, _, _, _, 8, rfl, rfl, rfl, rfl⟩ | exact ⟨_, _, _, _, 9, rfl, rfl, rfl, rfl⟩ | exact ⟨_, _, _, _, 10, rfl, rfl, rfl, rfl⟩ | exact ⟨_, _, _, _, 11, rfl, rfl, rfl, rfl⟩ | exact ⟨_, _, _, _, 12, rfl, rfl, rfl, rfl⟩ | exact ⟨_, _, _, _, 13, rfl, rfl, rfl, rfl⟩ | exact ⟨_, _, _, _, 14, rfl, rfl, rfl, rfl⟩ | exact ⟨_, _, _, _, 15, rfl, rfl, rfl, rfl⟩ | exact ⟨_, _, _, _, 16, rfl, rfl, rfl, rfl⟩ | exact ⟨_, _, _, _, 17, rfl, rfl, rfl, rfl⟩ | exact ⟨_, _, _, _, 18, rfl, rfl, rfl, rfl⟩ | exact ⟨_, _, _, _, 19, rfl, rfl, rfl, rfl⟩ | exact ⟨_, _, _, _, 20, rfl, rfl, rfl, rfl⟩ | exact ⟨_, _, _, _, 21, rfl, rfl, rfl, rfl⟩ | exact ⟨_, _, _, _, 22, rfl, rfl, rfl, rfl⟩ | exact ⟨_, _, _, _, 23, rfl, rfl, rfl, rfl⟩), rfl, trivial⟩ (Ent.dropAll _) ⟨⟨cm0, _, rfl⟩, rfl⟩)
  | true =>
    (refine G tt_ok pk174 ?_; repeat (refine G1 tt_ok pk174 ?_; intro _))
    have hS : SlR β (rowA q fs.length (fs.flatMap fdC)) q fs.length 4 (fs.flatMap fdC) := slr_row (flatE_len (sz := 4) (fun _ => rfl) fs)
    refine CW.loop (α := Nat × Cm) (fun x => x.1 ≤ fs.length) (fun x => [(8, .int .i64 x.1), (6, .slice q fs.length n), (4, .pointer (some ⟨c4, 0, none⟩)), (2, .pointer (some ⟨c2, 0, none⟩)), (1, .pointer (some ⟨c1, 0, none⟩))])
      (fun x => [pt c4 (cmC x.2), pt c2 (cmC cm0), pt c1 (([w0, w1, w2, w3] : List Nat).flatMap wC), rowA q fs.length (fs.flatMap fdC)]) (fun x => fs.length - x.1) (0, (op, 0, 0, 0, 0, 0, 0, 0, false)) (by simp) ⟨rfl, rfl, rfl, rfl, rfl, trivial⟩ pk_ ?_
    rintro ⟨k, d0, d1, d2, d3, d4, d5, d6, d7, d8⟩ hk
    simp only at hk ⊢
    (refine G tt_ok pk174 ?_; repeat (refine G1 tt_ok pk174 ?_; intro _))
    by_cases hlt : k < fs.length
    · rw [decide_eq_true (show (k : Int) < (fs.length : Nat) by omega)]
      obtain ⟨x, hx⟩ : ∃ x, fs[k]? = some x := ⟨_, List.getElem?_eq_getElem hlt⟩
      have hxo := hfs.2.1 x (List.mem_of_getElem? hx)
      have e : IntKind.i64.wrap ((k : Int) + 1) = ((k + 1 : Nat) : Int) := by have := hfs.1; rw [wrap_id (by omega) (by omega)]; omega
      (refine G tt_ok pk174 ?_; repeat (refine G1 tt_ok pk174 ?_; intro _))
      (refine SQ.idxG tt_ok rfl rfl (hS) (by repeat (first | exact .h | apply AtA.t)) (k) (rfl) (hlt) rfl ?_)
      (refine G tt_ok pk174 ?_; repeat (refine G1 tt_ok pk174 ?_; intro _))
      (refine SQ.ldG tt_ok rfl rfl (hS) (by repeat (first | exact .h | apply AtA.t)) (by omega) (fun cur hcs => fd_cur hcs hx) ?_)
      obtain ⟨w, f, s, nn⟩ := x
      unfold fdOk at hxo
      simp only at hxo
      (refine G tt_ok pk174 ?_; repeat (refine G1 tt_ok pk174 ?_; intro _))
      refine SQ.idx tt_ok rfl rfl w rfl hxo.1 (o' := 0 + w * 1) rfl ?_
      (refine SQ.ldA tt_ok rfl rfl (by repeat (first | exact .h | exact .q | apply At.t)) (w_rd (getD_some (show w < ([w0, w1, w2, w3] : List Nat).length from hxo.1))) ?_)
      (refine G tt_ok pk174 ?_; repeat (refine G1 tt_ok pk174 ?_; intro _))
      (refine SQ.callA rfl rfl (part179 β _ f hxo.2.2) (by repeat (first | exact .n | exact Rm.h | exact Rm.of own_row | exact Rm.of row_close0 | apply Tk.c | apply Rm.t)) ?_; rintro _ _ ⟨⟨z, rfl⟩, rfl⟩; refine ⟨(by repeat (first | exact trivial | refine ⟨trivial, ?_⟩ | refine ⟨wk (by repeat (first | exact .h | exact .q | apply At.t)) (w_rd (getD_some (show w < ([w0, w1, w2, w3] : List Nat).length from hxo.1))), ?_⟩ | refine ⟨wk (by repeat (first | exact .h | exact .q | apply At.t)) (by rfl), ?_⟩)), ?_⟩)
      (refine G tt_ok pk174 ?_; repeat (refine G1 tt_ok pk174 ?_; intro _))
      cases (((w : Nat) : Int) == 0) with
      | true =>
        (refine G tt_ok pk174 ?_; repeat (refine G1 tt_ok pk174 ?_; intro _))
        (refine G tt_ok pk174 ?_; repeat (refine G1 tt_ok pk174 ?_; intro _))
        exact ⟨(k + 1, d0, z, d2, d3, d4, d5, d6, d7, d8), by simp; omega, by simp; omega, ⟨by rw [← e]; rfl, rfl, rfl, rfl, rfl, trivial⟩, pk_⟩
      | false =>
        (refine G tt_ok pk174 ?_; repeat (refine G1 tt_ok pk174 ?_; intro _))
        cases (((w : Nat) : Int) == 3) with
        | true =>
          (refine G tt_ok pk174 ?_; repeat (refine G1 tt_ok pk174 ?_; intro _))
          (refine G tt_ok pk174 ?_; repeat (refine G1 tt_ok pk174 ?_; intro _))
          exact ⟨(k + 1, d0, d1, d2, z, d4, d5, d6, d7, d8), by simp; omega, by simp; omega, ⟨by rw [← e]; rfl, rfl, rfl, rfl, rfl, trivial⟩, pk_⟩
        | false =>
          (refine G tt_ok pk174 ?_; repeat (refine G1 tt_ok pk174 ?_; intro _))
          cases (((w : Nat) : Int) == 1) with
          | true =>
            (refine G tt_ok pk174 ?_; repeat (refine G1 tt_ok pk174 ?_; intro _))
            cases (((f : Nat) : Int) == 32) with
            | true =>
              (refine G tt_ok pk174 ?_; repeat (refine G1 tt_ok pk174 ?_; intro _))
              (refine G tt_ok pk174 ?_; repeat (refine G1 tt_ok pk174 ?_; intro _))
              exact ⟨(k + 1, d0, d1, d2, z, d4, d5, d6, d7, d8), by simp; omega, by simp; omega, ⟨by rw [← e]; rfl, rfl, rfl, rfl, rfl, trivial⟩, pk_⟩
            | false =>
              (refine G tt_ok pk174 ?_; repeat (refine G1 tt_ok pk174 ?_; intro _))
              cases (((w : Nat) : Int) == 1) with
              | true =>
                (refine G tt_ok pk174 ?_; repeat (refine G1 tt_ok pk174 ?_; intro _))
                cases (((s : Nat) : Int) == 32) with
                | true =>
                  (refine G tt_ok pk174 ?_; repeat (refine G1 tt_ok pk174 ?_; intro _))
                  (refine G tt_ok pk174 ?_; repeat (refine G1 tt_ok pk174 ?_; intro _))
                  exact ⟨(k + 1, d0, d1, z, d3, d4, d5, d6, d7, d8), by simp; omega, by simp; omega, ⟨by rw [← e]; rfl, rfl, rfl, rfl, rfl, trivial⟩, pk_⟩
                | false =>
                  (refine G tt_ok pk174 ?_; repeat (refine G1 tt_ok pk174 ?_; intro _))
                  cases (((w : Nat) : Int) == 1) with
                  | true =>
                    (refine G tt_ok pk174 ?_; repeat (refine G1 tt_ok pk174 ?_; intro _))
                    (refine G tt_ok pk174 ?_; repeat (refine G1 tt_ok pk174 ?_; intro _))
                    exact ⟨(k + 1, d0, d1, d2, d3, d4, d5, z, d7, d8), by simp; omega, by simp; omega, ⟨by rw [← e]; rfl, rfl, rfl, rfl, rfl, trivial⟩, pk_⟩
                  | false =>
                    (refine G tt_ok pk174 ?_; repeat (refine G1 tt_ok pk174 ?_; intro _))
                    cases (((f : Nat) : Int) == 0) with
                    | true =>
                      (refine G tt_ok pk174 ?_; repeat (refine G1 tt_ok pk174 ?_; intro _))
                      (refine G tt_ok pk174 ?_; repeat (refine G1 tt_ok pk174 ?_; intro _))
                      exact ⟨(k + 1, d0, d1, d2, d3, z, d5, d6, d7, d8), by simp; omega, by simp; omega, ⟨by rw [← e]; rfl, rfl, rfl, rfl, rfl, trivial⟩, pk_⟩
                    | false =>
                      (refine G tt_ok pk174 ?_; repeat (refine G1 tt_ok pk174 ?_; intro _))
                      cases (((f : Nat) : Int) == 16) with
                      | true =>
                        (refine G tt_ok pk174 ?_; repeat (refine G1 tt_ok pk174 ?_; intro _))
                        (refine G tt_ok pk174 ?_; repeat (refine G1 tt_ok pk174 ?_; intro _))
                        exact ⟨(k + 1, d0, d1, d2, d3, d4, z, d6, d7, d8), by simp; omega, by simp; omega, ⟨by rw [← e]; rfl, rfl, rfl, rfl, rfl, trivial⟩, pk_⟩
                      | false =>
                        (refine G tt_ok pk174 ?_; repeat (refine G1 tt_ok pk174 ?_; intro _))
                        cases (((f : Nat) : Int) == 8) with
                        | true =>
                          (refine G tt_ok pk174 ?_; repeat (refine G1 tt_ok pk174 ?_; intro _))
                          (refine G tt_ok pk174 ?_; repeat (refine G1 tt_ok pk174 ?_; intro _))
                          exact ⟨(k + 1, d0, d1, d2, d3, d4, d5, d6, IntKind.i64.wrap (256 * z), d8), by simp; omega, by simp; omega, ⟨by rw [← e]; rfl, rfl, rfl, rfl, rfl, trivial⟩, pk_⟩
                        | false =>
                          (refine G tt_ok pk174 ?_; repeat (refine G1 tt_ok pk174 ?_; intro _))
                          (refine G tt_ok pk174 ?_; repeat (refine G1 tt_ok pk174 ?_; intro _))
                          exact ⟨(k + 1, d0, d1, d2, d3, d4, d5, d6, d7, z == 1), by simp; omega, by simp; omega, ⟨by rw [← e]; rfl, rfl, rfl, rfl, rfl, trivial⟩, pk_⟩
              | false =>
                (refine G tt_ok pk174 ?_; repeat (refine G1 tt_ok pk174 ?_; intro _))
                cases (((w : Nat) : Int) == 1) with
                | true =>
                  (refine G tt_ok pk174 ?_; repeat (refine G1 tt_ok pk174 ?_; intro _))
                  (refine G tt_ok pk174 ?_; repeat (refine G1 tt_ok pk174 ?_; intro _))
                  exact ⟨(k + 1, d0, d1, d2, d3, d4, d5, z, d7, d8), by simp; omega, by simp; omega, ⟨by rw [← e]; rfl, rfl, rfl, rfl, rfl, trivial⟩, pk_⟩
                | false =>
                  (refine G tt_ok pk174 ?_; repeat (refine G1 tt_ok pk174 ?_; intro _))
                  cases (((f : Nat) : Int) == 0) with
                  | true =>
                    (refine G tt_ok pk174 ?_; repeat (refine G1 tt_ok pk174 ?_; intro _))
                    (refine G tt_ok pk174 ?_; repeat (refine G1 tt_ok pk174 ?_; intro _))
                    exact ⟨(k + 1, d0, d1, d2, d3, z, d5, d6, d7, d8), by simp; omega, by simp; omega, ⟨by rw [← e]; rfl, rfl, rfl, rfl, rfl, trivial⟩, pk_⟩
                  | false =>
                    (refine G tt_ok pk174 ?_; repeat (refine G1 tt_ok pk174 ?_; intro _))
                    cases (((f : Nat) : Int) == 16) with
                    | true =>
                      (refine G tt_ok pk174 ?_; repeat (refine G1 tt_ok pk174 ?_; intro _))
                      (refine G tt_ok pk174 ?_; repeat (refine G1 tt_ok pk174 ?_; intro _))
                      exact ⟨(k + 1, d0, d1, d2, d3, d4, z, d6, d7, d8), by simp; omega, by simp; omega, ⟨by rw [← e]; rfl, rfl, rfl, rfl, rfl, trivial⟩, pk_⟩
                    | false =>
                      (refine G tt_ok pk174 ?_; repeat (refine G1 tt_ok pk174 ?_; intro _))
                      cases (((f : Nat) : Int) == 8) with
                      | true =>
                        (refine G tt_ok pk174 ?_; repeat (refine G1 tt_ok pk174 ?_; intro _))
                        (refine G tt_ok pk174 ?_; repeat (refine G1 tt_ok pk174 ?_; intro _))
                        exact ⟨(k + 1, d0, d1, d2, d3, d4, d5, d6, IntKind.i64.wrap (256 * z), d8), by simp; omega, by simp; omega, ⟨by rw [← e]; rfl, rfl, rfl, rfl, rfl, trivial⟩, pk_⟩
                      | false =>
                        (refine G tt_ok pk174 ?_; repeat (refine G1 tt_ok pk174 ?_; intro _))
                        (refine G tt_ok pk174 ?_; repeat (refine G1 tt_ok pk174 ?_; intro _))
                        exact ⟨(k + 1, d0, d1, d2, d3, d4, d5, d6, d7, z == 1), by simp; omega, by simp; omega, ⟨by rw [← e]; rfl, rfl, rfl, rfl, rfl, trivial⟩, pk_⟩
          | false =>
            (refine G tt_ok pk174 ?_; repeat (refine G1 tt_ok pk174 ?_; intro _))
            cases (((w : Nat) : Int) == 1) with
            | true =>
              (refine G tt_ok pk174 ?_; repeat (refine G1 tt_ok pk174 ?_; intro _))
              cases (((s : Nat) : Int) == 32) with
              | true =>
                (refine G tt_ok pk174 ?_; repeat (refine G1 tt_ok pk174 ?_; intro _))
                (refine G tt_ok pk174 ?_; repeat (refine G1 tt_ok pk174 ?_; intro _))
                exact ⟨(k + 1, d0, d1, z, d3, d4, d5, d6, d7, d8), by simp; omega, by simp; omega, ⟨by rw [← e]; rfl, rfl, rfl, rfl, rfl, trivial⟩, pk_⟩
              | false =>
                (refine G tt_ok pk174 ?_; repeat (refine G1 tt_ok pk174 ?_; intro _))
                cases (((w : Nat) : Int) == 1) with
                | true =>
                  (refine G tt_ok pk174 ?_; repeat (refine G1 tt_ok pk174 ?_; intro _))
                  (refine G tt_ok pk174 ?_; repeat (refine G1 tt_ok pk174 ?_; intro _))
                  exact ⟨(k + 1, d0, d1, d2, d3, d4, d5, z, d7, d8), by simp; omega, by simp; omega, ⟨by rw [← e]; rfl, rfl, rfl, rfl, rfl, trivial⟩, pk_⟩
                | false =>
                  (refine G tt_ok pk174 ?_; repeat (refine G1 tt_ok pk174 ?_; intro _))
                  cases (((f : Nat) : Int) == 0) with
                  | true =>
                    (refine G tt_ok pk174 ?_; repeat (refine G1 tt_ok pk174 ?_; intro _))
                    (refine G tt_ok pk174 ?_; repeat (refine G1 tt_ok pk174 ?_; intro _))
                    exact ⟨(k + 1, d0, d1, d2, d3, z, d5, d6, d7, d8), by simp; omega, by simp; omega, ⟨by rw [← e]; rfl, rfl, rfl, rfl, rfl, trivial⟩, pk_⟩
                  | false =>
                    (refine G tt_ok pk174 ?_; repeat (refine G1 tt_ok pk174 ?_; intro _))
                    cases (((f : Nat) : Int) == 16) with
                    | true =>
                      (refine G tt_ok pk174 ?_; repeat (refine G1 tt_ok pk174 ?_; intro _))
                      (refine G tt_ok pk174 ?_; repeat (refine G1 tt_ok pk174 ?_; intro _))
                      exact ⟨(k + 1, d0, d1, d2, d3, d4, z, d6, d7, d8), by simp; omega, by simp; omega, ⟨by rw [← e]; rfl, rfl, rfl, rfl, rfl, trivial⟩, pk_⟩
                    | false =>
                      (refine G tt_ok pk174 ?_; repeat (refine G1 tt_ok pk174 ?_; intro _))
                      cases (((f : Nat) : Int) == 8) with
                      | true =>
                        (refine G tt_ok pk174 ?_; repeat (refine G1 tt_ok pk174 ?_; intro _))
                        (refine G tt_ok pk174 ?_; repeat (refine G1 tt_ok pk174 ?_; intro _))
                        exact ⟨(k + 1, d0, d1, d2, d3, d4, d5, d6, IntKind.i64.wrap (256 * z), d8), by simp; omega, by simp; omega, ⟨by rw [← e]; rfl, rfl, rfl, rfl, rfl, trivial⟩, pk_⟩
                      | false =>
                        (refine G tt_ok pk174 ?_; repeat (refine G1 tt_ok pk174 ?_; intro _))
                        (refine G tt_ok pk174 ?_; repeat (refine G1 tt_ok pk174 ?_; intro _))
                        exact ⟨(k + 1, d0, d1, d2, d3, d4, d5, d6, d7, z == 1), by simp; omega, by simp; omega, ⟨by rw [← e]; rfl, rfl, rfl, rfl, rfl, trivial⟩, pk_⟩
            | false =>
              (refine G tt_ok pk174 ?_; repeat (refine G1 tt_ok pk174 ?_; intro _))
              cases (((w : Nat) : Int) == 1) with
              | true =>
                (refine G tt_ok pk174 ?_; repeat (refine G1 tt_ok pk174 ?_; intro _))
                (refine G tt_ok pk174 ?_; repeat (refine G1 tt_ok pk174 ?_; intro _))
                exact ⟨(k + 1, d0, d1, d2, d3, d4, d5, z, d7, d8), by simp; omega, by simp; omega, ⟨by rw [← e]; rfl, rfl, rfl, rfl, rfl, trivial⟩, pk_⟩
              | false =>
                (refine G tt_ok pk174 ?_; repeat (refine G1 tt_ok pk174 ?_; intro _))
                cases (((f : Nat) : Int) == 0) with
                | true =>
                  (refine G tt_ok pk174 ?_; repeat (refine G1 tt_ok pk174 ?_; intro _))
                  (refine G tt_ok pk174 ?_; repeat (refine G1 tt_ok pk174 ?_; intro _))
                  exact ⟨(k + 1, d0, d1, d2, d3, z, d5, d6, d7, d8), by simp; omega, by simp; omega, ⟨by rw [← e]; rfl, rfl, rfl, rfl, rfl, trivial⟩, pk_⟩
                | false =>
                  (refine G tt_ok pk174 ?_; repeat (refine G1 tt_ok pk174 ?_; intro _))
                  cases (((f : Nat) : Int) == 16) with
                  | true =>
                    (refine G tt_ok pk174 ?_; repeat (refine G1 tt_ok pk174 ?_; intro _))
                    (refine G tt_ok pk174 ?_; repeat (refine G1 tt_ok pk174 ?_; intro _))
                    exact ⟨(k + 1, d0, d1, d2, d3, d4, z, d6, d7, d8), by simp; omega, by simp; omega, ⟨by rw [← e]; rfl, rfl, rfl, rfl, rfl, trivial⟩, pk_⟩
                  | false =>
                    (refine G tt_ok pk174 ?_; repeat (refine G1 tt_ok pk174 ?_; intro _))
                    cases (((f : Nat) : Int) == 8) with
                    | true =>
                      (refine G tt_ok pk174 ?_; repeat (refine G1 tt_ok pk174 ?_; intro _))
                      (refine G tt_ok pk174 ?_; repeat (refine G1 tt_ok pk174 ?_; intro _))
                      exact ⟨(k + 1, d0, d1, d2, d3, d4, d5, d6, IntKind.i64.wrap (256 * z), d8), by simp; omega, by simp; omega, ⟨by rw [← e]; rfl, rfl, rfl, rfl, rfl, trivial⟩, pk_⟩
                    | false =>
                      (refine G tt_ok pk174 ?_; repeat (refine G1 tt_ok pk174 ?_; intro _))
                      (refine G tt_ok pk174 ?_; repeat (refine G1 tt_ok pk174 ?_; intro _))
                      exact ⟨(k + 1, d0, d1, d2, d3, d4, d5, d6, d7, z == 1), by simp; omega, by simp; omega, ⟨by rw [← e]; rfl, rfl, rfl, rfl, rfl, trivial⟩, pk_⟩
    · rw [decide_eq_false (show ¬ (k : Int) < (fs.length : Nat) by omega)]
      (refine G tt_ok pk174 ?_; repeat (refine G1 tt_ok pk174 ?_; intro _))
      refine CW.exit ?_
      (refine G tt_ok pk174 ?_; repeat (refine G1 tt_ok pk174 ?_; intro _))
      (refine ka rfl rfl (encode111 β (d0, d1, d2, d3, d4, d5, d6, d7, d8)) ?_; rintro _ _ ⟨⟨V, ok2, rfl, hsg⟩, rfl⟩; refine w_ ?_)
      unfold arW
      (refine G tt_ok pk174 ?_; repeat (refine G1 tt_ok pk174 ?_; intro _))
      cases ok2 with
      | false =>
        (refine G tt_ok pk174 ?_; repeat (refine G1 tt_ok pk174 ?_; intro _))
        exact CW.ret (fin_cells [_, _] ⟨(by first | exact ⟨_, _, _, _, 0, rfl, rfl, rfl, rfl⟩ | exact ⟨_, _, _, _, 1, rfl, rfl, rfl, rfl⟩ | exact ⟨_, _, _, _, 2, rfl, rfl, rfl, rfl⟩ | exact ⟨_, _, _, _, 3, rfl, rfl, rfl, rfl⟩ | exact ⟨_, _, _, _, 4, rfl, rfl, rfl, rfl⟩ | exact ⟨_, _, _, _, 5, rfl, rfl, rfl, rfl⟩ | exact ⟨_, _, _, _, 6, rfl, rfl, rfl, rfl⟩ | exact ⟨_, _, _, _, 7, rfl, rfl, rfl, rfl⟩ | exact ⟨_, _, _, _, 8, rfl, rfl, rfl, rfl⟩ | exact ⟨_, _, _, _, 9, rfl, rfl, rfl, rfl⟩ | exact ⟨_, _, _, _, 10, rfl, rfl, rfl, rfl⟩ | exact ⟨_, _, _, _, 11, rfl, rfl, rfl, rfl⟩ | exact ⟨_, _, _, _, 12, rfl, rfl, rfl, rfl⟩ | exact ⟨_, _, _, _, 13, rfl, rfl, rfl, rfl⟩ | exact ⟨_, _, _, _, 14, rfl, rfl, rfl, rfl⟩ | exact ⟨_, _, _, _, 15, rfl, rfl, rfl, rfl⟩ | exact ⟨_, _, _, _, 16, rfl, rfl, rfl, rfl⟩ | exact ⟨_, _, _, _, 17, rfl, rfl, rfl, rfl⟩ | exact ⟨_, _, _, _, 18, rfl, rfl, rfl, rfl⟩ | exact ⟨_, _, _, _, 19, rfl, rfl, rfl, rfl⟩ | exact ⟨_, _, _, _, 20, rfl, rfl, rfl, rfl⟩ | exact ⟨_, _, _, _, 21, rfl, rfl, rfl, rfl⟩ | exact ⟨_, _, _, _, 22, rfl, rfl, rfl, rfl⟩ | exact ⟨_, _, _, _, 23, rfl, rfl, rfl, rfl⟩), rfl, trivial⟩ (Ent.dropAll _) ⟨⟨cm0, _, rfl⟩, rfl⟩)
      | true =>
        (refine G tt_ok pk174 ?_; repeat (refine G1 tt_ok pk174 ?_; intro _))
        refine SQ.eqa tt_ok rfl rfl (by kernel_rfl) _ rfl ?_
        (refine G tt_ok pk174 ?_; repeat (refine G1 tt_ok pk174 ?_; intro _))
        generalize (if false = true then _ else _ : Bool) = bb
        cases bb with
        | true =>
          (refine G tt_ok pk174 ?_; repeat (refine G1 tt_ok pk174 ?_; intro _))
          exact CW.ret (fin_cells [_, _] ⟨(by first | exact ⟨_, _, _, _, 0, rfl, rfl, rfl, rfl⟩ | exact ⟨_, _, _, _, 1, rfl, rfl, rfl, rfl⟩ | exact ⟨_, _, _, _, 2, rfl, rfl, rfl, rfl⟩ | exact ⟨_, _, _, _, 3, rfl, rfl, rfl, rfl⟩ | exact ⟨_, _, _, _, 4, rfl, rfl, rfl, rfl⟩ | exact ⟨_, _, _, _, 5, rfl, rfl, rfl, rfl⟩ | exact ⟨_, _, _, _, 6, rfl, rfl, rfl, rfl⟩ | exact ⟨_, _, _, _, 7, rfl, rfl, rfl, rfl⟩ | exact ⟨_, _, _, _, 8, rfl, rfl, rfl, rfl⟩ | exact ⟨_, _, _, _, 9, rfl, rfl, rfl, rfl⟩ | exact ⟨_, _, _, _, 10, rfl, rfl, rfl, rfl⟩ | exact ⟨_, _, _, _, 11, rfl, rfl, rfl, rfl⟩ | exact ⟨_, _, _, _, 12, rfl, rfl, rfl, rfl⟩ | exact ⟨_, _, _, _, 13, rfl, rfl, rfl, rfl⟩ | exact ⟨_, _, _, _, 14, rfl, rfl, rfl, rfl⟩ | exact ⟨_, _, _, _, 15, rfl, rfl, rfl, rfl⟩ | exact ⟨_, _, _, _, 16, rfl, rfl, rfl, rfl⟩ | exact ⟨_, _, _, _, 17, rfl, rfl, rfl, rfl⟩ | exact ⟨_, _, _, _, 18, rfl, rfl, rfl, rfl⟩ | exact ⟨_, _, _, _, 19, rfl, rfl, rfl, rfl⟩ | exact ⟨_, _, _, _, 20, rfl, rfl, rfl, rfl⟩ | exact ⟨_, _, _, _, 21, rfl, rfl, rfl, rfl⟩ | exact ⟨_, _, _, _, 22, rfl, rfl, rfl, rfl⟩ | exact ⟨_, _, _, _, 23, rfl, rfl, rfl, rfl⟩), rfl, trivial⟩ (Ent.dropAll _) ⟨⟨cm0, _, rfl⟩, rfl⟩)
        | false =>
          (refine G tt_ok pk174 ?_; repeat (refine G1 tt_ok pk174 ?_; intro _))
          exact CW.ret (fin_cells [_, _] ⟨(by first | exact ⟨_, _, _, _, 0, rfl, rfl, rfl, rfl⟩ | exact ⟨_, _, _, _, 1, rfl, rfl, rfl, rfl⟩ | exact ⟨_, _, _, _, 2, rfl, rfl, rfl, rfl⟩ | exact ⟨_, _, _, _, 3, rfl, rfl, rfl, rfl⟩ | exact ⟨_, _, _, _, 4, rfl, rfl, rfl, rfl⟩ | exact ⟨_, _, _, _, 5, rfl, rfl, rfl, rfl⟩ | exact ⟨_, _, _, _, 6, rfl, rfl, rfl, rfl⟩ | exact ⟨_, _, _, _, 7, rfl, rfl, rfl, rfl⟩ | exact ⟨_, _, _, _, 8, rfl, rfl, rfl, rfl⟩ | exact ⟨_, _, _, _, 9, rfl, rfl, rfl, rfl⟩ | exact ⟨_, _, _, _, 10, rfl, rfl, rfl, rfl⟩ | exact ⟨_, _, _, _, 11, rfl, rfl, rfl, rfl⟩ | exact ⟨_, _, _, _, 12, rfl, rfl, rfl, rfl⟩ | exact ⟨_, _, _, _, 13, rfl, rfl, rfl, rfl⟩ | exact ⟨_, _, _, _, 14, rfl, rfl, rfl, rfl⟩ | exact ⟨_, _, _, _, 15, rfl, rfl, rfl, rfl⟩ | exact ⟨_, _, _, _, 16, rfl, rfl, rfl, rfl⟩ | exact ⟨_, _, _, _, 17, rfl, rfl, rfl, rfl⟩ | exact ⟨_, _, _, _, 18, rfl, rfl, rfl, rfl⟩ | exact ⟨_, _, _, _, 19, rfl, rfl, rfl, rfl⟩ | exact ⟨_, _, _, _, 20, rfl, rfl, rfl, rfl⟩ | exact ⟨_, _, _, _, 21, rfl, rfl, rfl, rfl⟩ | exact ⟨_, _, _, _, 22, rfl, rfl, rfl, rfl⟩ | exact ⟨_, _, _, _, 23, rfl, rfl, rfl, rfl⟩), rfl, trivial⟩ (Ent.dropAll _) ⟨⟨(d0, d1, d2, d3, d4, d5, d6, d7, d8), _, rfl⟩, rfl⟩)
end Go.Proofs.YthhfoppaaehepaaGreatDoor.Sl
namespace Go.Proofs.YthhfoppaaehepaaGreatDoor.Sl
open Go Go.RowKit Go.Proofs
set_option linter.unusedVariables false
set_option linter.unusedSimpArgs false
attribute [local irreducible] CW Tri OW
set_option maxRecDepth 10000
@[reducible] def pk158 : List (Nat × Plan) := []
@[reducible] def pk120 : List (Nat × Plan) := [(9, [(0, 0, []), (1, 0, []), (2, 0, []), (3, 0, []), (4, 0, []), (5, 0, []), (6, 0, []), (7, 0, []), (8, 0, []), (9, 1, [1, 8])])]
@[reducible] def pk119 : List (Nat × Plan) := [(3, [(0, 0, []), (1, 0, []), (2, 0, []), (3, 0, []), (4, 0, []), (5, 0, []), (6, 1, [2, 5]), (7, 0, []), (8, 0, []), (9, 0, [])])]
@[reducible] def pk62 : List (Nat × Plan) := [(3, [(0, 0, []), (1, 0, []), (2, 0, []), (3, 0, []), (4, 0, []), (5, 0, []), (6, 0, []), (7, 0, []), (8, 0, []), (9, 0, []), (10, 1, [4, 8, 9]), (11, 0, [])]), (5, [(0, 0, []), (1, 0, []), (2, 0, []), (3, 0, []), (4, 0, []), (5, 0, []), (6, 0, []), (7, 0, []), (8, 1, [3, 7]), (9, 0, []), (10, 0, []), (11, 1, [])])]
@[reducible] def pk122 : List (Nat × Plan) := []
@[reducible] def pk123 : List (Nat × Plan) := [(3, [(0, 0, []), (1, 0, []), (2, 0, []), (3, 0, []), (4, 0, []), (5, 0, []), (6, 0, []), (7, 0, []), (8, 1, [3, 7]), (9, 0, []), (10, 0, []), (11, 1, [])])]
@[reducible] def pl120_0 : Plan := [(0, 0, []), (1, 0, []), (2, 0, []), (3, 0, []), (4, 0, []), (5, 0, []), (6, 0, []), (7, 0, []), (8, 0, []), (9, 1, [1, 8])]
set_option maxHeartbeats 8000000 in
theorem load158 (β : Base) (m g : Nat) (o : Int) : Tri Tryz.prog β 158 [.pointer (some ⟨m, 0, none⟩), .agg #[.int .i64 128, .int .i64 320], .int .i64 o] [dmA m g] (fun v L => (∃ (c : Cm) (e : Int), v = .tuple #[cmV c, .int .i64 e]) ∧ L = [dmA m g]) := by
  refine Tri.intro tt_ok Tryz.func158 rfl rfl Tryz.ntmps158 rfl fun F => ?_
  (refine G tt_ok pk158 ?_; repeat (refine G1 tt_ok pk158 ?_; intro _))
  rename_i c4 c6 c8
  refine CW.loop (α := Nat × List Nat) (fun x => x.1 ≤ 4 ∧ x.2.length = 4) (fun x => [(9, .int .i64 x.1), (0, .pointer (some ⟨m, 0, none⟩)), (2, .int .i64 o), (4, .pointer (some ⟨c4, 0, none⟩)), (6, .pointer (some ⟨c6, 0, none⟩)), (8, .pointer (some ⟨c8, 0, none⟩))])
    (fun x => [pt c8 (x.2.flatMap wC), pt c6 (cmC cm0), pt c4 [.int .i64 128, .int .i64 320], dmA m g]) (fun x => 4 - x.1) (0, [0, 0, 0, 0]) ⟨by simp, rfl⟩ ⟨rfl, rfl, rfl, rfl, rfl, rfl, trivial⟩ pk_ ?_
  rintro ⟨k, W⟩ ⟨hk, hW⟩
  simp only at hk hW ⊢
  (refine G tt_ok pk158 ?_; repeat (refine G1 tt_ok pk158 ?_; intro _))
  by_cases hlt : k < 4
  · rw [decide_eq_true (show (k : Int) < 4 by omega)]
    have e : IntKind.i64.wrap ((k : Int) + 1) = ((k + 1 : Nat) : Int) := by rw [wrap_id (by omega) (by omega)]; omega
    (refine G tt_ok pk158 ?_; repeat (refine G1 tt_ok pk158 ?_; intro _))
    (refine ka rfl rfl (read173 β m g 128 320 _) ?_; rintro _ _ ⟨⟨n, er, rfl⟩, rfl⟩; refine w_ ?_)
    (refine G tt_ok pk158 ?_; repeat (refine G1 tt_ok pk158 ?_; intro _))
    cases (er != 0) with
    | true =>
      (refine G tt_ok pk158 ?_; repeat (refine G1 tt_ok pk158 ?_; intro _))
      exact CW.ret (fin_cells [_, _] ⟨(by first | exact ⟨_, _, _, _, 0, rfl, rfl, rfl, rfl⟩ | exact ⟨_, _, _, _, 1, rfl, rfl, rfl, rfl⟩ | exact ⟨_, _, _, _, 2, rfl, rfl, rfl, rfl⟩ | exact ⟨_, _, _, _, 3, rfl, rfl, rfl, rfl⟩ | exact ⟨_, _, _, _, 4, rfl, rfl, rfl, rfl⟩ | exact ⟨_, _, _, _, 5, rfl, rfl, rfl, rfl⟩ | exact ⟨_, _, _, _, 6, rfl, rfl, rfl, rfl⟩ | exact ⟨_, _, _, _, 7, rfl, rfl, rfl, rfl⟩ | exact ⟨_, _, _, _, 8, rfl, rfl, rfl, rfl⟩ | exact ⟨_, _, _, _, 9, rfl, rfl, rfl, rfl⟩ | exact ⟨_, _, _, _, 10, rfl, rfl, rfl, rfl⟩ | exact ⟨_, _, _, _, 11, rfl, rfl, rfl, rfl⟩ | exact ⟨_, _, _, _, 12, rfl, rfl, rfl, rfl⟩ | exact ⟨_, _, _, _, 13, rfl, rfl, rfl, rfl⟩ | exact ⟨_, _, _, _, 14, rfl, rfl, rfl, rfl⟩ | exact ⟨_, _, _, _, 15, rfl, rfl, rfl, rfl⟩ | exact ⟨_, _, _, _, 16, rfl, rfl, rfl, rfl⟩ | exact ⟨_, _, _, _, 17, rfl, rfl, rfl, rfl⟩ | exact ⟨_, _, _, _, 18, rfl, rfl, rfl, rfl⟩ | exact ⟨_, _, _, _, 19, rfl, rfl, rfl, rfl⟩ | exact ⟨_, _, _, _, 20, rfl, rfl, rfl, rfl⟩ | exact ⟨_, _, _, _, 21, rfl, rfl, rfl, rfl⟩ | exact ⟨_, _, _, _, 22, rfl, rfl, rfl, rfl⟩ | exact ⟨_, _, _, _, 23, rfl, rfl, rfl, rfl⟩), rfl, trivial⟩ pk_ ⟨⟨cm0, _, rfl⟩, rfl⟩)
    | false =>
      (refine G tt_ok pk158 ?_; repeat (refine G1 tt_ok pk158 ?_; intro _))
      refine SQ.idx tt_ok rfl rfl k rfl hlt (o' := 0 + k * 1) rfl ?_
      (refine SQ.stA tt_ok rfl rfl (by repeat (first | apply Up.h | apply Up.t)) (by rfl) (w_wr (show k < W.length by omega) n) (by repeat (first | exact trivial | refine ⟨trivial, ?_⟩ | refine ⟨wk (by repeat (first | exact .h | exact .q | apply At.t)) (by rfl), ?_⟩)) ?_)
      (refine G tt_ok pk158 ?_; repeat (refine G1 tt_ok pk158 ?_; intro _))
      exact ⟨(k + 1, W.set k n), ⟨by simp; omega, by simp [hW]⟩, by simp; omega, ⟨by rw [← e]; rfl, rfl, rfl, rfl, rfl, rfl, trivial⟩, pk_⟩
  · rw [decide_eq_false (show ¬ (k : Int) < 4 by omega)]
    (refine G tt_ok pk158 ?_; repeat (refine G1 tt_ok pk158 ?_; intro _))
    refine CW.exit ?_
    rw [list4 hW]
    (refine G tt_ok pk158 ?_; repeat (refine G1 tt_ok pk158 ?_; intro _))
    (refine ka rfl rfl (decode174 β [W.getD 0 0, W.getD 1 0, W.getD 2 0, W.getD 3 0]) ?_; rintro _ _ ⟨⟨⟨d0, d1, d2, d3, d4, d5, d6, d7, d8⟩, ok, rfl⟩, rfl⟩; refine w_ ?_)
    unfold cmV
    simp only
    (refine G tt_ok pk158 ?_; repeat (refine G1 tt_ok pk158 ?_; intro _))
    cases ok with
    | false =>
      (refine G tt_ok pk158 ?_; repeat (refine G1 tt_ok pk158 ?_; intro _))
      exact CW.ret (fin_cells [_, _] ⟨(by first | exact ⟨_, _, _, _, 0, rfl, rfl, rfl, rfl⟩ | exact ⟨_, _, _, _, 1, rfl, rfl, rfl, rfl⟩ | exact ⟨_, _, _, _, 2, rfl, rfl, rfl, rfl⟩ | exact ⟨_, _, _, _, 3, rfl, rfl, rfl, rfl⟩ | exact ⟨_, _, _, _, 4, rfl, rfl, rfl, rfl⟩ | exact ⟨_, _, _, _, 5, rfl, rfl, rfl, rfl⟩ | exact ⟨_, _, _, _, 6, rfl, rfl, rfl, rfl⟩ | exact ⟨_, _, _, _, 7, rfl, rfl, rfl, rfl⟩ | exact ⟨_, _, _, _, 8, rfl, rfl, rfl, rfl⟩ | exact ⟨_, _, _, _, 9, rfl, rfl, rfl, rfl⟩ | exact ⟨_, _, _, _, 10, rfl, rfl, rfl, rfl⟩ | exact ⟨_, _, _, _, 11, rfl, rfl, rfl, rfl⟩ | exact ⟨_, _, _, _, 12, rfl, rfl, rfl, rfl⟩ | exact ⟨_, _, _, _, 13, rfl, rfl, rfl, rfl⟩ | exact ⟨_, _, _, _, 14, rfl, rfl, rfl, rfl⟩ | exact ⟨_, _, _, _, 15, rfl, rfl, rfl, rfl⟩ | exact ⟨_, _, _, _, 16, rfl, rfl, rfl, rfl⟩ | exact ⟨_, _, _, _, 17, rfl, rfl, rfl, rfl⟩ | exact ⟨_, _, _, _, 18, rfl, rfl, rfl, rfl⟩ | exact ⟨_, _, _, _, 19, rfl, rfl, rfl, rfl⟩ | exact ⟨_, _, _, _, 20, rfl, rfl, rfl, rfl⟩ | exact ⟨_, _, _, _, 21, rfl, rfl, rfl, rfl⟩ | exact ⟨_, _, _, _, 22, rfl, rfl, rfl, rfl⟩ | exact ⟨_, _, _, _, 23, rfl, rfl, rfl, rfl⟩), rfl, trivial⟩ pk_ ⟨⟨cm0, _, rfl⟩, rfl⟩)
    | true =>
      (refine G tt_ok pk158 ?_; repeat (refine G1 tt_ok pk158 ?_; intro _))
      exact CW.ret (fin_cells [_, _] ⟨(by first | exact ⟨_, _, _, _, 0, rfl, rfl, rfl, rfl⟩ | exact ⟨_, _, _, _, 1, rfl, rfl, rfl, rfl⟩ | exact ⟨_, _, _, _, 2, rfl, rfl, rfl, rfl⟩ | exact ⟨_, _, _, _, 3, rfl, rfl, rfl, rfl⟩ | exact ⟨_, _, _, _, 4, rfl, rfl, rfl, rfl⟩ | exact ⟨_, _, _, _, 5, rfl, rfl, rfl, rfl⟩ | exact ⟨_, _, _, _, 6, rfl, rfl, rfl, rfl⟩ | exact ⟨_, _, _, _, 7, rfl, rfl, rfl, rfl⟩ | exact ⟨_, _, _, _, 8, rfl, rfl, rfl, rfl⟩ | exact ⟨_, _, _, _, 9, rfl, rfl, rfl, rfl⟩ | exact ⟨_, _, _, _, 10, rfl, rfl, rfl, rfl⟩ | exact ⟨_, _, _, _, 11, rfl, rfl, rfl, rfl⟩ | exact ⟨_, _, _, _, 12, rfl, rfl, rfl, rfl⟩ | exact ⟨_, _, _, _, 13, rfl, rfl, rfl, rfl⟩ | exact ⟨_, _, _, _, 14, rfl, rfl, rfl, rfl⟩ | exact ⟨_, _, _, _, 15, rfl, rfl, rfl, rfl⟩ | exact ⟨_, _, _, _, 16, rfl, rfl, rfl, rfl⟩ | exact ⟨_, _, _, _, 17, rfl, rfl, rfl, rfl⟩ | exact ⟨_, _, _, _, 18, rfl, rfl, rfl, rfl⟩ | exact ⟨_, _, _, _, 19, rfl, rfl, rfl, rfl⟩ | exact ⟨_, _, _, _, 20, rfl, rfl, rfl, rfl⟩ | exact ⟨_, _, _, _, 21, rfl, rfl, rfl, rfl⟩ | exact ⟨_, _, _, _, 22, rfl, rfl, rfl, rfl⟩ | exact ⟨_, _, _, _, 23, rfl, rfl, rfl, rfl⟩), rfl, trivial⟩ pk_ ⟨⟨(d0, d1, d2, d3, d4, d5, d6, d7, d8), _, rfl⟩, rfl⟩)
set_option maxHeartbeats 8000000 in
theorem store120 (β : Base) (m g : Nat) (o : Int) (c : Cm) : Tri Tryz.prog β 120 [.pointer (some ⟨m, 0, none⟩), .agg #[.int .i64 128, .int .i64 320], .int .i64 o, .agg #[.int .i64 c.1, .int .i64 c.2.1, .int .i64 c.2.2.1, .int .i64 c.2.2.2.1, .int .i64 c.2.2.2.2.1, .int .i64 c.2.2.2.2.2.1, .int .i64 c.2.2.2.2.2.2.1, .int .i64 c.2.2.2.2.2.2.2.1, .bool c.2.2.2.2.2.2.2.2]] [dmA m g] (fun v L => (∃ e, v = .int .i64 e) ∧ L = [dmA m g]) := by
  refine Tri.intro tt_ok Tryz.func120 rfl rfl Tryz.ntmps120 rfl fun F => ?_
  have hT := encode111 β c
  obtain ⟨op, dev, ev, num, coll, tgt, b, a, v⟩ := c
  simp only at hT
  (refine G tt_ok pk120 ?_; repeat (refine G1 tt_ok pk120 ?_; intro _))
  rename_i c5 c7
  (refine ka rfl rfl (hT) ?_; rintro _ _ ⟨⟨V, ok, rfl, hsg⟩, rfl⟩; refine w_ ?_)
  unfold arW
  (refine G tt_ok pk120 ?_; repeat (refine G1 tt_ok pk120 ?_; intro _))
  cases ok with
  | false =>
    (refine G tt_ok pk120 ?_; repeat (refine G1 tt_ok pk120 ?_; intro _))
    exact CW.ret (fin_ret rfl pk_ ⟨⟨_, rfl⟩, rfl⟩)
  | true =>
    rename_i c9
    (refine G tt_ok pk120 ?_; repeat (refine G1 tt_ok pk120 ?_; intro _))
    refine ke rfl rfl (holds100 β m g 128 320) ?_
    rw [show holdsV 4096 128 320 = true from rfl]
    (repeat' (first | refine CW.seq ?_ | refine CW.region tt_ok rfl ?_ | refine CW.regionD tt_ok (by kernel_rfl) pl120_0 (by decide +kernel) ?_ | refine CW.block ?_ | refine CW.skip ?_ | refine SQ.nil ?_ | refine SQ.pures1 tt_ok rfl ?_ | refine SQ.pure1 tt_ok rfl ?_ | refine SQ.new _ _ rfl rfl (fun _ => ?_) | refine SQ.ldA tt_ok rfl rfl (by repeat (first | exact .h | exact .q | apply At.t)) (by rfl) ?_ | refine SQ.stA tt_ok rfl rfl (by repeat (first | apply Up.h | apply Up.t)) (by rfl) (by rfl) (by repeat (first | exact trivial | refine ⟨trivial, ?_⟩ | refine ⟨wk (by repeat (first | exact .h | exact .q | apply At.t)) (by rfl), ?_⟩)) ?_ | refine CW.cond_tt rfl ?_ | refine CW.cond_ff rfl ?_ | ((first | refine CW.cond rfl (fun hc => ?_) (fun hc => ?_) | refine SQ.gsplit rfl (fun hc => ?_) (fun hc => ?_)) <;> try (exfalso; simp_all; done))))
    all_goals first | exact CW.ret (fin_ret rfl pk_ ⟨⟨_, rfl⟩, rfl⟩) | skip
    all_goals (
      refine CW.loop (α := Nat) (fun x => x ≤ 4) (fun x => [(11, .int .i64 x), (0, .pointer (some ⟨m, 0, none⟩)), (2, .int .i64 o), (5, .pointer (some ⟨c5, 0, none⟩)), (9, .pointer (some ⟨c9, 0, none⟩))])
        (fun x => [pt c9 (([V.getD 0 0, V.getD 1 0, V.getD 2 0, V.getD 3 0] : List Nat).flatMap wC), pt c5 [.int .i64 128, .int .i64 320], dmA m g]) (fun x => 4 - x) 0 (by omega) ⟨rfl, rfl, rfl, rfl, rfl, trivial⟩ pk_ ?_
      intro k hk
      (refine G tt_ok pk120 ?_; repeat (refine G1 tt_ok pk120 ?_; intro _))
      by_cases hlt : k < 4
      · rw [decide_eq_true (show (k : Int) < 4 by omega)]
        have e : IntKind.i64.wrap ((k : Int) + 1) = ((k + 1 : Nat) : Int) := by rw [wrap_id (by omega) (by omega)]; omega
        (refine G tt_ok pk120 ?_; repeat (refine G1 tt_ok pk120 ?_; intro _))
        refine SQ.idx tt_ok rfl rfl k rfl hlt (o' := 0 + k * 1) rfl ?_
        (refine SQ.ldA tt_ok rfl rfl (by repeat (first | exact .h | exact .q | apply At.t)) (w_rd (getD_some (show k < ([V.getD 0 0, V.getD 1 0, V.getD 2 0, V.getD 3 0] : List Nat).length from hlt))) ?_)
        (refine G tt_ok pk120 ?_; repeat (refine G1 tt_ok pk120 ?_; intro _))
        (refine SQ.callA rfl rfl (write69 β m g 128 320 _ _) (by repeat (first | exact .n | exact Rm.h | exact Rm.of own_row | exact Rm.of row_close0 | apply Tk.c | apply Rm.t)) ?_; rintro _ _ ⟨⟨er, rfl⟩, rfl⟩; refine ⟨(by repeat (first | exact trivial | refine ⟨trivial, ?_⟩ | refine ⟨wk (by repeat (first | exact .h | exact .q | apply At.t)) (w_rd (getD_some (show k < ([V.getD 0 0, V.getD 1 0, V.getD 2 0, V.getD 3 0] : List Nat).length from hlt))), ?_⟩ | refine ⟨wk (by repeat (first | exact .h | exact .q | apply At.t)) (by rfl), ?_⟩)), ?_⟩)
        (refine G tt_ok pk120 ?_; repeat (refine G1 tt_ok pk120 ?_; intro _))
        exact ⟨k + 1, by omega, by omega, ⟨by rw [← e]; rfl, rfl, rfl, rfl, rfl, trivial⟩, pk_⟩
      · rw [decide_eq_false (show ¬ (k : Int) < 4 by omega)]
        (refine G tt_ok pk120 ?_; repeat (refine G1 tt_ok pk120 ?_; intro _))
        refine CW.exit ?_
        (refine G tt_ok pk120 ?_; repeat (refine G1 tt_ok pk120 ?_; intro _))
        exact CW.ret (fin_ret rfl pk_ ⟨⟨_, rfl⟩, rfl⟩))
theorem right178 (β : Base) : Tri Tryz.prog β 178 [.int .i64 320, .int .i64 32] [] (fun v L => v = .bool true ∧ L = []) := by
  refine Tri.intro tt_ok Tryz.func178 rfl rfl Tryz.ntmps178 rfl fun F => ?_
  (refine G tt_ok [] ?_; repeat (refine G1 tt_ok [] ?_; intro _))
  exact CW.ret (fin_ret rfl pk_ ⟨rfl, rfl⟩)
set_option maxHeartbeats 4000000 in
theorem index171 (β : Base) {i : Nat} (hi : i < 10) : Tri Tryz.prog β 171 [.int .i64 320, .int .i64 32, .int .i64 ((32 * i : Nat) : Int)] [] (fun v L => v = .int .i64 i ∧ L = []) := by
  refine Tri.intro tt_ok Tryz.func171 rfl rfl Tryz.ntmps171 rfl fun F => ?_
  (refine G tt_ok [] ?_; repeat (refine G1 tt_ok [] ?_; intro _))
  refine ke rfl rfl (right178 β) ?_
  (refine G tt_ok [] ?_; repeat (refine G1 tt_ok [] ?_; intro _))
  refine CW.loop (α := Nat) (fun x => x ≤ i) (fun x => [(7, .int .i64 x), (0, .int .i64 320), (1, .int .i64 32), (2, .int .i64 ((32 * i : Nat) : Int))]) (fun x => []) (fun x => i - x) 0 (by omega) ⟨rfl, rfl, rfl, rfl, trivial⟩ pk_ ?_
  intro k hk
  (refine G tt_ok [] ?_; repeat (refine G1 tt_ok [] ?_; intro _))
  rw [show IntKind.i64.wrap ((320 : Int).tdiv 32) = 10 from rfl, decide_eq_true (show (k : Int) < 10 by omega)]
  (refine G tt_ok [] ?_; repeat (refine G1 tt_ok [] ?_; intro _))
  rw [show IntKind.i64.wrap ((k : Int) * 32) = ((32 * k : Nat) : Int) by rw [wrap_id (by omega) (by omega)]; omega]
  by_cases h : k = i
  · subst h
    rw [show ((((32 * k : Nat) : Int)) == ((32 * k : Nat) : Int)) = true by simp]
    (refine G tt_ok [] ?_; repeat (refine G1 tt_ok [] ?_; intro _))
    exact CW.ret (fin_ret rfl pk_ ⟨rfl, rfl⟩)
  · rw [show ((((32 * k : Nat) : Int)) == ((32 * i : Nat) : Int)) = false by simp; omega]
    (refine G tt_ok [] ?_; repeat (refine G1 tt_ok [] ?_; intro _))
    have e : IntKind.i64.wrap ((k : Int) + 1) = ((k + 1 : Nat) : Int) := by rw [wrap_id (by omega) (by omega)]; omega
    exact ⟨k + 1, by omega, by omega, ⟨by rw [← e]; rfl, rfl, rfl, rfl, trivial⟩, pk_⟩
def wtV (v : Value) (L : List Atom) : Prop := ∃ (ws : List Int) (q : Option Addr) (c : Nat), ws.length ≤ 10 ∧ v = .slice q ws.length c ∧ L = [rowA q ws.length (ws.flatMap iC)]
set_option maxHeartbeats 8000000 in
theorem waits172 (β : Base) {i j : Nat} (hi : i < 10) (hj : j < 10) : Tri Tryz.prog β 172 [.int .i64 320, .int .i64 32, .int .i64 ((32 * i : Nat) : Int), .int .i64 ((32 * j : Nat) : Int)] [] wtV := by
  refine Tri.intro tt_ok Tryz.func172 rfl rfl Tryz.ntmps172 rfl fun F => ?_
  refine CW.ent (own_nil 3 1) ?_
  (refine G tt_ok [] ?_; repeat (refine G1 tt_ok [] ?_; intro _))
  refine ke rfl rfl (index171 β hi) ?_
  (refine G tt_ok [] ?_; repeat (refine G1 tt_ok [] ?_; intro _))
  refine ke rfl rfl (index171 β hj) ?_
  (refine G tt_ok [] ?_; repeat (refine G1 tt_ok [] ?_; intro _))
  rw [decide_eq_false (show ¬ (i : Int) < 0 by omega)]
  (refine G tt_ok [] ?_; repeat (refine G1 tt_ok [] ?_; intro _))
  rw [decide_eq_false (show ¬ (j : Int) < 0 by omega)]
  (refine G tt_ok [] ?_; repeat (refine G1 tt_ok [] ?_; intro _))
  refine CW.loop (α := Nat × List Int × Option Addr × Nat) (fun x => x.1 < 10 ∧ x.2.1.length + (j + 10 - x.1) % 10 ≤ 9) (fun x => [(9, .int .i64 x.1), (10, .int .i64 j), (11, .slice x.2.2.1 x.2.1.length x.2.2.2), (0, .int .i64 320), (1, .int .i64 32)])
    (fun x => [own 3 1 (.slice x.2.2.1 x.2.1.length x.2.2.2) x.2.1.length (x.2.1.flatMap iC)]) (fun x => (j + 10 - x.1) % 10) (i, [], none, 0) ⟨hi, by simp only [List.length_nil]; omega⟩ ⟨rfl, rfl, rfl, rfl, rfl, trivial⟩ pk_ ?_
  rintro ⟨k, ws, q, c⟩ ⟨hk, hl⟩
  simp only at hk hl ⊢
  (refine G tt_ok [] ?_; repeat (refine G1 tt_ok [] ?_; intro _))
  by_cases h : k = j
  · subst h
    rw [show ((k : Int) != (k : Int)) = false by simp]
    (refine G tt_ok [] ?_; repeat (refine G1 tt_ok [] ?_; intro _))
    refine CW.exit ?_
    (refine G tt_ok [] ?_; repeat (refine G1 tt_ok [] ?_; intro _))
    exact CW.ret (fin_ret rfl (A := [rowA q ws.length (ws.flatMap iC)]) pk_ ⟨ws, q, c, by omega, rfl, rfl⟩)
  · rw [show ((k : Int) != (j : Int)) = true by simp; omega]
    (refine G tt_ok [] ?_; repeat (refine G1 tt_ok [] ?_; intro _))
    (refine SQ.built tt_ok rfl rfl (fun _ => w_ ?_))
    (refine G tt_ok [] ?_; repeat (refine G1 tt_ok [] ?_; intro _))
    (refine SQ.appA tt_ok rfl rfl (by repeat (first | exact Rm.h | apply Rm.t)) (by repeat (first | exact .h | exact .q | apply At.t)) ([.int .i64 (IntKind.i64.wrap ((k : Int) * 32))]) rfl rfl rfl (scal_eq rfl) (by omega) (by show (ws.length + 1) * 8 ≤ _; omega) (fun q1 c1 => w_ ?_))
    (refine G tt_ok [] ?_; repeat (refine G1 tt_ok [] ?_; intro _))
    rw [show IntKind.i64.wrap ((320 : Int).tdiv 32) = 10 from rfl, show IntKind.i64.wrap ((k : Int) + 1) = ((k + 1 : Nat) : Int) by rw [wrap_id (by omega) (by omega)]; omega]
    have hf : ws.flatMap iC ++ [.int .i64 (IntKind.i64.wrap ((k : Int) * 32))] = (ws ++ [IntKind.i64.wrap ((k : Int) * 32)]).flatMap iC := by simp [iC]
    have hln : ws.length + 1 = (ws ++ [IntKind.i64.wrap ((k : Int) * 32)]).length := by simp
    by_cases h9 : k = 9
    · subst h9
      rw [show ((((9 + 1 : Nat)) : Int) == 10) = true from rfl]
      (refine G tt_ok [] ?_; repeat (refine G1 tt_ok [] ?_; intro _))
      exact ⟨(0, ws ++ [IntKind.i64.wrap (((9 : Nat) : Int) * 32)], q1, c1), ⟨by simp, by simp only [List.length_append, List.length_singleton]; omega⟩, by simp only; omega, ⟨rfl, rfl, by rw [← hln]; rfl, rfl, rfl, trivial⟩, by simp only; rw [← hln, ← hf]; exact pk_⟩
    · rw [show ((((k + 1 : Nat)) : Int) == 10) = false by simp; omega]
      (refine G tt_ok [] ?_; repeat (refine G1 tt_ok [] ?_; intro _))
      exact ⟨(k + 1, ws ++ [IntKind.i64.wrap ((k : Int) * 32)], q1, c1), ⟨by simp; omega, by simp only [List.length_append, List.length_singleton]; omega⟩, by simp only; omega, ⟨rfl, rfl, by rw [← hln]; rfl, rfl, rfl, trivial⟩, by simp only; rw [← hln, ← hf]; exact pk_⟩
theorem may156 (β : Base) (i j : Nat) {n : Nat} (hn : n < 10) : Tri Tryz.prog β 156 [.agg #[.int .i64 128, .int .i64 320, .int .i64 ((32 * i : Nat) : Int), .int .i64 ((32 * j : Nat) : Int)], .int .i64 ((32 * n : Nat) : Int)] [] (fun v L => v = .bool true ∧ L = []) := by
  refine Tri.intro tt_ok Tryz.func156 rfl rfl Tryz.ntmps156 rfl fun F => ?_
  (refine G tt_ok [] ?_; repeat (refine G1 tt_ok [] ?_; intro _))
  refine ke rfl rfl (index171 β hn) ?_
  (refine G tt_ok [] ?_; repeat (refine G1 tt_ok [] ?_; intro _))
  rw [decide_eq_true (show (n : Int) ≥ 0 by omega)]
  exact CW.ret (fin_ret rfl (Ent.dropAll _) ⟨rfl, rfl⟩)
theorem waits157 (β : Base) {i j : Nat} (hi : i < 10) (hj : j < 10) : Tri Tryz.prog β 157 [.agg #[.int .i64 128, .int .i64 320, .int .i64 ((32 * i : Nat) : Int), .int .i64 ((32 * j : Nat) : Int)]] [] wtV := by
  refine Tri.intro tt_ok Tryz.func157 rfl rfl Tryz.ntmps157 rfl fun F => ?_
  (refine G tt_ok [] ?_; repeat (refine G1 tt_ok [] ?_; intro _))
  (refine ka rfl rfl (waits172 β hi hj) ?_; rintro _ _ ⟨ws, q, c, hw, rfl, rfl⟩; refine w_ ?_)
  (refine G tt_ok [] ?_; repeat (refine G1 tt_ok [] ?_; intro _))
  exact CW.ret (fin_ret rfl (A := [rowA q ws.length (ws.flatMap iC)]) pk_ ⟨ws, q, c, hw, rfl, rfl⟩)
theorem room119 (β : Base) {i j : Nat} (hi : i < 10) (hj : j < 10) : Tri Tryz.prog β 119 [.agg #[.int .i64 128, .int .i64 320, .int .i64 ((32 * i : Nat) : Int), .int .i64 ((32 * j : Nat) : Int)]] [] (fun v L => (∃ n, v = .int .i64 n) ∧ L = []) := by
  refine Tri.intro tt_ok Tryz.func119 rfl rfl Tryz.ntmps119 rfl fun F => ?_
  (refine G tt_ok pk119 ?_; repeat (refine G1 tt_ok pk119 ?_; intro _))
  refine ke rfl rfl (may156 β i j hi) ?_
  (refine G tt_ok pk119 ?_; repeat (refine G1 tt_ok pk119 ?_; intro _))
  refine ke rfl rfl (may156 β i j hj) ?_
  (refine G tt_ok pk119 ?_; repeat (refine G1 tt_ok pk119 ?_; intro _))
  (refine ka rfl rfl (waits157 β hi hj) ?_; rintro _ _ ⟨ws, q, c, hw, rfl, rfl⟩; refine w_ ?_)
  (refine G tt_ok pk119 ?_; repeat (refine G1 tt_ok pk119 ?_; intro _))
  exact CW.ret (fin_ret rfl (Ent.dropAll _) ⟨⟨_, rfl⟩, rfl⟩)
theorem next121 (β : Base) (i j : Nat) {n : Nat} (hn : n < 10) : Tri Tryz.prog β 121 [.agg #[.int .i64 128, .int .i64 320, .int .i64 ((32 * i : Nat) : Int), .int .i64 ((32 * j : Nat) : Int)], .int .i64 ((32 * n : Nat) : Int)] [] (fun v L => (∃ k : Nat, k < 10 ∧ v = .int .i64 ((32 * k : Nat) : Int)) ∧ L = []) := by
  refine Tri.intro tt_ok Tryz.func121 rfl rfl Tryz.ntmps121 rfl fun F => ?_
  (refine G tt_ok [] ?_; repeat (refine G1 tt_ok [] ?_; intro _))
  rw [show IntKind.i64.wrap (((32 * n : Nat) : Int) + 32) = ((32 * (n + 1) : Nat) : Int) by rw [wrap_id (by omega) (by omega)]; omega]
  by_cases h : n = 9
  · subst h
    rw [show ((((32 * (9 + 1) : Nat)) : Int) == 320) = true from rfl]
    (refine G tt_ok [] ?_; repeat (refine G1 tt_ok [] ?_; intro _))
    exact CW.ret (fin_ret rfl (Ent.dropAll _) ⟨⟨0, by omega, rfl⟩, rfl⟩)
  · rw [show ((((32 * (n + 1) : Nat)) : Int) == 320) = false by simp; omega]
    (refine G tt_ok [] ?_; repeat (refine G1 tt_ok [] ?_; intro _))
    rw [show IntKind.i64.wrap (((32 * n : Nat) : Int) + 32) = ((32 * (n + 1) : Nat) : Int) by rw [wrap_id (by omega) (by omega)]; omega]
    exact CW.ret (fin_ret rfl (Ent.dropAll _) ⟨⟨n + 1, by omega, rfl⟩, rfl⟩)
/-- The document's service. -/
def diA (r : Nat) (p : Int) : Atom := exA fun x : Bool × Bool × Nat × Nat => [pureA (x.2.2.1 < 10 ∧ x.2.2.2 < 10), pt r (itC x.1 x.2.1 x.2.2.1 x.2.2.2 p)]
theorem di_close {r : Nat} {p : Int} (on st : Bool) {i j : Nat} (hi : i < 10) (hj : j < 10) : Ent [pt r (itC on st i j p)] [diA r p] :=
  (Ent.pureA (p := i < 10 ∧ j < 10) ⟨hi, hj⟩).trans (Ent.exA (f := fun x : Bool × Bool × Nat × Nat => [pureA (x.2.2.1 < 10 ∧ x.2.2.2 < 10), pt r (itC x.1 x.2.1 x.2.2.1 x.2.2.2 p)]) (on, st, i, j))
set_option maxHeartbeats 4000000 in
theorem put62 (β : Base) (r m g : Nat) (p : Int) (c : Cm) : Tri Tryz.prog β 62 [.pointer (some ⟨r, 2, none⟩), .pointer (some ⟨m, 0, none⟩), .agg #[.int .i64 c.1, .int .i64 c.2.1, .int .i64 c.2.2.1, .int .i64 c.2.2.2.1, .int .i64 c.2.2.2.2.1, .int .i64 c.2.2.2.2.2.1, .int .i64 c.2.2.2.2.2.2.1, .int .i64 c.2.2.2.2.2.2.2.1, .bool c.2.2.2.2.2.2.2.2]] [diA r p, dmA m g] (fun v L => (∃ e, v = .int .i64 e) ∧ L = [diA r p, dmA m g]) := by
  refine Tri.intro tt_ok Tryz.func62 rfl rfl Tryz.ntmps62 rfl fun F => ?_
  refine CW.open_ fun x => CW.pure_ fun hx => ?_
  obtain ⟨on, st, i, j⟩ := x
  obtain ⟨hi, hj⟩ := hx
  simp only at hi hj ⊢
  have hT := store120 β m g ((32 * j : Nat) : Int) c
  obtain ⟨op, dev, ev, num, coll, tgt, b, a, v⟩ := c
  simp only at hT ⊢
  (refine G tt_ok pk62 ?_; repeat (refine G1 tt_ok pk62 ?_; intro _))
  (refine ka rfl rfl (room119 β hi hj) ?_; rintro _ _ ⟨⟨n, rfl⟩, rfl⟩; refine w_ ?_)
  (refine G tt_ok pk62 ?_; repeat (refine G1 tt_ok pk62 ?_; intro _))
  cases decide (n < 1) with
  | true =>
    (refine G tt_ok pk62 ?_; repeat (refine G1 tt_ok pk62 ?_; intro _))
    exact CW.ret (fin_ret rfl (A := [diA r p, dmA m g]) (Ent.trans (M := [pt r (itC on st i j p), dmA m g]) pk_ (Ent.append (di_close on st hi hj) (Ent.refl _))) ⟨⟨_, rfl⟩, rfl⟩)
  | false =>
    (refine G tt_ok pk62 ?_; repeat (refine G1 tt_ok pk62 ?_; intro _))
    (refine ka rfl rfl (hT) ?_; rintro _ _ ⟨⟨e, rfl⟩, rfl⟩; refine w_ ?_)
    (refine G tt_ok pk62 ?_; repeat (refine G1 tt_ok pk62 ?_; intro _))
    cases (e == 0) with
    | false =>
      (refine G tt_ok pk62 ?_; repeat (refine G1 tt_ok pk62 ?_; intro _))
      exact CW.ret (fin_ret rfl (A := [diA r p, dmA m g]) (Ent.trans (M := [pt r (itC on st i j p), dmA m g]) pk_ (Ent.append (di_close on st hi hj) (Ent.refl _))) ⟨⟨_, rfl⟩, rfl⟩)
    | true =>
      (refine G tt_ok pk62 ?_; repeat (refine G1 tt_ok pk62 ?_; intro _))
      (refine ka rfl rfl (next121 β i j hj) ?_; rintro _ _ ⟨⟨k, hk, rfl⟩, rfl⟩; refine w_ ?_)
      (refine G tt_ok pk62 ?_; repeat (refine G1 tt_ok pk62 ?_; intro _))
      exact CW.ret (fin_ret rfl (A := [diA r p, dmA m g]) (Ent.trans (M := [pt r (itC on st i k p), dmA m g]) pk_ (Ent.append (di_close on st hi hk) (Ent.refl _))) ⟨⟨_, rfl⟩, rfl⟩)
theorem head122 (β : Base) (m g : Nat) {i j : Nat} (hi : i < 10) (hj : j < 10) : Tri Tryz.prog β 122 [.agg #[.int .i64 128, .int .i64 320, .int .i64 ((32 * i : Nat) : Int), .int .i64 ((32 * j : Nat) : Int)], .pointer (some ⟨m, 0, none⟩)] [dmA m g] (fun v L => (∃ (c : Cm) (e : Int), v = .tuple #[cmV c, .int .i64 e]) ∧ L = [dmA m g]) := by
  refine Tri.intro tt_ok Tryz.func122 rfl rfl Tryz.ntmps122 rfl fun F => ?_
  (refine G tt_ok pk122 ?_; repeat (refine G1 tt_ok pk122 ?_; intro _))
  (refine ka rfl rfl (waits157 β hi hj) ?_; rintro _ _ ⟨ws, q, c, hw, rfl, rfl⟩; refine w_ ?_)
  (refine G tt_ok pk122 ?_; repeat (refine G1 tt_ok pk122 ?_; intro _))
  cases (((ws.length : Nat) : Int) == 0) with
  | true =>
    (refine G tt_ok pk122 ?_; repeat (refine G1 tt_ok pk122 ?_; intro _))
    exact CW.ret (fin_cells [_, _] ⟨(by first | exact ⟨_, _, _, _, 0, rfl, rfl, rfl, rfl⟩ | exact ⟨_, _, _, _, 1, rfl, rfl, rfl, rfl⟩ | exact ⟨_, _, _, _, 2, rfl, rfl, rfl, rfl⟩ | exact ⟨_, _, _, _, 3, rfl, rfl, rfl, rfl⟩ | exact ⟨_, _, _, _, 4, rfl, rfl, rfl, rfl⟩ | exact ⟨_, _, _, _, 5, rfl, rfl, rfl, rfl⟩ | exact ⟨_, _, _, _, 6, rfl, rfl, rfl, rfl⟩ | exact ⟨_, _, _, _, 7, rfl, rfl, rfl, rfl⟩ | exact ⟨_, _, _, _, 8, rfl, rfl, rfl, rfl⟩ | exact ⟨_, _, _, _, 9, rfl, rfl, rfl, rfl⟩ | exact ⟨_, _, _, _, 10, rfl, rfl, rfl, rfl⟩ | exact ⟨_, _, _, _, 11, rfl, rfl, rfl, rfl⟩ | exact ⟨_, _, _, _, 12, rfl, rfl, rfl, rfl⟩ | exact ⟨_, _, _, _, 13, rfl, rfl, rfl, rfl⟩ | exact ⟨_, _, _, _, 14, rfl, rfl, rfl, rfl⟩ | exact ⟨_, _, _, _, 15, rfl, rfl, rfl, rfl⟩ | exact ⟨_, _, _, _, 16, rfl, rfl, rfl, rfl⟩ | exact ⟨_, _, _, _, 17, rfl, rfl, rfl, rfl⟩ | exact ⟨_, _, _, _, 18, rfl, rfl, rfl, rfl⟩ | exact ⟨_, _, _, _, 19, rfl, rfl, rfl, rfl⟩ | exact ⟨_, _, _, _, 20, rfl, rfl, rfl, rfl⟩ | exact ⟨_, _, _, _, 21, rfl, rfl, rfl, rfl⟩ | exact ⟨_, _, _, _, 22, rfl, rfl, rfl, rfl⟩ | exact ⟨_, _, _, _, 23, rfl, rfl, rfl, rfl⟩), rfl, trivial⟩ pk_ ⟨⟨cm0, _, rfl⟩, rfl⟩)
  | false =>
    (refine G tt_ok pk122 ?_; repeat (refine G1 tt_ok pk122 ?_; intro _))
    (refine ka rfl rfl (load158 β m g _) ?_; rintro _ _ ⟨⟨⟨d0, d1, d2, d3, d4, d5, d6, d7, d8⟩, e, rfl⟩, rfl⟩; refine w_ ?_)
    unfold cmV
    simp only
    (refine G tt_ok pk122 ?_; repeat (refine G1 tt_ok pk122 ?_; intro _))
    exact CW.ret (fin_cells [_, _] ⟨(by first | exact ⟨_, _, _, _, 0, rfl, rfl, rfl, rfl⟩ | exact ⟨_, _, _, _, 1, rfl, rfl, rfl, rfl⟩ | exact ⟨_, _, _, _, 2, rfl, rfl, rfl, rfl⟩ | exact ⟨_, _, _, _, 3, rfl, rfl, rfl, rfl⟩ | exact ⟨_, _, _, _, 4, rfl, rfl, rfl, rfl⟩ | exact ⟨_, _, _, _, 5, rfl, rfl, rfl, rfl⟩ | exact ⟨_, _, _, _, 6, rfl, rfl, rfl, rfl⟩ | exact ⟨_, _, _, _, 7, rfl, rfl, rfl, rfl⟩ | exact ⟨_, _, _, _, 8, rfl, rfl, rfl, rfl⟩ | exact ⟨_, _, _, _, 9, rfl, rfl, rfl, rfl⟩ | exact ⟨_, _, _, _, 10, rfl, rfl, rfl, rfl⟩ | exact ⟨_, _, _, _, 11, rfl, rfl, rfl, rfl⟩ | exact ⟨_, _, _, _, 12, rfl, rfl, rfl, rfl⟩ | exact ⟨_, _, _, _, 13, rfl, rfl, rfl, rfl⟩ | exact ⟨_, _, _, _, 14, rfl, rfl, rfl, rfl⟩ | exact ⟨_, _, _, _, 15, rfl, rfl, rfl, rfl⟩ | exact ⟨_, _, _, _, 16, rfl, rfl, rfl, rfl⟩ | exact ⟨_, _, _, _, 17, rfl, rfl, rfl, rfl⟩ | exact ⟨_, _, _, _, 18, rfl, rfl, rfl, rfl⟩ | exact ⟨_, _, _, _, 19, rfl, rfl, rfl, rfl⟩ | exact ⟨_, _, _, _, 20, rfl, rfl, rfl, rfl⟩ | exact ⟨_, _, _, _, 21, rfl, rfl, rfl, rfl⟩ | exact ⟨_, _, _, _, 22, rfl, rfl, rfl, rfl⟩ | exact ⟨_, _, _, _, 23, rfl, rfl, rfl, rfl⟩), rfl, trivial⟩ pk_ ⟨⟨(d0, d1, d2, d3, d4, d5, d6, d7, d8), _, rfl⟩, rfl⟩)
theorem pass123 (β : Base) (r : Nat) (p : Int) : Tri Tryz.prog β 123 [.pointer (some ⟨r, 2, none⟩)] [diA r p] (fun v L => (∃ e, v = .int .i64 e) ∧ L = [diA r p]) := by
  refine Tri.intro tt_ok Tryz.func123 rfl rfl Tryz.ntmps123 rfl fun F => ?_
  refine CW.open_ fun x => CW.pure_ fun hx => ?_
  obtain ⟨on, st, i, j⟩ := x
  obtain ⟨hi, hj⟩ := hx
  simp only at hi hj ⊢
  (refine G tt_ok pk123 ?_; repeat (refine G1 tt_ok pk123 ?_; intro _))
  (refine ka rfl rfl (waits157 β hi hj) ?_; rintro _ _ ⟨ws, q, c, hw, rfl, rfl⟩; refine w_ ?_)
  (refine G tt_ok pk123 ?_; repeat (refine G1 tt_ok pk123 ?_; intro _))
  cases (((ws.length : Nat) : Int) == 0) with
  | true =>
    (refine G tt_ok pk123 ?_; repeat (refine G1 tt_ok pk123 ?_; intro _))
    exact CW.ret (fin_ret rfl (A := [diA r p]) (Ent.trans (M := [pt r (itC on st i j p)]) pk_ (di_close on st hi hj)) ⟨⟨_, rfl⟩, rfl⟩)
  | false =>
    (refine G tt_ok pk123 ?_; repeat (refine G1 tt_ok pk123 ?_; intro _))
    (refine ka rfl rfl (next121 β i j hi) ?_; rintro _ _ ⟨⟨k, hk, rfl⟩, rfl⟩; refine w_ ?_)
    (refine G tt_ok pk123 ?_; repeat (refine G1 tt_ok pk123 ?_; intro _))
    exact CW.ret (fin_ret rfl (A := [diA r p]) (Ent.trans (M := [pt r (itC on st k j p)]) pk_ (di_close on st hk hj)) ⟨⟨_, rfl⟩, rfl⟩)
end Go.Proofs.YthhfoppaaehepaaGreatDoor.Sl
namespace Go.Proofs.YthhfoppaaehepaaGreatDoor.Sl
open Go Go.RowKit Go.Proofs
set_option linter.unusedVariables false
set_option linter.unusedSimpArgs false
attribute [local irreducible] CW Tri OW
set_option maxRecDepth 10000
theorem iC_at : ∀ {ids : List Int} {k : Nat} {x : Int}, ids[k]? = some x → (ids.flatMap iC)[k]? = some (.int .i64 x)
  | [], _, _, h => by simp at h
  | a :: r, 0, x, h => by simp at h; subst h; rfl
  | a :: r, k + 1, x, h => by
    have := iC_at (ids := r) (k := k) (x := x) (by simpa using h)
    simpa [List.flatMap_cons, iC] using this
theorem i_cur {cs : List Value} {off n : Nat} {ids : List Int} (h : (cs.drop off).take (n * 1) = ids.flatMap iC) {k : Nat} {x : Int} (hk : ids[k]? = some x) : rdv ti3 cs (off + k * 1) = some (.int .i64 x) := by
  have h1 := iC_at hk
  rw [← h] at h1
  have h2 := cells_at (cs := cs) (off := off) (m := n * 1) (j := k) rfl h1
  have h3 : aggD ti3.desc = false := rfl
  have hlt := (List.getElem?_eq_some_iff.1 h2).1
  simp only [rdv, h3, takeN_eq, dropN_eq, Nat.mul_one]
  rw [List.drop_eq_getElem_cons hlt]
  have := (List.getElem?_eq_some_iff.1 h2).2
  simp [this]
theorem slr_i {β : Base} (q : Option Addr) (ws : List Int) : SlR β (rowA q ws.length (ws.flatMap iC)) q ws.length 1 (ws.flatMap iC) := slr_row (flatE_len (sz := 1) (fun _ => rfl) ws)
theorem may136 (β : Base) (m : Int) : Tri Tryz.prog β 136 [.int .i64 m] [] (fun v L => v = .bool (decide (0 ≤ m) && decide (m < 16384)) ∧ L = []) := by
  refine Tri.intro tt_ok Tryz.func136 rfl rfl Tryz.ntmps136 rfl fun F => ?_
  (repeat' (first | refine CW.seq ?_ | refine CW.region tt_ok rfl ?_ | refine CW.block ?_ | refine CW.skip ?_ | refine SQ.nil ?_ | refine SQ.pures1 tt_ok rfl ?_ | refine SQ.pure1 tt_ok rfl ?_ | refine SQ.new _ _ rfl rfl (fun _ => ?_) | refine SQ.ldA tt_ok rfl rfl (by repeat (first | exact .h | exact .q | apply At.t)) (by rfl) ?_ | refine SQ.stA tt_ok rfl rfl (by repeat (first | apply Up.h | apply Up.t)) (by rfl) (by rfl) (by exact trivial) ?_ | refine CW.cond_tt rfl ?_ | refine CW.cond_ff rfl ?_ | ((first | refine CW.cond rfl (fun hc => ?_) (fun hc => ?_) | refine SQ.gsplit rfl (fun hc => ?_) (fun hc => ?_)) <;> try (exfalso; simp_all; done))))
  all_goals (refine CW.ret (fin_ret rfl (Ent.refl _) ⟨?_, rfl⟩); simp_all [packV]; try omega)
set_option maxHeartbeats 4000000 in
theorem has137 (β : Base) (q : Option Addr) (c : Nat) (ws : List Int) (hl : ws.length ≤ 1000) (m : Int) : Tri Tryz.prog β 137 [.slice q ws.length c, .int .i64 m] [rowA q ws.length (ws.flatMap iC)] (fun v L => v = .bool (ws.contains m) ∧ L = [rowA q ws.length (ws.flatMap iC)]) := by
  refine Tri.intro tt_ok Tryz.func137 rfl rfl Tryz.ntmps137 rfl fun F => ?_
  (refine G tt_ok [] ?_; repeat (refine G1 tt_ok [] ?_; intro _))
  refine CW.loop (α := Nat) (fun k => k ≤ ws.length ∧ ∀ j x, j < k → ws[j]? = some x → x ≠ m) (fun k => [(5, .int .i64 k), (0, .slice q ws.length c), (1, .int .i64 m)]) (fun k => [rowA q ws.length (ws.flatMap iC)]) (fun k => ws.length - k) 0 ⟨by omega, fun j x hj => absurd hj (by omega)⟩ ⟨rfl, rfl, rfl, trivial⟩ pk_ ?_
  rintro k ⟨hk, hn⟩
  (refine G tt_ok [] ?_; repeat (refine G1 tt_ok [] ?_; intro _))
  by_cases hlt : k < ws.length
  · rw [decide_eq_true (show (k : Int) < (ws.length : Nat) by omega)]
    obtain ⟨x, hx⟩ : ∃ x, ws[k]? = some x := ⟨_, List.getElem?_eq_getElem hlt⟩
    (refine G tt_ok [] ?_; repeat (refine G1 tt_ok [] ?_; intro _))
    (refine SQ.idxG tt_ok rfl rfl ((slr_i q ws)) (by repeat (first | exact .h | apply AtA.t)) (k) (rfl) (hlt) rfl ?_)
    (refine G tt_ok [] ?_; repeat (refine G1 tt_ok [] ?_; intro _))
    (refine SQ.ldG tt_ok rfl rfl ((slr_i q ws)) (by repeat (first | exact .h | apply AtA.t)) (by omega) (fun cur hcs => i_cur hcs hx) ?_)
    (refine G tt_ok [] ?_; repeat (refine G1 tt_ok [] ?_; intro _))
    by_cases he : x = m
    · rw [show (x == m) = true by simp [he]]
      (refine G tt_ok [] ?_; repeat (refine G1 tt_ok [] ?_; intro _))
      have hc : ws.contains m = true := by simp only [List.contains_iff_mem]; rw [← he]; exact List.mem_of_getElem? hx
      rw [hc]
      exact CW.ret (fin_ret rfl pk_ ⟨rfl, rfl⟩)
    · rw [show (x == m) = false by simp [he]]
      (refine G tt_ok [] ?_; repeat (refine G1 tt_ok [] ?_; intro _))
      have e : IntKind.i64.wrap ((k : Int) + 1) = ((k + 1 : Nat) : Int) := by rw [wrap_id (by omega) (by omega)]; omega
      refine ⟨k + 1, ⟨by omega, fun j y hj hy => ?_⟩, by omega, ⟨by rw [← e]; rfl, rfl, rfl, trivial⟩, pk_⟩
      by_cases h : j = k
      · subst h; rw [hx] at hy; cases hy; exact he
      · exact hn j y (by omega) hy
  · rw [decide_eq_false (show ¬ (k : Int) < (ws.length : Nat) by omega)]
    (refine G tt_ok [] ?_; repeat (refine G1 tt_ok [] ?_; intro _))
    refine CW.exit ?_
    (refine G tt_ok [] ?_; repeat (refine G1 tt_ok [] ?_; intro _))
    have hc : ws.contains m = false := by
      rw [Bool.eq_false_iff]
      intro h
      rw [List.contains_iff_mem] at h
      obtain ⟨j, hj⟩ := List.getElem?_of_mem h
      exact hn j m (by have := (List.getElem?_eq_some_iff.1 hj).1; omega) hj rfl
    rw [hc]
    exact CW.ret (fin_ret rfl pk_ ⟨rfl, rfl⟩)
theorem fl_snoc (o : List Int) (x : Int) : o.flatMap iC ++ [.int .i64 x] = (o ++ [x]).flatMap iC := by simp [iC]
theorem ln_snoc (o : List Int) (x : Int) : o.length + 1 = (o ++ [x]).length := by simp
theorem take_snoc {l : List Int} {k : Nat} {x : Int} (h : l[k]? = some x) : l.take (k + 1) = l.take k ++ [x] := by
  obtain ⟨hlt, rfl⟩ := List.getElem?_eq_some_iff.1 h
  exact (List.take_append_getElem hlt).symm
def putOk (ws : List Int) (m : Int) (o : List Int) : Prop := o = ws ∨ (m ∉ ws ∧ 0 ≤ m ∧ o.Perm (m :: ws))
set_option maxHeartbeats 16000000 in
theorem put108 (β : Base) (q : Option Addr) (c : Nat) (ws : List Int) (hl : ws.length ≤ 1000) (m : Int) : Tri Tryz.prog β 108 [.slice q ws.length c, .int .i64 m] [rowA q ws.length (ws.flatMap iC)]
    (fun v L => ∃ o q' c', putOk ws m o ∧ v = .slice q' o.length c' ∧ L = [rowA q' o.length (o.flatMap iC)]) := by
  refine Tri.intro tt_ok Tryz.func108 rfl rfl Tryz.ntmps108 rfl fun F => ?_
  refine CW.ent (own_nil 3 1) ?_
  (refine G tt_ok [] ?_; repeat (refine G1 tt_ok [] ?_; intro _))
  refine ke rfl rfl (may136 β m) ?_
  cases hm : (decide (0 ≤ m) && decide (m < 16384)) with
  | false =>
    (refine G tt_ok [] ?_; repeat (refine G1 tt_ok [] ?_; intro _))
    exact CW.ret (fin_ret rfl (A := [rowA q ws.length (ws.flatMap iC)]) pk_ ⟨ws, q, c, .inl rfl, rfl, rfl⟩)
  | true =>
    (refine G tt_ok [] ?_; repeat (refine G1 tt_ok [] ?_; intro _))
    refine ke rfl rfl (has137 β q c ws hl m) ?_
    cases hh : ws.contains m with
    | true =>
      (refine G tt_ok [] ?_; repeat (refine G1 tt_ok [] ?_; intro _))
      exact CW.ret (fin_ret rfl (A := [rowA q ws.length (ws.flatMap iC)]) pk_ ⟨ws, q, c, .inl rfl, rfl, rfl⟩)
    | false =>
      have hnm : m ∉ ws := by intro h; rw [← List.contains_iff_mem, hh] at h; cases h
      have hm0 : 0 ≤ m := by simp at hm; omega
      (refine G tt_ok [] ?_; repeat (refine G1 tt_ok [] ?_; intro _))
      refine CW.loop (α := Nat × Bool × List Int × Option Addr × Nat) (fun x => x.1 ≤ ws.length ∧ (if x.2.1 then x.2.2.1.Perm (m :: ws.take x.1) else x.2.2.1 = ws.take x.1)) (fun x => [(7, .int .i64 x.1), (6, .bool x.2.1), (5, .slice x.2.2.2.1 x.2.2.1.length x.2.2.2.2), (0, .slice q ws.length c), (1, .int .i64 m)])
        (fun x => [own 3 1 (.slice x.2.2.2.1 x.2.2.1.length x.2.2.2.2) x.2.2.1.length (x.2.2.1.flatMap iC), rowA q ws.length (ws.flatMap iC)]) (fun x => ws.length - x.1) (0, false, [], none, 0) ⟨by simp, by simp⟩ ⟨rfl, rfl, rfl, rfl, rfl, trivial⟩ pk_ ?_
      rintro ⟨k, dn, o, q1, c1⟩ ⟨hk, ho⟩
      simp only at hk ho ⊢
      have hol : o.length ≤ 1001 := by
        cases dn with
        | true => rw [if_pos rfl] at ho; have := ho.length_eq; simp at this; omega
        | false => rw [if_neg (by simp)] at ho; rw [ho]; simp; omega
      (refine G tt_ok [] ?_; repeat (refine G1 tt_ok [] ?_; intro _))
      by_cases hlt : k < ws.length
      · rw [decide_eq_true (show (k : Int) < (ws.length : Nat) by omega)]
        obtain ⟨x, hx⟩ : ∃ x, ws[k]? = some x := ⟨_, List.getElem?_eq_getElem hlt⟩
        have htk := take_snoc hx
        have e : IntKind.i64.wrap ((k : Int) + 1) = ((k + 1 : Nat) : Int) := by rw [wrap_id (by omega) (by omega)]; omega
        (refine G tt_ok [] ?_; repeat (refine G1 tt_ok [] ?_; intro _))
        (refine SQ.idxG tt_ok rfl rfl ((slr_i q ws)) (by repeat (first | exact .h | apply AtA.t)) (k) (rfl) (hlt) rfl ?_)
        (refine G tt_ok [] ?_; repeat (refine G1 tt_ok [] ?_; intro _))
        (refine SQ.ldG tt_ok rfl rfl ((slr_i q ws)) (by repeat (first | exact .h | apply AtA.t)) (by omega) (fun cur hcs => i_cur hcs hx) ?_)
        (refine G tt_ok [] ?_; repeat (refine G1 tt_ok [] ?_; intro _))
        have last : ∀ (d : Bool), (∃ o2 : List Int, True) → True := fun _ _ => trivial
        cases hg : decide (x > m) with
        | false =>
          (refine G tt_ok [] ?_; repeat (refine G1 tt_ok [] ?_; intro _))
          (refine SQ.idxG tt_ok rfl rfl ((slr_i q ws)) (by repeat (first | exact .h | apply AtA.t)) (k) (rfl) (hlt) rfl ?_)
          (refine G tt_ok [] ?_; repeat (refine G1 tt_ok [] ?_; intro _))
          (refine SQ.ldG tt_ok rfl rfl ((slr_i q ws)) (by repeat (first | exact .h | apply AtA.t)) (by omega) (fun cur hcs => i_cur hcs hx) ?_)
          (refine G tt_ok [] ?_; repeat (refine G1 tt_ok [] ?_; intro _))
          (refine SQ.built tt_ok rfl rfl (fun _ => w_ ?_))
          (refine G tt_ok [] ?_; repeat (refine G1 tt_ok [] ?_; intro _))
          (refine SQ.appA tt_ok rfl rfl (by repeat (first | exact Rm.h | apply Rm.t)) (by repeat (first | exact .h | exact .q | apply At.t)) ([.int .i64 x]) rfl rfl rfl (scal_eq rfl) (by omega) (by show (o.length + 1) * 8 ≤ _; omega) (fun q2 c2 => w_ ?_))
          (refine G tt_ok [] ?_; repeat (refine G1 tt_ok [] ?_; intro _))
          rw [fl_snoc, ln_snoc o x]
          refine ⟨(k + 1, dn, o ++ [x], q2, c2), ⟨by simp; omega, ?_⟩, by simp; omega, ⟨by rw [← e]; rfl, rfl, rfl, rfl, rfl, trivial⟩, pk_⟩
          simp only [htk]
          cases dn with
          | true => rw [if_pos rfl] at ho ⊢; exact (ho.append_right [x])
          | false => rw [if_neg (by simp)] at ho ⊢; rw [ho]
        | true =>
          (refine G tt_ok [] ?_; repeat (refine G1 tt_ok [] ?_; intro _))
          cases dn with
          | true =>
            (refine G tt_ok [] ?_; repeat (refine G1 tt_ok [] ?_; intro _))
            (refine SQ.idxG tt_ok rfl rfl ((slr_i q ws)) (by repeat (first | exact .h | apply AtA.t)) (k) (rfl) (hlt) rfl ?_)
            (refine G tt_ok [] ?_; repeat (refine G1 tt_ok [] ?_; intro _))
            (refine SQ.ldG tt_ok rfl rfl ((slr_i q ws)) (by repeat (first | exact .h | apply AtA.t)) (by omega) (fun cur hcs => i_cur hcs hx) ?_)
            (refine G tt_ok [] ?_; repeat (refine G1 tt_ok [] ?_; intro _))
            (refine SQ.built tt_ok rfl rfl (fun _ => w_ ?_))
            (refine G tt_ok [] ?_; repeat (refine G1 tt_ok [] ?_; intro _))
            (refine SQ.appA tt_ok rfl rfl (by repeat (first | exact Rm.h | apply Rm.t)) (by repeat (first | exact .h | exact .q | apply At.t)) ([.int .i64 x]) rfl rfl rfl (scal_eq rfl) (by omega) (by show (o.length + 1) * 8 ≤ _; omega) (fun q2 c2 => w_ ?_))
            (refine G tt_ok [] ?_; repeat (refine G1 tt_ok [] ?_; intro _))
            rw [fl_snoc, ln_snoc o x]
            refine ⟨(k + 1, true, o ++ [x], q2, c2), ⟨by simp; omega, ?_⟩, by simp; omega, ⟨by rw [← e]; rfl, rfl, rfl, rfl, rfl, trivial⟩, pk_⟩
            simp only [htk]
            rw [if_pos rfl] at ho
            rw [if_pos trivial]
            exact (ho.append_right [x])
          | false =>
            (refine G tt_ok [] ?_; repeat (refine G1 tt_ok [] ?_; intro _))
            (refine SQ.built tt_ok rfl rfl (fun _ => w_ ?_))
            (refine G tt_ok [] ?_; repeat (refine G1 tt_ok [] ?_; intro _))
            (refine SQ.appA tt_ok rfl rfl (by repeat (first | exact Rm.h | apply Rm.t)) (by repeat (first | exact .h | exact .q | apply At.t)) ([.int .i64 m]) rfl rfl rfl (scal_eq rfl) (by omega) (by show (o.length + 1) * 8 ≤ _; omega) (fun q2 c2 => w_ ?_))
            (refine G tt_ok [] ?_; repeat (refine G1 tt_ok [] ?_; intro _))
            (refine SQ.idxG tt_ok rfl rfl ((slr_i q ws)) (by repeat (first | exact .h | apply AtA.t)) (k) (rfl) (hlt) rfl ?_)
            (refine G tt_ok [] ?_; repeat (refine G1 tt_ok [] ?_; intro _))
            (refine SQ.ldG tt_ok rfl rfl ((slr_i q ws)) (by repeat (first | exact .h | apply AtA.t)) (by omega) (fun cur hcs => i_cur hcs hx) ?_)
            (refine G tt_ok [] ?_; repeat (refine G1 tt_ok [] ?_; intro _))
            (refine SQ.built tt_ok rfl rfl (fun _ => w_ ?_))
            (refine G tt_ok [] ?_; repeat (refine G1 tt_ok [] ?_; intro _))
            (refine SQ.appA tt_ok rfl rfl (by repeat (first | exact Rm.h | apply Rm.t)) (by repeat (first | exact .h | exact .q | apply At.t)) ([.int .i64 x]) rfl rfl rfl (scal_eq rfl) (by omega) (by show (o.length + 1 + 1) * 8 ≤ _; omega) (fun q3 c3 => w_ ?_))
            (refine G tt_ok [] ?_; repeat (refine G1 tt_ok [] ?_; intro _))
            rw [fl_snoc, fl_snoc, ln_snoc o m, ln_snoc (o ++ [m]) x]
            refine ⟨(k + 1, true, o ++ [m] ++ [x], q3, c3), ⟨by simp; omega, ?_⟩, by simp; omega, ⟨by rw [← e]; rfl, rfl, rfl, rfl, rfl, trivial⟩, pk_⟩
            simp only [htk]
            rw [if_neg (by simp)] at ho
            rw [if_pos trivial, ho]
            have : (ws.take k ++ [m]).Perm (m :: ws.take k) := List.perm_append_comm
            exact this.append_right [x]
      · rw [decide_eq_false (show ¬ (k : Int) < (ws.length : Nat) by omega)]
        (refine G tt_ok [] ?_; repeat (refine G1 tt_ok [] ?_; intro _))
        refine CW.exit ?_
        (refine G tt_ok [] ?_; repeat (refine G1 tt_ok [] ?_; intro _))
        have hkl : ws.take k = ws := by rw [List.take_of_length_le (by omega)]
        rw [hkl] at ho
        cases dn with
        | true =>
          rw [if_pos rfl] at ho
          (refine G tt_ok [] ?_; repeat (refine G1 tt_ok [] ?_; intro _))
          exact CW.ret (fin_ret rfl (A := [rowA q1 o.length (o.flatMap iC)]) pk_ ⟨o, q1, c1, .inr ⟨hnm, hm0, ho⟩, rfl, rfl⟩)
        | false =>
          rw [if_neg (by simp)] at ho
          (refine G tt_ok [] ?_; repeat (refine G1 tt_ok [] ?_; intro _))
          (refine SQ.built tt_ok rfl rfl (fun _ => w_ ?_))
          (refine G tt_ok [] ?_; repeat (refine G1 tt_ok [] ?_; intro _))
          (refine SQ.appA tt_ok rfl rfl (by repeat (first | exact Rm.h | apply Rm.t)) (by repeat (first | exact .h | exact .q | apply At.t)) ([.int .i64 m]) rfl rfl rfl (scal_eq rfl) (by omega) (by show (o.length + 1) * 8 ≤ _; omega) (fun q2 c2 => w_ ?_))
          (refine G tt_ok [] ?_; repeat (refine G1 tt_ok [] ?_; intro _))
          rw [fl_snoc, ln_snoc o m]
          exact CW.ret (fin_ret rfl (A := [rowA q2 (o ++ [m]).length ((o ++ [m]).flatMap iC)]) pk_ ⟨o ++ [m], q2, c2, .inr ⟨hnm, hm0, by rw [ho]; exact List.perm_append_comm⟩, rfl, rfl⟩)
set_option maxHeartbeats 16000000 in
theorem take170 (β : Base) (q : Option Addr) (c : Nat) (ws : List Int) (hl : ws.length ≤ 1000) (m : Int) : Tri Tryz.prog β 170 [.slice q ws.length c, .int .i64 m] [rowA q ws.length (ws.flatMap iC)]
    (fun v L => ∃ (o : List Int) (q' : Option Addr) (c' : Nat), o.Sublist ws ∧ v = .slice q' o.length c' ∧ L = [rowA q' o.length (o.flatMap iC)]) := by
  refine Tri.intro tt_ok Tryz.func170 rfl rfl Tryz.ntmps170 rfl fun F => ?_
  refine CW.ent (own_nil 3 1) ?_
  (refine G tt_ok [] ?_; repeat (refine G1 tt_ok [] ?_; intro _))
  refine CW.loop (α := Nat × List Int × Option Addr × Nat) (fun x => x.1 ≤ ws.length ∧ x.2.1.Sublist (ws.take x.1)) (fun x => [(6, .int .i64 x.1), (5, .slice x.2.2.1 x.2.1.length x.2.2.2), (0, .slice q ws.length c), (1, .int .i64 m)])
    (fun x => [own 3 1 (.slice x.2.2.1 x.2.1.length x.2.2.2) x.2.1.length (x.2.1.flatMap iC), rowA q ws.length (ws.flatMap iC)]) (fun x => ws.length - x.1) (0, [], none, 0) ⟨by simp, by simp⟩ ⟨rfl, rfl, rfl, rfl, trivial⟩ pk_ ?_
  rintro ⟨k, o, q1, c1⟩ ⟨hk, ho⟩
  simp only at hk ho ⊢
  have hol : o.length ≤ 1000 := by have := ho.length_le; simp at this; omega
  (refine G tt_ok [] ?_; repeat (refine G1 tt_ok [] ?_; intro _))
  by_cases hlt : k < ws.length
  · rw [decide_eq_true (show (k : Int) < (ws.length : Nat) by omega)]
    obtain ⟨x, hx⟩ : ∃ x, ws[k]? = some x := ⟨_, List.getElem?_eq_getElem hlt⟩
    have htk := take_snoc hx
    have e : IntKind.i64.wrap ((k : Int) + 1) = ((k + 1 : Nat) : Int) := by rw [wrap_id (by omega) (by omega)]; omega
    (refine G tt_ok [] ?_; repeat (refine G1 tt_ok [] ?_; intro _))
    (refine SQ.idxG tt_ok rfl rfl ((slr_i q ws)) (by repeat (first | exact .h | apply AtA.t)) (k) (rfl) (hlt) rfl ?_)
    (refine G tt_ok [] ?_; repeat (refine G1 tt_ok [] ?_; intro _))
    (refine SQ.ldG tt_ok rfl rfl ((slr_i q ws)) (by repeat (first | exact .h | apply AtA.t)) (by omega) (fun cur hcs => i_cur hcs hx) ?_)
    (refine G tt_ok [] ?_; repeat (refine G1 tt_ok [] ?_; intro _))
    cases (x != m) with
    | false =>
      (refine G tt_ok [] ?_; repeat (refine G1 tt_ok [] ?_; intro _))
      exact ⟨(k + 1, o, q1, c1), ⟨by simp; omega, by simp only [htk]; exact ho.trans (List.sublist_append_left _ _)⟩, by simp; omega, ⟨by rw [← e]; rfl, rfl, rfl, rfl, trivial⟩, pk_⟩
    | true =>
      (refine G tt_ok [] ?_; repeat (refine G1 tt_ok [] ?_; intro _))
      (refine SQ.idxG tt_ok rfl rfl ((slr_i q ws)) (by repeat (first | exact .h | apply AtA.t)) (k) (rfl) (hlt) rfl ?_)
      (refine G tt_ok [] ?_; repeat (refine G1 tt_ok [] ?_; intro _))
      (refine SQ.ldG tt_ok rfl rfl ((slr_i q ws)) (by repeat (first | exact .h | apply AtA.t)) (by omega) (fun cur hcs => i_cur hcs hx) ?_)
      (refine G tt_ok [] ?_; repeat (refine G1 tt_ok [] ?_; intro _))
      (refine SQ.built tt_ok rfl rfl (fun _ => w_ ?_))
      (refine G tt_ok [] ?_; repeat (refine G1 tt_ok [] ?_; intro _))
      (refine SQ.appA tt_ok rfl rfl (by repeat (first | exact Rm.h | apply Rm.t)) (by repeat (first | exact .h | exact .q | apply At.t)) ([.int .i64 x]) rfl rfl rfl (scal_eq rfl) (by omega) (by show (o.length + 1) * 8 ≤ _; omega) (fun q2 c2 => w_ ?_))
      (refine G tt_ok [] ?_; repeat (refine G1 tt_ok [] ?_; intro _))
      rw [fl_snoc, ln_snoc o x]
      exact ⟨(k + 1, o ++ [x], q2, c2), ⟨by simp; omega, by simp only [htk]; exact ho.append (List.Sublist.refl _)⟩, by simp; omega, ⟨by rw [← e]; rfl, rfl, rfl, rfl, trivial⟩, pk_⟩
  · rw [decide_eq_false (show ¬ (k : Int) < (ws.length : Nat) by omega)]
    (refine G tt_ok [] ?_; repeat (refine G1 tt_ok [] ?_; intro _))
    refine CW.exit ?_
    (refine G tt_ok [] ?_; repeat (refine G1 tt_ok [] ?_; intro _))
    rw [List.take_of_length_le (by omega)] at ho
    exact CW.ret (fin_ret rfl (A := [rowA q1 o.length (o.flatMap iC)]) pk_ ⟨o, q1, c1, ho, rfl, rfl⟩)
end Go.Proofs.YthhfoppaaehepaaGreatDoor.Sl
namespace Go.Proofs.YthhfoppaaehepaaGreatDoor.Sl
open Go Go.RowKit Go.Proofs
set_option linter.unusedVariables false
set_option linter.unusedSimpArgs false
attribute [local irreducible] CW Tri OW
set_option maxRecDepth 10000
@[reducible] def pk107 : List (Nat × Plan) := [(1, [(0, 0, []), (1, 0, []), (2, 0, []), (3, 0, []), (4, 0, []), (5, 0, []), (6, 0, []), (7, 0, []), (8, 0, []), (9, 0, []), (10, 0, []), (11, 0, []), (12, 0, []), (13, 0, []), (14, 0, []), (15, 0, []), (16, 0, []), (17, 0, []), (18, 0, []), (19, 0, [])])]
@[reducible] def pk109 : List (Nat × Plan) := [(2, [(0, 0, []), (1, 0, []), (2, 0, []), (3, 0, []), (4, 0, []), (5, 0, []), (6, 0, []), (7, 0, []), (8, 0, []), (9, 0, []), (10, 0, []), (11, 0, []), (12, 0, []), (13, 0, []), (14, 0, []), (15, 0, []), (16, 0, []), (17, 1, [])])]
@[reducible] def pk110 : List (Nat × Plan) := [(3, [(0, 0, []), (1, 0, []), (2, 0, []), (3, 0, []), (4, 0, []), (5, 0, []), (6, 0, []), (7, 0, []), (8, 0, []), (9, 0, []), (10, 0, []), (11, 0, []), (12, 0, []), (13, 0, []), (14, 0, []), (15, 0, []), (16, 0, []), (17, 0, []), (18, 0, []), (19, 1, [])])]
@[reducible] def pk149 : List (Nat × Plan) := [(3, [(0, 0, []), (1, 0, []), (2, 0, []), (3, 0, []), (4, 0, []), (5, 0, []), (6, 0, []), (7, 0, []), (8, 0, []), (9, 0, []), (10, 0, []), (11, 0, []), (12, 0, []), (13, 0, []), (14, 0, []), (15, 0, []), (16, 0, []), (17, 0, []), (18, 0, []), (19, 0, []), (20, 0, []), (21, 1, [])])]
@[reducible] def dlC (k : Nat) (on : Bool) (r : Nat) (q : Option Addr) (n c : Nat) : List Value := [.int .i64 ((20 + 16 * k : Nat) : Int), .bool on, .int .i64 480, .int .i64 64, .int .i64 ((560 + 16 * k : Nat) : Int), .int .i64 8, .slice (some ⟨r, 0, none⟩) (20 + 16 * k) (20 + 16 * k), .slice q n c]
theorem td8 (i : Nat) (h : i < 64) : IntKind.i64.wrap ((i : Int).tdiv 8) = ((i / 8 : Nat) : Int) := by rw [Int.tdiv_eq_ediv_of_nonneg (by omega), wrap_id (by omega) (by omega)]; omega
set_option maxHeartbeats 4000000 in
theorem bit107 (β : Base) (p m g : Nat) {k : Nat} (hk : k < 3) (on : Bool) (r : Nat) (q : Option Addr) (n c : Nat) {i : Nat} (hi : i < 64) : Tri Tryz.prog β 107 [.pointer (some ⟨p, 0, none⟩), .pointer (some ⟨m, 0, none⟩), .int .i64 i] [pt p (dlC k on r q n c), dmA m g] (fun v L => (∃ b, v = .bool b) ∧ L = [pt p (dlC k on r q n c), dmA m g]) := by
  refine Tri.intro tt_ok Tryz.func107 rfl rfl Tryz.ntmps107 rfl fun F => ?_
  refine CW.ent (L' := dmA m g :: [pt p (dlC k on r q n c)]) pk_ ?_
  refine CW.open_ fun B => CW.pure_ fun hB => ?_
  (refine G tt_ok pk107 ?_; repeat (refine G1 tt_ok pk107 ?_; intro _))
  rw [td8 i hi, show IntKind.i64.wrap (((560 + 16 * k : Nat) : Int) + ((i / 8 : Nat) : Int)) = ((560 + 16 * k + i / 8 : Nat) : Int) by rw [wrap_id (by omega) (by omega)]; omega]
  refine SQ.idx tt_ok rfl rfl (560 + 16 * k + i / 8) rfl (by omega) (o' := 0 + (560 + 16 * k + i / 8) * 1) rfl ?_
  (refine SQ.ldA tt_ok rfl rfl (by repeat (first | exact .h | exact .q | apply At.t)) (bys_at (getD_some (show 560 + 16 * k + i / 8 < B.length by omega))) ?_)
  (refine G tt_ok pk107 ?_; repeat (refine G1 tt_ok pk107 ?_; intro _))
  exact CW.ret (fin_ret rfl (A := [pt p (dlC k on r q n c), dmA m g]) (Ent.trans (M := [pt p (dlC k on r q n c)] ++ [pt m [.slice (some ⟨g, 0, none⟩) 4096 4096], pt g (bys B)]) pk_ (Ent.append (Ent.refl _) (dm_close hB))) ⟨⟨_, rfl⟩, rfl⟩)
set_option maxHeartbeats 4000000 in
theorem put109 (β : Base) (p m g : Nat) {k : Nat} (hk : k < 3) (on : Bool) (r : Nat) (q : Option Addr) (n c : Nat) {i : Nat} (hi : i < 64) (v : Bool) : Tri Tryz.prog β 109 [.pointer (some ⟨p, 0, none⟩), .pointer (some ⟨m, 0, none⟩), .int .i64 i, .bool v] [pt p (dlC k on r q n c), dmA m g] (fun v L => v = .tuple #[] ∧ L = [pt p (dlC k on r q n c), dmA m g]) := by
  refine Tri.intro tt_ok Tryz.func109 rfl rfl Tryz.ntmps109 rfl fun F => ?_
  (refine G tt_ok pk109 ?_; repeat (refine G1 tt_ok pk109 ?_; intro _))
  rw [td8 i hi, show IntKind.i64.wrap (((560 + 16 * k : Nat) : Int) + ((i / 8 : Nat) : Int)) = ((560 + 16 * k + i / 8 : Nat) : Int) by rw [wrap_id (by omega) (by omega)]; omega]
  (refine G tt_ok pk109 ?_; repeat (refine G1 tt_ok pk109 ?_; intro _))
  (refine ka rfl rfl (bit107 β p m g hk on r q n c hi) ?_; rintro _ _ ⟨⟨b, rfl⟩, rfl⟩; refine w_ ?_)
  (refine G tt_ok pk109 ?_; repeat (refine G1 tt_ok pk109 ?_; intro _))
  have bad : ∀ {P : Prop}, P → P := fun h => h
  cases b <;> cases v <;> (refine G tt_ok pk109 ?_; repeat (refine G1 tt_ok pk109 ?_; intro _))
  all_goals first | exact fin_normal (vs := []) rfl pk_ ⟨rfl, rfl⟩ | skip
  all_goals (
    refine SQ.ent _ (Rm.to (A := dmA m g) (by repeat (first | exact Rm.h | apply Rm.t)) (Ent.refl [dmA m g])) ?_; refine SQ.open_ fun B => SQ.pure_ fun hB => ?_
    (refine G tt_ok pk109 ?_; repeat (refine G1 tt_ok pk109 ?_; intro _))
    refine SQ.idx tt_ok rfl rfl (560 + 16 * k + i / 8) rfl (by omega) (o' := 0 + (560 + 16 * k + i / 8) * 1) rfl ?_
    (refine SQ.ldA tt_ok rfl rfl (by repeat (first | exact .h | exact .q | apply At.t)) (bys_at (getD_some (show 560 + 16 * k + i / 8 < B.length by omega))) ?_)
    (refine G tt_ok pk109 ?_; repeat (refine G1 tt_ok pk109 ?_; intro _))
    obtain ⟨z, hz⟩ := u8_nat ((BitVec.ofInt IntKind.u8.bits ((B.getD (560 + 16 * k + i / 8) 0 : Nat) : Int) ^^^ BitVec.ofInt IntKind.u8.bits (IntKind.u8.wrap (1 * 2 ^ min (i % 8) IntKind.u8.bits))).toNat : Int)
    rw [hz]
    refine SQ.idx tt_ok rfl rfl (560 + 16 * k + i / 8) rfl (by omega) (o' := 0 + (560 + 16 * k + i / 8) * 1) rfl ?_
    (refine SQ.stA tt_ok rfl rfl (by repeat (first | apply Up.h | apply Up.t)) (by rfl) (bys_wr (show 560 + 16 * k + i / 8 < B.length by omega) z) (by repeat (first | exact trivial | refine ⟨trivial, ?_⟩ | refine ⟨wk (by repeat (first | exact .h | exact .q | apply At.t)) (by rfl), ?_⟩)) ?_)
    (refine G tt_ok pk109 ?_; repeat (refine G1 tt_ok pk109 ?_; intro _))
    exact fin_normal (vs := []) rfl (A := [pt p (dlC k on r q n c), dmA m g]) (Ent.trans (M := [pt p (dlC k on r q n c)] ++ [pt m [.slice (some ⟨g, 0, none⟩) 4096 4096], pt g (bys (B.set (560 + 16 * k + i / 8) z))]) pk_ (Ent.append (Ent.refl _) (dm_close (by simp [hB])))) ⟨rfl, rfl⟩)
theorem of168 (β : Base) (p k : Nat) (on : Bool) (r : Nat) (q : Option Addr) (n c : Nat) (hk : k < 3) (id : Int) : Tri Tryz.prog β 168 [.pointer (some ⟨p, 0, none⟩), .int .i64 id] [pt p (dlC k on r q n c)] (fun v L => v = .bool (decide (8192 ≤ id ∧ id < ((8212 + 16 * k : Nat) : Int))) ∧ L = [pt p (dlC k on r q n c)]) := by
  refine Tri.intro tt_ok Tryz.func168 rfl rfl Tryz.ntmps168 rfl fun F => ?_
  (refine G tt_ok [] ?_; repeat (refine G1 tt_ok [] ?_; intro _))
  by_cases h1 : id ≥ 8192
  · rw [decide_eq_true h1]
    (refine G tt_ok [] ?_; repeat (refine G1 tt_ok [] ?_; intro _))
    rw [show IntKind.i64.wrap (8192 + ((20 + 16 * k : Nat) : Int)) = ((8212 + 16 * k : Nat) : Int) by rw [wrap_id (by omega) (by omega)]; omega]
    refine CW.ret (fin_ret rfl pk_ ⟨?_, rfl⟩)
    simp only [packV]
    congr 1
    by_cases h2 : id < ((8212 + 16 * k : Nat) : Int)
    · rw [decide_eq_true h2, decide_eq_true ⟨h1, h2⟩]
    · rw [decide_eq_false h2, decide_eq_false (fun h => h2 h.2)]
  · rw [decide_eq_false h1]
    (refine G tt_ok [] ?_; repeat (refine G1 tt_ok [] ?_; intro _))
    rw [decide_eq_false (fun h : 8192 ≤ id ∧ id < ((8212 + 16 * k : Nat) : Int) => h1 h.1)]
    exact CW.ret (fin_ret rfl pk_ ⟨rfl, rfl⟩)
set_option maxHeartbeats 4000000 in
theorem invA110 (β : Base) (p m g : Nat) {k : Nat} (hk : k < 3) (on : Bool) (r : Nat) (q : Option Addr) (n c : Nat) {C : List Nat} (hC : C.length = 20 + 16 * k) : Tri Tryz.prog β 110 [.pointer (some ⟨p, 0, none⟩), .pointer (some ⟨m, 0, none⟩)] [pt p (dlC k on r q n c), pt r (bys C), dmA m g]
    (fun v L => ∃ C' : List Nat, C'.length = 20 + 16 * k ∧ v = .tuple #[] ∧ L = [pt p (dlC k on r q n c), pt r (bys C'), dmA m g]) := by
  refine Tri.intro tt_ok Tryz.func110 rfl rfl Tryz.ntmps110 rfl fun F => ?_
  refine CW.ent (L' := dmA m g :: [pt p (dlC k on r q n c), pt r (bys C)]) pk_ ?_
  refine CW.open_ fun B => CW.pure_ fun hB => ?_
  (refine G tt_ok pk110 ?_; repeat (refine G1 tt_ok pk110 ?_; intro _))
  refine CW.loop (α := Nat × List Nat) (fun x => x.1 ≤ 20 + 16 * k ∧ x.2.length = 20 + 16 * k) (fun x => [(4, .int .i64 x.1), (0, .pointer (some ⟨p, 0, none⟩)), (1, .pointer (some ⟨m, 0, none⟩))]) (fun x => [pt p (dlC k on r q n c), pt r (bys x.2), pt m [.slice (some ⟨g, 0, none⟩) 4096 4096], pt g (bys B)]) (fun x => 20 + 16 * k - x.1) (0, C) ⟨by simp, hC⟩ ⟨rfl, rfl, rfl, trivial⟩ pk_ ?_
  rintro ⟨i, D⟩ ⟨hi, hD⟩
  simp only at hi hD ⊢
  (refine G tt_ok pk110 ?_; repeat (refine G1 tt_ok pk110 ?_; intro _))
  by_cases hlt : i < 20 + 16 * k
  · rw [decide_eq_true (show (i : Int) < ((20 + 16 * k : Nat) : Int) by omega)]
    (refine G tt_ok pk110 ?_; repeat (refine G1 tt_ok pk110 ?_; intro _))
    rw [show IntKind.i64.wrap (480 + (i : Int)) = ((480 + i : Nat) : Int) by rw [wrap_id (by omega) (by omega)]; omega]
    refine SQ.idx tt_ok rfl rfl (480 + i) rfl (by omega) (o' := 0 + (480 + i) * 1) rfl ?_
    (refine SQ.ldA tt_ok rfl rfl (by repeat (first | exact .h | exact .q | apply At.t)) (bys_at (getD_some (show 480 + i < B.length by omega))) ?_)
    (refine G tt_ok pk110 ?_; repeat (refine G1 tt_ok pk110 ?_; intro _))
    refine SQ.idx tt_ok rfl rfl i rfl hlt (o' := 0 + i * 1) rfl ?_
    (refine SQ.stA tt_ok rfl rfl (by repeat (first | apply Up.h | apply Up.t)) (by rfl) (bys_wr (show i < D.length by omega) (B.getD (480 + i) 0)) (by repeat (first | exact trivial | refine ⟨trivial, ?_⟩ | refine ⟨wk (by repeat (first | exact .h | exact .q | apply At.t)) (by rfl), ?_⟩)) ?_)
    (refine G tt_ok pk110 ?_; repeat (refine G1 tt_ok pk110 ?_; intro _))
    have e : IntKind.i64.wrap ((i : Int) + 1) = ((i + 1 : Nat) : Int) := by rw [wrap_id (by omega) (by omega)]; omega
    exact ⟨(i + 1, D.set i (B.getD (480 + i) 0)), ⟨by simp; omega, by simp [hD]⟩, by simp; omega, ⟨by rw [← e]; rfl, rfl, rfl, trivial⟩, pk_⟩
  · rw [decide_eq_false (show ¬ (i : Int) < ((20 + 16 * k : Nat) : Int) by omega)]
    (refine G tt_ok pk110 ?_; repeat (refine G1 tt_ok pk110 ?_; intro _))
    refine CW.exit ?_
    (refine G tt_ok pk110 ?_; repeat (refine G1 tt_ok pk110 ?_; intro _))
    exact fin_normal (vs := []) rfl (A := [pt p (dlC k on r q n c), pt r (bys D), dmA m g]) (Ent.trans (M := [pt p (dlC k on r q n c), pt r (bys D)] ++ [pt m [.slice (some ⟨g, 0, none⟩) 4096 4096], pt g (bys B)]) pk_ (Ent.append (Ent.refl _) (dm_close hB))) ⟨D, hD, rfl, rfl⟩
set_option maxHeartbeats 4000000 in
theorem inv149 (β : Base) (p m g : Nat) {k : Nat} (hk : k < 3) (on : Bool) (r : Nat) (q : Option Addr) (n c : Nat) {C : List Nat} (hC : C.length = 20 + 16 * k) (id : Int) : Tri Tryz.prog β 149 [.pointer (some ⟨p, 0, none⟩), .pointer (some ⟨m, 0, none⟩), .int .i64 id] [pt p (dlC k on r q n c), pt r (bys C), dmA m g]
    (fun v L => ∃ (C' : List Nat) (e : Int), C'.length = 20 + 16 * k ∧ v = .int .i64 e ∧ L = [pt p (dlC k on r q n c), pt r (bys C'), dmA m g]) := by
  refine Tri.intro tt_ok Tryz.func149 rfl rfl Tryz.ntmps149 rfl fun F => ?_
  (refine G tt_ok pk149 ?_; repeat (refine G1 tt_ok pk149 ?_; intro _))
  refine ke rfl rfl (of168 β p k on r q n c hk id) ?_
  by_cases h : 8192 ≤ id ∧ id < ((8212 + 16 * k : Nat) : Int)
  · rw [decide_eq_true h]
    obtain ⟨i, rfl⟩ : ∃ i : Nat, id = ((8192 + i : Nat) : Int) := ⟨(id - 8192).toNat, by omega⟩
    have hi : i < 20 + 16 * k := by omega
    (refine G tt_ok pk149 ?_; repeat (refine G1 tt_ok pk149 ?_; intro _))
    refine SQ.ent _ (Rm.to (A := dmA m g) (by repeat (first | exact Rm.h | apply Rm.t)) (Ent.refl [dmA m g])) ?_; refine SQ.open_ fun B => SQ.pure_ fun hB => ?_
    (refine G tt_ok pk149 ?_; repeat (refine G1 tt_ok pk149 ?_; intro _))
    rw [show IntKind.i64.wrap (((8192 + i : Nat) : Int) - 8192) = (i : Int) by rw [wrap_id (by omega) (by omega)]; omega,
      show IntKind.i64.wrap (IntKind.i64.wrap (480 + ((8192 + i : Nat) : Int)) - 8192) = ((480 + i : Nat) : Int) by rw [wrap_id (x := 480 + ((8192 + i : Nat) : Int)) (by omega) (by omega), wrap_id (by omega) (by omega)]; omega]
    refine SQ.idx tt_ok rfl rfl (480 + i) rfl (by omega) (o' := 0 + (480 + i) * 1) rfl ?_
    (refine SQ.ldA tt_ok rfl rfl (by repeat (first | exact .h | exact .q | apply At.t)) (bys_at (getD_some (show 480 + i < B.length by omega))) ?_)
    (refine G tt_ok pk149 ?_; repeat (refine G1 tt_ok pk149 ?_; intro _))
    refine SQ.idx tt_ok rfl rfl i rfl hi (o' := 0 + i * 1) rfl ?_
    (refine SQ.stA tt_ok rfl rfl (by repeat (first | apply Up.h | apply Up.t)) (by rfl) (bys_wr (show i < C.length by omega) (B.getD (480 + i) 0)) (by repeat (first | exact trivial | refine ⟨trivial, ?_⟩ | refine ⟨wk (by repeat (first | exact .h | exact .q | apply At.t)) (by rfl), ?_⟩)) ?_)
    (refine G tt_ok pk149 ?_; repeat (refine G1 tt_ok pk149 ?_; intro _))
    exact CW.ret (fin_ret rfl (A := [pt p (dlC k on r q n c), pt r (bys (C.set i (B.getD (480 + i) 0))), dmA m g]) (Ent.trans (M := [pt p (dlC k on r q n c), pt r (bys (C.set i (B.getD (480 + i) 0)))] ++ [pt m [.slice (some ⟨g, 0, none⟩) 4096 4096], pt g (bys B)]) pk_ (Ent.append (Ent.refl _) (dm_close hB))) ⟨_, _, by simp [hC], rfl, rfl⟩)
  · rw [decide_eq_false h]
    (refine G tt_ok pk149 ?_; repeat (refine G1 tt_ok pk149 ?_; intro _))
    exact CW.ret (fin_ret rfl (A := [pt p (dlC k on r q n c), pt r (bys C), dmA m g]) pk_ ⟨_, _, hC, rfl, rfl⟩)
/-- What waits by a part of the document's. -/
def wsOk (k : Nat) (ws : List Int) : Prop := ws.Nodup ∧ ∀ w ∈ ws, ∃ i : Nat, i < 20 + 16 * k ∧ w = (i : Int)
theorem nd_len : ∀ {n : Nat} {l : List Int}, l.Nodup → (∀ w ∈ l, ∃ i : Nat, i < n ∧ w = (i : Int)) → l.length ≤ n
  | 0, l, _, h => by
    cases l with
    | nil => simp
    | cons a r => obtain ⟨i, hi, _⟩ := h a (by simp); omega
  | n + 1, l, hn, h => by
    have h1 : (l.erase (n : Int)).length ≤ n := nd_len (hn.erase _) fun w hw => by
      have hm := (hn.mem_erase_iff).1 hw
      obtain ⟨i, hi, rfl⟩ := h w hm.2
      exact ⟨i, by have := hm.1; omega, rfl⟩
    have h2 : l.length ≤ (l.erase (n : Int)).length + 1 := by
      by_cases hm : (n : Int) ∈ l
      · rw [List.length_erase_of_mem hm]; omega
      · rw [List.erase_of_not_mem hm]; omega
    omega
theorem wsOk.len {k : Nat} {ws : List Int} (h : wsOk k ws) : ws.length ≤ 20 + 16 * k := nd_len h.1 h.2
theorem wsOk.put {k : Nat} {ws o : List Int} (h : wsOk k ws) {i : Nat} (hi : i < 20 + 16 * k) (hp : putOk ws (i : Int) o) : wsOk k o := by
  rcases hp with rfl | ⟨hn, _, hp⟩
  · exact h
  · refine ⟨hp.nodup_iff.2 (List.nodup_cons.2 ⟨hn, h.1⟩), fun w hw => ?_⟩
    rcases List.mem_cons.1 (hp.mem_iff.1 hw) with rfl | hw
    · exact ⟨i, hi, rfl⟩
    · exact h.2 w hw
theorem wsOk.sub {k : Nat} {ws o : List Int} (h : wsOk k ws) (hs : o.Sublist ws) : wsOk k o := ⟨h.1.sublist hs, fun w hw => h.2 w (hs.subset hw)⟩
end Go.Proofs.YthhfoppaaehepaaGreatDoor.Sl
namespace Go.Proofs.YthhfoppaaehepaaGreatDoor.Sl
open Go Go.RowKit Go.Proofs
set_option linter.unusedVariables false
set_option linter.unusedSimpArgs false
attribute [local irreducible] CW Tri OW
set_option maxRecDepth 10000
@[reducible] def pk169 : List (Nat × Plan) := []
@[reducible] def pk155 : List (Nat × Plan) := []
@[reducible] def pk60 : List (Nat × Plan) := []
@[reducible] def pk71 : List (Nat × Plan) := []
/-- A part of the document's. -/
def dlA (p k : Nat) : Atom := exA fun x : Nat × Bool × Option Addr × Nat × List Int × List Nat => [pureA (wsOk k x.2.2.2.2.1 ∧ x.2.2.2.2.2.length = 20 + 16 * k), pt p (dlC k x.2.1 x.1 x.2.2.1 x.2.2.2.2.1.length x.2.2.2.1), pt x.1 (bys x.2.2.2.2.2), rowA x.2.2.1 x.2.2.2.2.1.length (x.2.2.2.2.1.flatMap iC)]
theorem dl_close {p k r : Nat} {on : Bool} {q : Option Addr} {c : Nat} {ws : List Int} {C : List Nat} (hws : wsOk k ws) (hC : C.length = 20 + 16 * k) : Ent [pt p (dlC k on r q ws.length c), pt r (bys C), rowA q ws.length (ws.flatMap iC)] [dlA p k] :=
  (Ent.pureA (p := wsOk k ws ∧ C.length = 20 + 16 * k) ⟨hws, hC⟩).trans (Ent.exA (f := fun x : Nat × Bool × Option Addr × Nat × List Int × List Nat => [pureA (wsOk k x.2.2.2.2.1 ∧ x.2.2.2.2.2.length = 20 + 16 * k), pt p (dlC k x.2.1 x.1 x.2.2.1 x.2.2.2.2.1.length x.2.2.2.1), pt x.1 (bys x.2.2.2.2.2), rowA x.2.2.1 x.2.2.2.2.1.length (x.2.2.2.2.1.flatMap iC)]) (r, on, q, c, ws, C))
theorem sub8 {i : Nat} (h : i < 64) : IntKind.i64.wrap (((8192 + i : Nat) : Int) - 8192) = (i : Int) := by rw [wrap_id (by omega) (by omega)]; omega
theorem of_in {k : Nat} {id : Int} (h : 8192 ≤ id ∧ id < ((8212 + 16 * k : Nat) : Int)) : ∃ i : Nat, i < 20 + 16 * k ∧ id = ((8192 + i : Nat) : Int) := ⟨(id - 8192).toNat, by omega, by omega⟩
set_option maxHeartbeats 8000000 in
theorem has169 (β : Base) (p m g : Nat) {k : Nat} (hk : k < 3) (id : Int) : Tri Tryz.prog β 169 [.pointer (some ⟨p, 0, none⟩), .pointer (some ⟨m, 0, none⟩), .int .i64 id] [dlA p k, dmA m g] (fun v L => (∃ b, v = .bool b ∧ (b = true → 8192 ≤ id ∧ id < ((8212 + 16 * k : Nat) : Int))) ∧ L = [dlA p k, dmA m g]) := by
  refine Tri.intro tt_ok Tryz.func169 rfl rfl Tryz.ntmps169 rfl fun F => ?_
  refine CW.open_ fun x => CW.pure_ fun hx => ?_; obtain ⟨r, on, q, c, ws, C⟩ := x; simp only at hx ⊢; obtain ⟨hws, hC⟩ := hx
  have hl := hws.len
  (refine G tt_ok pk169 ?_; repeat (refine G1 tt_ok pk169 ?_; intro _))
  refine ke rfl rfl (of168 β p k on r q ws.length c hk id) ?_
  by_cases h : 8192 ≤ id ∧ id < ((8212 + 16 * k : Nat) : Int)
  · rw [decide_eq_true h]
    have h0 := h
    obtain ⟨i, hi, rfl⟩ := of_in h
    (refine G tt_ok pk169 ?_; repeat (refine G1 tt_ok pk169 ?_; intro _))
    cases on with
    | true =>
      (refine G tt_ok pk169 ?_; repeat (refine G1 tt_ok pk169 ?_; intro _))
      rw [sub8 (by omega)]
      refine ke rfl rfl (has137 β q c ws (by omega) (i : Int)) ?_
      (refine G tt_ok pk169 ?_; repeat (refine G1 tt_ok pk169 ?_; intro _))
      exact CW.ret (fin_ret rfl (A := [dlA p k, dmA m g]) (Ent.trans (M := [pt p (dlC k _ r q ws.length c), pt r (bys C), rowA q ws.length (ws.flatMap iC)] ++ [dmA m g]) pk_ (Ent.append (dl_close hws hC) (Ent.refl _))) ⟨⟨_, rfl, fun _ => h0⟩, rfl⟩)
    | false =>
      (refine G tt_ok pk169 ?_; repeat (refine G1 tt_ok pk169 ?_; intro _))
      rw [sub8 (by omega)]
      (refine ka rfl rfl (bit107 β p m g hk false r q ws.length c (show i < 64 by omega)) ?_; rintro _ _ ⟨⟨b, rfl⟩, rfl⟩; refine w_ ?_)
      (refine G tt_ok pk169 ?_; repeat (refine G1 tt_ok pk169 ?_; intro _))
      exact CW.ret (fin_ret rfl (A := [dlA p k, dmA m g]) (Ent.trans (M := [pt p (dlC k _ r q ws.length c), pt r (bys C), rowA q ws.length (ws.flatMap iC)] ++ [dmA m g]) pk_ (Ent.append (dl_close hws hC) (Ent.refl _))) ⟨⟨_, rfl, fun _ => h0⟩, rfl⟩)
  · rw [decide_eq_false h]
    (refine G tt_ok pk169 ?_; repeat (refine G1 tt_ok pk169 ?_; intro _))
    exact CW.ret (fin_ret rfl (A := [dlA p k, dmA m g]) (Ent.trans (M := [pt p (dlC k _ r q ws.length c), pt r (bys C), rowA q ws.length (ws.flatMap iC)] ++ [dmA m g]) pk_ (Ent.append (dl_close hws hC) (Ent.refl _))) ⟨⟨_, rfl, fun h => by cases h⟩, rfl⟩)
set_option maxHeartbeats 8000000 in
theorem set155 (β : Base) (p m g : Nat) {k : Nat} (hk : k < 3) (id : Int) (v : Bool) : Tri Tryz.prog β 155 [.pointer (some ⟨p, 0, none⟩), .pointer (some ⟨m, 0, none⟩), .int .i64 id, .bool v] [dlA p k, dmA m g] (fun u L => (∃ (b : Bool) (e : Int), u = .tuple #[.bool b, .int .i64 e]) ∧ L = [dlA p k, dmA m g]) := by
  refine Tri.intro tt_ok Tryz.func155 rfl rfl Tryz.ntmps155 rfl fun F => ?_
  have hH := has169 β p m g hk id
  refine CW.open_ fun x => CW.pure_ fun hx => ?_; obtain ⟨r, on, q, c, ws, C⟩ := x; simp only at hx ⊢; obtain ⟨hws, hC⟩ := hx
  have hl := hws.len
  (refine G tt_ok pk155 ?_; repeat (refine G1 tt_ok pk155 ?_; intro _))
  refine ke rfl rfl (of168 β p k on r q ws.length c hk id) ?_
  by_cases h : 8192 ≤ id ∧ id < ((8212 + 16 * k : Nat) : Int)
  · rw [decide_eq_true h]
    obtain ⟨i, hi, rfl⟩ := of_in h
    (refine G tt_ok pk155 ?_; repeat (refine G1 tt_ok pk155 ?_; intro _))
    refine SQ.ent _ (Ent.trans (M := [pt p (dlC k _ r q ws.length c), pt r (bys C), rowA q ws.length (ws.flatMap iC)] ++ [dmA m g]) pk_ (Ent.append (dl_close hws hC) (Ent.refl _))) ?_
    (refine ka rfl rfl (hH) ?_; rintro _ _ ⟨⟨b, rfl, _⟩, rfl⟩; refine w_ ?_)
    refine SQ.ent _ (Rm.to (A := dlA p k) (by repeat (first | exact Rm.h | apply Rm.t)) (Ent.refl [dlA p k])) ?_
    refine SQ.open_ fun x => SQ.pure_ fun hx => ?_
    obtain ⟨r, on, q, c, ws, C⟩ := x; simp only at hx ⊢; obtain ⟨hws, hC⟩ := hx
    have hl := hws.len
    (refine G tt_ok pk155 ?_; repeat (refine G1 tt_ok pk155 ?_; intro _))
    cases on with
    | false =>
      (refine G tt_ok pk155 ?_; repeat (refine G1 tt_ok pk155 ?_; intro _))
      rw [sub8 (by omega)]
      (refine G tt_ok pk155 ?_; repeat (refine G1 tt_ok pk155 ?_; intro _))
      refine ke rfl rfl (put109 β p m g hk false r q ws.length c (show i < 64 by omega) v) ?_
      (refine G tt_ok pk155 ?_; repeat (refine G1 tt_ok pk155 ?_; intro _))
      exact CW.ret (fin_ret rfl (A := [dlA p k, dmA m g]) (Ent.trans (M := [pt p (dlC k false r q ws.length c), pt r (bys C), rowA q ws.length (ws.flatMap iC)] ++ [dmA m g]) pk_ (Ent.append (dl_close hws hC) (Ent.refl _))) ⟨⟨_, _, rfl⟩, rfl⟩)
    | true =>
      (refine G tt_ok pk155 ?_; repeat (refine G1 tt_ok pk155 ?_; intro _))
      rw [sub8 (by omega)]
      (refine ka rfl rfl (take170 β q c ws (by omega) (i : Int)) ?_; rintro _ _ ⟨o, q1, c1, ho, rfl, rfl⟩; refine w_ ?_)
      have hws1 := hws.sub ho
      have hl1 := hws1.len
      (refine G tt_ok pk155 ?_; repeat (refine G1 tt_ok pk155 ?_; intro _))
      cases v with
      | false =>
        (refine G tt_ok pk155 ?_; repeat (refine G1 tt_ok pk155 ?_; intro _))
        exact CW.ret (fin_ret rfl (A := [dlA p k, dmA m g]) (Ent.trans (M := [pt p (dlC k true r q1 o.length c1), pt r (bys C), rowA q1 o.length (o.flatMap iC)] ++ [dmA m g]) pk_ (Ent.append (dl_close hws1 hC) (Ent.refl _))) ⟨⟨_, _, rfl⟩, rfl⟩)
      | true =>
        (refine G tt_ok pk155 ?_; repeat (refine G1 tt_ok pk155 ?_; intro _))
        rw [sub8 (by omega)]
        (refine ka rfl rfl (put108 β q1 c1 o (by omega) (i : Int)) ?_; rintro _ _ ⟨o2, q2, c2, ho2, rfl, rfl⟩; refine w_ ?_)
        have hws2 := hws1.put hi ho2
        (refine G tt_ok pk155 ?_; repeat (refine G1 tt_ok pk155 ?_; intro _))
        exact CW.ret (fin_ret rfl (A := [dlA p k, dmA m g]) (Ent.trans (M := [pt p (dlC k true r q2 o2.length c2), pt r (bys C), rowA q2 o2.length (o2.flatMap iC)] ++ [dmA m g]) pk_ (Ent.append (dl_close hws2 hC) (Ent.refl _))) ⟨⟨_, _, rfl⟩, rfl⟩)
  · rw [decide_eq_false h]
    (refine G tt_ok pk155 ?_; repeat (refine G1 tt_ok pk155 ?_; intro _))
    exact CW.ret (fin_ret rfl (A := [dlA p k, dmA m g]) (Ent.trans (M := [pt p (dlC k _ r q ws.length c), pt r (bys C), rowA q ws.length (ws.flatMap iC)] ++ [dmA m g]) pk_ (Ent.append (dl_close hws hC) (Ent.refl _))) ⟨⟨_, _, rfl⟩, rfl⟩)
set_option maxHeartbeats 8000000 in
theorem inv149C (β : Base) (p m g : Nat) {k : Nat} (hk : k < 3) (id : Int) : Tri Tryz.prog β 149 [.pointer (some ⟨p, 0, none⟩), .pointer (some ⟨m, 0, none⟩), .int .i64 id] [dlA p k, dmA m g] (fun u L => (∃ (e : Int), u = .int .i64 e) ∧ L = [dlA p k, dmA m g]) := by
  refine Tri.open_ (fun x => ?_) (inv149 β p m g hk false 0 none 0 0 (C := List.replicate (20 + 16 * k) 0) (by simp) id).en
  refine Tri.pure_ (fun hx => ?_) (inv149 β p m g hk false 0 none 0 0 (C := List.replicate (20 + 16 * k) 0) (by simp) id).en
  obtain ⟨r, on, q, c, ws, C⟩ := x; simp only at hx ⊢; obtain ⟨hws, hC⟩ := hx
  refine Tri.post ((inv149 β p m g hk on r q ws.length c hC id).fr (F := [rowA q ws.length (ws.flatMap iC)])) ?_
  rintro v L ⟨A', ⟨C', e, hC', rfl, rfl⟩, rfl⟩
  exact ⟨[dlA p k, dmA m g], Ent.trans (M := [pt p (dlC k on r q ws.length c), pt r (bys C'), rowA q ws.length (ws.flatMap iC)] ++ [dmA m g]) pk_ (Ent.append (dl_close hws hC') (Ent.refl _)), ⟨_, rfl⟩, rfl⟩
set_option maxHeartbeats 8000000 in
theorem invA110C (β : Base) (p m g : Nat) {k : Nat} (hk : k < 3) : Tri Tryz.prog β 110 [.pointer (some ⟨p, 0, none⟩), .pointer (some ⟨m, 0, none⟩)] [dlA p k, dmA m g] (fun u L => u = .tuple #[] ∧ L = [dlA p k, dmA m g]) := by
  refine Tri.open_ (fun x => ?_) (invA110 β p m g hk false 0 none 0 0 (C := List.replicate (20 + 16 * k) 0) (by simp)).en
  refine Tri.pure_ (fun hx => ?_) (invA110 β p m g hk false 0 none 0 0 (C := List.replicate (20 + 16 * k) 0) (by simp)).en
  obtain ⟨r, on, q, c, ws, C⟩ := x; simp only at hx ⊢; obtain ⟨hws, hC⟩ := hx
  refine Tri.post ((invA110 β p m g hk on r q ws.length c hC).fr (F := [rowA q ws.length (ws.flatMap iC)])) ?_
  rintro v L ⟨A', ⟨C', hC', rfl, rfl⟩, rfl⟩
  exact ⟨[dlA p k, dmA m g], Ent.trans (M := [pt p (dlC k on r q ws.length c), pt r (bys C'), rowA q ws.length (ws.flatMap iC)] ++ [dmA m g]) pk_ (Ent.append (dl_close hws hC') (Ent.refl _)), rfl, rfl⟩
set_option maxHeartbeats 8000000 in
theorem enable60 (β : Base) (p m g : Nat) {k : Nat} (hk : k < 3) : Tri Tryz.prog β 60 [.pointer (some ⟨p, 0, none⟩), .pointer (some ⟨m, 0, none⟩)] [dlA p k, dmA m g] (fun u L => u = .tuple #[] ∧ L = [dlA p k, dmA m g]) := by
  refine Tri.intro tt_ok Tryz.func60 rfl rfl Tryz.ntmps60 rfl fun F => ?_
  have hI := invA110C β p m g hk
  refine CW.open_ fun x => CW.pure_ fun hx => ?_; obtain ⟨r, on, q, c, ws, C⟩ := x; simp only at hx ⊢; obtain ⟨hws, hC⟩ := hx
  (refine G tt_ok pk60 ?_; repeat (refine G1 tt_ok pk60 ?_; intro _))
  cases on with
  | true =>
    (refine G tt_ok pk60 ?_; repeat (refine G1 tt_ok pk60 ?_; intro _))
    exact CW.ret (fin_ret (vs := []) rfl (A := [dlA p k, dmA m g]) (Ent.trans (M := [pt p (dlC k true r q ws.length c), pt r (bys C), rowA q ws.length (ws.flatMap iC)] ++ [dmA m g]) pk_ (Ent.append (dl_close hws hC) (Ent.refl _))) ⟨rfl, rfl⟩)
  | false =>
    refine CW.ent row_nil ?_
    (refine G tt_ok pk60 ?_; repeat (refine G1 tt_ok pk60 ?_; intro _))
    refine CW.loop (α := Nat × List Int × Option Addr × Nat) (fun x => x.1 ≤ 20 + 16 * k ∧ wsOk k x.2.1) (fun x => [(4, .int .i64 x.1), (0, .pointer (some ⟨p, 0, none⟩)), (1, .pointer (some ⟨m, 0, none⟩))])
      (fun x => [pt p (dlC k false r x.2.2.1 x.2.1.length x.2.2.2), pt r (bys C), rowA x.2.2.1 x.2.1.length (x.2.1.flatMap iC), dmA m g]) (fun x => 20 + 16 * k - x.1) (0, [], none, 0) ⟨by simp, List.nodup_nil, by simp⟩ ⟨rfl, rfl, rfl, trivial⟩ pk_ ?_
    rintro ⟨i, o, q1, c1⟩ ⟨hi, ho⟩
    simp only at hi ho ⊢
    have hl := ho.len
    (refine G tt_ok pk60 ?_; repeat (refine G1 tt_ok pk60 ?_; intro _))
    by_cases hlt : i < 20 + 16 * k
    · rw [decide_eq_true (show (i : Int) < ((20 + 16 * k : Nat) : Int) by omega)]
      have e : IntKind.i64.wrap ((i : Int) + 1) = ((i + 1 : Nat) : Int) := by rw [wrap_id (by omega) (by omega)]; omega
      (refine G tt_ok pk60 ?_; repeat (refine G1 tt_ok pk60 ?_; intro _))
      (refine ka rfl rfl (bit107 β p m g hk false r q1 o.length c1 (show i < 64 by omega)) ?_; rintro _ _ ⟨⟨b, rfl⟩, rfl⟩; refine w_ ?_)
      (refine G tt_ok pk60 ?_; repeat (refine G1 tt_ok pk60 ?_; intro _))
      cases b with
      | false =>
        (refine G tt_ok pk60 ?_; repeat (refine G1 tt_ok pk60 ?_; intro _))
        refine ke rfl rfl (put109 β p m g hk false r q1 o.length c1 (show i < 64 by omega) false) ?_
        (refine G tt_ok pk60 ?_; repeat (refine G1 tt_ok pk60 ?_; intro _))
        exact ⟨(i + 1, o, q1, c1), ⟨by simp; omega, ho⟩, by simp; omega, ⟨by rw [← e]; rfl, rfl, rfl, trivial⟩, pk_⟩
      | true =>
        (refine G tt_ok pk60 ?_; repeat (refine G1 tt_ok pk60 ?_; intro _))
        (refine ka rfl rfl (put108 β q1 c1 o (by omega) (i : Int)) ?_; rintro _ _ ⟨o2, q2, c2, ho2, rfl, rfl⟩; refine w_ ?_)
        (refine G tt_ok pk60 ?_; repeat (refine G1 tt_ok pk60 ?_; intro _))
        refine ke rfl rfl (put109 β p m g hk false r q2 o2.length c2 (show i < 64 by omega) false) ?_
        (refine G tt_ok pk60 ?_; repeat (refine G1 tt_ok pk60 ?_; intro _))
        exact ⟨(i + 1, o2, q2, c2), ⟨by simp; omega, ho.put hlt ho2⟩, by simp; omega, ⟨by rw [← e]; rfl, rfl, rfl, trivial⟩, pk_⟩
    · rw [decide_eq_false (show ¬ (i : Int) < ((20 + 16 * k : Nat) : Int) by omega)]
      (refine G tt_ok pk60 ?_; repeat (refine G1 tt_ok pk60 ?_; intro _))
      refine CW.exit ?_
      (refine G tt_ok pk60 ?_; repeat (refine G1 tt_ok pk60 ?_; intro _))
      refine SQ.ent _ (Ent.trans (M := [pt p (dlC k true r q1 o.length c1), pt r (bys C), rowA q1 o.length (o.flatMap iC)] ++ [dmA m g]) pk_ (Ent.append (dl_close ho hC) (Ent.refl _))) ?_
      refine ke rfl rfl (hI) ?_
      (refine G tt_ok pk60 ?_; repeat (refine G1 tt_ok pk60 ?_; intro _))
      exact fin_normal (vs := []) rfl pk_ ⟨rfl, rfl⟩
set_option maxHeartbeats 8000000 in
theorem disable71 (β : Base) (p m g : Nat) {k : Nat} (hk : k < 3) : Tri Tryz.prog β 71 [.pointer (some ⟨p, 0, none⟩), .pointer (some ⟨m, 0, none⟩)] [dlA p k, dmA m g] (fun u L => u = .tuple #[] ∧ L = [dlA p k, dmA m g]) := by
  refine Tri.intro tt_ok Tryz.func71 rfl rfl Tryz.ntmps71 rfl fun F => ?_
  refine CW.open_ fun x => CW.pure_ fun hx => ?_; obtain ⟨r, on, q, c, ws, C⟩ := x; simp only at hx ⊢; obtain ⟨hws, hC⟩ := hx
  have hl := hws.len
  (refine G tt_ok pk71 ?_; repeat (refine G1 tt_ok pk71 ?_; intro _))
  cases on with
  | false =>
    (refine G tt_ok pk71 ?_; repeat (refine G1 tt_ok pk71 ?_; intro _))
    exact CW.ret (fin_ret (vs := []) rfl (A := [dlA p k, dmA m g]) (Ent.trans (M := [pt p (dlC k false r q ws.length c), pt r (bys C), rowA q ws.length (ws.flatMap iC)] ++ [dmA m g]) pk_ (Ent.append (dl_close hws hC) (Ent.refl _))) ⟨rfl, rfl⟩)
  | true =>
    (refine G tt_ok pk71 ?_; repeat (refine G1 tt_ok pk71 ?_; intro _))
    refine CW.loop (α := Nat) (fun x => x ≤ ws.length) (fun x => [(4, .int .i64 x), (0, .pointer (some ⟨p, 0, none⟩)), (1, .pointer (some ⟨m, 0, none⟩))])
      (fun x => [pt p (dlC k true r q ws.length c), pt r (bys C), rowA q ws.length (ws.flatMap iC), dmA m g]) (fun x => ws.length - x) 0 (by omega) ⟨rfl, rfl, rfl, trivial⟩ pk_ ?_
    intro i hi
    (refine G tt_ok pk71 ?_; repeat (refine G1 tt_ok pk71 ?_; intro _))
    by_cases hlt : i < ws.length
    · rw [decide_eq_true (show (i : Int) < (ws.length : Nat) by omega)]
      have e : IntKind.i64.wrap ((i : Int) + 1) = ((i + 1 : Nat) : Int) := by rw [wrap_id (by omega) (by omega)]; omega
      obtain ⟨x, hx⟩ : ∃ x, ws[i]? = some x := ⟨_, List.getElem?_eq_getElem hlt⟩
      obtain ⟨n, hn, rfl⟩ := hws.2 x (List.mem_of_getElem? hx)
      (refine G tt_ok pk71 ?_; repeat (refine G1 tt_ok pk71 ?_; intro _))
      (refine SQ.idxG tt_ok rfl rfl ((slr_i q ws)) (by repeat (first | exact .h | apply AtA.t)) (i) (rfl) (hlt) rfl ?_)
      (refine G tt_ok pk71 ?_; repeat (refine G1 tt_ok pk71 ?_; intro _))
      (refine SQ.ldG tt_ok rfl rfl ((slr_i q ws)) (by repeat (first | exact .h | apply AtA.t)) (by omega) (fun cur hcs => i_cur hcs hx) ?_)
      (refine G tt_ok pk71 ?_; repeat (refine G1 tt_ok pk71 ?_; intro _))
      refine ke rfl rfl (put109 β p m g hk true r q ws.length c (show n < 64 by omega) true) ?_
      (refine G tt_ok pk71 ?_; repeat (refine G1 tt_ok pk71 ?_; intro _))
      exact ⟨i + 1, by omega, by omega, ⟨by rw [← e]; rfl, rfl, rfl, trivial⟩, pk_⟩
    · rw [decide_eq_false (show ¬ (i : Int) < (ws.length : Nat) by omega)]
      (refine G tt_ok pk71 ?_; repeat (refine G1 tt_ok pk71 ?_; intro _))
      refine CW.exit ?_
      refine CW.ent row_nil ?_
      (refine G tt_ok pk71 ?_; repeat (refine G1 tt_ok pk71 ?_; intro _))
      exact fin_normal (vs := []) rfl (A := [dlA p k, dmA m g]) (Ent.trans (M := [pt p (dlC k false r none ([] : List Int).length 0), pt r (bys C), rowA none ([] : List Int).length (([] : List Int).flatMap iC)] ++ [dmA m g]) pk_ (Ent.append (dl_close ⟨List.nodup_nil, by simp⟩ hC) (Ent.refl _))) ⟨rfl, rfl⟩
end Go.Proofs.YthhfoppaaehepaaGreatDoor.Sl
namespace Go.Proofs.YthhfoppaaehepaaGreatDoor.Sl
open Go Go.RowKit Go.Proofs
set_option linter.unusedVariables false
set_option linter.unusedSimpArgs false
attribute [local irreducible] CW Tri OW
set_option maxRecDepth 10000
@[reducible] def pk152 : List (Nat × Plan) := []
@[reducible] def pk117 : List (Nat × Plan) := []
@[reducible] def pk58 : List (Nat × Plan) := [(5, [(0, 0, []), (1, 0, []), (2, 0, []), (3, 0, []), (4, 1, [1, 2]), (5, 0, []), (6, 1, [1, 2]), (7, 0, []), (8, 0, [])])]
theorem of168C (β : Base) (p : Nat) {k : Nat} (hk : k < 3) (id : Int) : Tri Tryz.prog β 168 [.pointer (some ⟨p, 0, none⟩), .int .i64 id] [dlA p k] (fun v L => (∃ b, v = .bool b) ∧ L = [dlA p k]) := by
  refine Tri.open_ (fun x => ?_) (of168 β p k false 0 none 0 0 hk id).en
  refine Tri.pure_ (fun hx => ?_) (of168 β p k false 0 none 0 0 hk id).en
  obtain ⟨r, on, q, c, ws, C⟩ := x; simp only at hx ⊢; obtain ⟨hws, hC⟩ := hx
  refine Tri.post ((of168 β p k on r q ws.length c hk id).fr (F := [pt r (bys C), rowA q ws.length (ws.flatMap iC)])) ?_
  rintro v L ⟨A', ⟨rfl, rfl⟩, rfl⟩
  exact ⟨[dlA p k], dl_close hws hC, ⟨_, rfl⟩, rfl⟩
set_option maxHeartbeats 8000000 in
theorem waiting154 (β : Base) (p m g : Nat) {k : Nat} (hk : k < 3) : Tri Tryz.prog β 154 [.pointer (some ⟨p, 0, none⟩), .pointer (some ⟨m, 0, none⟩)] [dlA p k, dmA m g]
    (fun v L => ∃ (o : List Int) (q : Option Addr) (c : Nat), o.length ≤ 64 ∧ v = .slice q o.length c ∧ L = [rowA q o.length (o.flatMap iC), dlA p k, dmA m g]) := by
  refine Tri.intro tt_ok Tryz.func154 rfl rfl Tryz.ntmps154 rfl fun F => ?_
  refine CW.ent (own_nil 3 1) ?_
  (refine G tt_ok [] ?_; repeat (refine G1 tt_ok [] ?_; intro _))
  refine CW.loop (α := Nat × List Int × Option Addr × Nat) (fun x => x.1 ≤ 20 + 16 * k ∧ x.2.1.length ≤ x.1) (fun x => [(6, .int .i64 ((8192 + x.1 : Nat) : Int)), (5, .slice x.2.2.1 x.2.1.length x.2.2.2), (0, .pointer (some ⟨p, 0, none⟩)), (1, .pointer (some ⟨m, 0, none⟩))])
    (fun x => [own 3 1 (.slice x.2.2.1 x.2.1.length x.2.2.2) x.2.1.length (x.2.1.flatMap iC), dlA p k, dmA m g]) (fun x => 20 + 16 * k - x.1) (0, [], none, 0) ⟨by simp, by simp⟩ ⟨rfl, rfl, rfl, rfl, trivial⟩ pk_ ?_
  rintro ⟨i, o, q1, c1⟩ ⟨hi, ho⟩
  simp only at hi ho ⊢
  refine CW.ent (Rm.to (A := dlA p k) (by repeat (first | exact Rm.h | apply Rm.t)) (Ent.refl [dlA p k])) ?_
  refine CW.open_ fun x => CW.pure_ fun hx => ?_; obtain ⟨r, on, q, c, ws, C⟩ := x; simp only at hx ⊢; obtain ⟨hws, hC⟩ := hx
  (refine G tt_ok [] ?_; repeat (refine G1 tt_ok [] ?_; intro _))
  rw [show IntKind.i64.wrap (8192 + ((20 + 16 * k : Nat) : Int)) = ((8192 + (20 + 16 * k) : Nat) : Int) by rw [wrap_id (by omega) (by omega)]; omega]
  have cl : Ent ([pt p (dlC k on r q ws.length c), pt r (bys C), rowA q ws.length (ws.flatMap iC)] ++ [own 3 1 (.slice q1 o.length c1) o.length (o.flatMap iC), dmA m g]) [own 3 1 (.slice q1 o.length c1) o.length (o.flatMap iC), dlA p k, dmA m g] :=
    (Ent.append (dl_close hws hC) (Ent.refl _)).trans (Ent.perm (by exact List.Perm.swap _ _ _))
  by_cases hlt : i < 20 + 16 * k
  · rw [decide_eq_true (show ((8192 + i : Nat) : Int) < ((8192 + (20 + 16 * k) : Nat) : Int) by omega)]
    have e : IntKind.i64.wrap (((8192 + i : Nat) : Int) + 1) = ((8192 + (i + 1) : Nat) : Int) := by rw [wrap_id (by omega) (by omega)]; omega
    (refine G tt_ok [] ?_; repeat (refine G1 tt_ok [] ?_; intro _))
    refine SQ.ent _ (Ent.trans pk_ cl) ?_
    (refine ka rfl rfl (has169 β p m g hk _) ?_; rintro _ _ ⟨⟨b, rfl, _⟩, rfl⟩; refine w_ ?_)
    (refine G tt_ok [] ?_; repeat (refine G1 tt_ok [] ?_; intro _))
    cases b with
    | false =>
      (refine G tt_ok [] ?_; repeat (refine G1 tt_ok [] ?_; intro _))
      exact ⟨(i + 1, o, q1, c1), ⟨by simp; omega, by simp; omega⟩, by simp; omega, ⟨by rw [← e]; rfl, rfl, rfl, rfl, trivial⟩, pk_⟩
    | true =>
      (refine G tt_ok [] ?_; repeat (refine G1 tt_ok [] ?_; intro _))
      (refine SQ.built tt_ok rfl rfl (fun _ => w_ ?_))
      (refine G tt_ok [] ?_; repeat (refine G1 tt_ok [] ?_; intro _))
      (refine SQ.appA tt_ok rfl rfl (by repeat (first | exact Rm.h | apply Rm.t)) (by repeat (first | exact .h | exact .q | apply At.t)) ([.int .i64 ((8192 + i : Nat) : Int)]) rfl rfl rfl (scal_eq rfl) (by omega) (by show (o.length + 1) * 8 ≤ _; omega) (fun q2 c2 => w_ ?_))
      (refine G tt_ok [] ?_; repeat (refine G1 tt_ok [] ?_; intro _))
      rw [fl_snoc, ln_snoc o ((8192 + i : Nat) : Int)]
      exact ⟨(i + 1, o ++ [((8192 + i : Nat) : Int)], q2, c2), ⟨by simp; omega, by simp; omega⟩, by simp; omega, ⟨by rw [← e]; rfl, rfl, rfl, rfl, trivial⟩, pk_⟩
  · rw [decide_eq_false (show ¬ ((8192 + i : Nat) : Int) < ((8192 + (20 + 16 * k) : Nat) : Int) by omega)]
    (refine G tt_ok [] ?_; repeat (refine G1 tt_ok [] ?_; intro _))
    refine CW.exit ?_
    refine CW.ent (Ent.trans pk_ cl) ?_
    (refine G tt_ok [] ?_; repeat (refine G1 tt_ok [] ?_; intro _))
    exact CW.ret (fin_ret rfl (A := [rowA q1 o.length (o.flatMap iC), dlA p k, dmA m g]) pk_ ⟨o, q1, c1, by omega, rfl, rfl⟩)
theorem move152f (β : Base) (m id : Nat) (x y : Value) (idv : Int) : Tri Tryz.prog β 152 [.pointer (some ⟨m, 0, none⟩), .int .i64 idv, x, y, .bool false] [] (fun v L => (∃ b, v = .bool b) ∧ L = []) := by
  refine Tri.intro tt_ok Tryz.func152 rfl rfl Tryz.ntmps152 rfl fun F => ?_
  (refine G tt_ok pk152 ?_; repeat (refine G1 tt_ok pk152 ?_; intro _))
  exact CW.ret (fin_ret rfl pk_ ⟨⟨_, rfl⟩, rfl⟩)
set_option maxHeartbeats 8000000 in
theorem move152 (β : Base) (m g p p' : Nat) {a b : Nat} (ha : a < 3) (hb : b < 3) (id : Int) : Tri Tryz.prog β 152 [.pointer (some ⟨m, 0, none⟩), .int .i64 id, .pointer (some ⟨p, 0, none⟩), .pointer (some ⟨p', 0, none⟩), .bool true] [dlA p a, dlA p' b, dmA m g] (fun v L => (∃ b, v = .bool b) ∧ L = [dlA p a, dlA p' b, dmA m g]) := by
  refine Tri.intro tt_ok Tryz.func152 rfl rfl Tryz.ntmps152 rfl fun F => ?_
  (refine G tt_ok pk152 ?_; repeat (refine G1 tt_ok pk152 ?_; intro _))
  (refine ka rfl rfl (has169 β p m g ha id) ?_; rintro _ _ ⟨⟨h1, rfl, _⟩, rfl⟩; refine w_ ?_)
  cases h1 with
  | false =>
    (refine G tt_ok pk152 ?_; repeat (refine G1 tt_ok pk152 ?_; intro _))
    exact CW.ret (fin_ret rfl pk_ ⟨⟨_, rfl⟩, rfl⟩)
  | true =>
    (refine G tt_ok pk152 ?_; repeat (refine G1 tt_ok pk152 ?_; intro _))
    (refine ka rfl rfl (of168C β p' hb id) ?_; rintro _ _ ⟨⟨h2, rfl⟩, rfl⟩; refine w_ ?_)
    cases h2 with
    | false =>
      (refine G tt_ok pk152 ?_; repeat (refine G1 tt_ok pk152 ?_; intro _))
      exact CW.ret (fin_ret rfl pk_ ⟨⟨_, rfl⟩, rfl⟩)
    | true =>
      (refine G tt_ok pk152 ?_; repeat (refine G1 tt_ok pk152 ?_; intro _))
      (refine ka rfl rfl (set155 β p m g ha id false) ?_; rintro _ _ ⟨⟨_, _, rfl⟩, rfl⟩; refine w_ ?_)
      (refine G tt_ok pk152 ?_; repeat (refine G1 tt_ok pk152 ?_; intro _))
      (refine ka rfl rfl (set155 β p' m g hb id true) ?_; rintro _ _ ⟨⟨_, _, rfl⟩, rfl⟩; refine w_ ?_)
      (refine G tt_ok pk152 ?_; repeat (refine G1 tt_ok pk152 ?_; intro _))
      exact CW.ret (fin_ret rfl pk_ ⟨⟨_, rfl⟩, rfl⟩)
set_option maxHeartbeats 8000000 in
theorem moveAll117f (β : Base) (m g p : Nat) {a : Nat} (ha : a < 3) : Tri Tryz.prog β 117 [.pointer (some ⟨m, 0, none⟩), .pointer (some ⟨p, 0, none⟩), .pointer (some ⟨p, 0, none⟩), .bool false] [dlA p a, dmA m g] (fun v L => (∃ n, v = .int .i64 n) ∧ L = [dlA p a, dmA m g]) := by
  refine Tri.intro tt_ok Tryz.func117 rfl rfl Tryz.ntmps117 rfl fun F => ?_
  (refine G tt_ok pk117 ?_; repeat (refine G1 tt_ok pk117 ?_; intro _))
  (refine ka rfl rfl (waiting154 β p m g ha) ?_; rintro _ _ ⟨o, q, c, ho, rfl, rfl⟩; refine w_ ?_)
  (refine G tt_ok pk117 ?_; repeat (refine G1 tt_ok pk117 ?_; intro _))
  refine CW.loop (α := Nat × Int) (fun x => x.1 ≤ o.length) (fun x => [(16, .int .i64 x.1), (15, .int .i64 o.length), (14, .slice q o.length c), (9, .int .i64 x.2), (0, .pointer (some ⟨m, 0, none⟩)), (1, .pointer (some ⟨p, 0, none⟩)), (2, .pointer (some ⟨p, 0, none⟩)), (3, .bool false)])
    (fun x => [rowA q o.length (o.flatMap iC), dlA p a, dmA m g]) (fun x => o.length - x.1) (0, 0) (by simp) ⟨rfl, rfl, rfl, rfl, rfl, rfl, rfl, rfl, trivial⟩ pk_ ?_
  rintro ⟨i, n⟩ hi
  simp only at hi ⊢
  (refine G tt_ok pk117 ?_; repeat (refine G1 tt_ok pk117 ?_; intro _))
  by_cases hlt : i < o.length
  · rw [decide_eq_true (show (i : Int) < (o.length : Nat) by omega)]
    have e : IntKind.i64.wrap ((i : Int) + 1) = ((i + 1 : Nat) : Int) := by rw [wrap_id (by omega) (by omega)]; omega
    obtain ⟨x, hx⟩ : ∃ x, o[i]? = some x := ⟨_, List.getElem?_eq_getElem hlt⟩
    (refine G tt_ok pk117 ?_; repeat (refine G1 tt_ok pk117 ?_; intro _))
    (refine SQ.idxG tt_ok rfl rfl ((slr_i q o)) (by repeat (first | exact .h | apply AtA.t)) (i) (rfl) (hlt) rfl ?_)
    (refine G tt_ok pk117 ?_; repeat (refine G1 tt_ok pk117 ?_; intro _))
    (refine SQ.ldG tt_ok rfl rfl ((slr_i q o)) (by repeat (first | exact .h | apply AtA.t)) (by omega) (fun cur hcs => i_cur hcs hx) ?_)
    (refine G tt_ok pk117 ?_; repeat (refine G1 tt_ok pk117 ?_; intro _))
    (refine ka rfl rfl (move152f β m 0 _ _ x) ?_; rintro _ _ ⟨⟨b, rfl⟩, rfl⟩; refine w_ ?_)
    (refine G tt_ok pk117 ?_; repeat (refine G1 tt_ok pk117 ?_; intro _))
    cases b with
    | false =>
      (refine G tt_ok pk117 ?_; repeat (refine G1 tt_ok pk117 ?_; intro _))
      exact ⟨(i + 1, n), by simp; omega, by simp; omega, ⟨by rw [← e]; rfl, rfl, rfl, rfl, rfl, rfl, rfl, rfl, trivial⟩, pk_⟩
    | true =>
      (refine G tt_ok pk117 ?_; repeat (refine G1 tt_ok pk117 ?_; intro _))
      exact ⟨(i + 1, _), by simp; omega, by simp; omega, ⟨by rw [← e]; rfl, rfl, rfl, rfl, rfl, rfl, rfl, rfl, trivial⟩, pk_⟩
  · rw [decide_eq_false (show ¬ (i : Int) < (o.length : Nat) by omega)]
    (refine G tt_ok pk117 ?_; repeat (refine G1 tt_ok pk117 ?_; intro _))
    refine CW.exit ?_
    (refine G tt_ok pk117 ?_; repeat (refine G1 tt_ok pk117 ?_; intro _))
    exact CW.ret (fin_ret rfl pk_ ⟨⟨_, rfl⟩, rfl⟩)
set_option maxHeartbeats 8000000 in
theorem moveAll117 (β : Base) (m g p p' : Nat) {a b : Nat} (ha : a < 3) (hb : b < 3) : Tri Tryz.prog β 117 [.pointer (some ⟨m, 0, none⟩), .pointer (some ⟨p, 0, none⟩), .pointer (some ⟨p', 0, none⟩), .bool true] [dlA p a, dlA p' b, dmA m g] (fun v L => (∃ n, v = .int .i64 n) ∧ L = [dlA p a, dlA p' b, dmA m g]) := by
  refine Tri.intro tt_ok Tryz.func117 rfl rfl Tryz.ntmps117 rfl fun F => ?_
  (refine G tt_ok pk117 ?_; repeat (refine G1 tt_ok pk117 ?_; intro _))
  (refine ka rfl rfl (waiting154 β p m g ha) ?_; rintro _ _ ⟨o, q, c, ho, rfl, rfl⟩; refine w_ ?_)
  (refine G tt_ok pk117 ?_; repeat (refine G1 tt_ok pk117 ?_; intro _))
  refine CW.loop (α := Nat × Int) (fun x => x.1 ≤ o.length) (fun x => [(16, .int .i64 x.1), (15, .int .i64 o.length), (14, .slice q o.length c), (9, .int .i64 x.2), (0, .pointer (some ⟨m, 0, none⟩)), (1, .pointer (some ⟨p, 0, none⟩)), (2, .pointer (some ⟨p', 0, none⟩)), (3, .bool true)])
    (fun x => [rowA q o.length (o.flatMap iC), dlA p a, dlA p' b, dmA m g]) (fun x => o.length - x.1) (0, 0) (by simp) ⟨rfl, rfl, rfl, rfl, rfl, rfl, rfl, rfl, trivial⟩ pk_ ?_
  rintro ⟨i, n⟩ hi
  simp only at hi ⊢
  (refine G tt_ok pk117 ?_; repeat (refine G1 tt_ok pk117 ?_; intro _))
  by_cases hlt : i < o.length
  · rw [decide_eq_true (show (i : Int) < (o.length : Nat) by omega)]
    have e : IntKind.i64.wrap ((i : Int) + 1) = ((i + 1 : Nat) : Int) := by rw [wrap_id (by omega) (by omega)]; omega
    obtain ⟨x, hx⟩ : ∃ x, o[i]? = some x := ⟨_, List.getElem?_eq_getElem hlt⟩
    (refine G tt_ok pk117 ?_; repeat (refine G1 tt_ok pk117 ?_; intro _))
    (refine SQ.idxG tt_ok rfl rfl ((slr_i q o)) (by repeat (first | exact .h | apply AtA.t)) (i) (rfl) (hlt) rfl ?_)
    (refine G tt_ok pk117 ?_; repeat (refine G1 tt_ok pk117 ?_; intro _))
    (refine SQ.ldG tt_ok rfl rfl ((slr_i q o)) (by repeat (first | exact .h | apply AtA.t)) (by omega) (fun cur hcs => i_cur hcs hx) ?_)
    (refine G tt_ok pk117 ?_; repeat (refine G1 tt_ok pk117 ?_; intro _))
    (refine ka rfl rfl (move152 β m g p p' ha hb x) ?_; rintro _ _ ⟨⟨b, rfl⟩, rfl⟩; refine w_ ?_)
    (refine G tt_ok pk117 ?_; repeat (refine G1 tt_ok pk117 ?_; intro _))
    cases b with
    | false =>
      (refine G tt_ok pk117 ?_; repeat (refine G1 tt_ok pk117 ?_; intro _))
      exact ⟨(i + 1, n), by simp; omega, by simp; omega, ⟨by rw [← e]; rfl, rfl, rfl, rfl, rfl, rfl, rfl, rfl, trivial⟩, pk_⟩
    | true =>
      (refine G tt_ok pk117 ?_; repeat (refine G1 tt_ok pk117 ?_; intro _))
      exact ⟨(i + 1, _), by simp; omega, by simp; omega, ⟨by rw [← e]; rfl, rfl, rfl, rfl, rfl, rfl, rfl, rfl, trivial⟩, pk_⟩
  · rw [decide_eq_false (show ¬ (i : Int) < (o.length : Nat) by omega)]
    (refine G tt_ok pk117 ?_; repeat (refine G1 tt_ok pk117 ?_; intro _))
    refine CW.exit ?_
    (refine G tt_ok pk117 ?_; repeat (refine G1 tt_ok pk117 ?_; intro _))
    exact CW.ret (fin_ret rfl pk_ ⟨⟨_, rfl⟩, rfl⟩)
set_option maxHeartbeats 8000000 in
theorem new58 (β : Base) (m g : Nat) {k : Nat} (hk : k < 3) : Tri Tryz.prog β 58 [.pointer (some ⟨m, 0, none⟩), .int .i64 ((20 + 16 * k : Nat) : Int), .agg #[.int .i64 480, .int .i64 64], .agg #[.int .i64 ((560 + 16 * k : Nat) : Int), .int .i64 8]] [dmA m g]
      (fun v L => ∃ p, v = .tuple #[.pointer (some ⟨p, 0, none⟩), .int .i64 0] ∧ L = [dlA p k, dmA m g]) := by
  refine Tri.intro tt_ok Tryz.func58 rfl rfl Tryz.ntmps58 rfl fun F => ?_
  (refine G tt_ok pk58 ?_; repeat (refine G1 tt_ok pk58 ?_; intro _))
  rename_i c6 c7
  rw [decide_eq_false (show ¬ ((20 + 16 * k : Nat) : Int) < 1 by omega)]
  (refine G tt_ok pk58 ?_; repeat (refine G1 tt_ok pk58 ?_; intro _))
  rw [decide_eq_false (show ¬ ((20 + 16 * k : Nat) : Int) > 512 by omega)]
  (refine G tt_ok pk58 ?_; repeat (refine G1 tt_ok pk58 ?_; intro _))
  refine ke rfl rfl (holds100 β m g 480 64) ?_
  rw [show holdsV 4096 480 64 = true from rfl]
  (refine G tt_ok pk58 ?_; repeat (refine G1 tt_ok pk58 ?_; intro _))
  refine ke rfl rfl (holds100 β m g ((560 + 16 * k : Nat) : Int) 8) ?_
  rw [show holdsV 4096 ((560 + 16 * k : Nat) : Int) 8 = true by unfold holdsV; simp; omega]
  (refine G tt_ok pk58 ?_; repeat (refine G1 tt_ok pk58 ?_; intro _))
  rw [decide_eq_false (show ¬ (64 : Int) < ((20 + 16 * k : Nat) : Int) by omega)]
  (refine G tt_ok pk58 ?_; repeat (refine G1 tt_ok pk58 ?_; intro _))
  rw [show IntKind.i64.wrap (8 * 8) = 64 from rfl, decide_eq_false (show ¬ (64 : Int) < ((20 + 16 * k : Nat) : Int) by omega)]
  (refine G tt_ok pk58 ?_; repeat (refine G1 tt_ok pk58 ?_; intro _))
  refine SQ.make tt_ok rfl rfl (20 + 16 * k) rfl rfl (by show (20 + 16 * k) * 1 ≤ _; omega) (by show 1 * (20 + 16 * k) ≤ _; omega) (by omega) (fun eb => ⟨(by repeat (first | exact trivial | refine ⟨trivial, ?_⟩ | refine ⟨wk (by repeat (first | exact .h | exact .q | apply At.t)) (by rfl), ?_⟩)), ?_⟩)
  refine SQ.ent _ row_nil ?_
  (refine G tt_ok pk58 ?_; repeat (refine G1 tt_ok pk58 ?_; intro _))
  rename_i p
  exact CW.ret (fin_ret rfl (A := [dlA p k, dmA m g]) (Ent.trans (M := [pt p (dlC k false eb none ([] : List Int).length 0), pt eb (bys (List.replicate (20 + 16 * k) 0)), rowA none ([] : List Int).length (([] : List Int).flatMap iC)] ++ [dmA m g]) (by rw [← made_bys]; exact pk_) (Ent.append (dl_close ⟨List.nodup_nil, by simp⟩ (by simp)) (Ent.refl _))) ⟨p, rfl, rfl⟩)
end Go.Proofs.YthhfoppaaehepaaGreatDoor.Sl
namespace Go.Proofs.YthhfoppaaehepaaGreatDoor.Sl
open Go Go.RowKit Go.Proofs
set_option linter.unusedVariables false
set_option linter.unusedSimpArgs false
attribute [local irreducible] CW Tri OW
set_option maxRecDepth 10000
@[reducible] def pk147 : List (Nat × Plan) := [(1, [(0, 0, []), (1, 0, []), (2, 0, []), (3, 0, []), (4, 0, []), (5, 0, []), (6, 0, []), (7, 1, [3, 5]), (8, 0, []), (9, 0, []), (10, 0, []), (11, 2, []), (12, 1, []), (13, 0, [])])]
@[reducible] def pk151 : List (Nat × Plan) := [(6, [(0, 0, []), (1, 0, []), (2, 0, []), (3, 1, [1]), (4, 1, []), (5, 0, [])]), (8, [(0, 0, []), (1, 0, []), (2, 1, [1]), (3, 1, []), (4, 0, [])]), (9, [(0, 0, []), (1, 0, []), (2, 1, [1]), (3, 1, []), (4, 0, [])])]
@[reducible] def pk153 : List (Nat × Plan) := [(1, [(0, 0, []), (1, 0, []), (2, 0, []), (3, 0, []), (4, 0, []), (5, 0, []), (6, 0, []), (7, 1, [1, 5]), (8, 0, []), (9, 0, []), (10, 0, []), (11, 0, []), (12, 0, []), (13, 0, []), (14, 0, [])])]
@[reducible] def pk116 : List (Nat × Plan) := []
@[reducible] def pk144 : List (Nat × Plan) := [(3, [(0, 0, []), (1, 0, []), (2, 0, []), (3, 0, []), (4, 0, []), (5, 0, []), (6, 0, []), (7, 0, []), (8, 0, []), (9, 1, [1, 4, 6, 8])])]
theorem pt_curD {cs : List Value} {off n : Nat} {ids : List Nat} (h : (cs.drop off).take (n * 1) = ids.flatMap ptC) {k : Nat} {x : Nat} (hk : ids[k]? = some x) : rdv ti124 cs (off + k * 1) = some (.pointer (some ⟨x, 0, none⟩)) := by
  have h1 := ptC_at hk
  rw [← h] at h1
  have h2 := cells_at (cs := cs) (off := off) (m := n * 1) (j := k) rfl h1
  have h3 : aggD ti124.desc = false := rfl
  have hlt := (List.getElem?_eq_some_iff.1 h2).1
  simp only [rdv, h3, takeN_eq, dropN_eq, Nat.mul_one]
  rw [List.drop_eq_getElem_cons hlt]
  have := (List.getElem?_eq_some_iff.1 h2).2
  simp [this]
theorem slr_p {β : Base} (q : Option Addr) (p0 p1 p2 : Nat) : SlR β (rowA q 3 (([p0, p1, p2] : List Nat).flatMap ptC)) q 3 1 (([p0, p1, p2] : List Nat).flatMap ptC) := slr_row rfl
set_option maxHeartbeats 4000000 in
theorem device147 (β : Base) (r m g : Nat) (q : Option Addr) (n : Nat) {p : Int} (hp : p = 0 ∨ p = 32) (id : Int) : Tri Tryz.prog β 147 [.pointer (some ⟨r, 0, none⟩), .agg #[.pointer (some ⟨m, 0, none⟩), .slice q 3 n], .int .i64 id] [diA r p, dmA m g]
    (fun v L => (∃ (d : Dv) (e : Int), v = .tuple #[.agg #[.bool d.1, .int .i64 d.2.1, .int .i64 d.2.2], .int .i64 e]) ∧ L = [diA r p, dmA m g]) := by
  refine Tri.intro tt_ok Tryz.func147 rfl rfl Tryz.ntmps147 rfl fun F => ?_
  (refine G tt_ok pk147 ?_; repeat (refine G1 tt_ok pk147 ?_; intro _))
  refine SQ.ent _ (Rm.to (A := diA r p) (by repeat (first | exact Rm.h | apply Rm.t)) (Ent.refl [diA r p])) ?_; refine SQ.open_ fun x => SQ.pure_ fun hx => ?_; obtain ⟨on, st, i, j⟩ := x; obtain ⟨hi, hj⟩ := hx; simp only at hi hj ⊢
  (refine G tt_ok pk147 ?_; repeat (refine G1 tt_ok pk147 ?_; intro _))
  (refine ka rfl rfl (get140 β m g 0 64 hp id) ?_; rintro _ _ ⟨⟨⟨d0, d1, d2⟩, e, rfl⟩, rfl⟩; refine w_ ?_)
  (refine G tt_ok pk147 ?_; repeat (refine G1 tt_ok pk147 ?_; intro _))
  cases (e != 0) with
  | true =>
    (refine G tt_ok pk147 ?_; repeat (refine G1 tt_ok pk147 ?_; intro _))
    exact CW.ret (fin_cells [_, _] ⟨(by first | exact ⟨_, _, _, _, 0, rfl, rfl, rfl, rfl⟩ | exact ⟨_, _, _, _, 1, rfl, rfl, rfl, rfl⟩ | exact ⟨_, _, _, _, 2, rfl, rfl, rfl, rfl⟩ | exact ⟨_, _, _, _, 3, rfl, rfl, rfl, rfl⟩ | exact ⟨_, _, _, _, 4, rfl, rfl, rfl, rfl⟩ | exact ⟨_, _, _, _, 5, rfl, rfl, rfl, rfl⟩ | exact ⟨_, _, _, _, 6, rfl, rfl, rfl, rfl⟩ | exact ⟨_, _, _, _, 7, rfl, rfl, rfl, rfl⟩ | exact ⟨_, _, _, _, 8, rfl, rfl, rfl, rfl⟩ | exact ⟨_, _, _, _, 9, rfl, rfl, rfl, rfl⟩ | exact ⟨_, _, _, _, 10, rfl, rfl, rfl, rfl⟩ | exact ⟨_, _, _, _, 11, rfl, rfl, rfl, rfl⟩ | exact ⟨_, _, _, _, 12, rfl, rfl, rfl, rfl⟩ | exact ⟨_, _, _, _, 13, rfl, rfl, rfl, rfl⟩ | exact ⟨_, _, _, _, 14, rfl, rfl, rfl, rfl⟩ | exact ⟨_, _, _, _, 15, rfl, rfl, rfl, rfl⟩ | exact ⟨_, _, _, _, 16, rfl, rfl, rfl, rfl⟩ | exact ⟨_, _, _, _, 17, rfl, rfl, rfl, rfl⟩ | exact ⟨_, _, _, _, 18, rfl, rfl, rfl, rfl⟩ | exact ⟨_, _, _, _, 19, rfl, rfl, rfl, rfl⟩ | exact ⟨_, _, _, _, 20, rfl, rfl, rfl, rfl⟩ | exact ⟨_, _, _, _, 21, rfl, rfl, rfl, rfl⟩ | exact ⟨_, _, _, _, 22, rfl, rfl, rfl, rfl⟩ | exact ⟨_, _, _, _, 23, rfl, rfl, rfl, rfl⟩), rfl, trivial⟩ (A := [diA r p, dmA m g]) (Ent.trans (M := [pt r (itC _ _ i j p)] ++ [dmA m g]) pk_ (Ent.append (di_close _ _ hi hj) (Ent.refl _))) ⟨⟨(d0, d1, d2), _, rfl⟩, rfl⟩)
  | false =>
    (refine G tt_ok pk147 ?_; repeat (refine G1 tt_ok pk147 ?_; intro _))
    cases d0 with
    | true =>
      (refine G tt_ok pk147 ?_; repeat (refine G1 tt_ok pk147 ?_; intro _))
      exact CW.ret (fin_cells [_, _] ⟨(by first | exact ⟨_, _, _, _, 0, rfl, rfl, rfl, rfl⟩ | exact ⟨_, _, _, _, 1, rfl, rfl, rfl, rfl⟩ | exact ⟨_, _, _, _, 2, rfl, rfl, rfl, rfl⟩ | exact ⟨_, _, _, _, 3, rfl, rfl, rfl, rfl⟩ | exact ⟨_, _, _, _, 4, rfl, rfl, rfl, rfl⟩ | exact ⟨_, _, _, _, 5, rfl, rfl, rfl, rfl⟩ | exact ⟨_, _, _, _, 6, rfl, rfl, rfl, rfl⟩ | exact ⟨_, _, _, _, 7, rfl, rfl, rfl, rfl⟩ | exact ⟨_, _, _, _, 8, rfl, rfl, rfl, rfl⟩ | exact ⟨_, _, _, _, 9, rfl, rfl, rfl, rfl⟩ | exact ⟨_, _, _, _, 10, rfl, rfl, rfl, rfl⟩ | exact ⟨_, _, _, _, 11, rfl, rfl, rfl, rfl⟩ | exact ⟨_, _, _, _, 12, rfl, rfl, rfl, rfl⟩ | exact ⟨_, _, _, _, 13, rfl, rfl, rfl, rfl⟩ | exact ⟨_, _, _, _, 14, rfl, rfl, rfl, rfl⟩ | exact ⟨_, _, _, _, 15, rfl, rfl, rfl, rfl⟩ | exact ⟨_, _, _, _, 16, rfl, rfl, rfl, rfl⟩ | exact ⟨_, _, _, _, 17, rfl, rfl, rfl, rfl⟩ | exact ⟨_, _, _, _, 18, rfl, rfl, rfl, rfl⟩ | exact ⟨_, _, _, _, 19, rfl, rfl, rfl, rfl⟩ | exact ⟨_, _, _, _, 20, rfl, rfl, rfl, rfl⟩ | exact ⟨_, _, _, _, 21, rfl, rfl, rfl, rfl⟩ | exact ⟨_, _, _, _, 22, rfl, rfl, rfl, rfl⟩ | exact ⟨_, _, _, _, 23, rfl, rfl, rfl, rfl⟩), rfl, trivial⟩ (A := [diA r p, dmA m g]) (Ent.trans (M := [pt r (itC _ _ i j p)] ++ [dmA m g]) pk_ (Ent.append (di_close _ _ hi hj) (Ent.refl _))) ⟨⟨(true, d1, d2), _, rfl⟩, rfl⟩)
    | false =>
      (refine G tt_ok pk147 ?_; repeat (refine G1 tt_ok pk147 ?_; intro _))
      exact CW.ret (fin_cells [_, _] ⟨(by first | exact ⟨_, _, _, _, 0, rfl, rfl, rfl, rfl⟩ | exact ⟨_, _, _, _, 1, rfl, rfl, rfl, rfl⟩ | exact ⟨_, _, _, _, 2, rfl, rfl, rfl, rfl⟩ | exact ⟨_, _, _, _, 3, rfl, rfl, rfl, rfl⟩ | exact ⟨_, _, _, _, 4, rfl, rfl, rfl, rfl⟩ | exact ⟨_, _, _, _, 5, rfl, rfl, rfl, rfl⟩ | exact ⟨_, _, _, _, 6, rfl, rfl, rfl, rfl⟩ | exact ⟨_, _, _, _, 7, rfl, rfl, rfl, rfl⟩ | exact ⟨_, _, _, _, 8, rfl, rfl, rfl, rfl⟩ | exact ⟨_, _, _, _, 9, rfl, rfl, rfl, rfl⟩ | exact ⟨_, _, _, _, 10, rfl, rfl, rfl, rfl⟩ | exact ⟨_, _, _, _, 11, rfl, rfl, rfl, rfl⟩ | exact ⟨_, _, _, _, 12, rfl, rfl, rfl, rfl⟩ | exact ⟨_, _, _, _, 13, rfl, rfl, rfl, rfl⟩ | exact ⟨_, _, _, _, 14, rfl, rfl, rfl, rfl⟩ | exact ⟨_, _, _, _, 15, rfl, rfl, rfl, rfl⟩ | exact ⟨_, _, _, _, 16, rfl, rfl, rfl, rfl⟩ | exact ⟨_, _, _, _, 17, rfl, rfl, rfl, rfl⟩ | exact ⟨_, _, _, _, 18, rfl, rfl, rfl, rfl⟩ | exact ⟨_, _, _, _, 19, rfl, rfl, rfl, rfl⟩ | exact ⟨_, _, _, _, 20, rfl, rfl, rfl, rfl⟩ | exact ⟨_, _, _, _, 21, rfl, rfl, rfl, rfl⟩ | exact ⟨_, _, _, _, 22, rfl, rfl, rfl, rfl⟩ | exact ⟨_, _, _, _, 23, rfl, rfl, rfl, rfl⟩), rfl, trivial⟩ (A := [diA r p, dmA m g]) (Ent.trans (M := [pt r (itC _ _ i j p)] ++ [dmA m g]) pk_ (Ent.append (di_close _ _ hi hj) (Ent.refl _))) ⟨⟨(false, d1, d2), _, rfl⟩, rfl⟩)
set_option maxHeartbeats 4000000 in
theorem event151 (β : Base) (r m g : Nat) (q : Option Addr) (n : Nat) {p : Int} (hp : p = 0 ∨ p = 32) (id ev : Int) : Tri Tryz.prog β 151 [.pointer (some ⟨r, 0, none⟩), .agg #[.pointer (some ⟨m, 0, none⟩), .slice q 3 n], .int .i64 id, .int .i64 ev] [diA r p, dmA m g]
    (fun v L => (∃ (d : Dv) (rt : Rt) (e : Int), v = .tuple #[.agg #[.bool d.1, .int .i64 d.2.1, .int .i64 d.2.2], .agg #[.int .i64 rt.1, .int .i64 rt.2.1, .bool rt.2.2], .int .i64 e]) ∧ L = [diA r p, dmA m g]) := by
  refine Tri.intro tt_ok Tryz.func151 rfl rfl Tryz.ntmps151 rfl fun F => ?_
  (refine G tt_ok pk151 ?_; repeat (refine G1 tt_ok pk151 ?_; intro _))
  (refine ka rfl rfl (device147 β r m g q n hp id) ?_; rintro _ _ ⟨⟨⟨d0, d1, d2⟩, e, rfl⟩, rfl⟩; refine w_ ?_)
  (refine G tt_ok pk151 ?_; repeat (refine G1 tt_ok pk151 ?_; intro _))
  cases (e != 0) with
  | true =>
    (refine G tt_ok pk151 ?_; repeat (refine G1 tt_ok pk151 ?_; intro _))
    exact CW.ret (fin_cells [_, _, _] ⟨(by first | exact ⟨_, _, _, _, 0, rfl, rfl, rfl, rfl⟩ | exact ⟨_, _, _, _, 1, rfl, rfl, rfl, rfl⟩ | exact ⟨_, _, _, _, 2, rfl, rfl, rfl, rfl⟩ | exact ⟨_, _, _, _, 3, rfl, rfl, rfl, rfl⟩ | exact ⟨_, _, _, _, 4, rfl, rfl, rfl, rfl⟩ | exact ⟨_, _, _, _, 5, rfl, rfl, rfl, rfl⟩ | exact ⟨_, _, _, _, 6, rfl, rfl, rfl, rfl⟩ | exact ⟨_, _, _, _, 7, rfl, rfl, rfl, rfl⟩ | exact ⟨_, _, _, _, 8, rfl, rfl, rfl, rfl⟩ | exact ⟨_, _, _, _, 9, rfl, rfl, rfl, rfl⟩ | exact ⟨_, _, _, _, 10, rfl, rfl, rfl, rfl⟩ | exact ⟨_, _, _, _, 11, rfl, rfl, rfl, rfl⟩ | exact ⟨_, _, _, _, 12, rfl, rfl, rfl, rfl⟩ | exact ⟨_, _, _, _, 13, rfl, rfl, rfl, rfl⟩ | exact ⟨_, _, _, _, 14, rfl, rfl, rfl, rfl⟩ | exact ⟨_, _, _, _, 15, rfl, rfl, rfl, rfl⟩ | exact ⟨_, _, _, _, 16, rfl, rfl, rfl, rfl⟩ | exact ⟨_, _, _, _, 17, rfl, rfl, rfl, rfl⟩ | exact ⟨_, _, _, _, 18, rfl, rfl, rfl, rfl⟩ | exact ⟨_, _, _, _, 19, rfl, rfl, rfl, rfl⟩ | exact ⟨_, _, _, _, 20, rfl, rfl, rfl, rfl⟩ | exact ⟨_, _, _, _, 21, rfl, rfl, rfl, rfl⟩ | exact ⟨_, _, _, _, 22, rfl, rfl, rfl, rfl⟩ | exact ⟨_, _, _, _, 23, rfl, rfl, rfl, rfl⟩), (by first | exact ⟨_, _, _, _, 0, rfl, rfl, rfl, rfl⟩ | exact ⟨_, _, _, _, 1, rfl, rfl, rfl, rfl⟩ | exact ⟨_, _, _, _, 2, rfl, rfl, rfl, rfl⟩ | exact ⟨_, _, _, _, 3, rfl, rfl, rfl, rfl⟩ | exact ⟨_, _, _, _, 4, rfl, rfl, rfl, rfl⟩ | exact ⟨_, _, _, _, 5, rfl, rfl, rfl, rfl⟩ | exact ⟨_, _, _, _, 6, rfl, rfl, rfl, rfl⟩ | exact ⟨_, _, _, _, 7, rfl, rfl, rfl, rfl⟩ | exact ⟨_, _, _, _, 8, rfl, rfl, rfl, rfl⟩ | exact ⟨_, _, _, _, 9, rfl, rfl, rfl, rfl⟩ | exact ⟨_, _, _, _, 10, rfl, rfl, rfl, rfl⟩ | exact ⟨_, _, _, _, 11, rfl, rfl, rfl, rfl⟩ | exact ⟨_, _, _, _, 12, rfl, rfl, rfl, rfl⟩ | exact ⟨_, _, _, _, 13, rfl, rfl, rfl, rfl⟩ | exact ⟨_, _, _, _, 14, rfl, rfl, rfl, rfl⟩ | exact ⟨_, _, _, _, 15, rfl, rfl, rfl, rfl⟩ | exact ⟨_, _, _, _, 16, rfl, rfl, rfl, rfl⟩ | exact ⟨_, _, _, _, 17, rfl, rfl, rfl, rfl⟩ | exact ⟨_, _, _, _, 18, rfl, rfl, rfl, rfl⟩ | exact ⟨_, _, _, _, 19, rfl, rfl, rfl, rfl⟩ | exact ⟨_, _, _, _, 20, rfl, rfl, rfl, rfl⟩ | exact ⟨_, _, _, _, 21, rfl, rfl, rfl, rfl⟩ | exact ⟨_, _, _, _, 22, rfl, rfl, rfl, rfl⟩ | exact ⟨_, _, _, _, 23, rfl, rfl, rfl, rfl⟩), rfl, trivial⟩ pk_ ⟨⟨(d0, d1, d2), (0, 0, false), _, rfl⟩, rfl⟩)
  | false =>
    (refine G tt_ok pk151 ?_; repeat (refine G1 tt_ok pk151 ?_; intro _))
    (refine ka rfl rfl (route143 β m g (d0, d1, d2) ev) ?_; rintro _ _ ⟨⟨⟨r0, r1, r2⟩, e2, rfl⟩, rfl⟩; refine w_ ?_)
    (refine G tt_ok pk151 ?_; repeat (refine G1 tt_ok pk151 ?_; intro _))
    cases (e2 != 0) with
    | true =>
      (refine G tt_ok pk151 ?_; repeat (refine G1 tt_ok pk151 ?_; intro _))
      exact CW.ret (fin_cells [_, _, _] ⟨(by first | exact ⟨_, _, _, _, 0, rfl, rfl, rfl, rfl⟩ | exact ⟨_, _, _, _, 1, rfl, rfl, rfl, rfl⟩ | exact ⟨_, _, _, _, 2, rfl, rfl, rfl, rfl⟩ | exact ⟨_, _, _, _, 3, rfl, rfl, rfl, rfl⟩ | exact ⟨_, _, _, _, 4, rfl, rfl, rfl, rfl⟩ | exact ⟨_, _, _, _, 5, rfl, rfl, rfl, rfl⟩ | exact ⟨_, _, _, _, 6, rfl, rfl, rfl, rfl⟩ | exact ⟨_, _, _, _, 7, rfl, rfl, rfl, rfl⟩ | exact ⟨_, _, _, _, 8, rfl, rfl, rfl, rfl⟩ | exact ⟨_, _, _, _, 9, rfl, rfl, rfl, rfl⟩ | exact ⟨_, _, _, _, 10, rfl, rfl, rfl, rfl⟩ | exact ⟨_, _, _, _, 11, rfl, rfl, rfl, rfl⟩ | exact ⟨_, _, _, _, 12, rfl, rfl, rfl, rfl⟩ | exact ⟨_, _, _, _, 13, rfl, rfl, rfl, rfl⟩ | exact ⟨_, _, _, _, 14, rfl, rfl, rfl, rfl⟩ | exact ⟨_, _, _, _, 15, rfl, rfl, rfl, rfl⟩ | exact ⟨_, _, _, _, 16, rfl, rfl, rfl, rfl⟩ | exact ⟨_, _, _, _, 17, rfl, rfl, rfl, rfl⟩ | exact ⟨_, _, _, _, 18, rfl, rfl, rfl, rfl⟩ | exact ⟨_, _, _, _, 19, rfl, rfl, rfl, rfl⟩ | exact ⟨_, _, _, _, 20, rfl, rfl, rfl, rfl⟩ | exact ⟨_, _, _, _, 21, rfl, rfl, rfl, rfl⟩ | exact ⟨_, _, _, _, 22, rfl, rfl, rfl, rfl⟩ | exact ⟨_, _, _, _, 23, rfl, rfl, rfl, rfl⟩), (by first | exact ⟨_, _, _, _, 0, rfl, rfl, rfl, rfl⟩ | exact ⟨_, _, _, _, 1, rfl, rfl, rfl, rfl⟩ | exact ⟨_, _, _, _, 2, rfl, rfl, rfl, rfl⟩ | exact ⟨_, _, _, _, 3, rfl, rfl, rfl, rfl⟩ | exact ⟨_, _, _, _, 4, rfl, rfl, rfl, rfl⟩ | exact ⟨_, _, _, _, 5, rfl, rfl, rfl, rfl⟩ | exact ⟨_, _, _, _, 6, rfl, rfl, rfl, rfl⟩ | exact ⟨_, _, _, _, 7, rfl, rfl, rfl, rfl⟩ | exact ⟨_, _, _, _, 8, rfl, rfl, rfl, rfl⟩ | exact ⟨_, _, _, _, 9, rfl, rfl, rfl, rfl⟩ | exact ⟨_, _, _, _, 10, rfl, rfl, rfl, rfl⟩ | exact ⟨_, _, _, _, 11, rfl, rfl, rfl, rfl⟩ | exact ⟨_, _, _, _, 12, rfl, rfl, rfl, rfl⟩ | exact ⟨_, _, _, _, 13, rfl, rfl, rfl, rfl⟩ | exact ⟨_, _, _, _, 14, rfl, rfl, rfl, rfl⟩ | exact ⟨_, _, _, _, 15, rfl, rfl, rfl, rfl⟩ | exact ⟨_, _, _, _, 16, rfl, rfl, rfl, rfl⟩ | exact ⟨_, _, _, _, 17, rfl, rfl, rfl, rfl⟩ | exact ⟨_, _, _, _, 18, rfl, rfl, rfl, rfl⟩ | exact ⟨_, _, _, _, 19, rfl, rfl, rfl, rfl⟩ | exact ⟨_, _, _, _, 20, rfl, rfl, rfl, rfl⟩ | exact ⟨_, _, _, _, 21, rfl, rfl, rfl, rfl⟩ | exact ⟨_, _, _, _, 22, rfl, rfl, rfl, rfl⟩ | exact ⟨_, _, _, _, 23, rfl, rfl, rfl, rfl⟩), rfl, trivial⟩ pk_ ⟨⟨(d0, d1, d2), (r0, r1, r2), _, rfl⟩, rfl⟩)
    | false =>
      (refine G tt_ok pk151 ?_; repeat (refine G1 tt_ok pk151 ?_; intro _))
      cases r2 <;> (
        (refine G tt_ok pk151 ?_; repeat (refine G1 tt_ok pk151 ?_; intro _))
        exact CW.ret (fin_cells [_, _, _] ⟨(by first | exact ⟨_, _, _, _, 0, rfl, rfl, rfl, rfl⟩ | exact ⟨_, _, _, _, 1, rfl, rfl, rfl, rfl⟩ | exact ⟨_, _, _, _, 2, rfl, rfl, rfl, rfl⟩ | exact ⟨_, _, _, _, 3, rfl, rfl, rfl, rfl⟩ | exact ⟨_, _, _, _, 4, rfl, rfl, rfl, rfl⟩ | exact ⟨_, _, _, _, 5, rfl, rfl, rfl, rfl⟩ | exact ⟨_, _, _, _, 6, rfl, rfl, rfl, rfl⟩ | exact ⟨_, _, _, _, 7, rfl, rfl, rfl, rfl⟩ | exact ⟨_, _, _, _, 8, rfl, rfl, rfl, rfl⟩ | exact ⟨_, _, _, _, 9, rfl, rfl, rfl, rfl⟩ | exact ⟨_, _, _, _, 10, rfl, rfl, rfl, rfl⟩ | exact ⟨_, _, _, _, 11, rfl, rfl, rfl, rfl⟩ | exact ⟨_, _, _, _, 12, rfl, rfl, rfl, rfl⟩ | exact ⟨_, _, _, _, 13, rfl, rfl, rfl, rfl⟩ | exact ⟨_, _, _, _, 14, rfl, rfl, rfl, rfl⟩ | exact ⟨_, _, _, _, 15, rfl, rfl, rfl, rfl⟩ | exact ⟨_, _, _, _, 16, rfl, rfl, rfl, rfl⟩ | exact ⟨_, _, _, _, 17, rfl, rfl, rfl, rfl⟩ | exact ⟨_, _, _, _, 18, rfl, rfl, rfl, rfl⟩ | exact ⟨_, _, _, _, 19, rfl, rfl, rfl, rfl⟩ | exact ⟨_, _, _, _, 20, rfl, rfl, rfl, rfl⟩ | exact ⟨_, _, _, _, 21, rfl, rfl, rfl, rfl⟩ | exact ⟨_, _, _, _, 22, rfl, rfl, rfl, rfl⟩ | exact ⟨_, _, _, _, 23, rfl, rfl, rfl, rfl⟩), (by first | exact ⟨_, _, _, _, 0, rfl, rfl, rfl, rfl⟩ | exact ⟨_, _, _, _, 1, rfl, rfl, rfl, rfl⟩ | exact ⟨_, _, _, _, 2, rfl, rfl, rfl, rfl⟩ | exact ⟨_, _, _, _, 3, rfl, rfl, rfl, rfl⟩ | exact ⟨_, _, _, _, 4, rfl, rfl, rfl, rfl⟩ | exact ⟨_, _, _, _, 5, rfl, rfl, rfl, rfl⟩ | exact ⟨_, _, _, _, 6, rfl, rfl, rfl, rfl⟩ | exact ⟨_, _, _, _, 7, rfl, rfl, rfl, rfl⟩ | exact ⟨_, _, _, _, 8, rfl, rfl, rfl, rfl⟩ | exact ⟨_, _, _, _, 9, rfl, rfl, rfl, rfl⟩ | exact ⟨_, _, _, _, 10, rfl, rfl, rfl, rfl⟩ | exact ⟨_, _, _, _, 11, rfl, rfl, rfl, rfl⟩ | exact ⟨_, _, _, _, 12, rfl, rfl, rfl, rfl⟩ | exact ⟨_, _, _, _, 13, rfl, rfl, rfl, rfl⟩ | exact ⟨_, _, _, _, 14, rfl, rfl, rfl, rfl⟩ | exact ⟨_, _, _, _, 15, rfl, rfl, rfl, rfl⟩ | exact ⟨_, _, _, _, 16, rfl, rfl, rfl, rfl⟩ | exact ⟨_, _, _, _, 17, rfl, rfl, rfl, rfl⟩ | exact ⟨_, _, _, _, 18, rfl, rfl, rfl, rfl⟩ | exact ⟨_, _, _, _, 19, rfl, rfl, rfl, rfl⟩ | exact ⟨_, _, _, _, 20, rfl, rfl, rfl, rfl⟩ | exact ⟨_, _, _, _, 21, rfl, rfl, rfl, rfl⟩ | exact ⟨_, _, _, _, 22, rfl, rfl, rfl, rfl⟩ | exact ⟨_, _, _, _, 23, rfl, rfl, rfl, rfl⟩), rfl, trivial⟩ pk_ ⟨⟨(d0, d1, d2), (r0, r1, _), _, rfl⟩, rfl⟩))
set_option maxHeartbeats 4000000 in
theorem coll153 (β : Base) (r m g : Nat) (q : Option Addr) (n : Nat) (p : Int) (c : Int) : Tri Tryz.prog β 153 [.pointer (some ⟨r, 0, none⟩), .agg #[.pointer (some ⟨m, 0, none⟩), .slice q 3 n], .int .i64 c] [diA r p, dmA m g] (fun v L => (∃ (t : Nat) (e : Int), v = .tuple #[.int .i64 t, .int .i64 e]) ∧ L = [diA r p, dmA m g]) := by
  refine Tri.intro tt_ok Tryz.func153 rfl rfl Tryz.ntmps153 rfl fun F => ?_
  (refine G tt_ok pk153 ?_; repeat (refine G1 tt_ok pk153 ?_; intro _))
  refine SQ.ent _ (Rm.to (A := diA r p) (by repeat (first | exact Rm.h | apply Rm.t)) (Ent.refl [diA r p])) ?_; refine SQ.open_ fun x => SQ.pure_ fun hx => ?_; obtain ⟨on, st, i, j⟩ := x; obtain ⟨hi, hj⟩ := hx; simp only at hi hj ⊢
  (refine G tt_ok pk153 ?_; repeat (refine G1 tt_ok pk153 ?_; intro _))
  (refine ka rfl rfl (target148 β m g 64 64 c) ?_; rintro _ _ ⟨⟨t, b, e, rfl⟩, rfl⟩; refine w_ ?_)
  (refine G tt_ok pk153 ?_; repeat (refine G1 tt_ok pk153 ?_; intro _))
  cases (e != 0) with
  | true =>
    (refine G tt_ok pk153 ?_; repeat (refine G1 tt_ok pk153 ?_; intro _))
    exact CW.ret (fin_ret rfl (A := [diA r p, dmA m g]) (Ent.trans (M := [pt r (itC _ _ i j p)] ++ [dmA m g]) pk_ (Ent.append (di_close _ _ hi hj) (Ent.refl _))) ⟨⟨0, _, rfl⟩, rfl⟩)
  | false =>
    (refine G tt_ok pk153 ?_; repeat (refine G1 tt_ok pk153 ?_; intro _))
    cases b with
    | false =>
      (refine G tt_ok pk153 ?_; repeat (refine G1 tt_ok pk153 ?_; intro _))
      exact CW.ret (fin_ret rfl (A := [diA r p, dmA m g]) (Ent.trans (M := [pt r (itC _ _ i j p)] ++ [dmA m g]) pk_ (Ent.append (di_close _ _ hi hj) (Ent.refl _))) ⟨⟨0, _, rfl⟩, rfl⟩)
    | true =>
      (refine G tt_ok pk153 ?_; repeat (refine G1 tt_ok pk153 ?_; intro _))
      exact CW.ret (fin_ret rfl (A := [diA r p, dmA m g]) (Ent.trans (M := [pt r (itC _ _ i j p)] ++ [dmA m g]) pk_ (Ent.append (di_close _ _ hi hj) (Ent.refl _))) ⟨⟨t, _, rfl⟩, rfl⟩)
set_option maxHeartbeats 4000000 in
theorem side116 (β : Base) (r m g : Nat) (q : Option Addr) (n : Nat) (p : Int) (c : Int) : Tri Tryz.prog β 116 [.pointer (some ⟨r, 0, none⟩), .agg #[.pointer (some ⟨m, 0, none⟩), .slice q 3 n], .int .i64 c] [diA r p, dmA m g] (fun v L => (∃ (t : Nat) (e : Int), v = .tuple #[.int .i64 t, .int .i64 e] ∧ (e = 0 → t < 3)) ∧ L = [diA r p, dmA m g]) := by
  refine Tri.intro tt_ok Tryz.func116 rfl rfl Tryz.ntmps116 rfl fun F => ?_
  (refine G tt_ok pk116 ?_; repeat (refine G1 tt_ok pk116 ?_; intro _))
  (refine ka rfl rfl (coll153 β r m g q n p c) ?_; rintro _ _ ⟨⟨t, e, rfl⟩, rfl⟩; refine w_ ?_)
  (refine G tt_ok pk116 ?_; repeat (refine G1 tt_ok pk116 ?_; intro _))
  by_cases he : e = 0
  · subst he
    (refine G tt_ok pk116 ?_; repeat (refine G1 tt_ok pk116 ?_; intro _))
    by_cases h : t < 3
    · rw [decide_eq_false (show ¬ (t : Int) ≥ ((3 : Nat) : Int) by omega)]
      (refine G tt_ok pk116 ?_; repeat (refine G1 tt_ok pk116 ?_; intro _))
      exact CW.ret (fin_ret rfl pk_ ⟨⟨t, _, rfl, fun _ => h⟩, rfl⟩)
    · rw [decide_eq_true (show (t : Int) ≥ ((3 : Nat) : Int) by omega)]
      (refine G tt_ok pk116 ?_; repeat (refine G1 tt_ok pk116 ?_; intro _))
      exact CW.ret (fin_ret rfl pk_ ⟨⟨0, _, rfl, fun _ => by decide⟩, rfl⟩)
  · rw [show (e != 0) = true by simp [he]]
    (refine G tt_ok pk116 ?_; repeat (refine G1 tt_ok pk116 ?_; intro _))
    exact CW.ret (fin_ret rfl pk_ ⟨⟨0, _, rfl, fun _ => by decide⟩, rfl⟩)
theorem lt3 {t : Nat} (h : t < 3) : t = 0 ∨ t = 1 ∨ t = 2 := by omega
set_option maxHeartbeats 8000000 in
theorem forget144 (β : Base) (r m g : Nat) (q : Option Addr) (n p0 p1 p2 : Nat) {p : Int} (hp : p = 0 ∨ p = 32) (d : Dv) (ev : Int) (rt : Rt) : Tri Tryz.prog β 144 [.pointer (some ⟨r, 0, none⟩), .agg #[.pointer (some ⟨m, 0, none⟩), .slice q 3 n], .agg #[.bool d.1, .int .i64 d.2.1, .int .i64 d.2.2], .int .i64 ev, .agg #[.int .i64 rt.1, .int .i64 rt.2.1, .bool rt.2.2]] [diA r p, dmA m g, rowA q 3 (([p0, p1, p2] : List Nat).flatMap ptC), dlA p0 0, dlA p1 1, dlA p2 2]
    (fun v L => v = .tuple #[] ∧ L = [diA r p, dmA m g, rowA q 3 (([p0, p1, p2] : List Nat).flatMap ptC), dlA p0 0, dlA p1 1, dlA p2 2]) := by
  refine Tri.intro tt_ok Tryz.func144 rfl rfl Tryz.ntmps144 rfl fun F => ?_
  have hT := setRoute150 β m g d ev (0, 0, false)
  obtain ⟨d0, d1, d2⟩ := d
  obtain ⟨r0, r1, r2⟩ := rt
  (refine G tt_ok pk144 ?_; repeat (refine G1 tt_ok pk144 ?_; intro _))
  (refine ka rfl rfl (side116 β r m g q n p r1) ?_; rintro _ _ ⟨⟨t, e, rfl, ht⟩, rfl⟩; refine w_ ?_)
  (refine G tt_ok pk144 ?_; repeat (refine G1 tt_ok pk144 ?_; intro _))
  by_cases he : e = 0
  · subst he
    have ht := ht rfl
    (refine G tt_ok pk144 ?_; repeat (refine G1 tt_ok pk144 ?_; intro _))
    rcases lt3 ht with rfl | rfl | rfl
    all_goals (
      (refine SQ.idxG tt_ok rfl rfl ((slr_p q p0 p1 p2)) (by repeat (first | exact .h | apply AtA.t)) (_) (rfl) (ht) rfl ?_)
      (refine G tt_ok pk144 ?_; repeat (refine G1 tt_ok pk144 ?_; intro _))
      (refine SQ.ldG tt_ok rfl rfl ((slr_p q p0 p1 p2)) (by repeat (first | exact .h | apply AtA.t)) (by omega) (fun cur hcs => pt_curD hcs rfl) ?_)
      (refine G tt_ok pk144 ?_; repeat (refine G1 tt_ok pk144 ?_; intro _))
      (refine SQ.callA rfl rfl (set155 β _ m g ht r0 false) (by repeat (first | exact .n | exact Rm.h | exact Rm.of own_row | exact Rm.of row_close0 | apply Tk.c | apply Rm.t)) ?_; rintro _ _ ⟨⟨_, _, rfl⟩, rfl⟩; refine ⟨(by repeat (first | exact trivial | refine ⟨trivial, ?_⟩ | refine ⟨RdAt.slr (slr_p q p0 p1 p2) (by repeat (first | exact .h | apply AtA.t)) (by omega) (fun cur hcs => pt_curD hcs rfl), ?_⟩ | refine ⟨wk (by repeat (first | exact .h | exact .q | apply At.t)) (by rfl), ?_⟩)), ?_⟩)
      (refine G tt_ok pk144 ?_; repeat (refine G1 tt_ok pk144 ?_; intro _))
      (refine ka rfl rfl (hT) ?_; rintro _ _ ⟨⟨_, rfl⟩, rfl⟩; refine w_ ?_)
      (refine G tt_ok pk144 ?_; repeat (refine G1 tt_ok pk144 ?_; intro _))
      exact fin_normal (vs := []) rfl pk_ ⟨rfl, rfl⟩)
  · rw [show (e == 0) = false by simp [he]]
    (refine G tt_ok pk144 ?_; repeat (refine G1 tt_ok pk144 ?_; intro _))
    (refine ka rfl rfl (hT) ?_; rintro _ _ ⟨⟨_, rfl⟩, rfl⟩; refine w_ ?_)
    (refine G tt_ok pk144 ?_; repeat (refine G1 tt_ok pk144 ?_; intro _))
    exact fin_normal (vs := []) rfl pk_ ⟨rfl, rfl⟩
end Go.Proofs.YthhfoppaaehepaaGreatDoor.Sl
