/-
  Part 2 of the proof: contracts of the code's functions, and what is plain.
-/
import Derived.Test.YtebpodnbalfomaaGreatDoorM1
import Derived.Test.YtebpodnbalfomaaGreatDoorL5
namespace Go.Proofs.YtebpodnbalfomaaGreatDoor.Sl.Bn
open Go Go.RowKit Go.Proofs
set_option linter.unusedVariables false
set_option linter.unusedSimpArgs false
attribute [local irreducible] CW Tri OW
set_option maxRecDepth 10000
@[reducible] def pk133 : List (Nat × Plan) := [(3, [(0, 0, []), (1, 0, []), (2, 0, []), (3, 0, []), (4, 0, []), (5, 0, []), (6, 0, []), (7, 0, []), (8, 0, []), (9, 0, []), (10, 0, []), (11, 0, []), (12, 1, []), (13, 0, [])])]
@[reducible] def pk134 : List (Nat × Plan) := [(3, [(0, 0, []), (1, 0, []), (2, 0, []), (3, 0, []), (4, 0, []), (5, 0, []), (6, 0, []), (7, 0, []), (8, 0, []), (9, 0, []), (10, 0, []), (11, 0, [])])]
@[reducible] def pk193 : List (Nat × Plan) := [(6, [(0, 0, []), (1, 0, []), (2, 0, []), (3, 0, []), (4, 0, []), (5, 0, []), (6, 0, []), (7, 0, []), (8, 0, []), (9, 0, []), (10, 0, []), (11, 0, []), (12, 1, [])])]
@[reducible] def pk219 : List (Nat × Plan) := [(7, [(0, 0, []), (1, 0, []), (2, 0, []), (3, 0, []), (4, 0, []), (5, 0, []), (6, 0, []), (7, 1, [0, 1, 2, 4, 6]), (8, 1, [0, 1, 2, 4, 6]), (9, 1, [])])]
@[reducible] def pk118 : List (Nat × Plan) := [(5, [(0, 0, []), (1, 0, []), (2, 0, []), (3, 0, []), (4, 0, []), (5, 0, []), (6, 0, []), (7, 0, []), (8, 1, [2, 4, 5, 6, 7]), (9, 1, [2, 4, 5, 6, 7]), (10, 2, []), (11, 1, [])])]
@[reducible] def pk210 : List (Nat × Plan) := [(3, [(0, 0, []), (1, 0, []), (2, 0, []), (3, 0, []), (4, 0, []), (5, 0, []), (6, 0, []), (7, 0, []), (8, 1, []), (9, 0, [])])]
@[reducible] def pk223 : List (Nat × Plan) := [(7, [(0, 0, []), (1, 0, []), (2, 0, []), (3, 0, []), (4, 0, []), (5, 0, []), (6, 0, []), (7, 0, []), (8, 0, []), (9, 0, []), (10, 0, []), (11, 0, []), (12, 1, [1, 6, 9, 11]), (13, 1, [1, 6, 9, 11]), (14, 0, [])])]
@[reducible] def pl204_0 : Plan := [(0, 0, []), (1, 0, []), (2, 0, []), (3, 0, []), (4, 0, []), (5, 0, []), (6, 0, []), (7, 0, []), (8, 0, []), (9, 0, []), (10, 0, []), (11, 0, []), (12, 0, []), (13, 0, []), (14, 0, []), (15, 0, []), (16, 0, []), (17, 0, []), (18, 0, []), (19, 0, []), (20, 0, [])]
@[reducible] def pl193_0 : Plan := [(0, 0, []), (1, 0, []), (2, 0, []), (3, 0, []), (4, 0, []), (5, 0, []), (6, 0, []), (7, 0, []), (8, 0, []), (9, 0, []), (10, 0, []), (11, 0, []), (12, 1, [])]
-- part Fe
/-- An interrupt in a bank, and the text besides. -/
abbrev En := Ln × Unit
@[reducible] def enC (x : En) : List Value := [.bool x.1.1.1, .bool x.1.1.2.1, .bool x.1.1.2.2.1, .bool x.1.1.2.2.2, .bool x.1.2.1, .int .i64 x.1.2.2.1, .int .i64 x.1.2.2.2]
def atE (first : Int) (es : List En) (id : Int) : Option En := if id ≥ first then es[(id - first).toNat]? else none
/-- A bank, in two rows. -/
def bkA (b : Nat) (q0 : Option Addr) (c0 : Nat) (first : Int) (es : List En) : List Atom := [pt b [.int .i64 first, .slice q0 es.length c0], rowA q0 es.length (es.flatMap enC)]
theorem wrap_sub {id first : Int} (h0 : 0 ≤ first) (h1 : first ≤ 16384) (h2 : id ≥ first) (h3 : id < 9223372036854775808) : IntKind.i64.wrap (id - first) = id - first := by
  rw [wrap_i64]; split <;> omega
theorem has11 (β : Base) (b : Nat) (q0 : Option Addr) (c0 : Nat) (first id : Int) (n : Nat) (h0 : 0 ≤ first) (h1 : first ≤ 16384) (h3 : id < 9223372036854775808) :
    Tri Tryz.prog β 204 [.pointer (some ⟨b, 0, none⟩), .int .i64 id] [pt b [.int .i64 first, .slice q0 n c0]] (fun v L => v = .bool (decide (id ≥ first) && decide (id - first < n)) ∧ L = [pt b [.int .i64 first, .slice q0 n c0]]) := by
  refine Tri.intro tt_ok Tryz.func204 rfl rfl Tryz.ntmps204 rfl fun F => ?_
  by_cases h2 : id ≥ first
  · have hw := wrap_sub h0 h1 h2 h3
    (repeat' (first | refine CW.seq ?_ | refine CW.region tt_ok rfl ?_ | refine CW.regionD tt_ok (by kernel_rfl) pl204_0 (by decide +kernel) ?_ | refine CW.block ?_ | refine CW.skip ?_ | refine SQ.nil ?_ | refine SQ.pures1 tt_ok rfl ?_ | refine SQ.pure1 tt_ok rfl ?_ | refine SQ.new _ _ rfl rfl (fun _ => ?_) | refine SQ.ldA tt_ok rfl rfl (by repeat (first | exact .h | exact .q | apply At.t)) (by rfl) ?_ | refine SQ.stA tt_ok rfl rfl (by repeat (first | apply Up.h | apply Up.t)) (by rfl) (by rfl) (by repeat (first | exact trivial | refine ⟨trivial, ?_⟩ | refine ⟨wk (by repeat (first | exact .h | exact .q | apply At.t)) (by rfl), ?_⟩)) ?_ | refine CW.cond_tt rfl ?_ | refine CW.cond_ff rfl ?_ | ((first | refine CW.cond rfl (fun hc => ?_) (fun hc => ?_) | refine SQ.gsplit rfl (fun hc => ?_) (fun hc => ?_)) <;> try (exfalso; simp_all; done))))
    all_goals (refine CW.ret (fin_ret rfl (Ent.refl _) ⟨?_, rfl⟩); simp_all [packV])
  · (repeat' (first | refine CW.seq ?_ | refine CW.region tt_ok rfl ?_ | refine CW.regionD tt_ok (by kernel_rfl) pl204_0 (by decide +kernel) ?_ | refine CW.block ?_ | refine CW.skip ?_ | refine SQ.nil ?_ | refine SQ.pures1 tt_ok rfl ?_ | refine SQ.pure1 tt_ok rfl ?_ | refine SQ.new _ _ rfl rfl (fun _ => ?_) | refine SQ.ldA tt_ok rfl rfl (by repeat (first | exact .h | exact .q | apply At.t)) (by rfl) ?_ | refine SQ.stA tt_ok rfl rfl (by repeat (first | apply Up.h | apply Up.t)) (by rfl) (by rfl) (by repeat (first | exact trivial | refine ⟨trivial, ?_⟩ | refine ⟨wk (by repeat (first | exact .h | exact .q | apply At.t)) (by rfl), ?_⟩)) ?_ | refine CW.cond_tt rfl ?_ | refine CW.cond_ff rfl ?_ | ((first | refine CW.cond rfl (fun hc => ?_) (fun hc => ?_) | refine SQ.gsplit rfl (fun hc => ?_) (fun hc => ?_)) <;> try (exfalso; simp_all; done))))
    all_goals (refine CW.ret (fin_ret rfl (Ent.refl _) ⟨?_, rfl⟩); simp_all [packV])
    all_goals (first | omega | (exfalso; omega))
theorem atE_some {first : Int} {es : List En} {id : Int} {e : En} (h : atE first es id = some e) : id ≥ first ∧ (id - first).toNat < es.length ∧ es[(id - first).toNat]? = some e ∧ ((id - first).toNat : Int) = id - first ∧ (decide (id ≥ first) && decide (id - first < es.length)) = true := by
  unfold atE at h
  split at h
  · rename_i h1
    have h2 := (List.getElem?_eq_some_iff.1 h).1
    refine ⟨h1, h2, h, by omega, ?_⟩
    simp; omega
  · cases h
theorem atE_none {first : Int} {es : List En} {id : Int} (h : atE first es id = none) : (decide (id ≥ first) && decide (id - first < es.length)) = false := by
  unfold atE at h
  split at h
  · rename_i h1
    have h2 := List.getElem?_eq_none_iff.1 h
    simp; omega
  · rename_i h1
    simp; omega
theorem hasIs (β : Base) (b : Nat) (q0 : Option Addr) (c0 : Nat) {first id : Int} {es : List En} (h0 : 0 ≤ first) (h1 : first ≤ 16384) (h3 : id < 9223372036854775808) {c : Bool} (h : (decide (id ≥ first) && decide (id - first < es.length)) = c) :
    Tri Tryz.prog β 204 [.pointer (some ⟨b, 0, none⟩), .int .i64 id] [pt b [.int .i64 first, .slice q0 es.length c0]] (fun v L => v = .bool c ∧ L = [pt b [.int .i64 first, .slice q0 es.length c0]]) := by
  rw [← h]; exact has11 β b q0 c0 first id es.length h0 h1 h3
theorem rd_en {es : List En} {k : Nat} {e : En} (h : es[k]? = some e) (X : List Value) : rdv ti218 (es.flatMap enC ++ X) (0 + k * 7) = some (.agg (enC e).toArray) :=
  rd_partR (enc := enC) (sz := 7) (fun _ => rfl) h 0 (i := ti218) rfl (by decide) (by omega) (by decide) X
theorem bk_open {b : Nat} {q0 : Option Addr} {c0 : Nat} {first : Int} {es : List En} (h : 0 < es.length) : Ent (bkA b q0 c0 first es) [exA fun x : Nat × List Value => [pureA (q0 = some ⟨x.1, 0, none⟩), pt x.1 (es.flatMap enC ++ x.2), pt b [.int .i64 first, .slice q0 es.length c0]]] := by
  intro hp s
  obtain ⟨h1, h2, a, st, d, rfl⟩ := s
  obtain ⟨k, ⟨k1, k2, ⟨x, sx⟩, e0, d2, rfl⟩, le⟩ := row_open (q := q0) (cs := es.flatMap enC) h h2 st
  obtain rfl : k2 = Hp.emp := e0
  rw [Hp.add_emp] at le
  have hd : Hp.disj h1 k1 := Hp.disj_le (Hp.le_refl _) le d
  have hs : star ([pureA (q0 = some ⟨x.1, 0, none⟩), pt x.1 (es.flatMap enC ++ x.2)] ++ [pt b [.int .i64 first, .slice q0 es.length c0]]) (Hp.add k1 h1) :=
    star_append.2 ⟨k1, h1, sx, ⟨h1, Hp.emp, a, rfl, Hp.disj_emp _, (Hp.add_emp _).symm⟩, Hp.disj_comm hd, rfl⟩
  refine ⟨Hp.add k1 h1, ⟨_, Hp.emp, ⟨x, hs⟩, rfl, Hp.disj_emp _, (Hp.add_emp _).symm⟩, ?_⟩
  rw [Hp.add_comm (Hp.disj_comm hd)]
  exact Hp.add_le_add (Hp.le_refl _) le d
theorem bk_close {b g n : Nat} {first : Int} {cs rest : List Value} {v : Value} : Ent [pt g (cs ++ rest), pt b [.int .i64 first, v]] [pt b [.int .i64 first, v], rowA (some ⟨g, 0, none⟩) n cs] :=
  Ent.trans (Ent.sel (is := [1, 0]) rfl) (Ent.cons _ row_close)
def zeroE : En := (((false, false, false, false), false, 0, 0), ())
def getV (first : Int) (es : List En) (id : Int) : En × Int := match atE first es id with
  | some e => (e, 0)
  | none => (zeroE, 90)
theorem get14 (β : Base) (b : Nat) (q0 : Option Addr) (c0 : Nat) {first id : Int} {es : List En} (h0 : 0 ≤ first) (h1 : first ≤ 16384) (h3 : id < 9223372036854775808) :
    Tri Tryz.prog β 133 [.pointer (some ⟨b, 0, none⟩), .int .i64 id] (bkA b q0 c0 first es) (fun v L => v = .tuple #[.agg (enC (getV first es id).1).toArray, .int .i64 (getV first es id).2] ∧ L = bkA b q0 c0 first es) := by
  refine Tri.intro tt_ok Tryz.func133 rfl rfl Tryz.ntmps133 rfl fun F => ?_
  cases h : atE first es id with
  | none =>
    (refine G tt_ok pk133 ?_; repeat (refine G1 tt_ok pk133 ?_; intro _))
    refine ke rfl rfl (hasIs β b q0 c0 h0 h1 h3 (atE_none h)) ?_
    (refine G tt_ok pk133 ?_; repeat (refine G1 tt_ok pk133 ?_; intro _))
    refine CW.ret (fin_cells [_, _] ⟨⟨_, _, _, _, 1, rfl, rfl, rfl, rfl⟩, rfl, trivial⟩ pk_ ⟨?_, rfl⟩)
    simp [packV, getV, h, zeroE, enC]
  | some e =>
    obtain ⟨g1, g2, g3, g4, g5⟩ := atE_some h
    have hw := wrap_sub h0 h1 g1 h3
    refine CW.ent (bk_open (by omega)) (CW.open_ fun y => ?_)
    obtain ⟨g, rest⟩ := y
    refine CW.pure_ fun hv => ?_
    simp only at hv
    subst hv
    (refine G tt_ok pk133 ?_; repeat (refine G1 tt_ok pk133 ?_; intro _))
    refine ke rfl rfl (hasIs β b _ c0 h0 h1 h3 g5) ?_
    (refine G tt_ok pk133 ?_; repeat (refine G1 tt_ok pk133 ?_; intro _))
    refine SQ.idx tt_ok rfl rfl (id - first).toNat (by rw [hw, g4]) g2 (o' := 0 + (id - first).toNat * 7) rfl ?_
    refine SQ.load tt_ok rfl rfl 2 rfl (rd_en g3 rest) ?_
    (refine G tt_ok pk133 ?_; repeat (refine G1 tt_ok pk133 ?_; intro _))
    refine CW.ret (fin_cells [_, _] ⟨⟨_, _, _, _, 1, rfl, rfl, rfl, rfl⟩, rfl, trivial⟩ (Ent.trans pk_ (bk_close)) ⟨?_, rfl⟩)
    simp [packV, getV, h, zeroE, enC]
theorem rd_iq {es : List En} {k : Nat} {e : En} (h : es[k]? = some e) (X : List Value) : rdv ti77 (es.flatMap enC ++ X) (0 + k * 7) = some (.agg #[.bool e.1.1.1, .bool e.1.1.2.1, .bool e.1.1.2.2.1, .bool e.1.1.2.2.2]) :=
  rd_partR (enc := enC) (sz := 7) (fun _ => rfl) h 0 (i := ti77) rfl (by decide) (by omega) (by decide) X
theorem wr_iq {es : List En} {k : Nat} {e : En} (h : es[k]? = some e) (q : Iq) (X : List Value) : wrv ti77 (es.flatMap enC ++ X) (0 + k * 7) (.agg #[.bool q.1, .bool q.2.1, .bool q.2.2.1, .bool q.2.2.2]) = some ((es.set k ((q, e.1.2), e.2)).flatMap enC ++ X) :=
  wr_encR (enc := enC) (sz := 7) (fun _ => rfl) h 0 (i := ti77) (by decide) rfl rfl (by omega) X
/-- What befalls an interrupt of a bank. -/
def doV (first : Int) (es : List En) (id x : Int) : List En × Int := match atE first es id with
  | some e => (es.set (id - first).toNat ((stepI e.1.1 x, e.1.2), e.2), 0)
  | none => (es, 90)
theorem doV_len (first : Int) (es : List En) (id x : Int) : (doV first es id x).1.length = es.length := by
  unfold doV; split <;> simp
theorem do35 (β : Base) (b : Nat) (q0 : Option Addr) (c0 : Nat) {first id x : Int} {es : List En} (h0 : 0 ≤ first) (h1 : first ≤ 16384) (h3 : id < 9223372036854775808) :
    Tri Tryz.prog β 134 [.pointer (some ⟨b, 0, none⟩), .int .i64 id, .int .i64 x] (bkA b q0 c0 first es) (fun v L => v = .int .i64 (doV first es id x).2 ∧ L = bkA b q0 c0 first (doV first es id x).1) := by
  refine Tri.intro tt_ok Tryz.func134 rfl rfl Tryz.ntmps134 rfl fun F => ?_
  unfold bkA
  rw [doV_len]
  cases h : atE first es id with
  | none =>
    rw [show doV first es id x = (es, 90) by simp [doV, h]]
    refine G tt_ok pk134 ?_
    refine ke rfl rfl (hasIs β b q0 c0 h0 h1 h3 (atE_none h)) ?_
    refine G tt_ok pk134 ?_
    exact CW.ret (fin_ret rfl pk_ ⟨rfl, rfl⟩)
  | some e =>
    obtain ⟨g1, g2, g3, g4, g5⟩ := atE_some h
    have hw := wrap_sub h0 h1 g1 h3
    rw [show doV first es id x = (es.set (id - first).toNat ((stepI e.1.1 x, e.1.2), e.2), 0) by simp [doV, h]]
    refine CW.ent (bk_open (by omega)) (CW.open_ fun y => ?_)
    obtain ⟨g, rest⟩ := y
    refine CW.pure_ fun hv => ?_
    simp only at hv
    subst hv
    refine G tt_ok pk134 ?_
    refine ke rfl rfl (hasIs β b _ c0 h0 h1 h3 g5) ?_
    refine G tt_ok pk134 ?_
    refine SQ.idx tt_ok rfl rfl (id - first).toNat (by rw [hw, g4]) g2 (o' := 0 + (id - first).toNat * 7) rfl ?_
    refine G tt_ok pk134 ?_
    refine SQ.load tt_ok rfl rfl 1 rfl (rd_iq g3 rest) ?_
    refine G tt_ok pk134 ?_
    refine ke rfl rfl (step48' β _ _ _ _ _) ?_
    refine G tt_ok pk134 ?_
    refine SQ.store tt_ok rfl rfl 1 rfl rfl (wr_iq g3 (stepI e.1.1 x) rest) rfl (by repeat (first | exact trivial | refine ⟨trivial, ?_⟩ | refine ⟨wk (by repeat (first | exact .h | exact .q | apply At.t)) (by rfl), ?_⟩)) ?_
    refine G tt_ok pk134 ?_
    exact CW.ret (fin_ret rfl (Ent.trans pk_ (bk_close)) ⟨rfl, rfl⟩)
-- part Ff
theorem wr_en {es : List En} {k : Nat} {e : En} (h : es[k]? = some e) (q : En) (X : List Value) : wrv ti218 (es.flatMap enC ++ X) (0 + k * 7) (.agg (enC q).toArray) = some ((es.set k q).flatMap enC ++ X) :=
  wr_encR (enc := enC) (sz := 7) (fun _ => rfl) h 0 (i := ti218) (by decide) rfl rfl (by omega) X
def putV (first : Int) (es : List En) (id : Int) (q : En) : List En × Int := match atE first es id with
  | some e => if q.1.2.2.1 < 0 ∨ q.1.2.2.1 > 1 ∨ q.1.2.2.2 < 0 ∨ q.1.2.2.2 > 255 then (es, 1) else (es.set (id - first).toNat ((q.1.1, q.1.2.1, q.1.2.2.1, realV q.1.2.2.2), q.2), 0)
  | none => (es, 90)
theorem putV_len (first : Int) (es : List En) (id : Int) (q : En) : (putV first es id q).1.length = es.length := by
  unfold putV; split
  · split <;> simp
  · rfl
set_option maxHeartbeats 4000000 in
theorem put30 (β : Base) (b : Nat) (q0 : Option Addr) (c0 : Nat) {first id : Int} {es : List En} (q : En) (h0 : 0 ≤ first) (h1 : first ≤ 16384) (h3 : id < 9223372036854775808) :
    Tri Tryz.prog β 193 [.pointer (some ⟨b, 0, none⟩), .int .i64 id, .agg (enC q).toArray] (bkA b q0 c0 first es) (fun v L => v = .int .i64 (putV first es id q).2 ∧ L = bkA b q0 c0 first (putV first es id q).1) := by
  refine Tri.intro tt_ok Tryz.func193 rfl rfl Tryz.ntmps193 rfl fun F => ?_
  unfold bkA
  rw [putV_len]
  cases h : atE first es id with
  | none =>
    rw [show putV first es id q = (es, 90) by simp [putV, h]]
    (refine G tt_ok pk193 ?_; repeat (refine G1 tt_ok pk193 ?_; intro _))
    refine ke rfl rfl (hasIs β b q0 c0 h0 h1 h3 (atE_none h)) ?_
    (refine G tt_ok pk193 ?_; repeat (refine G1 tt_ok pk193 ?_; intro _))
    exact CW.ret (fin_ret rfl pk_ ⟨rfl, rfl⟩)
  | some e =>
    obtain ⟨g1, g2, g3, g4, g5⟩ := atE_some h
    have hw := wrap_sub h0 h1 g1 h3
    refine CW.ent (bk_open (by omega)) (CW.open_ fun y => ?_)
    obtain ⟨g, rest⟩ := y
    refine CW.pure_ fun hv => ?_
    simp only at hv
    subst hv
    (refine G tt_ok pk193 ?_; repeat (refine G1 tt_ok pk193 ?_; intro _))
    refine ke rfl rfl (hasIs β b _ c0 h0 h1 h3 g5) ?_
    (repeat' (first | refine CW.seq ?_ | refine CW.region tt_ok rfl ?_ | refine CW.regionD tt_ok (by kernel_rfl) pl193_0 (by decide +kernel) ?_ | refine CW.block ?_ | refine CW.skip ?_ | refine SQ.nil ?_ | refine SQ.pures1 tt_ok rfl ?_ | refine SQ.pure1 tt_ok rfl ?_ | refine SQ.new _ _ rfl rfl (fun _ => ?_) | refine SQ.ldA tt_ok rfl rfl (by repeat (first | exact .h | exact .q | apply At.t)) (by rfl) ?_ | refine SQ.stA tt_ok rfl rfl (by repeat (first | apply Up.h | apply Up.t)) (by rfl) (by rfl) (by repeat (first | exact trivial | refine ⟨trivial, ?_⟩ | refine ⟨wk (by repeat (first | exact .h | exact .q | apply At.t)) (by rfl), ?_⟩)) ?_ | refine CW.cond_tt rfl ?_ | refine CW.cond_ff rfl ?_ | (refine SQ.callA rfl rfl (real50' β _) (by repeat (first | exact .n | exact Rm.h | exact Rm.of own_row | exact Rm.of row_close0 | apply Tk.c | apply Rm.t)) ?_; rintro _ _ ⟨rfl, rfl⟩; refine ⟨(by repeat (first | exact trivial | refine ⟨trivial, ?_⟩ | refine ⟨wk (by repeat (first | exact .h | exact .q | apply At.t)) (by rfl), ?_⟩)), ?_⟩) | ((first | refine CW.cond rfl (fun hc => ?_) (fun hc => ?_) | refine SQ.gsplit rfl (fun hc => ?_) (fun hc => ?_)) <;> try (exfalso; simp_all; done))))
    all_goals (first
      | (refine CW.ret (fin_ret rfl (Ent.trans pk_ (bk_close (b := b) (g := g) (n := es.length) (first := first) (rest := rest) (v := .slice (some ⟨g, 0, none⟩) es.length c0) (cs := es.flatMap enC))) ⟨?_, ?_⟩)
         · simp_all [packV, putV]
         · simp_all [putV])
      | (refine SQ.idx tt_ok rfl rfl (id - first).toNat (by rw [hw, g4]) g2 (o' := 0 + (id - first).toNat * 7) rfl ?_
         refine SQ.stA tt_ok rfl rfl (by repeat (first | apply Up.h | apply Up.t)) (by rfl) (wr_en g3 ((q.1.1, q.1.2.1, q.1.2.2.1, realV q.1.2.2.2), q.2) rest) (by repeat (first | exact trivial | refine ⟨trivial, ?_⟩ | refine ⟨wk (by repeat (first | exact .h | exact .q | apply At.t)) (by rfl), ?_⟩)) ?_
         (refine G tt_ok pk193 ?_; repeat (refine G1 tt_ok pk193 ?_; intro _))
         refine CW.ret (fin_ret rfl (Ent.trans pk_ (bk_close (b := b) (g := g) (n := es.length) (first := first) (rest := rest) (v := .slice (some ⟨g, 0, none⟩) es.length c0) (cs := (es.set (id - first).toNat ((q.1.1, q.1.2.1, q.1.2.2.1, realV q.1.2.2.2), q.2)).flatMap enC))) ⟨?_, ?_⟩)
         · simp_all [packV, putV]; rw [if_neg (by omega)]
         · simp_all [putV]; rw [if_neg (by omega)]))
-- part Fh
theorem idsV_len (f : Int) : ∀ n, (idsV f n).length = n
  | 0 => rfl
  | n + 1 => by simp [idsV, idsV_len f n]
theorem idsV_at (f : Int) : ∀ {n i : Nat}, i < n → (idsV f n)[i]? = some (IntKind.i64.wrap (f + i))
  | n + 1, i, h => by
    simp only [idsV]
    by_cases e : i = n
    · subst e; rw [List.getElem?_append_right (by rw [idsV_len]; omega), idsV_len]; simp
    · rw [List.getElem?_append_left (by rw [idsV_len]; omega)]; exact idsV_at f (by omega)
theorem pre_at {f : Int} {n : Nat} {pre : List Int} {x : Int} (h : (pre ++ [x]) <+: idsV f n) : pre.length < n ∧ x = IntKind.i64.wrap (f + pre.length) := by
  obtain ⟨t, ht⟩ := h
  have hl := congrArg List.length ht
  rw [idsV_len] at hl
  simp at hl
  have h1 : (idsV f n)[pre.length]? = some x := by rw [← ht]; simp
  rw [idsV_at f (by omega)] at h1
  exact ⟨by omega, by simpa using h1.symm⟩
theorem wrap_lt (x : Int) : IntKind.i64.wrap x < 9223372036854775808 := by rw [wrap_i64]; split <;> omega
def rdK (first : Int) (es : List En) (r f c : Int) : Nat → Int
  | 0 => 0
  | k + 1 => match atE first es (IntKind.i64.wrap (f + k)) with
    | some e => withV (rdK first es r f c k) r c k (showsV e.1 r)
    | none => rdK first es r f c k
theorem getSome (β : Base) (b : Nat) (q0 : Option Addr) (c0 : Nat) {first id : Int} {es : List En} {e : En} (h0 : 0 ≤ first) (h1 : first ≤ 16384) (h3 : id < 9223372036854775808) (h : atE first es id = some e) :
    Tri Tryz.prog β 133 [.pointer (some ⟨b, 0, none⟩), .int .i64 id] [pt b [.int .i64 first, .slice q0 es.length c0], rowA q0 es.length (es.flatMap enC)] (fun v L => v = .tuple #[.agg #[.bool e.1.1.1, .bool e.1.1.2.1, .bool e.1.1.2.2.1, .bool e.1.1.2.2.2, .bool e.1.2.1, .int .i64 e.1.2.2.1, .int .i64 e.1.2.2.2], .int .i64 0] ∧
      L = [pt b [.int .i64 first, .slice q0 es.length c0], rowA q0 es.length (es.flatMap enC)]) := by
  have := get14 β b q0 c0 (es := es) h0 h1 h3
  simp only [getV, h] at this
  exact this
theorem getNone (β : Base) (b : Nat) (q0 : Option Addr) (c0 : Nat) {first id : Int} {es : List En} (h0 : 0 ≤ first) (h1 : first ≤ 16384) (h3 : id < 9223372036854775808) (h : atE first es id = none) :
    Tri Tryz.prog β 133 [.pointer (some ⟨b, 0, none⟩), .int .i64 id] [pt b [.int .i64 first, .slice q0 es.length c0], rowA q0 es.length (es.flatMap enC)] (fun v L => v = .tuple #[.agg #[.bool false, .bool false, .bool false, .bool false, .bool false, .int .i64 0, .int .i64 0], .int .i64 90] ∧
      L = [pt b [.int .i64 first, .slice q0 es.length c0], rowA q0 es.length (es.flatMap enC)]) := by
  have := get14 β b q0 c0 (es := es) h0 h1 h3
  simp only [getV, h] at this
  exact this
set_option maxHeartbeats 2000000 in
theorem read12 (β : Base) (b : Nat) (q0 : Option Addr) (c0 : Nat) {first : Int} {es : List En} (h0 : 0 ≤ first) (h1 : first ≤ 16384) (r f c : Int) :
    Tri Tryz.prog β 219 [.pointer (some ⟨b, 0, none⟩), .agg #[.int .i64 r, .int .i64 f, .int .i64 c]] (bkA b q0 c0 first es) (fun v L => v = .int .u64 (rdK first es r f c (cntV c)) ∧ L = bkA b q0 c0 first es) := by
  refine Tri.intro tt_ok Tryz.func219 rfl rfl Tryz.ntmps219 rfl fun F => ?_
  unfold bkA
  (refine G tt_ok pk219 ?_; repeat (refine G1 tt_ok pk219 ?_; intro _))
  rename_i b2 b3 b5 b6
  (refine SQ.call rfl rfl (ids25 β r f c) [] rfl ?_; rintro _ _ ⟨b1, rfl, rfl⟩; refine w_ ?_)
  (refine G tt_ok pk219 ?_; repeat (refine G1 tt_ok pk219 ?_; intro _))
  refine CW.rangeFunc rfl (iter44 β r f c b1) [0] rfl
    (fun pre => [pt b6 [.int .i64 pre.length], pt b5 [.int .u64 (rdK first es r f c pre.length)], pt b3 [.int .i64 r, .int .i64 f, .int .i64 c], pt b2 [.pointer (some ⟨b, 0, none⟩)], pt b [.int .i64 first, .slice q0 es.length c0], rowA q0 es.length (es.flatMap enC)])
    (fun _ _ => False) (Ent.refl _) (fun _ => rfl) (by decide) ?_ ?_ (fun _ _ h => h.elim)
  · intro pre x hpre l fm rec1
    obtain ⟨hlt, hx⟩ := pre_at hpre
    have hx3 : x < 9223372036854775808 := by rw [hx]; exact wrap_lt _
    have hle : cntV c ≤ 16384 := by unfold cntV; omega
    have hw : IntKind.i64.wrap ((pre.length : Int) + 1) = (((pre ++ [x]).length : Nat) : Int) := by rw [wrap_i64]; simp; split <;> omega
    have hstep : rdK first es r f c (pre ++ [x]).length = match atE first es x with
      | some e => withV (rdK first es r f c pre.length) r c pre.length (showsV e.1 r)
      | none => rdK first es r f c pre.length := by rw [List.length_append, hx]; rfl
    (refine G tt_ok pk219 ?_; repeat (refine G1 tt_ok pk219 ?_; intro _))
    intro fm2 rec2
    (refine G tt_ok pk219 ?_; repeat (refine G1 tt_ok pk219 ?_; intro _))
    cases h : atE first es x with
    | none =>
      rw [h] at hstep
      (refine SQ.call rfl rfl (getNone β b q0 c0 h0 h1 hx3 h) [4, 4] rfl ?_; rintro _ _ ⟨rfl, rfl⟩; refine w_ ?_)
      (refine G tt_ok pk219 ?_; repeat (refine G1 tt_ok pk219 ?_; intro _))
      rw [hstep, ← hw]
      exact Ent.sel (is := [3, 3, 3, 3, 1, 1, 1]) rfl
    | some e =>
      rw [h] at hstep
      (refine SQ.call rfl rfl (getSome β b q0 c0 h0 h1 hx3 h) [4, 4] rfl ?_; rintro _ _ ⟨rfl, rfl⟩; refine w_ ?_)
      (refine G tt_ok pk219 ?_; repeat (refine G1 tt_ok pk219 ?_; intro _))
      (refine SQ.call rfl rfl (shows27 β _ _ _ _ _ _ _ _) [] rfl ?_; rintro _ _ ⟨rfl, rfl⟩; refine w_ ?_)
      (refine G tt_ok pk219 ?_; repeat (refine G1 tt_ok pk219 ?_; intro _))
      (refine SQ.call rfl rfl (with26 β _ r f c _ _) [] rfl ?_; rintro _ _ ⟨rfl, rfl⟩; refine w_ ?_)
      (refine G tt_ok pk219 ?_; repeat (refine G1 tt_ok pk219 ?_; intro _))
      rw [hstep, ← hw]
      exact Ent.sel (is := [3, 3, 3, 3, 1, 1, 1]) rfl
  · (refine G tt_ok pk219 ?_; repeat (refine G1 tt_ok pk219 ?_; intro _))
    rw [idsV_len]
    refine CW.ret (fin_ret rfl (Ent.sel (is := [4, 4]) rfl) ⟨rfl, rfl⟩)
/-- What a place's write makes of a bank: how many are others, and the bank. -/
def wr1 (first : Int) (es : List En) (r f c v : Int) (k : Nat) : List En × Bool :=
  match atE first es (IntKind.i64.wrap (f + k)) with
  | some e => let l := writtenV (IntKind.i64.wrap (f + k)) e.1 r (fieldV v r c k)
    if l = e.1 then (es, false) else ((putV first es (IntKind.i64.wrap (f + k)) (l, e.2)).1, true)
  | none => (es, false)
def wrK (first : Int) (es : List En) (r f c v : Int) : Nat → List En × Nat
  | 0 => (es, 0)
  | k + 1 => let p := wrK first es r f c v k
    let q := wr1 first p.1 r f c v k
    (q.1, p.2 + if q.2 then 1 else 0)
theorem wr1_len (first : Int) (es : List En) (r f c v : Int) (k : Nat) : (wr1 first es r f c v k).1.length = es.length := by
  unfold wr1; split
  · simp only; split
    · rfl
    · exact putV_len _ _ _ _
  · rfl
theorem wrK_len (first : Int) (es : List En) (r f c v : Int) : ∀ k, (wrK first es r f c v k).1.length = es.length
  | 0 => rfl
  | k + 1 => by simp only [wrK]; rw [wr1_len, wrK_len first es r f c v k]
theorem wrK_cnt (first : Int) (es : List En) (r f c v : Int) : ∀ k, (wrK first es r f c v k).2 ≤ k
  | 0 => Nat.le_refl _
  | k + 1 => by simp only [wrK]; have := wrK_cnt first es r f c v k; split <;> omega
-- part Fi
theorem written28' (β : Base) (id : Int) (e l t a en : Bool) (g p r x : Int) : Tri Tryz.prog β 122 [.int .i64 id, .agg #[.bool e, .bool l, .bool t, .bool a, .bool en, .int .i64 g, .int .i64 p], .int .i64 r, .int .u64 x] []
    (fun v L => v = .agg #[.bool (writtenV id ((e, l, t, a), en, g, p) r x).1.1, .bool (writtenV id ((e, l, t, a), en, g, p) r x).1.2.1, .bool (writtenV id ((e, l, t, a), en, g, p) r x).1.2.2.1, .bool (writtenV id ((e, l, t, a), en, g, p) r x).1.2.2.2, .bool (writtenV id ((e, l, t, a), en, g, p) r x).2.1, .int .i64 (writtenV id ((e, l, t, a), en, g, p) r x).2.2.1, .int .i64 (writtenV id ((e, l, t, a), en, g, p) r x).2.2.2] ∧ L = []) := written28 β id e l t a en g p r x
theorem put30' (β : Base) (b : Nat) (q0 : Option Addr) (c0 : Nat) {first id : Int} {es : List En} (q : En) (h0 : 0 ≤ first) (h1 : first ≤ 16384) (h3 : id < 9223372036854775808) :
    Tri Tryz.prog β 193 [.pointer (some ⟨b, 0, none⟩), .int .i64 id, .agg #[.bool q.1.1.1, .bool q.1.1.2.1, .bool q.1.1.2.2.1, .bool q.1.1.2.2.2, .bool q.1.2.1, .int .i64 q.1.2.2.1, .int .i64 q.1.2.2.2]] [pt b [.int .i64 first, .slice q0 es.length c0], rowA q0 es.length (es.flatMap enC)]
      (fun v L => ∃ u, v = .int .i64 u ∧ L = [pt b [.int .i64 first, .slice q0 es.length c0], rowA q0 (putV first es id q).1.length ((putV first es id q).1.flatMap enC)]) :=
  (put30 β b q0 c0 q h0 h1 h3).mono fun v L ⟨e1, e2⟩ => ⟨_, e1, by rw [e2, bkA, putV_len]⟩
set_option maxHeartbeats 4000000 in
theorem write13 (β : Base) (b : Nat) (q0 : Option Addr) (c0 : Nat) {first : Int} {es0 : List En} (h0 : 0 ≤ first) (h1 : first ≤ 16384) (r f c v : Int) :
    Tri Tryz.prog β 118 [.pointer (some ⟨b, 0, none⟩), .agg #[.int .i64 r, .int .i64 f, .int .i64 c], .int .u64 v] (bkA b q0 c0 first es0) (fun u L => u = .int .i64 (wrK first es0 r f c v (cntV c)).2 ∧ L = bkA b q0 c0 first (wrK first es0 r f c v (cntV c)).1) := by
  refine Tri.intro tt_ok Tryz.func118 rfl rfl Tryz.ntmps118 rfl fun F => ?_
  unfold bkA
  (refine G tt_ok pk118 ?_; repeat (refine G1 tt_ok pk118 ?_; intro _))
  rename_i b3 b4 b5 b7 b8
  (refine SQ.call rfl rfl (ids25 β r f c) [] rfl ?_; rintro _ _ ⟨b1, rfl, rfl⟩; refine w_ ?_)
  (refine G tt_ok pk118 ?_; repeat (refine G1 tt_ok pk118 ?_; intro _))
  refine CW.rangeFunc rfl (iter44 β r f c b1) [0] rfl
    (fun pre => [pt b8 [.int .i64 pre.length], pt b7 [.int .i64 ((wrK first es0 r f c v pre.length).2 : Int)], pt b5 [.int .u64 v], pt b4 [.int .i64 r, .int .i64 f, .int .i64 c], pt b3 [.pointer (some ⟨b, 0, none⟩)], pt b [.int .i64 first, .slice q0 (wrK first es0 r f c v pre.length).1.length c0], rowA q0 (wrK first es0 r f c v pre.length).1.length ((wrK first es0 r f c v pre.length).1.flatMap enC)])
    (fun _ _ => False) (Ent.refl _) (fun _ => rfl) (by decide) ?_ ?_ (fun _ _ h => h.elim)
  · intro pre x hpre l fm rec1
    obtain ⟨hlt, hx⟩ := pre_at hpre
    have hx3 : x < 9223372036854775808 := by rw [hx]; exact wrap_lt _
    have hle : cntV c ≤ 16384 := by unfold cntV; omega
    have hw : IntKind.i64.wrap ((pre.length : Int) + 1) = (((pre ++ [x]).length : Nat) : Int) := by rw [wrap_i64]; simp; split <;> omega
    have hcn := wrK_cnt first es0 r f c v pre.length
    have hstep : wrK first es0 r f c v (pre ++ [x]).length = ((wr1 first (wrK first es0 r f c v pre.length).1 r f c v pre.length).1, (wrK first es0 r f c v pre.length).2 + if (wr1 first (wrK first es0 r f c v pre.length).1 r f c v pre.length).2 then 1 else 0) := by rw [List.length_append]; rfl
    rw [hstep]
    generalize wrK first es0 r f c v pre.length = z at hcn ⊢
    obtain ⟨es, m⟩ := z
    simp only at hcn ⊢
    have hwm : IntKind.i64.wrap ((m : Int) + 1) = ((m + 1 : Nat) : Int) := by rw [wrap_i64]; split <;> omega
    (refine G tt_ok pk118 ?_; repeat (refine G1 tt_ok pk118 ?_; intro _))
    intro fm2 rec2
    (refine G tt_ok pk118 ?_; repeat (refine G1 tt_ok pk118 ?_; intro _))
    cases h : atE first es x with
    | none =>
      have hq : wr1 first es r f c v pre.length = (es, false) := by simp only [wr1, ← hx, h]
      rw [hq]
      (refine SQ.call rfl rfl (getNone β b q0 c0 h0 h1 hx3 h) [5, 5] rfl ?_; rintro _ _ ⟨rfl, rfl⟩; refine w_ ?_)
      (refine G tt_ok pk118 ?_; repeat (refine G1 tt_ok pk118 ?_; intro _))
      (refine SQ.call rfl rfl (field29 β v r f c _) [] rfl ?_; rintro _ _ ⟨rfl, rfl⟩; refine w_ ?_)
      (refine G tt_ok pk118 ?_; repeat (refine G1 tt_ok pk118 ?_; intro _))
      (refine SQ.call rfl rfl (written28' β _ _ _ _ _ _ _ _ _ _) [] rfl ?_; rintro _ _ ⟨rfl, rfl⟩; refine w_ ?_)
      (refine G tt_ok pk118 ?_; repeat (refine G1 tt_ok pk118 ?_; intro _))
      rw [← hw]
      exact Ent.sel (is := [4, 4, 4, 4, 4, 2, 2, 2]) rfl
    | some e =>
      obtain ⟨⟨⟨a1, a2, a3, a4⟩, en, g, p⟩, tx⟩ := e
      (refine SQ.call rfl rfl (getSome β b q0 c0 h0 h1 hx3 h) [5, 5] rfl ?_; rintro _ _ ⟨rfl, rfl⟩; refine w_ ?_)
      (refine G tt_ok pk118 ?_; repeat (refine G1 tt_ok pk118 ?_; intro _))
      (refine SQ.call rfl rfl (field29 β v r f c _) [] rfl ?_; rintro _ _ ⟨rfl, rfl⟩; refine w_ ?_)
      (refine G tt_ok pk118 ?_; repeat (refine G1 tt_ok pk118 ?_; intro _))
      have hcall := written28' β x a1 a2 a3 a4 en g p r (fieldV v r c pre.length)
      have hq : wr1 first es r f c v pre.length = (let l := writtenV x ((a1, a2, a3, a4), en, g, p) r (fieldV v r c pre.length)
        if l = ((a1, a2, a3, a4), en, g, p) then (es, false) else ((putV first es x (l, tx)).1, true)) := by simp only [wr1, ← hx, h]
      generalize writtenV x ((a1, a2, a3, a4), en, g, p) r (fieldV v r c pre.length) = W at hcall hq
      obtain ⟨⟨w1, w2, w3, w4⟩, w5, w6, w7⟩ := W
      simp only at hcall hq
      rw [hq]
      (refine SQ.call rfl rfl (hcall) [] rfl ?_; rintro _ _ ⟨rfl, rfl⟩; refine w_ ?_)
      (refine G tt_ok pk118 ?_; repeat (refine G1 tt_ok pk118 ?_; intro _))
      by_cases hl : (((w1, w2, w3, w4), w5, w6, w7) : Ln) = ((a1, a2, a3, a4), en, g, p)
      · rw [if_pos hl]
        refine SQ.eqn tt_ok [110, 77] ⟨by kernel_rfl, by kernel_rfl, trivial⟩ rfl rfl (by kernel_rfl) false (by simp at hl ⊢; simp [hl]) ?_
        (refine G tt_ok pk118 ?_; repeat (refine G1 tt_ok pk118 ?_; intro _))
        rw [← hw]
        exact Ent.sel (is := [4, 4, 4, 4, 4, 2, 2, 2]) rfl
      · rw [if_neg hl]
        refine SQ.eqn tt_ok [110, 77] ⟨by kernel_rfl, by kernel_rfl, trivial⟩ rfl rfl (by kernel_rfl) true (by apply Decidable.byContradiction; intro hc; simp at hc; exact hl (by simp [hc])) ?_
        (refine G tt_ok pk118 ?_; repeat (refine G1 tt_ok pk118 ?_; intro _))
        (refine SQ.call rfl rfl (put30' β b q0 c0 (((w1, w2, w3, w4), w5, w6, w7), tx) h0 h1 hx3) [2, 2] rfl ?_; rintro _ _ ⟨u, rfl, rfl⟩; refine w_ ?_)
        (refine G tt_ok pk118 ?_; repeat (refine G1 tt_ok pk118 ?_; intro _))
        rw [← hw]
        simp only [putV_len, if_true]
        rw [hwm]
        exact Ent.sel (is := [4, 4, 4, 4, 4, 0, 0, 2]) rfl
  · (refine G tt_ok pk118 ?_; repeat (refine G1 tt_ok pk118 ?_; intro _))
    rw [idsV_len]
    refine CW.ret (fin_ret rfl (Ent.sel (is := [5, 5]) rfl) ⟨rfl, rfl⟩)
-- part Fx>
theorem rdK_some {first : Int} {es : List En} {r f c : Int} {k : Nat} {e : En} (h : atE first es (IntKind.i64.wrap (f + k)) = some e) : rdK first es r f c (k + 1) = withV (rdK first es r f c k) r c k (showsV e.1 r) := by
  show (match atE first es (IntKind.i64.wrap (f + k)) with
    | some e => withV (rdK first es r f c k) r c k (showsV e.1 r)
    | none => rdK first es r f c k) = _
  rw [h]
theorem rdK_none {first : Int} {es : List En} {r f c : Int} {k : Nat} (h : atE first es (IntKind.i64.wrap (f + k)) = none) : rdK first es r f c (k + 1) = rdK first es r f c k := by
  show (match atE first es (IntKind.i64.wrap (f + k)) with
    | some e => withV (rdK first es r f c k) r c k (showsV e.1 r)
    | none => rdK first es r f c k) = _
  rw [h]
/-- What a register shows, bit by bit. -/
theorem rdK_bit (first : Int) (es : List En) {r f c : Int} {n : Nat} (hb : bitsV r = n) (hn1 : 1 ≤ n) (hn : n ≤ 63) : ∀ m : Nat, (m : Int) ≤ c → ∃ W : Nat, W < 2 ^ 64 ∧ rdK first es r f c m = W ∧
    ∀ j, j < 64 → W.testBit j = (decide (j / n < m) && match atE first es (IntKind.i64.wrap (f + ((j / n : Nat) : Int))) with | some e => (showsV e.1 r).toNat.testBit (j % n) | none => false)
  | 0, _ => ⟨0, by decide, rfl, fun j hj => by simp⟩
  | m + 1, hm => by
    obtain ⟨W, hW, hr, hbit⟩ := rdK_bit first es (f := f) (c := c) hb hn1 hn m (by omega)
    have hdm : ∀ j : Nat, n * (j / n) + j % n = j ∧ j % n < n := fun j => ⟨Nat.div_add_mod j n, Nat.mod_lt _ (by omega)⟩
    have hin : ∀ j : Nat, (n * m ≤ j ∧ j < n * m + n) ↔ j / n = m := fun j => by
      obtain ⟨h1, h2⟩ := hdm j
      constructor
      · rintro ⟨h3, h4⟩
        rcases Nat.lt_trichotomy (j / n) m with h | h | h
        · have : n * (j / n + 1) ≤ n * m := Nat.mul_le_mul_left n h
          rw [Nat.mul_add] at this; omega
        · exact h
        · have : n * (m + 1) ≤ n * (j / n) := Nat.mul_le_mul_left n h
          rw [Nat.mul_add] at this; omega
      · intro h; rw [h] at h1; omega
    have hd64 : ∀ j, j < 64 → j / n < 64 := fun j hj => Nat.lt_of_le_of_lt (Nat.div_le_self _ _) hj
    cases ha : atE first es (IntKind.i64.wrap (f + m)) with
    | none =>
      rw [rdK_none ha]
      refine ⟨W, hW, hr, fun j hj => ?_⟩
      rw [hbit j hj]
      by_cases hq : j / n = m
      · rw [hq, ha]; simp
      · congr 1; simp; omega
    | some e =>
      obtain ⟨s, hs, he⟩ := shows_nat e.1 r
      rw [rdK_some ha, hr, he]
      by_cases hm64 : m ≤ 64
      · obtain ⟨W', h1, h2, h3⟩ := withV_nat hW hs (c := c) hb hn (k := m) (by omega) hm64
        refine ⟨W', h1, h2, fun j hj => ?_⟩
        rw [h3 j hj]
        by_cases hq : j / n = m
        · rw [if_pos ((hin j).2 hq), hq, ha]
          have : j - n * m = j % n := by have := hdm j; rw [hq] at this; omega
          simp [he, this]
        · rw [if_neg (fun h => hq ((hin j).1 h)), hbit j hj]
          congr 1; simp; omega
      · rw [withV_out (by omega)]
        refine ⟨W, hW, rfl, fun j hj => ?_⟩
        have := hd64 j hj
        rw [hbit j hj]
        congr 1; simp; omega
-- part Fy>
def updE (id r x : Int) (e : En) : En × Bool :=
  if writtenV id e.1 r x = e.1 then (e, false) else
  if (writtenV id e.1 r x).2.2.1 < 0 ∨ (writtenV id e.1 r x).2.2.1 > 1 ∨ (writtenV id e.1 r x).2.2.2 < 0 ∨ (writtenV id e.1 r x).2.2.2 > 255 then (e, true)
  else ((((writtenV id e.1 r x).1, (writtenV id e.1 r x).2.1, (writtenV id e.1 r x).2.2.1, realV (writtenV id e.1 r x).2.2.2), e.2), true)
theorem set_same {α : Type} {l : List α} {k : Nat} {a : α} (h : l[k]? = some a) : l.set k a = l := by
  apply List.ext_getElem?
  intro i
  by_cases e : k = i
  · subst e; rw [List.getElem?_set_self (List.getElem?_eq_some_iff.1 h).1, h]
  · rw [List.getElem?_set_ne e]
theorem wr1_upd (first : Int) (es : List En) (r f c v : Int) (k : Nat) : wr1 first es r f c v k = match atE first es (IntKind.i64.wrap (f + k)) with
    | some e => (es.set (IntKind.i64.wrap (f + k) - first).toNat (updE (IntKind.i64.wrap (f + k)) r (fieldV v r c k) e).1, (updE (IntKind.i64.wrap (f + k)) r (fieldV v r c k) e).2)
    | none => (es, false) := by
  unfold wr1
  cases h : atE first es (IntKind.i64.wrap (f + k)) with
  | none => rfl
  | some e =>
    obtain ⟨g1, g2, g3, g4, g5⟩ := atE_some h
    simp only [updE]
    split
    · simp only [set_same g3]
    · simp only [putV, h]
      split
      · simp only [set_same g3]
      · rfl
theorem atE_iff {first : Int} {es : List En} {id : Int} {e : En} : atE first es id = some e ↔ ∃ i : Nat, id = first + i ∧ es[i]? = some e := by
  constructor
  · intro h
    obtain ⟨g1, g2, g3, g4, g5⟩ := atE_some h
    exact ⟨(id - first).toNat, by omega, g3⟩
  · rintro ⟨i, rfl, h⟩
    unfold atE
    rw [if_pos (by omega), show (first + (i : Int) - first).toNat = i by omega, h]
/-- An interrupt that a bank may hold. -/
def okE (e : En) : Prop := 0 ≤ e.1.2.2.1 ∧ e.1.2.2.1 ≤ 1 ∧ 0 ≤ e.1.2.2.2 ∧ e.1.2.2.2 ≤ 255 ∧ realV e.1.2.2.2 = e.1.2.2.2
def okL (es : List En) : Prop := ∀ e ∈ es, okE e
theorem updE_ok {id r x : Int} {e : En} (h : okE e) : okE (updE id r x e).1 := by
  unfold updE
  split
  · exact h
  · split
    · exact h
    · rename_i h2
      have := realV_range (writtenV id e.1 r x).2.2.2
      have h3 := realV_real (writtenV id e.1 r x).2.2.2
      unfold okE
      simp only
      exact ⟨by omega, by omega, by omega, by omega, h3⟩
theorem okL_at {es : List En} (h : okL es) {i : Nat} {e : En} (hi : es[i]? = some e) : okE e := h e (List.mem_of_getElem? hi)
theorem okL_set {es : List En} (h : okL es) {e : En} (he : okE e) (i : Nat) : okL (es.set i e) := fun x hx => by
  rcases List.mem_or_eq_of_mem_set hx with h2 | rfl
  · exact h x h2
  · exact he
theorem wrK_ok {first : Int} {es : List En} {r f c v : Int} (h : okL es) : ∀ m, okL (wrK first es r f c v m).1
  | 0 => h
  | m + 1 => by
    have ih := wrK_ok (first := first) (r := r) (f := f) (c := c) (v := v) h m
    simp only [wrK]
    rw [wr1_upd]
    split
    · rename_i e he
      obtain ⟨j, hj, hje⟩ := atE_iff.1 he
      exact okL_set ih (updE_ok (okL_at ih hje)) _
    · exact ih
theorem doV_ok {first : Int} {es : List En} {id x : Int} (h : okL es) : okL (doV first es id x).1 := by
  unfold doV
  split
  · rename_i e he
    obtain ⟨j, hj, hje⟩ := atE_iff.1 he
    exact okL_set h (by have := okL_at h hje; exact this) _
  · exact h
theorem okL_new (n : Nat) (tx : Unit) : okL (List.replicate n (zeroE.1, tx)) := fun e he => by
  rw [List.eq_of_mem_replicate he]
  have h : okE (zeroE.1, ()) := ⟨by decide, by decide, by decide, by decide, by decide⟩
  exact h
/-- The texts besides stay. -/
theorem updE_text (id r x : Int) (e : En) : (updE id r x e).1.2 = e.2 := by
  unfold updE
  split
  · rfl
  · split <;> rfl
theorem map_set_same {α β : Type} {f : α → β} {l : List α} {k : Nat} {a b : α} (h : l[k]? = some a) (hf : f b = f a) : (l.set k b).map f = l.map f := by
  rw [List.map_set, hf]
  apply set_same
  rw [List.getElem?_map, h]; rfl
theorem wrK_texts (first : Int) (es : List En) (r f c v : Int) : ∀ m, (wrK first es r f c v m).1.map (·.2) = es.map (·.2)
  | 0 => rfl
  | m + 1 => by
    have ih := wrK_texts first es r f c v m
    simp only [wrK]
    rw [wr1_upd]
    split
    · rename_i e he
      obtain ⟨j, hj, hje⟩ := atE_iff.1 he
      simp only
      rw [show (IntKind.i64.wrap (f + (m : Int)) - first).toNat = j by omega]
      rw [map_set_same hje (updE_text _ _ _ _), ih]
    · exact ih
theorem doV_texts (first : Int) (es : List En) (id x : Int) : (doV first es id x).1.map (·.2) = es.map (·.2) := by
  unfold doV
  split
  · rename_i e he
    obtain ⟨j, hj, hje⟩ := atE_iff.1 he
    simp only
    rw [show (id - first).toNat = j by omega]
    exact map_set_same hje rfl
  · rfl
-- part Gg
theorem enC_one (a : En) : scal (enC a) = true := rfl
set_option maxHeartbeats 2000000 in
theorem clone42 (β : Base) (q0 : Option Addr) (c0 : Nat) (es : List En) (hn : es.length ≤ 16384) :
    Tri Tryz.prog β 209 [.slice q0 es.length c0] [rowA q0 es.length (es.flatMap enC)] (fun v L => ∃ q1 c1, v = .slice q1 es.length c1 ∧ L = [rowA q0 es.length (es.flatMap enC), rowA q1 es.length (es.flatMap enC)]) := by
  refine Tri.intro tt_ok Tryz.func209 rfl rfl Tryz.ntmps209 rfl fun F => ?_
  cases q0 with
  | none =>
    refine CW.ent row_none (CW.pure_ fun h => ?_)
    obtain ⟨h1, h2⟩ := h
    rw [h1, h2]
    refine G tt_ok [] ?_
    refine CW.ret (fin_ret rfl (A := [rowA none 0 [], rowA none 0 []]) (Ent.trans row_nil row_nil) ?_)
    exact ⟨none, 0, rfl, rfl⟩
  | some a =>
    refine CW.ent row_some (CW.open_ fun y => ?_)
    obtain ⟨g, rest⟩ := y
    refine CW.pure_ fun hv => ?_
    simp only at hv
    subst hv
    refine G tt_ok [] ?_
    refine SQ.builtO tt_ok rfl rfl rfl rfl (fun b => ⟨(by repeat (first | exact trivial | refine ⟨trivial, ?_⟩ | refine ⟨wk (by repeat (first | exact .h | exact .q | apply At.t)) (by rfl), ?_⟩)), ?_⟩)
    refine G tt_ok [] ?_
    refine SQ.append tt_ok rfl rfl 0 rfl 1 (q := true) rfl (es.flatMap enC) (by rw [List.drop_zero]; exact List.take_left) (flatE_len (sz := 7) (fun _ => rfl) es) rfl (one_flat enC_one es) (by omega) (by show (0 + es.length) * 32 ≤ _; omega) (fun v' => ⟨(by repeat (first | exact trivial | refine ⟨trivial, ?_⟩ | refine ⟨wk (by repeat (first | exact .h | exact .q | apply At.t)) (by rfl), ?_⟩)), ?_⟩)
    refine SQ.ent _ (Ent.head (own_shape _ _ _ _ _)) ?_
    refine SQ.open_ fun x => ?_
    refine SQ.pure_ fun hv => ?_
    subst hv
    refine G tt_ok [] ?_
    have ho : Ent [own 218 7 (.slice x.1 (0 + es.length) x.2) (0 + es.length) ([] ++ es.flatMap enC)] [rowA x.1 es.length (es.flatMap enC)] := by
      rw [Nat.zero_add, List.nil_append]; exact own_row
    refine CW.ret (fin_ret rfl (A := [rowA (some ⟨g, 0, none⟩) es.length (es.flatMap enC), rowA x.1 es.length (es.flatMap enC)]) (Ent.trans (Ent.sel (is := [1, 0]) rfl) (Ent.append (L := [_]) (L' := [_]) row_close ho)) ?_)
    exact ⟨x.1, x.2, by rw [Nat.zero_add]; rfl, rfl⟩
theorem all21 (β : Base) (b : Nat) (q0 : Option Addr) (c0 : Nat) (first : Int) (es : List En) (hn : es.length ≤ 16384) :
    Tri Tryz.prog β 140 [.pointer (some ⟨b, 0, none⟩)] (bkA b q0 c0 first es) (fun v L => ∃ b1 b3 q1 c1, v = .func (.func 210) #[] #[.pointer (some ⟨b3, 0, none⟩), .pointer (some ⟨b1, 0, none⟩)] ∧
      L = [pt b3 [.slice q1 es.length c1], pt b1 [.pointer (some ⟨b, 0, none⟩)], rowA q1 es.length (es.flatMap enC)] ++ bkA b q0 c0 first es) := by
  refine Tri.intro tt_ok Tryz.func140 rfl rfl Tryz.ntmps140 rfl fun F => ?_
  (refine G tt_ok [] ?_; repeat (refine G1 tt_ok [] ?_; intro _))
  rename_i b1
  (refine ka rfl rfl (clone42 β q0 c0 es hn) ?_; rintro _ _ ⟨q1, c1, rfl, rfl⟩; refine w_ ?_)
  (refine G tt_ok [] ?_; repeat (refine G1 tt_ok [] ?_; intro _))
  rename_i b3
  refine CW.ret (fin_ret rfl (A := [pt b3 [.slice q1 es.length c1], pt b1 [.pointer (some ⟨b, 0, none⟩)], rowA q1 es.length (es.flatMap enC)] ++ bkA b q0 c0 first es) pk_ ?_)
  exact ⟨b1, b3, q1, c1, rfl, rfl⟩
/-- All of a bank, with their numbers. -/
def allV (first : Int) : List En → List (Int × En)
  | [] => []
  | e :: r => (first, e) :: allV (first + 1) r
theorem allV_len : ∀ (first : Int) (es : List En), (allV first es).length = es.length
  | _, [] => rfl
  | first, e :: r => by simp [allV, allV_len (first + 1) r]
theorem allV_at : ∀ {first : Int} {es : List En} {k : Nat} {e : En}, es[k]? = some e → (allV first es)[k]? = some (first + k, e)
  | _, [], _, _, h => by simp at h
  | first, a :: r, 0, e, h => by simp at h; subst h; simp [allV]
  | first, a :: r, k + 1, e, h => by
    have := allV_at (first := first + 1) (es := r) (k := k) (e := e) (by simpa using h)
    simp only [allV, List.getElem?_cons_succ]
    rw [this]; simp; omega
@[reducible] def peC (x : Int × En) : List Value := [.int .i64 x.1, .agg #[.bool x.2.1.1.1, .bool x.2.1.1.2.1, .bool x.2.1.1.2.2.1, .bool x.2.1.1.2.2.2, .bool x.2.1.2.1, .int .i64 x.2.1.2.2.1, .int .i64 x.2.1.2.2.2]]
theorem allV_pre {first : Int} {es : List En} {pre : List (Int × En)} {x : Int × En} (h : (pre ++ [x]) <+: allV first es) : ∃ e, es[pre.length]? = some e ∧ x = (first + pre.length, e) := by
  obtain ⟨t, ht⟩ := h
  have hl := congrArg List.length ht
  rw [allV_len] at hl
  simp at hl
  obtain ⟨e, he⟩ : ∃ e, es[pre.length]? = some e := ⟨_, List.getElem?_eq_getElem (by omega)⟩
  have h1 := allV_at (first := first) he
  rw [← ht] at h1
  simp at h1
  exact ⟨e, he, h1⟩
theorem take_pre {α : Type} {l : List α} {k : Nat} {x : α} (h : l[k]? = some x) : (l.take k ++ [x]) <+: l := by
  have : l.take (k + 1) = l.take k ++ [x] := by rw [List.take_add_one, h]; rfl
  rw [← this]; exact List.take_prefix _ _
theorem rd_enq {cs : List Value} {off n : Nat} {ts : List En} (h : (cs.drop off).take (n * 7) = ts.flatMap enC) {k : Nat} {t : En} (hk : ts[k]? = some t) : rdv ti218 cs (off + k * 7) = some (.agg (enC t).toArray) :=
  rd_enc (enc := enC) (sz := 7) (fun _ => rfl) rfl rfl h hk
set_option maxHeartbeats 2000000 in
theorem iter43 (β : Base) (b b1 b3 : Nat) {q1 : Option Addr} {c1 : Nat} {first : Int} {es : List En} {S : Value} {A1 : Atom} (h1 : RdS β q1 es.length 7 (es.flatMap enC) A1) (hf0 : 0 ≤ first) (hf1 : first ≤ 16384) (hn : es.length ≤ 16384) (hS : vcells S = [S]) :
    Iter Tryz.prog β 210 [.pointer (some ⟨b3, 0, none⟩), .pointer (some ⟨b1, 0, none⟩)] [pt b3 [.slice q1 es.length c1], pt b1 [.pointer (some ⟨b, 0, none⟩)], pt b [.int .i64 first, S], A1] peC (allV first es) := by
  intro l J Jx hY
  refine Tri.intro tt_ok Tryz.func210 rfl rfl Tryz.ntmps210 rfl fun F => ?_
  (refine G tt_ok pk210 ?_; repeat (refine G1 tt_ok pk210 ?_; intro _))
  refine CW.loop (α := Nat) (fun k => k ≤ es.length) (fun k => [(8, .int .i64 k), (7, .int .i64 es.length), (6, .slice q1 es.length c1), (0, .func (.yield l) #[] #[]), (2, .pointer (some ⟨b1, 0, none⟩))])
    (fun k => [J ((allV first es).take k), pt b3 [.slice q1 es.length c1], pt b1 [.pointer (some ⟨b, 0, none⟩)], pt b [.int .i64 first, S], A1]) (fun k => es.length - k) 0 (by omega) ⟨rfl, rfl, rfl, rfl, rfl, trivial⟩ (Ent.refl _) ?_
  intro k hk
  (refine G tt_ok pk210 ?_; repeat (refine G1 tt_ok pk210 ?_; intro _))
  generalize e1 : decide ((k : Int) < (es.length : Int)) = c
  cases c
  · (refine G tt_ok pk210 ?_; repeat (refine G1 tt_ok pk210 ?_; intro _))
    refine CW.exit ?_
    have : k = es.length := by simp at e1; omega
    subst this
    refine fin_normal rfl (Ent.refl _) (.inl ?_)
    rw [List.take_of_length_le (by rw [allV_len]; omega)]
  · have hlt : k < es.length := by simp at e1; omega
    have hw : IntKind.i64.wrap ((k : Int) + 1) = ((k + 1 : Nat) : Int) := by rw [wrap_i64]; split <;> omega
    have hwf : IntKind.i64.wrap (first + (k : Int)) = first + k := by rw [wrap_i64]; split <;> omega
    obtain ⟨e, he⟩ : ∃ e, es[k]? = some e := ⟨_, List.getElem?_eq_getElem hlt⟩
    obtain ⟨bs, os, qs, cs, rfl, rfl, hcs⟩ := h1.2.resolve_left (by omega)
    have hat := allV_at (first := first) he
    have htk : (allV first es).take (k + 1) = (allV first es).take k ++ [(first + k, e)] := by rw [List.take_add_one, hat]; rfl
    (refine G tt_ok pk210 ?_; repeat (refine G1 tt_ok pk210 ?_; intro _))
    refine SQ.idx tt_ok rfl rfl k rfl hlt (o' := os + k * 7) rfl ?_
    refine SQ.loadq tt_ok rfl rfl 4 rfl (rd_enq hcs he) ?_
    (refine G tt_ok pk210 ?_; repeat (refine G1 tt_ok pk210 ?_; intro _))
    rw [hwf]
    (refine SQ.yield rfl rfl (hY ((allV first es).take k) (first + k, e) (take_pre hat)) [1, 1, 1, 1, 1] rfl ?_; rintro _ _ (⟨rfl, rfl⟩ | ⟨rfl, rfl⟩) <;> refine w_ ?_)
    · (refine G tt_ok pk210 ?_; repeat (refine G1 tt_ok pk210 ?_; intro _))
      refine ⟨k + 1, by omega, by omega, ⟨by rw [← hw]; rfl, rfl, rfl, rfl, rfl, trivial⟩, ?_⟩
      rw [htk]
      exact pk_
    · (refine G tt_ok pk210 ?_; repeat (refine G1 tt_ok pk210 ?_; intro _))
      exact CW.ret (fin_ret rfl pk_ (.inr ⟨_, rfl⟩))
-- part Gj>
-- part Ft
/-- The lines of a bank. -/
def lsV (es : List En) : List Ln := es.map (·.1)
theorem lsV_len (es : List En) : (lsV es).length = es.length := by simp [lsV]
theorem lsV_set (es : List En) (k : Nat) (e : En) : lsV (es.set k e) = (lsV es).set k e.1 := by simp [lsV, List.map_set]
theorem doD_lsV (first : Int) (es : List En) (id x : Int) : doD first (lsV es) id x = (lsV (doV first es id x).1, (doV first es id x).2) := by
  unfold doD doV
  rw [lsV_len]
  by_cases hin : first ≤ id ∧ id - first < es.length
  · obtain ⟨e, he⟩ : ∃ e, es[(id - first).toNat]? = some e := ⟨_, List.getElem?_eq_getElem (by omega)⟩
    have hae : atE first es id = some e := atE_iff.2 ⟨(id - first).toNat, by omega, he⟩
    have hl : (lsV es)[(id - first).toNat]? = some e.1 := by simp [lsV, he]
    rw [if_pos hin, hl, hae]
    simp only [lsV_set]
  · have hae : atE first es id = none := by
      cases h : atE first es id with
      | none => rfl
      | some e =>
        obtain ⟨i, hi, he⟩ := atE_iff.1 h
        have := (List.getElem?_eq_some_iff.1 he).1
        omega
    rw [if_neg hin, hae]
-- part Gf>
set_option maxHeartbeats 4000000 in
/-- The document's reading: of a bank's lines, what the program reads of the bank. -/
theorem read19 (β : Base) (b : Nat) {first : Int} (q : Option Addr) (c : Nat) (S2 : Value) (es : List En) (hf0 : 0 ≤ first) (hf1 : first ≤ 16384) (hn : es.length ≤ 16384) (h2 : vcells S2 = [S2]) (r f cnt : Int) (hc : cnt ≤ 16384) :
    Tri Tryz.prog β 223 [.pointer (some ⟨b, 0, none⟩), .agg #[.int .i64 r, .int .i64 f, .int .i64 cnt]] (rbA b first q c S2 (lsV es)) (fun u L => u = .int .u64 (rdK first es r f cnt (cntV cnt)) ∧ L = rbA b first q c S2 (lsV es)) := by
  refine Tri.intro tt_ok Tryz.func223 rfl rfl Tryz.ntmps223 rfl fun F => ?_
  obtain ⟨n, hn1, hn63, hb⟩ := bits_n r
  unfold rbA
  rw [lsV_len]
  (refine G tt_ok pk223 ?_; repeat (refine G1 tt_ok pk223 ?_; intro _))
  rename_i b3
  refine CW.loop (α := Nat) (fun k => (k : Int) ≤ max cnt 0) (fun k => [(6, .int .i64 k), (5, .int .u64 (rdK first es r f cnt k)), (3, .pointer (some ⟨b3, 0, none⟩)), (0, .pointer (some ⟨b, 0, none⟩))])
    (fun k => [pt b3 [.int .i64 r, .int .i64 f, .int .i64 cnt], pt b [.int .i64 first, .slice q es.length c, S2], rowA q es.length ((lsV es).flatMap lnC)]) (fun k => cnt.toNat - k) 0 (by omega) ⟨rfl, rfl, rfl, rfl, trivial⟩ (Ent.refl _) ?_
  intro k hk
  (refine G tt_ok pk223 ?_; repeat (refine G1 tt_ok pk223 ?_; intro _))
  generalize e1 : decide ((k : Int) < cnt) = cc
  cases cc
  · (refine G tt_ok pk223 ?_; repeat (refine G1 tt_ok pk223 ?_; intro _))
    refine CW.exit ?_
    (refine G tt_ok pk223 ?_; repeat (refine G1 tt_ok pk223 ?_; intro _))
    have : k = cntV cnt := by unfold cntV; simp at e1; omega
    subst this
    exact CW.ret (fin_ret rfl pk_ ⟨rfl, rfl⟩)
  · simp only [decide_eq_true_eq] at e1
    have hw : IntKind.i64.wrap ((k : Int) + 1) = ((k + 1 : Nat) : Int) := by rw [wrap_i64]; split <;> omega
    obtain ⟨w, hw1, hw2, _⟩ := rdK_bit first es (r := r) (f := f) (c := cnt) hb hn1 hn63 k (by omega)
    (refine G tt_ok pk223 ?_; repeat (refine G1 tt_ok pk223 ?_; intro _))
    generalize hid : IntKind.i64.wrap (f + (k : Int)) = id
    refine ke rfl rfl (at37d β b id q c S2 hf0 hf1 hn h2) ?_
    (refine G tt_ok pk223 ?_; repeat (refine G1 tt_ok pk223 ?_; intro _))
    by_cases hin : first ≤ id ∧ id - first < es.length
    · have hat : atD first es.length id = id - first := by unfold atD; rw [if_pos hin]
      have hkl : (id - first).toNat < es.length := by omega
      obtain ⟨e, he⟩ : ∃ e, es[(id - first).toNat]? = some e := ⟨_, List.getElem?_eq_getElem (by omega)⟩
      have hae : atE first es (IntKind.i64.wrap (f + (k : Int))) = some e := by rw [hid]; exact atE_iff.2 ⟨(id - first).toNat, by omega, he⟩
      have hl : (lsV es)[(id - first).toNat]? = some e.1 := by simp [lsV, he]
      obtain ⟨s, hs1, hs2⟩ := shows_nat e.1 r
      have hnx := rdK_some (r := r) (f := f) (c := cnt) hae
      rw [hw2, hs2] at hnx
      rw [hat, decide_eq_true (show id - first ≥ 0 by omega), hw2]
      refine CW.ent (L' := [rowA q es.length ((lsV es).flatMap lnC), pt b [.int .i64 first, .slice q es.length c, S2], pt b3 [.int .i64 r, .int .i64 f, .int .i64 cnt]]) pk_ ?_
      refine CW.ent (Ent.append (L := [_]) (Ent.trans (row_open (show 0 < es.length by omega)) (Ent.refl _)) (Ent.refl _)) ?_
      refine CW.open_ fun y => ?_
      obtain ⟨g, rest⟩ := y
      refine CW.pure_ fun hv => ?_
      simp only at hv
      subst hv
      (refine G tt_ok pk223 ?_; repeat (refine G1 tt_ok pk223 ?_; intro _))
      refine SQ.idx tt_ok rfl rfl (id - first).toNat (by omega) hkl (o' := 0 + (id - first).toNat * 7) rfl ?_
      refine SQ.load tt_ok rfl rfl 0 rfl (rd_ln hl rest) ?_
      (refine G tt_ok pk223 ?_; repeat (refine G1 tt_ok pk223 ?_; intro _))
      (refine ka rfl rfl (shows39' β e.1 r) ?_; rintro _ _ ⟨rfl, rfl⟩; refine ⟨(by repeat (first | exact trivial | refine ⟨trivial, ?_⟩ | refine ⟨wk .h (rd_ln hl rest), ?_⟩ | refine ⟨wk (by repeat (first | exact .h | exact .q | apply At.t)) (by rfl), ?_⟩)), ?_⟩)
      rw [hs2]
      (refine G tt_ok pk223 ?_; repeat (refine G1 tt_ok pk223 ?_; intro _))
      (refine ka rfl rfl (with38 β hw1 hs1 r f cnt k) ?_; rintro _ _ ⟨rfl, rfl⟩; refine ⟨(by repeat (first | exact trivial | refine ⟨trivial, ?_⟩ | refine ⟨wk .h (rd_ln hl rest), ?_⟩ | refine ⟨wk (by repeat (first | exact .h | exact .q | apply At.t)) (by rfl), ?_⟩)), ?_⟩)
      (refine G tt_ok pk223 ?_; repeat (refine G1 tt_ok pk223 ?_; intro _))
      refine ⟨k + 1, by omega, by omega, ⟨by rw [← hw]; rfl, by rw [hnx]; rfl, rfl, rfl, trivial⟩, ?_⟩
      exact Ent.trans (L := [_, _, _]) (M := [pt g ((lsV es).flatMap lnC ++ rest), pt b [.int .i64 first, .slice (some ⟨g, 0, none⟩) es.length c, S2], pt b3 [.int .i64 r, .int .i64 f, .int .i64 cnt]]) pk_ (Ent.trans (Ent.append (L := [_]) row_close (Ent.refl _)) (Ent.sel (is := [2, 1, 0]) rfl))
    · have hat : atD first es.length id = -1 := by unfold atD; rw [if_neg hin]
      have hae : atE first es (IntKind.i64.wrap (f + (k : Int))) = none := by
        rw [hid]
        cases h : atE first es id with
        | none => rfl
        | some e =>
          obtain ⟨i, hi, he⟩ := atE_iff.1 h
          have := (List.getElem?_eq_some_iff.1 he).1
          omega
      rw [hat]
      (refine G tt_ok pk223 ?_; repeat (refine G1 tt_ok pk223 ?_; intro _))
      refine ⟨k + 1, by omega, by omega, ⟨by rw [← hw]; rfl, by rw [rdK_none hae]; rfl, rfl, rfl, trivial⟩, ?_⟩
      exact pk_
theorem made_flat_of {α : Type} {enc : α → List Value} {a : α} (z : Array Value) (hz : enc a = z.toList) (hp : 0 < z.size) : ∀ n, (madeCells z (n * z.size)).toList = (List.replicate n a).flatMap enc
  | 0 => by simp [madeCells]
  | n + 1 => by
    have ih := made_flat_of z hz hp n
    rw [List.replicate_succ', List.flatMap_append, ← ih]
    simp only [madeCells, Array.toList_map, Array.toList_range, List.flatMap_cons, List.flatMap_nil, List.append_nil]
    rw [Nat.add_mul, Nat.one_mul, List.range_add, List.map_append, hz]
    congr 1
    apply List.ext_getElem?
    intro i
    rw [List.map_map]
    by_cases hi : i < z.size
    · simp [hi, Nat.mod_eq_of_lt hi, getElem!_pos]
    · simp [hi]
theorem made_flat (n : Nat) : (madeCells ti218.zero.cells (n * ti218.size)).toList = (List.replicate n zeroE).flatMap enC :=
  made_flat_of (enc := enC) (a := zeroE) ti218.zero.cells rfl (by decide) n
/-- A new bank's interrupts, some of them with what they have besides. -/
def newK (tx : Unit) (n k : Nat) : List En := List.replicate k (zeroE.1, tx) ++ List.replicate (n - k) zeroE
theorem newK_at {tx : Unit} {n k : Nat} (h : k < n) : (newK tx n k)[k]? = some zeroE := by
  obtain ⟨m, hm⟩ : ∃ m, n - k = m + 1 := ⟨n - k - 1, by omega⟩
  unfold newK
  rw [List.getElem?_append_right (by simp), List.length_replicate, Nat.sub_self, hm]
  rfl
theorem newK_set {tx : Unit} {n k : Nat} (h : k < n) : (newK tx n k).set k (zeroE.1, tx) = newK tx n (k + 1) := by
  unfold newK
  obtain ⟨m, hm⟩ : ∃ m, n - k = m + 1 := ⟨n - k - 1, by omega⟩
  rw [hm, show n - (k + 1) = m from by omega, List.set_append_right _ _ (by simp), List.length_replicate, Nat.sub_self, List.replicate_succ (n := m), List.set_cons_zero, List.replicate_succ' (n := k), List.append_assoc]
  rfl
set_option maxHeartbeats 2000000 in
theorem bankNew (β : Base) {first n : Int} (h0 : 0 ≤ first) (h1 : 0 ≤ n) (h2 : first + n ≤ 16384) (tx : Unit) :
    Tri Tryz.prog β 143 [.int .i64 first, .int .i64 n, (.agg #[])] [] (fun v L => ∃ b q0 c0, v = .tuple #[.pointer (some ⟨b, 0, none⟩), .int .i64 0] ∧ L = bkA b q0 c0 first (List.replicate n.toNat (zeroE.1, tx))) := by
  obtain ⟨m, rfl⟩ : ∃ m : Nat, n = (m : Int) := ⟨n.toNat, by omega⟩
  have hw0 : IntKind.i64.wrap (16384 - first) = 16384 - first := by rw [wrap_i64]; split <;> omega
  refine Tri.intro tt_ok Tryz.func143 rfl rfl Tryz.ntmps143 rfl fun F => ?_
  (refine G tt_ok [] ?_; repeat (refine G1 tt_ok [] ?_; intro _))
  rw [decide_eq_false (show ¬ first < 0 by omega)]
  (refine G tt_ok [] ?_; repeat (refine G1 tt_ok [] ?_; intro _))
  rw [decide_eq_false (show ¬ (m : Int) < 0 by omega)]
  (refine G tt_ok [] ?_; repeat (refine G1 tt_ok [] ?_; intro _))
  rw [decide_eq_false (show ¬ first > 16384 by omega)]
  (refine G tt_ok [] ?_; repeat (refine G1 tt_ok [] ?_; intro _))
  rw [hw0, decide_eq_false (show ¬ (m : Int) > 16384 - first by omega)]
  (refine G tt_ok [] ?_; repeat (refine G1 tt_ok [] ?_; intro _))
  refine SQ.makeT tt_ok rfl rfl rfl m rfl rfl (show m * 7 ≤ 16777216 by omega) (show 32 * m ≤ 281474976710656 by omega) (by omega) (fun eb => ⟨(by repeat (first | exact trivial | refine ⟨trivial, ?_⟩ | refine ⟨wk (by repeat (first | exact .h | exact .q | apply At.t)) (by rfl), ?_⟩)), ?_⟩)
  rw [made_flat]
  (refine G tt_ok [] ?_; repeat (refine G1 tt_ok [] ?_; intro _))
  rename_i b5 b
  refine CW.loop (α := Nat) (fun k => k ≤ m) (fun k => [(36, .int .i64 k), (35, .int .i64 m), (8, .pointer (some ⟨b, 0, none⟩)), (5, .pointer (some ⟨b5, 0, none⟩))])
    (fun k => [pt b [.int .i64 first, .slice (some ⟨eb, 0, none⟩) m m], ptT 218 eb ((List.replicate m zeroE).flatMap enC), pt b5 []]) (fun k => m - k) 0 (by omega) ⟨rfl, rfl, rfl, rfl, trivial⟩ pk_ ?_
  intro k hk
  (refine G tt_ok [] ?_; repeat (refine G1 tt_ok [] ?_; intro _))
  generalize e1 : decide ((k : Int) < (m : Int)) = cc
  cases cc
  · have : k = m := by simp at e1; omega
    subst this
    (refine G tt_ok [] ?_; repeat (refine G1 tt_ok [] ?_; intro _))
    refine CW.exit ?_
    (refine G tt_ok [] ?_; repeat (refine G1 tt_ok [] ?_; intro _))
    refine CW.ret (fin_ret rfl (Ent.trans (M := [pt b [.int .i64 first, .slice (some ⟨eb, 0, none⟩) k k], ptT 218 eb ((List.replicate k zeroE).flatMap enC)]) pk_ (Ent.cons _ (ptT_pt.trans (row_close0 (n := k))))) ?_)
    refine ⟨b, some ⟨eb, 0, none⟩, k, rfl, ?_⟩
    have : (zeroE.1, tx) = zeroE := rfl
    simp [bkA, this]
  · have hlt : k < m := by simp at e1; omega
    have hw : IntKind.i64.wrap ((k : Int) + 1) = ((k + 1 : Nat) : Int) := by rw [wrap_i64]; split <;> omega
    (refine G tt_ok [] ?_; repeat (refine G1 tt_ok [] ?_; intro _))
    refine CW.regionD tt_ok (by kernel_rfl) [(0, 0, []), (1, 0, []), (2, 0, []), (3, 0, []), (4, 0, []), (5, 0, []), (6, 0, []), (7, 1, [5]), (8, 1, [])] (by decide +kernel) ?_
    (refine G tt_ok [] ?_; repeat (refine G1 tt_ok [] ?_; intro _))
    refine SQ.idx tt_ok rfl rfl k rfl hlt (o' := 0 + k * 7) rfl ?_
    refine SQ.field0 rfl rfl 1 rfl Tryz.underlying218 rfl (fun w => (tt_ok.get (t := 194) rfl).run_sizeOf w) (q := 6) (x := 0) (y := 0) (by kernel_rfl) (by rw [show (0 + k * 7) % (6 + 1) = 0 by omega]; kernel_rfl) (by show byteOfCell Tryz.prog Tryz.prog.depth 218 ((0 + k * 7 + 7) % (6 + 1)) = some 0; rw [show (0 + k * 7 + 7) % (6 + 1) = 0 by omega]; kernel_rfl) (fun a => ⟨by repeat (first | exact trivial | refine ⟨trivial, ?_⟩ | refine ⟨wk (by repeat (first | exact .h | exact .q | apply At.t)) (by rfl), ?_⟩), ?_⟩)
    refine SQ.st0 tt_ok rfl rfl ⟨by repeat (first | exact trivial | refine ⟨trivial, ?_⟩ | refine ⟨wk (by repeat (first | exact .h | exact .q | apply At.t)) (by rfl), ?_⟩), ?_⟩
    (refine G tt_ok [] ?_; repeat (refine G1 tt_ok [] ?_; intro _))
    exact ⟨k + 1, by omega, by omega, ⟨by rw [← hw]; rfl, rfl, rfl, rfl, trivial⟩, pk_⟩
end Go.Proofs.YtebpodnbalfomaaGreatDoor.Sl.Bn
namespace Go.Proofs.YtebpodnbalfomaaGreatDoor.Sl.Br
open Go Go.RowKit Go.Proofs
set_option linter.unusedVariables false
set_option linter.unusedSimpArgs false
attribute [local irreducible] CW Tri OW
set_option maxRecDepth 10000
@[reducible] def pk52 : List (Nat × Plan) := [(3, [(0, 0, []), (1, 0, []), (2, 0, []), (3, 0, []), (4, 0, []), (5, 0, []), (6, 0, []), (7, 0, []), (8, 0, []), (9, 0, []), (10, 0, []), (11, 0, []), (12, 1, []), (13, 0, [])])]
@[reducible] def pk202 : List (Nat × Plan) := [(3, [(0, 0, []), (1, 0, []), (2, 0, []), (3, 0, []), (4, 0, []), (5, 0, []), (6, 0, []), (7, 0, []), (8, 0, []), (9, 0, []), (10, 0, []), (11, 0, [])])]
@[reducible] def pk54 : List (Nat × Plan) := [(6, [(0, 0, []), (1, 0, []), (2, 0, []), (3, 0, []), (4, 0, []), (5, 0, []), (6, 0, []), (7, 0, []), (8, 0, []), (9, 0, []), (10, 0, []), (11, 0, []), (12, 1, [])])]
@[reducible] def pk59 : List (Nat × Plan) := [(7, [(0, 0, []), (1, 0, []), (2, 0, []), (3, 0, []), (4, 0, []), (5, 0, []), (6, 0, []), (7, 1, [0, 1, 2, 4, 6]), (8, 1, [0, 1, 2, 4, 6]), (9, 1, [])])]
@[reducible] def pk55 : List (Nat × Plan) := [(5, [(0, 0, []), (1, 0, []), (2, 0, []), (3, 0, []), (4, 0, []), (5, 0, []), (6, 0, []), (7, 0, []), (8, 1, [2, 4, 5, 6, 7]), (9, 1, [2, 4, 5, 6, 7]), (10, 2, []), (11, 1, [])])]
@[reducible] def pk200 : List (Nat × Plan) := [(3, [(0, 0, []), (1, 0, []), (2, 0, []), (3, 0, []), (4, 0, []), (5, 0, []), (6, 0, []), (7, 0, []), (8, 1, []), (9, 0, [])])]
@[reducible] def pk223 : List (Nat × Plan) := [(7, [(0, 0, []), (1, 0, []), (2, 0, []), (3, 0, []), (4, 0, []), (5, 0, []), (6, 0, []), (7, 0, []), (8, 0, []), (9, 0, []), (10, 0, []), (11, 0, []), (12, 1, [1, 6, 9, 11]), (13, 1, [1, 6, 9, 11]), (14, 0, [])])]
@[reducible] def pl120_0 : Plan := [(0, 0, []), (1, 0, []), (2, 0, []), (3, 0, []), (4, 0, []), (5, 0, []), (6, 0, []), (7, 0, []), (8, 0, []), (9, 0, []), (10, 0, []), (11, 0, []), (12, 0, []), (13, 0, []), (14, 0, []), (15, 0, []), (16, 0, []), (17, 0, []), (18, 0, []), (19, 0, []), (20, 0, [])]
@[reducible] def pl54_0 : Plan := [(0, 0, []), (1, 0, []), (2, 0, []), (3, 0, []), (4, 0, []), (5, 0, []), (6, 0, []), (7, 0, []), (8, 0, []), (9, 0, []), (10, 0, []), (11, 0, []), (12, 1, [])]
-- part Fe
/-- An interrupt in a bank, and the text besides. -/
abbrev En := Ln × (Int × Bool)
@[reducible] def enC (x : En) : List Value := [.bool x.1.1.1, .bool x.1.1.2.1, .bool x.1.1.2.2.1, .bool x.1.1.2.2.2, .bool x.1.2.1, .int .i64 x.1.2.2.1, .int .i64 x.1.2.2.2, .int .i64 x.2.1, .bool x.2.2]
def atE (first : Int) (es : List En) (id : Int) : Option En := if id ≥ first then es[(id - first).toNat]? else none
/-- A bank, in two rows. -/
def bkA (b : Nat) (q0 : Option Addr) (c0 : Nat) (first : Int) (es : List En) : List Atom := [pt b [.int .i64 first, .slice q0 es.length c0], rowA q0 es.length (es.flatMap enC)]
theorem wrap_sub {id first : Int} (h0 : 0 ≤ first) (h1 : first ≤ 16384) (h2 : id ≥ first) (h3 : id < 9223372036854775808) : IntKind.i64.wrap (id - first) = id - first := by
  rw [wrap_i64]; split <;> omega
theorem has11 (β : Base) (b : Nat) (q0 : Option Addr) (c0 : Nat) (first id : Int) (n : Nat) (h0 : 0 ≤ first) (h1 : first ≤ 16384) (h3 : id < 9223372036854775808) :
    Tri Tryz.prog β 120 [.pointer (some ⟨b, 0, none⟩), .int .i64 id] [pt b [.int .i64 first, .slice q0 n c0]] (fun v L => v = .bool (decide (id ≥ first) && decide (id - first < n)) ∧ L = [pt b [.int .i64 first, .slice q0 n c0]]) := by
  refine Tri.intro tt_ok Tryz.func120 rfl rfl Tryz.ntmps120 rfl fun F => ?_
  by_cases h2 : id ≥ first
  · have hw := wrap_sub h0 h1 h2 h3
    (repeat' (first | refine CW.seq ?_ | refine CW.region tt_ok rfl ?_ | refine CW.regionD tt_ok (by kernel_rfl) pl120_0 (by decide +kernel) ?_ | refine CW.block ?_ | refine CW.skip ?_ | refine SQ.nil ?_ | refine SQ.pures1 tt_ok rfl ?_ | refine SQ.pure1 tt_ok rfl ?_ | refine SQ.new _ _ rfl rfl (fun _ => ?_) | refine SQ.ldA tt_ok rfl rfl (by repeat (first | exact .h | exact .q | apply At.t)) (by rfl) ?_ | refine SQ.stA tt_ok rfl rfl (by repeat (first | apply Up.h | apply Up.t)) (by rfl) (by rfl) (by repeat (first | exact trivial | refine ⟨trivial, ?_⟩ | refine ⟨wk (by repeat (first | exact .h | exact .q | apply At.t)) (by rfl), ?_⟩)) ?_ | refine CW.cond_tt rfl ?_ | refine CW.cond_ff rfl ?_ | ((first | refine CW.cond rfl (fun hc => ?_) (fun hc => ?_) | refine SQ.gsplit rfl (fun hc => ?_) (fun hc => ?_)) <;> try (exfalso; simp_all; done))))
    all_goals (refine CW.ret (fin_ret rfl (Ent.refl _) ⟨?_, rfl⟩); simp_all [packV])
  · (repeat' (first | refine CW.seq ?_ | refine CW.region tt_ok rfl ?_ | refine CW.regionD tt_ok (by kernel_rfl) pl120_0 (by decide +kernel) ?_ | refine CW.block ?_ | refine CW.skip ?_ | refine SQ.nil ?_ | refine SQ.pures1 tt_ok rfl ?_ | refine SQ.pure1 tt_ok rfl ?_ | refine SQ.new _ _ rfl rfl (fun _ => ?_) | refine SQ.ldA tt_ok rfl rfl (by repeat (first | exact .h | exact .q | apply At.t)) (by rfl) ?_ | refine SQ.stA tt_ok rfl rfl (by repeat (first | apply Up.h | apply Up.t)) (by rfl) (by rfl) (by repeat (first | exact trivial | refine ⟨trivial, ?_⟩ | refine ⟨wk (by repeat (first | exact .h | exact .q | apply At.t)) (by rfl), ?_⟩)) ?_ | refine CW.cond_tt rfl ?_ | refine CW.cond_ff rfl ?_ | ((first | refine CW.cond rfl (fun hc => ?_) (fun hc => ?_) | refine SQ.gsplit rfl (fun hc => ?_) (fun hc => ?_)) <;> try (exfalso; simp_all; done))))
    all_goals (refine CW.ret (fin_ret rfl (Ent.refl _) ⟨?_, rfl⟩); simp_all [packV])
    all_goals (first | omega | (exfalso; omega))
theorem atE_some {first : Int} {es : List En} {id : Int} {e : En} (h : atE first es id = some e) : id ≥ first ∧ (id - first).toNat < es.length ∧ es[(id - first).toNat]? = some e ∧ ((id - first).toNat : Int) = id - first ∧ (decide (id ≥ first) && decide (id - first < es.length)) = true := by
  unfold atE at h
  split at h
  · rename_i h1
    have h2 := (List.getElem?_eq_some_iff.1 h).1
    refine ⟨h1, h2, h, by omega, ?_⟩
    simp; omega
  · cases h
theorem atE_none {first : Int} {es : List En} {id : Int} (h : atE first es id = none) : (decide (id ≥ first) && decide (id - first < es.length)) = false := by
  unfold atE at h
  split at h
  · rename_i h1
    have h2 := List.getElem?_eq_none_iff.1 h
    simp; omega
  · rename_i h1
    simp; omega
theorem hasIs (β : Base) (b : Nat) (q0 : Option Addr) (c0 : Nat) {first id : Int} {es : List En} (h0 : 0 ≤ first) (h1 : first ≤ 16384) (h3 : id < 9223372036854775808) {c : Bool} (h : (decide (id ≥ first) && decide (id - first < es.length)) = c) :
    Tri Tryz.prog β 120 [.pointer (some ⟨b, 0, none⟩), .int .i64 id] [pt b [.int .i64 first, .slice q0 es.length c0]] (fun v L => v = .bool c ∧ L = [pt b [.int .i64 first, .slice q0 es.length c0]]) := by
  rw [← h]; exact has11 β b q0 c0 first id es.length h0 h1 h3
theorem rd_en {es : List En} {k : Nat} {e : En} (h : es[k]? = some e) (X : List Value) : rdv ti128 (es.flatMap enC ++ X) (0 + k * 9) = some (.agg (enC e).toArray) :=
  rd_partR (enc := enC) (sz := 9) (fun _ => rfl) h 0 (i := ti128) rfl (by decide) (by omega) (by decide) X
theorem bk_open {b : Nat} {q0 : Option Addr} {c0 : Nat} {first : Int} {es : List En} (h : 0 < es.length) : Ent (bkA b q0 c0 first es) [exA fun x : Nat × List Value => [pureA (q0 = some ⟨x.1, 0, none⟩), pt x.1 (es.flatMap enC ++ x.2), pt b [.int .i64 first, .slice q0 es.length c0]]] := by
  intro hp s
  obtain ⟨h1, h2, a, st, d, rfl⟩ := s
  obtain ⟨k, ⟨k1, k2, ⟨x, sx⟩, e0, d2, rfl⟩, le⟩ := row_open (q := q0) (cs := es.flatMap enC) h h2 st
  obtain rfl : k2 = Hp.emp := e0
  rw [Hp.add_emp] at le
  have hd : Hp.disj h1 k1 := Hp.disj_le (Hp.le_refl _) le d
  have hs : star ([pureA (q0 = some ⟨x.1, 0, none⟩), pt x.1 (es.flatMap enC ++ x.2)] ++ [pt b [.int .i64 first, .slice q0 es.length c0]]) (Hp.add k1 h1) :=
    star_append.2 ⟨k1, h1, sx, ⟨h1, Hp.emp, a, rfl, Hp.disj_emp _, (Hp.add_emp _).symm⟩, Hp.disj_comm hd, rfl⟩
  refine ⟨Hp.add k1 h1, ⟨_, Hp.emp, ⟨x, hs⟩, rfl, Hp.disj_emp _, (Hp.add_emp _).symm⟩, ?_⟩
  rw [Hp.add_comm (Hp.disj_comm hd)]
  exact Hp.add_le_add (Hp.le_refl _) le d
theorem bk_close {b g n : Nat} {first : Int} {cs rest : List Value} {v : Value} : Ent [pt g (cs ++ rest), pt b [.int .i64 first, v]] [pt b [.int .i64 first, v], rowA (some ⟨g, 0, none⟩) n cs] :=
  Ent.trans (Ent.sel (is := [1, 0]) rfl) (Ent.cons _ row_close)
def zeroE : En := (((false, false, false, false), false, 0, 0), (0, false))
def getV (first : Int) (es : List En) (id : Int) : En × Int := match atE first es id with
  | some e => (e, 0)
  | none => (zeroE, 90)
theorem get14 (β : Base) (b : Nat) (q0 : Option Addr) (c0 : Nat) {first id : Int} {es : List En} (h0 : 0 ≤ first) (h1 : first ≤ 16384) (h3 : id < 9223372036854775808) :
    Tri Tryz.prog β 52 [.pointer (some ⟨b, 0, none⟩), .int .i64 id] (bkA b q0 c0 first es) (fun v L => v = .tuple #[.agg (enC (getV first es id).1).toArray, .int .i64 (getV first es id).2] ∧ L = bkA b q0 c0 first es) := by
  refine Tri.intro tt_ok Tryz.func52 rfl rfl Tryz.ntmps52 rfl fun F => ?_
  cases h : atE first es id with
  | none =>
    (refine G tt_ok pk52 ?_; repeat (refine G1 tt_ok pk52 ?_; intro _))
    refine ke rfl rfl (hasIs β b q0 c0 h0 h1 h3 (atE_none h)) ?_
    (refine G tt_ok pk52 ?_; repeat (refine G1 tt_ok pk52 ?_; intro _))
    refine CW.ret (fin_cells [_, _] ⟨⟨_, _, _, _, 1, rfl, rfl, rfl, rfl⟩, rfl, trivial⟩ pk_ ⟨?_, rfl⟩)
    simp [packV, getV, h, zeroE, enC]
  | some e =>
    obtain ⟨g1, g2, g3, g4, g5⟩ := atE_some h
    have hw := wrap_sub h0 h1 g1 h3
    refine CW.ent (bk_open (by omega)) (CW.open_ fun y => ?_)
    obtain ⟨g, rest⟩ := y
    refine CW.pure_ fun hv => ?_
    simp only at hv
    subst hv
    (refine G tt_ok pk52 ?_; repeat (refine G1 tt_ok pk52 ?_; intro _))
    refine ke rfl rfl (hasIs β b _ c0 h0 h1 h3 g5) ?_
    (refine G tt_ok pk52 ?_; repeat (refine G1 tt_ok pk52 ?_; intro _))
    refine SQ.idx tt_ok rfl rfl (id - first).toNat (by rw [hw, g4]) g2 (o' := 0 + (id - first).toNat * 9) rfl ?_
    refine SQ.load tt_ok rfl rfl 2 rfl (rd_en g3 rest) ?_
    (refine G tt_ok pk52 ?_; repeat (refine G1 tt_ok pk52 ?_; intro _))
    refine CW.ret (fin_cells [_, _] ⟨⟨_, _, _, _, 1, rfl, rfl, rfl, rfl⟩, rfl, trivial⟩ (Ent.trans pk_ (bk_close)) ⟨?_, rfl⟩)
    simp [packV, getV, h, zeroE, enC]
theorem rd_iq {es : List En} {k : Nat} {e : En} (h : es[k]? = some e) (X : List Value) : rdv ti77 (es.flatMap enC ++ X) (0 + k * 9) = some (.agg #[.bool e.1.1.1, .bool e.1.1.2.1, .bool e.1.1.2.2.1, .bool e.1.1.2.2.2]) :=
  rd_partR (enc := enC) (sz := 9) (fun _ => rfl) h 0 (i := ti77) rfl (by decide) (by omega) (by decide) X
theorem wr_iq {es : List En} {k : Nat} {e : En} (h : es[k]? = some e) (q : Iq) (X : List Value) : wrv ti77 (es.flatMap enC ++ X) (0 + k * 9) (.agg #[.bool q.1, .bool q.2.1, .bool q.2.2.1, .bool q.2.2.2]) = some ((es.set k ((q, e.1.2), e.2)).flatMap enC ++ X) :=
  wr_encR (enc := enC) (sz := 9) (fun _ => rfl) h 0 (i := ti77) (by decide) rfl rfl (by omega) X
/-- What befalls an interrupt of a bank. -/
def doV (first : Int) (es : List En) (id x : Int) : List En × Int := match atE first es id with
  | some e => (es.set (id - first).toNat ((stepI e.1.1 x, e.1.2), e.2), 0)
  | none => (es, 90)
theorem doV_len (first : Int) (es : List En) (id x : Int) : (doV first es id x).1.length = es.length := by
  unfold doV; split <;> simp
theorem do35 (β : Base) (b : Nat) (q0 : Option Addr) (c0 : Nat) {first id x : Int} {es : List En} (h0 : 0 ≤ first) (h1 : first ≤ 16384) (h3 : id < 9223372036854775808) :
    Tri Tryz.prog β 202 [.pointer (some ⟨b, 0, none⟩), .int .i64 id, .int .i64 x] (bkA b q0 c0 first es) (fun v L => v = .int .i64 (doV first es id x).2 ∧ L = bkA b q0 c0 first (doV first es id x).1) := by
  refine Tri.intro tt_ok Tryz.func202 rfl rfl Tryz.ntmps202 rfl fun F => ?_
  unfold bkA
  rw [doV_len]
  cases h : atE first es id with
  | none =>
    rw [show doV first es id x = (es, 90) by simp [doV, h]]
    refine G tt_ok pk202 ?_
    refine ke rfl rfl (hasIs β b q0 c0 h0 h1 h3 (atE_none h)) ?_
    refine G tt_ok pk202 ?_
    exact CW.ret (fin_ret rfl pk_ ⟨rfl, rfl⟩)
  | some e =>
    obtain ⟨g1, g2, g3, g4, g5⟩ := atE_some h
    have hw := wrap_sub h0 h1 g1 h3
    rw [show doV first es id x = (es.set (id - first).toNat ((stepI e.1.1 x, e.1.2), e.2), 0) by simp [doV, h]]
    refine CW.ent (bk_open (by omega)) (CW.open_ fun y => ?_)
    obtain ⟨g, rest⟩ := y
    refine CW.pure_ fun hv => ?_
    simp only at hv
    subst hv
    refine G tt_ok pk202 ?_
    refine ke rfl rfl (hasIs β b _ c0 h0 h1 h3 g5) ?_
    refine G tt_ok pk202 ?_
    refine SQ.idx tt_ok rfl rfl (id - first).toNat (by rw [hw, g4]) g2 (o' := 0 + (id - first).toNat * 9) rfl ?_
    refine G tt_ok pk202 ?_
    refine SQ.load tt_ok rfl rfl 1 rfl (rd_iq g3 rest) ?_
    refine G tt_ok pk202 ?_
    refine ke rfl rfl (step48' β _ _ _ _ _) ?_
    refine G tt_ok pk202 ?_
    refine SQ.store tt_ok rfl rfl 1 rfl rfl (wr_iq g3 (stepI e.1.1 x) rest) rfl (by repeat (first | exact trivial | refine ⟨trivial, ?_⟩ | refine ⟨wk (by repeat (first | exact .h | exact .q | apply At.t)) (by rfl), ?_⟩)) ?_
    refine G tt_ok pk202 ?_
    exact CW.ret (fin_ret rfl (Ent.trans pk_ (bk_close)) ⟨rfl, rfl⟩)
-- part Ff
theorem wr_en {es : List En} {k : Nat} {e : En} (h : es[k]? = some e) (q : En) (X : List Value) : wrv ti128 (es.flatMap enC ++ X) (0 + k * 9) (.agg (enC q).toArray) = some ((es.set k q).flatMap enC ++ X) :=
  wr_encR (enc := enC) (sz := 9) (fun _ => rfl) h 0 (i := ti128) (by decide) rfl rfl (by omega) X
def putV (first : Int) (es : List En) (id : Int) (q : En) : List En × Int := match atE first es id with
  | some e => if q.1.2.2.1 < 0 ∨ q.1.2.2.1 > 1 ∨ q.1.2.2.2 < 0 ∨ q.1.2.2.2 > 255 then (es, 1) else (es.set (id - first).toNat ((q.1.1, q.1.2.1, q.1.2.2.1, realV q.1.2.2.2), q.2), 0)
  | none => (es, 90)
theorem putV_len (first : Int) (es : List En) (id : Int) (q : En) : (putV first es id q).1.length = es.length := by
  unfold putV; split
  · split <;> simp
  · rfl
set_option maxHeartbeats 4000000 in
theorem put30 (β : Base) (b : Nat) (q0 : Option Addr) (c0 : Nat) {first id : Int} {es : List En} (q : En) (h0 : 0 ≤ first) (h1 : first ≤ 16384) (h3 : id < 9223372036854775808) :
    Tri Tryz.prog β 54 [.pointer (some ⟨b, 0, none⟩), .int .i64 id, .agg (enC q).toArray] (bkA b q0 c0 first es) (fun v L => v = .int .i64 (putV first es id q).2 ∧ L = bkA b q0 c0 first (putV first es id q).1) := by
  refine Tri.intro tt_ok Tryz.func54 rfl rfl Tryz.ntmps54 rfl fun F => ?_
  unfold bkA
  rw [putV_len]
  cases h : atE first es id with
  | none =>
    rw [show putV first es id q = (es, 90) by simp [putV, h]]
    (refine G tt_ok pk54 ?_; repeat (refine G1 tt_ok pk54 ?_; intro _))
    refine ke rfl rfl (hasIs β b q0 c0 h0 h1 h3 (atE_none h)) ?_
    (refine G tt_ok pk54 ?_; repeat (refine G1 tt_ok pk54 ?_; intro _))
    exact CW.ret (fin_ret rfl pk_ ⟨rfl, rfl⟩)
  | some e =>
    obtain ⟨g1, g2, g3, g4, g5⟩ := atE_some h
    have hw := wrap_sub h0 h1 g1 h3
    refine CW.ent (bk_open (by omega)) (CW.open_ fun y => ?_)
    obtain ⟨g, rest⟩ := y
    refine CW.pure_ fun hv => ?_
    simp only at hv
    subst hv
    (refine G tt_ok pk54 ?_; repeat (refine G1 tt_ok pk54 ?_; intro _))
    refine ke rfl rfl (hasIs β b _ c0 h0 h1 h3 g5) ?_
    (repeat' (first | refine CW.seq ?_ | refine CW.region tt_ok rfl ?_ | refine CW.regionD tt_ok (by kernel_rfl) pl54_0 (by decide +kernel) ?_ | refine CW.block ?_ | refine CW.skip ?_ | refine SQ.nil ?_ | refine SQ.pures1 tt_ok rfl ?_ | refine SQ.pure1 tt_ok rfl ?_ | refine SQ.new _ _ rfl rfl (fun _ => ?_) | refine SQ.ldA tt_ok rfl rfl (by repeat (first | exact .h | exact .q | apply At.t)) (by rfl) ?_ | refine SQ.stA tt_ok rfl rfl (by repeat (first | apply Up.h | apply Up.t)) (by rfl) (by rfl) (by repeat (first | exact trivial | refine ⟨trivial, ?_⟩ | refine ⟨wk (by repeat (first | exact .h | exact .q | apply At.t)) (by rfl), ?_⟩)) ?_ | refine CW.cond_tt rfl ?_ | refine CW.cond_ff rfl ?_ | (refine SQ.callA rfl rfl (real50' β _) (by repeat (first | exact .n | exact Rm.h | exact Rm.of own_row | exact Rm.of row_close0 | apply Tk.c | apply Rm.t)) ?_; rintro _ _ ⟨rfl, rfl⟩; refine ⟨(by repeat (first | exact trivial | refine ⟨trivial, ?_⟩ | refine ⟨wk (by repeat (first | exact .h | exact .q | apply At.t)) (by rfl), ?_⟩)), ?_⟩) | ((first | refine CW.cond rfl (fun hc => ?_) (fun hc => ?_) | refine SQ.gsplit rfl (fun hc => ?_) (fun hc => ?_)) <;> try (exfalso; simp_all; done))))
    all_goals (first
      | (refine CW.ret (fin_ret rfl (Ent.trans pk_ (bk_close (b := b) (g := g) (n := es.length) (first := first) (rest := rest) (v := .slice (some ⟨g, 0, none⟩) es.length c0) (cs := es.flatMap enC))) ⟨?_, ?_⟩)
         · simp_all [packV, putV]
         · simp_all [putV])
      | (refine SQ.idx tt_ok rfl rfl (id - first).toNat (by rw [hw, g4]) g2 (o' := 0 + (id - first).toNat * 9) rfl ?_
         refine SQ.stA tt_ok rfl rfl (by repeat (first | apply Up.h | apply Up.t)) (by rfl) (wr_en g3 ((q.1.1, q.1.2.1, q.1.2.2.1, realV q.1.2.2.2), q.2) rest) (by repeat (first | exact trivial | refine ⟨trivial, ?_⟩ | refine ⟨wk (by repeat (first | exact .h | exact .q | apply At.t)) (by rfl), ?_⟩)) ?_
         (refine G tt_ok pk54 ?_; repeat (refine G1 tt_ok pk54 ?_; intro _))
         refine CW.ret (fin_ret rfl (Ent.trans pk_ (bk_close (b := b) (g := g) (n := es.length) (first := first) (rest := rest) (v := .slice (some ⟨g, 0, none⟩) es.length c0) (cs := (es.set (id - first).toNat ((q.1.1, q.1.2.1, q.1.2.2.1, realV q.1.2.2.2), q.2)).flatMap enC))) ⟨?_, ?_⟩)
         · simp_all [packV, putV]; rw [if_neg (by omega)]
         · simp_all [putV]; rw [if_neg (by omega)]))
-- part Fh
theorem idsV_len (f : Int) : ∀ n, (idsV f n).length = n
  | 0 => rfl
  | n + 1 => by simp [idsV, idsV_len f n]
theorem idsV_at (f : Int) : ∀ {n i : Nat}, i < n → (idsV f n)[i]? = some (IntKind.i64.wrap (f + i))
  | n + 1, i, h => by
    simp only [idsV]
    by_cases e : i = n
    · subst e; rw [List.getElem?_append_right (by rw [idsV_len]; omega), idsV_len]; simp
    · rw [List.getElem?_append_left (by rw [idsV_len]; omega)]; exact idsV_at f (by omega)
theorem pre_at {f : Int} {n : Nat} {pre : List Int} {x : Int} (h : (pre ++ [x]) <+: idsV f n) : pre.length < n ∧ x = IntKind.i64.wrap (f + pre.length) := by
  obtain ⟨t, ht⟩ := h
  have hl := congrArg List.length ht
  rw [idsV_len] at hl
  simp at hl
  have h1 : (idsV f n)[pre.length]? = some x := by rw [← ht]; simp
  rw [idsV_at f (by omega)] at h1
  exact ⟨by omega, by simpa using h1.symm⟩
theorem wrap_lt (x : Int) : IntKind.i64.wrap x < 9223372036854775808 := by rw [wrap_i64]; split <;> omega
def rdK (first : Int) (es : List En) (r f c : Int) : Nat → Int
  | 0 => 0
  | k + 1 => match atE first es (IntKind.i64.wrap (f + k)) with
    | some e => withV (rdK first es r f c k) r c k (showsV e.1 r)
    | none => rdK first es r f c k
theorem getSome (β : Base) (b : Nat) (q0 : Option Addr) (c0 : Nat) {first id : Int} {es : List En} {e : En} (h0 : 0 ≤ first) (h1 : first ≤ 16384) (h3 : id < 9223372036854775808) (h : atE first es id = some e) :
    Tri Tryz.prog β 52 [.pointer (some ⟨b, 0, none⟩), .int .i64 id] [pt b [.int .i64 first, .slice q0 es.length c0], rowA q0 es.length (es.flatMap enC)] (fun v L => v = .tuple #[.agg #[.bool e.1.1.1, .bool e.1.1.2.1, .bool e.1.1.2.2.1, .bool e.1.1.2.2.2, .bool e.1.2.1, .int .i64 e.1.2.2.1, .int .i64 e.1.2.2.2, .int .i64 e.2.1, .bool e.2.2], .int .i64 0] ∧
      L = [pt b [.int .i64 first, .slice q0 es.length c0], rowA q0 es.length (es.flatMap enC)]) := by
  have := get14 β b q0 c0 (es := es) h0 h1 h3
  simp only [getV, h] at this
  exact this
theorem getNone (β : Base) (b : Nat) (q0 : Option Addr) (c0 : Nat) {first id : Int} {es : List En} (h0 : 0 ≤ first) (h1 : first ≤ 16384) (h3 : id < 9223372036854775808) (h : atE first es id = none) :
    Tri Tryz.prog β 52 [.pointer (some ⟨b, 0, none⟩), .int .i64 id] [pt b [.int .i64 first, .slice q0 es.length c0], rowA q0 es.length (es.flatMap enC)] (fun v L => v = .tuple #[.agg #[.bool false, .bool false, .bool false, .bool false, .bool false, .int .i64 0, .int .i64 0, .int .i64 0, .bool false], .int .i64 90] ∧
      L = [pt b [.int .i64 first, .slice q0 es.length c0], rowA q0 es.length (es.flatMap enC)]) := by
  have := get14 β b q0 c0 (es := es) h0 h1 h3
  simp only [getV, h] at this
  exact this
set_option maxHeartbeats 2000000 in
theorem read12 (β : Base) (b : Nat) (q0 : Option Addr) (c0 : Nat) {first : Int} {es : List En} (h0 : 0 ≤ first) (h1 : first ≤ 16384) (r f c : Int) :
    Tri Tryz.prog β 59 [.pointer (some ⟨b, 0, none⟩), .agg #[.int .i64 r, .int .i64 f, .int .i64 c]] (bkA b q0 c0 first es) (fun v L => v = .int .u64 (rdK first es r f c (cntV c)) ∧ L = bkA b q0 c0 first es) := by
  refine Tri.intro tt_ok Tryz.func59 rfl rfl Tryz.ntmps59 rfl fun F => ?_
  unfold bkA
  (refine G tt_ok pk59 ?_; repeat (refine G1 tt_ok pk59 ?_; intro _))
  rename_i b2 b3 b5 b6
  (refine SQ.call rfl rfl (ids25 β r f c) [] rfl ?_; rintro _ _ ⟨b1, rfl, rfl⟩; refine w_ ?_)
  (refine G tt_ok pk59 ?_; repeat (refine G1 tt_ok pk59 ?_; intro _))
  refine CW.rangeFunc rfl (iter44 β r f c b1) [0] rfl
    (fun pre => [pt b6 [.int .i64 pre.length], pt b5 [.int .u64 (rdK first es r f c pre.length)], pt b3 [.int .i64 r, .int .i64 f, .int .i64 c], pt b2 [.pointer (some ⟨b, 0, none⟩)], pt b [.int .i64 first, .slice q0 es.length c0], rowA q0 es.length (es.flatMap enC)])
    (fun _ _ => False) (Ent.refl _) (fun _ => rfl) (by decide) ?_ ?_ (fun _ _ h => h.elim)
  · intro pre x hpre l fm rec1
    obtain ⟨hlt, hx⟩ := pre_at hpre
    have hx3 : x < 9223372036854775808 := by rw [hx]; exact wrap_lt _
    have hle : cntV c ≤ 16384 := by unfold cntV; omega
    have hw : IntKind.i64.wrap ((pre.length : Int) + 1) = (((pre ++ [x]).length : Nat) : Int) := by rw [wrap_i64]; simp; split <;> omega
    have hstep : rdK first es r f c (pre ++ [x]).length = match atE first es x with
      | some e => withV (rdK first es r f c pre.length) r c pre.length (showsV e.1 r)
      | none => rdK first es r f c pre.length := by rw [List.length_append, hx]; rfl
    (refine G tt_ok pk59 ?_; repeat (refine G1 tt_ok pk59 ?_; intro _))
    intro fm2 rec2
    (refine G tt_ok pk59 ?_; repeat (refine G1 tt_ok pk59 ?_; intro _))
    cases h : atE first es x with
    | none =>
      rw [h] at hstep
      (refine SQ.call rfl rfl (getNone β b q0 c0 h0 h1 hx3 h) [4, 4] rfl ?_; rintro _ _ ⟨rfl, rfl⟩; refine w_ ?_)
      (refine G tt_ok pk59 ?_; repeat (refine G1 tt_ok pk59 ?_; intro _))
      rw [hstep, ← hw]
      exact Ent.sel (is := [3, 3, 3, 3, 1, 1, 1]) rfl
    | some e =>
      rw [h] at hstep
      (refine SQ.call rfl rfl (getSome β b q0 c0 h0 h1 hx3 h) [4, 4] rfl ?_; rintro _ _ ⟨rfl, rfl⟩; refine w_ ?_)
      (refine G tt_ok pk59 ?_; repeat (refine G1 tt_ok pk59 ?_; intro _))
      (refine SQ.call rfl rfl (shows27 β _ _ _ _ _ _ _ _) [] rfl ?_; rintro _ _ ⟨rfl, rfl⟩; refine w_ ?_)
      (refine G tt_ok pk59 ?_; repeat (refine G1 tt_ok pk59 ?_; intro _))
      (refine SQ.call rfl rfl (with26 β _ r f c _ _) [] rfl ?_; rintro _ _ ⟨rfl, rfl⟩; refine w_ ?_)
      (refine G tt_ok pk59 ?_; repeat (refine G1 tt_ok pk59 ?_; intro _))
      rw [hstep, ← hw]
      exact Ent.sel (is := [3, 3, 3, 3, 1, 1, 1]) rfl
  · (refine G tt_ok pk59 ?_; repeat (refine G1 tt_ok pk59 ?_; intro _))
    rw [idsV_len]
    refine CW.ret (fin_ret rfl (Ent.sel (is := [4, 4]) rfl) ⟨rfl, rfl⟩)
/-- What a place's write makes of a bank: how many are others, and the bank. -/
def wr1 (first : Int) (es : List En) (r f c v : Int) (k : Nat) : List En × Bool :=
  match atE first es (IntKind.i64.wrap (f + k)) with
  | some e => let l := writtenV (IntKind.i64.wrap (f + k)) e.1 r (fieldV v r c k)
    if l = e.1 then (es, false) else ((putV first es (IntKind.i64.wrap (f + k)) (l, e.2)).1, true)
  | none => (es, false)
def wrK (first : Int) (es : List En) (r f c v : Int) : Nat → List En × Nat
  | 0 => (es, 0)
  | k + 1 => let p := wrK first es r f c v k
    let q := wr1 first p.1 r f c v k
    (q.1, p.2 + if q.2 then 1 else 0)
theorem wr1_len (first : Int) (es : List En) (r f c v : Int) (k : Nat) : (wr1 first es r f c v k).1.length = es.length := by
  unfold wr1; split
  · simp only; split
    · rfl
    · exact putV_len _ _ _ _
  · rfl
theorem wrK_len (first : Int) (es : List En) (r f c v : Int) : ∀ k, (wrK first es r f c v k).1.length = es.length
  | 0 => rfl
  | k + 1 => by simp only [wrK]; rw [wr1_len, wrK_len first es r f c v k]
theorem wrK_cnt (first : Int) (es : List En) (r f c v : Int) : ∀ k, (wrK first es r f c v k).2 ≤ k
  | 0 => Nat.le_refl _
  | k + 1 => by simp only [wrK]; have := wrK_cnt first es r f c v k; split <;> omega
-- part Fi
theorem written28' (β : Base) (id : Int) (e l t a en : Bool) (g p r x : Int) : Tri Tryz.prog β 122 [.int .i64 id, .agg #[.bool e, .bool l, .bool t, .bool a, .bool en, .int .i64 g, .int .i64 p], .int .i64 r, .int .u64 x] []
    (fun v L => v = .agg #[.bool (writtenV id ((e, l, t, a), en, g, p) r x).1.1, .bool (writtenV id ((e, l, t, a), en, g, p) r x).1.2.1, .bool (writtenV id ((e, l, t, a), en, g, p) r x).1.2.2.1, .bool (writtenV id ((e, l, t, a), en, g, p) r x).1.2.2.2, .bool (writtenV id ((e, l, t, a), en, g, p) r x).2.1, .int .i64 (writtenV id ((e, l, t, a), en, g, p) r x).2.2.1, .int .i64 (writtenV id ((e, l, t, a), en, g, p) r x).2.2.2] ∧ L = []) := written28 β id e l t a en g p r x
theorem put30' (β : Base) (b : Nat) (q0 : Option Addr) (c0 : Nat) {first id : Int} {es : List En} (q : En) (h0 : 0 ≤ first) (h1 : first ≤ 16384) (h3 : id < 9223372036854775808) :
    Tri Tryz.prog β 54 [.pointer (some ⟨b, 0, none⟩), .int .i64 id, .agg #[.bool q.1.1.1, .bool q.1.1.2.1, .bool q.1.1.2.2.1, .bool q.1.1.2.2.2, .bool q.1.2.1, .int .i64 q.1.2.2.1, .int .i64 q.1.2.2.2, .int .i64 q.2.1, .bool q.2.2]] [pt b [.int .i64 first, .slice q0 es.length c0], rowA q0 es.length (es.flatMap enC)]
      (fun v L => ∃ u, v = .int .i64 u ∧ L = [pt b [.int .i64 first, .slice q0 es.length c0], rowA q0 (putV first es id q).1.length ((putV first es id q).1.flatMap enC)]) :=
  (put30 β b q0 c0 q h0 h1 h3).mono fun v L ⟨e1, e2⟩ => ⟨_, e1, by rw [e2, bkA, putV_len]⟩
set_option maxHeartbeats 4000000 in
theorem write13 (β : Base) (b : Nat) (q0 : Option Addr) (c0 : Nat) {first : Int} {es0 : List En} (h0 : 0 ≤ first) (h1 : first ≤ 16384) (r f c v : Int) :
    Tri Tryz.prog β 55 [.pointer (some ⟨b, 0, none⟩), .agg #[.int .i64 r, .int .i64 f, .int .i64 c], .int .u64 v] (bkA b q0 c0 first es0) (fun u L => u = .int .i64 (wrK first es0 r f c v (cntV c)).2 ∧ L = bkA b q0 c0 first (wrK first es0 r f c v (cntV c)).1) := by
  refine Tri.intro tt_ok Tryz.func55 rfl rfl Tryz.ntmps55 rfl fun F => ?_
  unfold bkA
  (refine G tt_ok pk55 ?_; repeat (refine G1 tt_ok pk55 ?_; intro _))
  rename_i b3 b4 b5 b7 b8
  (refine SQ.call rfl rfl (ids25 β r f c) [] rfl ?_; rintro _ _ ⟨b1, rfl, rfl⟩; refine w_ ?_)
  (refine G tt_ok pk55 ?_; repeat (refine G1 tt_ok pk55 ?_; intro _))
  refine CW.rangeFunc rfl (iter44 β r f c b1) [0] rfl
    (fun pre => [pt b8 [.int .i64 pre.length], pt b7 [.int .i64 ((wrK first es0 r f c v pre.length).2 : Int)], pt b5 [.int .u64 v], pt b4 [.int .i64 r, .int .i64 f, .int .i64 c], pt b3 [.pointer (some ⟨b, 0, none⟩)], pt b [.int .i64 first, .slice q0 (wrK first es0 r f c v pre.length).1.length c0], rowA q0 (wrK first es0 r f c v pre.length).1.length ((wrK first es0 r f c v pre.length).1.flatMap enC)])
    (fun _ _ => False) (Ent.refl _) (fun _ => rfl) (by decide) ?_ ?_ (fun _ _ h => h.elim)
  · intro pre x hpre l fm rec1
    obtain ⟨hlt, hx⟩ := pre_at hpre
    have hx3 : x < 9223372036854775808 := by rw [hx]; exact wrap_lt _
    have hle : cntV c ≤ 16384 := by unfold cntV; omega
    have hw : IntKind.i64.wrap ((pre.length : Int) + 1) = (((pre ++ [x]).length : Nat) : Int) := by rw [wrap_i64]; simp; split <;> omega
    have hcn := wrK_cnt first es0 r f c v pre.length
    have hstep : wrK first es0 r f c v (pre ++ [x]).length = ((wr1 first (wrK first es0 r f c v pre.length).1 r f c v pre.length).1, (wrK first es0 r f c v pre.length).2 + if (wr1 first (wrK first es0 r f c v pre.length).1 r f c v pre.length).2 then 1 else 0) := by rw [List.length_append]; rfl
    rw [hstep]
    generalize wrK first es0 r f c v pre.length = z at hcn ⊢
    obtain ⟨es, m⟩ := z
    simp only at hcn ⊢
    have hwm : IntKind.i64.wrap ((m : Int) + 1) = ((m + 1 : Nat) : Int) := by rw [wrap_i64]; split <;> omega
    (refine G tt_ok pk55 ?_; repeat (refine G1 tt_ok pk55 ?_; intro _))
    intro fm2 rec2
    (refine G tt_ok pk55 ?_; repeat (refine G1 tt_ok pk55 ?_; intro _))
    cases h : atE first es x with
    | none =>
      have hq : wr1 first es r f c v pre.length = (es, false) := by simp only [wr1, ← hx, h]
      rw [hq]
      (refine SQ.call rfl rfl (getNone β b q0 c0 h0 h1 hx3 h) [5, 5] rfl ?_; rintro _ _ ⟨rfl, rfl⟩; refine w_ ?_)
      (refine G tt_ok pk55 ?_; repeat (refine G1 tt_ok pk55 ?_; intro _))
      (refine SQ.call rfl rfl (field29 β v r f c _) [] rfl ?_; rintro _ _ ⟨rfl, rfl⟩; refine w_ ?_)
      (refine G tt_ok pk55 ?_; repeat (refine G1 tt_ok pk55 ?_; intro _))
      (refine SQ.call rfl rfl (written28' β _ _ _ _ _ _ _ _ _ _) [] rfl ?_; rintro _ _ ⟨rfl, rfl⟩; refine w_ ?_)
      (refine G tt_ok pk55 ?_; repeat (refine G1 tt_ok pk55 ?_; intro _))
      rw [← hw]
      exact Ent.sel (is := [4, 4, 4, 4, 4, 2, 2, 2]) rfl
    | some e =>
      obtain ⟨⟨⟨a1, a2, a3, a4⟩, en, g, p⟩, tx⟩ := e
      (refine SQ.call rfl rfl (getSome β b q0 c0 h0 h1 hx3 h) [5, 5] rfl ?_; rintro _ _ ⟨rfl, rfl⟩; refine w_ ?_)
      (refine G tt_ok pk55 ?_; repeat (refine G1 tt_ok pk55 ?_; intro _))
      (refine SQ.call rfl rfl (field29 β v r f c _) [] rfl ?_; rintro _ _ ⟨rfl, rfl⟩; refine w_ ?_)
      (refine G tt_ok pk55 ?_; repeat (refine G1 tt_ok pk55 ?_; intro _))
      have hcall := written28' β x a1 a2 a3 a4 en g p r (fieldV v r c pre.length)
      have hq : wr1 first es r f c v pre.length = (let l := writtenV x ((a1, a2, a3, a4), en, g, p) r (fieldV v r c pre.length)
        if l = ((a1, a2, a3, a4), en, g, p) then (es, false) else ((putV first es x (l, tx)).1, true)) := by simp only [wr1, ← hx, h]
      generalize writtenV x ((a1, a2, a3, a4), en, g, p) r (fieldV v r c pre.length) = W at hcall hq
      obtain ⟨⟨w1, w2, w3, w4⟩, w5, w6, w7⟩ := W
      simp only at hcall hq
      rw [hq]
      (refine SQ.call rfl rfl (hcall) [] rfl ?_; rintro _ _ ⟨rfl, rfl⟩; refine w_ ?_)
      (refine G tt_ok pk55 ?_; repeat (refine G1 tt_ok pk55 ?_; intro _))
      by_cases hl : (((w1, w2, w3, w4), w5, w6, w7) : Ln) = ((a1, a2, a3, a4), en, g, p)
      · rw [if_pos hl]
        refine SQ.eqn tt_ok [110, 77] ⟨by kernel_rfl, by kernel_rfl, trivial⟩ rfl rfl (by kernel_rfl) false (by simp at hl ⊢; simp [hl]) ?_
        (refine G tt_ok pk55 ?_; repeat (refine G1 tt_ok pk55 ?_; intro _))
        rw [← hw]
        exact Ent.sel (is := [4, 4, 4, 4, 4, 2, 2, 2]) rfl
      · rw [if_neg hl]
        refine SQ.eqn tt_ok [110, 77] ⟨by kernel_rfl, by kernel_rfl, trivial⟩ rfl rfl (by kernel_rfl) true (by apply Decidable.byContradiction; intro hc; simp at hc; exact hl (by simp [hc])) ?_
        (refine G tt_ok pk55 ?_; repeat (refine G1 tt_ok pk55 ?_; intro _))
        (refine SQ.call rfl rfl (put30' β b q0 c0 (((w1, w2, w3, w4), w5, w6, w7), tx) h0 h1 hx3) [2, 2] rfl ?_; rintro _ _ ⟨u, rfl, rfl⟩; refine w_ ?_)
        (refine G tt_ok pk55 ?_; repeat (refine G1 tt_ok pk55 ?_; intro _))
        rw [← hw]
        simp only [putV_len, if_true]
        rw [hwm]
        exact Ent.sel (is := [4, 4, 4, 4, 4, 0, 0, 2]) rfl
  · (refine G tt_ok pk55 ?_; repeat (refine G1 tt_ok pk55 ?_; intro _))
    rw [idsV_len]
    refine CW.ret (fin_ret rfl (Ent.sel (is := [5, 5]) rfl) ⟨rfl, rfl⟩)
-- part Fx>
theorem rdK_some {first : Int} {es : List En} {r f c : Int} {k : Nat} {e : En} (h : atE first es (IntKind.i64.wrap (f + k)) = some e) : rdK first es r f c (k + 1) = withV (rdK first es r f c k) r c k (showsV e.1 r) := by
  show (match atE first es (IntKind.i64.wrap (f + k)) with
    | some e => withV (rdK first es r f c k) r c k (showsV e.1 r)
    | none => rdK first es r f c k) = _
  rw [h]
theorem rdK_none {first : Int} {es : List En} {r f c : Int} {k : Nat} (h : atE first es (IntKind.i64.wrap (f + k)) = none) : rdK first es r f c (k + 1) = rdK first es r f c k := by
  show (match atE first es (IntKind.i64.wrap (f + k)) with
    | some e => withV (rdK first es r f c k) r c k (showsV e.1 r)
    | none => rdK first es r f c k) = _
  rw [h]
/-- What a register shows, bit by bit. -/
theorem rdK_bit (first : Int) (es : List En) {r f c : Int} {n : Nat} (hb : bitsV r = n) (hn1 : 1 ≤ n) (hn : n ≤ 63) : ∀ m : Nat, (m : Int) ≤ c → ∃ W : Nat, W < 2 ^ 64 ∧ rdK first es r f c m = W ∧
    ∀ j, j < 64 → W.testBit j = (decide (j / n < m) && match atE first es (IntKind.i64.wrap (f + ((j / n : Nat) : Int))) with | some e => (showsV e.1 r).toNat.testBit (j % n) | none => false)
  | 0, _ => ⟨0, by decide, rfl, fun j hj => by simp⟩
  | m + 1, hm => by
    obtain ⟨W, hW, hr, hbit⟩ := rdK_bit first es (f := f) (c := c) hb hn1 hn m (by omega)
    have hdm : ∀ j : Nat, n * (j / n) + j % n = j ∧ j % n < n := fun j => ⟨Nat.div_add_mod j n, Nat.mod_lt _ (by omega)⟩
    have hin : ∀ j : Nat, (n * m ≤ j ∧ j < n * m + n) ↔ j / n = m := fun j => by
      obtain ⟨h1, h2⟩ := hdm j
      constructor
      · rintro ⟨h3, h4⟩
        rcases Nat.lt_trichotomy (j / n) m with h | h | h
        · have : n * (j / n + 1) ≤ n * m := Nat.mul_le_mul_left n h
          rw [Nat.mul_add] at this; omega
        · exact h
        · have : n * (m + 1) ≤ n * (j / n) := Nat.mul_le_mul_left n h
          rw [Nat.mul_add] at this; omega
      · intro h; rw [h] at h1; omega
    have hd64 : ∀ j, j < 64 → j / n < 64 := fun j hj => Nat.lt_of_le_of_lt (Nat.div_le_self _ _) hj
    cases ha : atE first es (IntKind.i64.wrap (f + m)) with
    | none =>
      rw [rdK_none ha]
      refine ⟨W, hW, hr, fun j hj => ?_⟩
      rw [hbit j hj]
      by_cases hq : j / n = m
      · rw [hq, ha]; simp
      · congr 1; simp; omega
    | some e =>
      obtain ⟨s, hs, he⟩ := shows_nat e.1 r
      rw [rdK_some ha, hr, he]
      by_cases hm64 : m ≤ 64
      · obtain ⟨W', h1, h2, h3⟩ := withV_nat hW hs (c := c) hb hn (k := m) (by omega) hm64
        refine ⟨W', h1, h2, fun j hj => ?_⟩
        rw [h3 j hj]
        by_cases hq : j / n = m
        · rw [if_pos ((hin j).2 hq), hq, ha]
          have : j - n * m = j % n := by have := hdm j; rw [hq] at this; omega
          simp [he, this]
        · rw [if_neg (fun h => hq ((hin j).1 h)), hbit j hj]
          congr 1; simp; omega
      · rw [withV_out (by omega)]
        refine ⟨W, hW, rfl, fun j hj => ?_⟩
        have := hd64 j hj
        rw [hbit j hj]
        congr 1; simp; omega
-- part Fy>
def updE (id r x : Int) (e : En) : En × Bool :=
  if writtenV id e.1 r x = e.1 then (e, false) else
  if (writtenV id e.1 r x).2.2.1 < 0 ∨ (writtenV id e.1 r x).2.2.1 > 1 ∨ (writtenV id e.1 r x).2.2.2 < 0 ∨ (writtenV id e.1 r x).2.2.2 > 255 then (e, true)
  else ((((writtenV id e.1 r x).1, (writtenV id e.1 r x).2.1, (writtenV id e.1 r x).2.2.1, realV (writtenV id e.1 r x).2.2.2), e.2), true)
theorem set_same {α : Type} {l : List α} {k : Nat} {a : α} (h : l[k]? = some a) : l.set k a = l := by
  apply List.ext_getElem?
  intro i
  by_cases e : k = i
  · subst e; rw [List.getElem?_set_self (List.getElem?_eq_some_iff.1 h).1, h]
  · rw [List.getElem?_set_ne e]
theorem wr1_upd (first : Int) (es : List En) (r f c v : Int) (k : Nat) : wr1 first es r f c v k = match atE first es (IntKind.i64.wrap (f + k)) with
    | some e => (es.set (IntKind.i64.wrap (f + k) - first).toNat (updE (IntKind.i64.wrap (f + k)) r (fieldV v r c k) e).1, (updE (IntKind.i64.wrap (f + k)) r (fieldV v r c k) e).2)
    | none => (es, false) := by
  unfold wr1
  cases h : atE first es (IntKind.i64.wrap (f + k)) with
  | none => rfl
  | some e =>
    obtain ⟨g1, g2, g3, g4, g5⟩ := atE_some h
    simp only [updE]
    split
    · simp only [set_same g3]
    · simp only [putV, h]
      split
      · simp only [set_same g3]
      · rfl
theorem atE_iff {first : Int} {es : List En} {id : Int} {e : En} : atE first es id = some e ↔ ∃ i : Nat, id = first + i ∧ es[i]? = some e := by
  constructor
  · intro h
    obtain ⟨g1, g2, g3, g4, g5⟩ := atE_some h
    exact ⟨(id - first).toNat, by omega, g3⟩
  · rintro ⟨i, rfl, h⟩
    unfold atE
    rw [if_pos (by omega), show (first + (i : Int) - first).toNat = i by omega, h]
/-- An interrupt that a bank may hold. -/
def okE (e : En) : Prop := 0 ≤ e.1.2.2.1 ∧ e.1.2.2.1 ≤ 1 ∧ 0 ≤ e.1.2.2.2 ∧ e.1.2.2.2 ≤ 255 ∧ realV e.1.2.2.2 = e.1.2.2.2
def okL (es : List En) : Prop := ∀ e ∈ es, okE e
theorem updE_ok {id r x : Int} {e : En} (h : okE e) : okE (updE id r x e).1 := by
  unfold updE
  split
  · exact h
  · split
    · exact h
    · rename_i h2
      have := realV_range (writtenV id e.1 r x).2.2.2
      have h3 := realV_real (writtenV id e.1 r x).2.2.2
      unfold okE
      simp only
      exact ⟨by omega, by omega, by omega, by omega, h3⟩
theorem okL_at {es : List En} (h : okL es) {i : Nat} {e : En} (hi : es[i]? = some e) : okE e := h e (List.mem_of_getElem? hi)
theorem okL_set {es : List En} (h : okL es) {e : En} (he : okE e) (i : Nat) : okL (es.set i e) := fun x hx => by
  rcases List.mem_or_eq_of_mem_set hx with h2 | rfl
  · exact h x h2
  · exact he
theorem wrK_ok {first : Int} {es : List En} {r f c v : Int} (h : okL es) : ∀ m, okL (wrK first es r f c v m).1
  | 0 => h
  | m + 1 => by
    have ih := wrK_ok (first := first) (r := r) (f := f) (c := c) (v := v) h m
    simp only [wrK]
    rw [wr1_upd]
    split
    · rename_i e he
      obtain ⟨j, hj, hje⟩ := atE_iff.1 he
      exact okL_set ih (updE_ok (okL_at ih hje)) _
    · exact ih
theorem doV_ok {first : Int} {es : List En} {id x : Int} (h : okL es) : okL (doV first es id x).1 := by
  unfold doV
  split
  · rename_i e he
    obtain ⟨j, hj, hje⟩ := atE_iff.1 he
    exact okL_set h (by have := okL_at h hje; exact this) _
  · exact h
theorem okL_new (n : Nat) (tx : (Int × Bool)) : okL (List.replicate n (zeroE.1, tx)) := fun e he => by
  rw [List.eq_of_mem_replicate he]
  have h : okE (zeroE.1, (0, false)) := ⟨by decide, by decide, by decide, by decide, by decide⟩
  exact h
/-- The texts besides stay. -/
theorem updE_text (id r x : Int) (e : En) : (updE id r x e).1.2 = e.2 := by
  unfold updE
  split
  · rfl
  · split <;> rfl
theorem map_set_same {α β : Type} {f : α → β} {l : List α} {k : Nat} {a b : α} (h : l[k]? = some a) (hf : f b = f a) : (l.set k b).map f = l.map f := by
  rw [List.map_set, hf]
  apply set_same
  rw [List.getElem?_map, h]; rfl
theorem wrK_texts (first : Int) (es : List En) (r f c v : Int) : ∀ m, (wrK first es r f c v m).1.map (·.2) = es.map (·.2)
  | 0 => rfl
  | m + 1 => by
    have ih := wrK_texts first es r f c v m
    simp only [wrK]
    rw [wr1_upd]
    split
    · rename_i e he
      obtain ⟨j, hj, hje⟩ := atE_iff.1 he
      simp only
      rw [show (IntKind.i64.wrap (f + (m : Int)) - first).toNat = j by omega]
      rw [map_set_same hje (updE_text _ _ _ _), ih]
    · exact ih
theorem doV_texts (first : Int) (es : List En) (id x : Int) : (doV first es id x).1.map (·.2) = es.map (·.2) := by
  unfold doV
  split
  · rename_i e he
    obtain ⟨j, hj, hje⟩ := atE_iff.1 he
    simp only
    rw [show (id - first).toNat = j by omega]
    exact map_set_same hje rfl
  · rfl
-- part Gg
theorem enC_one (a : En) : scal (enC a) = true := rfl
set_option maxHeartbeats 2000000 in
theorem clone42 (β : Base) (q0 : Option Addr) (c0 : Nat) (es : List En) (hn : es.length ≤ 16384) :
    Tri Tryz.prog β 199 [.slice q0 es.length c0] [rowA q0 es.length (es.flatMap enC)] (fun v L => ∃ q1 c1, v = .slice q1 es.length c1 ∧ L = [rowA q0 es.length (es.flatMap enC), rowA q1 es.length (es.flatMap enC)]) := by
  refine Tri.intro tt_ok Tryz.func199 rfl rfl Tryz.ntmps199 rfl fun F => ?_
  cases q0 with
  | none =>
    refine CW.ent row_none (CW.pure_ fun h => ?_)
    obtain ⟨h1, h2⟩ := h
    rw [h1, h2]
    refine G tt_ok [] ?_
    refine CW.ret (fin_ret rfl (A := [rowA none 0 [], rowA none 0 []]) (Ent.trans row_nil row_nil) ?_)
    exact ⟨none, 0, rfl, rfl⟩
  | some a =>
    refine CW.ent row_some (CW.open_ fun y => ?_)
    obtain ⟨g, rest⟩ := y
    refine CW.pure_ fun hv => ?_
    simp only at hv
    subst hv
    refine G tt_ok [] ?_
    refine SQ.builtO tt_ok rfl rfl rfl rfl (fun b => ⟨(by repeat (first | exact trivial | refine ⟨trivial, ?_⟩ | refine ⟨wk (by repeat (first | exact .h | exact .q | apply At.t)) (by rfl), ?_⟩)), ?_⟩)
    refine G tt_ok [] ?_
    refine SQ.append tt_ok rfl rfl 0 rfl 1 (q := true) rfl (es.flatMap enC) (by rw [List.drop_zero]; exact List.take_left) (flatE_len (sz := 9) (fun _ => rfl) es) rfl (one_flat enC_one es) (by omega) (by show (0 + es.length) * 40 ≤ _; omega) (fun v' => ⟨(by repeat (first | exact trivial | refine ⟨trivial, ?_⟩ | refine ⟨wk (by repeat (first | exact .h | exact .q | apply At.t)) (by rfl), ?_⟩)), ?_⟩)
    refine SQ.ent _ (Ent.head (own_shape _ _ _ _ _)) ?_
    refine SQ.open_ fun x => ?_
    refine SQ.pure_ fun hv => ?_
    subst hv
    refine G tt_ok [] ?_
    have ho : Ent [own 128 9 (.slice x.1 (0 + es.length) x.2) (0 + es.length) ([] ++ es.flatMap enC)] [rowA x.1 es.length (es.flatMap enC)] := by
      rw [Nat.zero_add, List.nil_append]; exact own_row
    refine CW.ret (fin_ret rfl (A := [rowA (some ⟨g, 0, none⟩) es.length (es.flatMap enC), rowA x.1 es.length (es.flatMap enC)]) (Ent.trans (Ent.sel (is := [1, 0]) rfl) (Ent.append (L := [_]) (L' := [_]) row_close ho)) ?_)
    exact ⟨x.1, x.2, by rw [Nat.zero_add]; rfl, rfl⟩
theorem all21 (β : Base) (b : Nat) (q0 : Option Addr) (c0 : Nat) (first : Int) (es : List En) (hn : es.length ≤ 16384) :
    Tri Tryz.prog β 125 [.pointer (some ⟨b, 0, none⟩)] (bkA b q0 c0 first es) (fun v L => ∃ b1 b3 q1 c1, v = .func (.func 200) #[] #[.pointer (some ⟨b3, 0, none⟩), .pointer (some ⟨b1, 0, none⟩)] ∧
      L = [pt b3 [.slice q1 es.length c1], pt b1 [.pointer (some ⟨b, 0, none⟩)], rowA q1 es.length (es.flatMap enC)] ++ bkA b q0 c0 first es) := by
  refine Tri.intro tt_ok Tryz.func125 rfl rfl Tryz.ntmps125 rfl fun F => ?_
  (refine G tt_ok [] ?_; repeat (refine G1 tt_ok [] ?_; intro _))
  rename_i b1
  (refine ka rfl rfl (clone42 β q0 c0 es hn) ?_; rintro _ _ ⟨q1, c1, rfl, rfl⟩; refine w_ ?_)
  (refine G tt_ok [] ?_; repeat (refine G1 tt_ok [] ?_; intro _))
  rename_i b3
  refine CW.ret (fin_ret rfl (A := [pt b3 [.slice q1 es.length c1], pt b1 [.pointer (some ⟨b, 0, none⟩)], rowA q1 es.length (es.flatMap enC)] ++ bkA b q0 c0 first es) pk_ ?_)
  exact ⟨b1, b3, q1, c1, rfl, rfl⟩
/-- All of a bank, with their numbers. -/
def allV (first : Int) : List En → List (Int × En)
  | [] => []
  | e :: r => (first, e) :: allV (first + 1) r
theorem allV_len : ∀ (first : Int) (es : List En), (allV first es).length = es.length
  | _, [] => rfl
  | first, e :: r => by simp [allV, allV_len (first + 1) r]
theorem allV_at : ∀ {first : Int} {es : List En} {k : Nat} {e : En}, es[k]? = some e → (allV first es)[k]? = some (first + k, e)
  | _, [], _, _, h => by simp at h
  | first, a :: r, 0, e, h => by simp at h; subst h; simp [allV]
  | first, a :: r, k + 1, e, h => by
    have := allV_at (first := first + 1) (es := r) (k := k) (e := e) (by simpa using h)
    simp only [allV, List.getElem?_cons_succ]
    rw [this]; simp; omega
@[reducible] def peC (x : Int × En) : List Value := [.int .i64 x.1, .agg #[.bool x.2.1.1.1, .bool x.2.1.1.2.1, .bool x.2.1.1.2.2.1, .bool x.2.1.1.2.2.2, .bool x.2.1.2.1, .int .i64 x.2.1.2.2.1, .int .i64 x.2.1.2.2.2, .int .i64 x.2.2.1, .bool x.2.2.2]]
theorem allV_pre {first : Int} {es : List En} {pre : List (Int × En)} {x : Int × En} (h : (pre ++ [x]) <+: allV first es) : ∃ e, es[pre.length]? = some e ∧ x = (first + pre.length, e) := by
  obtain ⟨t, ht⟩ := h
  have hl := congrArg List.length ht
  rw [allV_len] at hl
  simp at hl
  obtain ⟨e, he⟩ : ∃ e, es[pre.length]? = some e := ⟨_, List.getElem?_eq_getElem (by omega)⟩
  have h1 := allV_at (first := first) he
  rw [← ht] at h1
  simp at h1
  exact ⟨e, he, h1⟩
theorem take_pre {α : Type} {l : List α} {k : Nat} {x : α} (h : l[k]? = some x) : (l.take k ++ [x]) <+: l := by
  have : l.take (k + 1) = l.take k ++ [x] := by rw [List.take_add_one, h]; rfl
  rw [← this]; exact List.take_prefix _ _
theorem rd_enq {cs : List Value} {off n : Nat} {ts : List En} (h : (cs.drop off).take (n * 9) = ts.flatMap enC) {k : Nat} {t : En} (hk : ts[k]? = some t) : rdv ti128 cs (off + k * 9) = some (.agg (enC t).toArray) :=
  rd_enc (enc := enC) (sz := 9) (fun _ => rfl) rfl rfl h hk
set_option maxHeartbeats 2000000 in
theorem iter43 (β : Base) (b b1 b3 : Nat) {q1 : Option Addr} {c1 : Nat} {first : Int} {es : List En} {S : Value} {A1 : Atom} (h1 : RdS β q1 es.length 9 (es.flatMap enC) A1) (hf0 : 0 ≤ first) (hf1 : first ≤ 16384) (hn : es.length ≤ 16384) (hS : vcells S = [S]) :
    Iter Tryz.prog β 200 [.pointer (some ⟨b3, 0, none⟩), .pointer (some ⟨b1, 0, none⟩)] [pt b3 [.slice q1 es.length c1], pt b1 [.pointer (some ⟨b, 0, none⟩)], pt b [.int .i64 first, S], A1] peC (allV first es) := by
  intro l J Jx hY
  refine Tri.intro tt_ok Tryz.func200 rfl rfl Tryz.ntmps200 rfl fun F => ?_
  (refine G tt_ok pk200 ?_; repeat (refine G1 tt_ok pk200 ?_; intro _))
  refine CW.loop (α := Nat) (fun k => k ≤ es.length) (fun k => [(8, .int .i64 k), (7, .int .i64 es.length), (6, .slice q1 es.length c1), (0, .func (.yield l) #[] #[]), (2, .pointer (some ⟨b1, 0, none⟩))])
    (fun k => [J ((allV first es).take k), pt b3 [.slice q1 es.length c1], pt b1 [.pointer (some ⟨b, 0, none⟩)], pt b [.int .i64 first, S], A1]) (fun k => es.length - k) 0 (by omega) ⟨rfl, rfl, rfl, rfl, rfl, trivial⟩ (Ent.refl _) ?_
  intro k hk
  (refine G tt_ok pk200 ?_; repeat (refine G1 tt_ok pk200 ?_; intro _))
  generalize e1 : decide ((k : Int) < (es.length : Int)) = c
  cases c
  · (refine G tt_ok pk200 ?_; repeat (refine G1 tt_ok pk200 ?_; intro _))
    refine CW.exit ?_
    have : k = es.length := by simp at e1; omega
    subst this
    refine fin_normal rfl (Ent.refl _) (.inl ?_)
    rw [List.take_of_length_le (by rw [allV_len]; omega)]
  · have hlt : k < es.length := by simp at e1; omega
    have hw : IntKind.i64.wrap ((k : Int) + 1) = ((k + 1 : Nat) : Int) := by rw [wrap_i64]; split <;> omega
    have hwf : IntKind.i64.wrap (first + (k : Int)) = first + k := by rw [wrap_i64]; split <;> omega
    obtain ⟨e, he⟩ : ∃ e, es[k]? = some e := ⟨_, List.getElem?_eq_getElem hlt⟩
    obtain ⟨bs, os, qs, cs, rfl, rfl, hcs⟩ := h1.2.resolve_left (by omega)
    have hat := allV_at (first := first) he
    have htk : (allV first es).take (k + 1) = (allV first es).take k ++ [(first + k, e)] := by rw [List.take_add_one, hat]; rfl
    (refine G tt_ok pk200 ?_; repeat (refine G1 tt_ok pk200 ?_; intro _))
    refine SQ.idx tt_ok rfl rfl k rfl hlt (o' := os + k * 9) rfl ?_
    refine SQ.loadq tt_ok rfl rfl 4 rfl (rd_enq hcs he) ?_
    (refine G tt_ok pk200 ?_; repeat (refine G1 tt_ok pk200 ?_; intro _))
    rw [hwf]
    (refine SQ.yield rfl rfl (hY ((allV first es).take k) (first + k, e) (take_pre hat)) [1, 1, 1, 1, 1] rfl ?_; rintro _ _ (⟨rfl, rfl⟩ | ⟨rfl, rfl⟩) <;> refine w_ ?_)
    · (refine G tt_ok pk200 ?_; repeat (refine G1 tt_ok pk200 ?_; intro _))
      refine ⟨k + 1, by omega, by omega, ⟨by rw [← hw]; rfl, rfl, rfl, rfl, rfl, trivial⟩, ?_⟩
      rw [htk]
      exact pk_
    · (refine G tt_ok pk200 ?_; repeat (refine G1 tt_ok pk200 ?_; intro _))
      exact CW.ret (fin_ret rfl pk_ (.inr ⟨_, rfl⟩))
-- part Gj>
-- part Ft
/-- The lines of a bank. -/
def lsV (es : List En) : List Ln := es.map (·.1)
theorem lsV_len (es : List En) : (lsV es).length = es.length := by simp [lsV]
theorem lsV_set (es : List En) (k : Nat) (e : En) : lsV (es.set k e) = (lsV es).set k e.1 := by simp [lsV, List.map_set]
theorem doD_lsV (first : Int) (es : List En) (id x : Int) : doD first (lsV es) id x = (lsV (doV first es id x).1, (doV first es id x).2) := by
  unfold doD doV
  rw [lsV_len]
  by_cases hin : first ≤ id ∧ id - first < es.length
  · obtain ⟨e, he⟩ : ∃ e, es[(id - first).toNat]? = some e := ⟨_, List.getElem?_eq_getElem (by omega)⟩
    have hae : atE first es id = some e := atE_iff.2 ⟨(id - first).toNat, by omega, he⟩
    have hl : (lsV es)[(id - first).toNat]? = some e.1 := by simp [lsV, he]
    rw [if_pos hin, hl, hae]
    simp only [lsV_set]
  · have hae : atE first es id = none := by
      cases h : atE first es id with
      | none => rfl
      | some e =>
        obtain ⟨i, hi, he⟩ := atE_iff.1 h
        have := (List.getElem?_eq_some_iff.1 he).1
        omega
    rw [if_neg hin, hae]
-- part Gf>
set_option maxHeartbeats 4000000 in
/-- The document's reading: of a bank's lines, what the program reads of the bank. -/
theorem read19 (β : Base) (b : Nat) {first : Int} (q : Option Addr) (c : Nat) (S2 : Value) (es : List En) (hf0 : 0 ≤ first) (hf1 : first ≤ 16384) (hn : es.length ≤ 16384) (h2 : vcells S2 = [S2]) (r f cnt : Int) (hc : cnt ≤ 16384) :
    Tri Tryz.prog β 223 [.pointer (some ⟨b, 0, none⟩), .agg #[.int .i64 r, .int .i64 f, .int .i64 cnt]] (rbA b first q c S2 (lsV es)) (fun u L => u = .int .u64 (rdK first es r f cnt (cntV cnt)) ∧ L = rbA b first q c S2 (lsV es)) := by
  refine Tri.intro tt_ok Tryz.func223 rfl rfl Tryz.ntmps223 rfl fun F => ?_
  obtain ⟨n, hn1, hn63, hb⟩ := bits_n r
  unfold rbA
  rw [lsV_len]
  (refine G tt_ok pk223 ?_; repeat (refine G1 tt_ok pk223 ?_; intro _))
  rename_i b3
  refine CW.loop (α := Nat) (fun k => (k : Int) ≤ max cnt 0) (fun k => [(6, .int .i64 k), (5, .int .u64 (rdK first es r f cnt k)), (3, .pointer (some ⟨b3, 0, none⟩)), (0, .pointer (some ⟨b, 0, none⟩))])
    (fun k => [pt b3 [.int .i64 r, .int .i64 f, .int .i64 cnt], pt b [.int .i64 first, .slice q es.length c, S2], rowA q es.length ((lsV es).flatMap lnC)]) (fun k => cnt.toNat - k) 0 (by omega) ⟨rfl, rfl, rfl, rfl, trivial⟩ (Ent.refl _) ?_
  intro k hk
  (refine G tt_ok pk223 ?_; repeat (refine G1 tt_ok pk223 ?_; intro _))
  generalize e1 : decide ((k : Int) < cnt) = cc
  cases cc
  · (refine G tt_ok pk223 ?_; repeat (refine G1 tt_ok pk223 ?_; intro _))
    refine CW.exit ?_
    (refine G tt_ok pk223 ?_; repeat (refine G1 tt_ok pk223 ?_; intro _))
    have : k = cntV cnt := by unfold cntV; simp at e1; omega
    subst this
    exact CW.ret (fin_ret rfl pk_ ⟨rfl, rfl⟩)
  · simp only [decide_eq_true_eq] at e1
    have hw : IntKind.i64.wrap ((k : Int) + 1) = ((k + 1 : Nat) : Int) := by rw [wrap_i64]; split <;> omega
    obtain ⟨w, hw1, hw2, _⟩ := rdK_bit first es (r := r) (f := f) (c := cnt) hb hn1 hn63 k (by omega)
    (refine G tt_ok pk223 ?_; repeat (refine G1 tt_ok pk223 ?_; intro _))
    generalize hid : IntKind.i64.wrap (f + (k : Int)) = id
    refine ke rfl rfl (at37d β b id q c S2 hf0 hf1 hn h2) ?_
    (refine G tt_ok pk223 ?_; repeat (refine G1 tt_ok pk223 ?_; intro _))
    by_cases hin : first ≤ id ∧ id - first < es.length
    · have hat : atD first es.length id = id - first := by unfold atD; rw [if_pos hin]
      have hkl : (id - first).toNat < es.length := by omega
      obtain ⟨e, he⟩ : ∃ e, es[(id - first).toNat]? = some e := ⟨_, List.getElem?_eq_getElem (by omega)⟩
      have hae : atE first es (IntKind.i64.wrap (f + (k : Int))) = some e := by rw [hid]; exact atE_iff.2 ⟨(id - first).toNat, by omega, he⟩
      have hl : (lsV es)[(id - first).toNat]? = some e.1 := by simp [lsV, he]
      obtain ⟨s, hs1, hs2⟩ := shows_nat e.1 r
      have hnx := rdK_some (r := r) (f := f) (c := cnt) hae
      rw [hw2, hs2] at hnx
      rw [hat, decide_eq_true (show id - first ≥ 0 by omega), hw2]
      refine CW.ent (L' := [rowA q es.length ((lsV es).flatMap lnC), pt b [.int .i64 first, .slice q es.length c, S2], pt b3 [.int .i64 r, .int .i64 f, .int .i64 cnt]]) pk_ ?_
      refine CW.ent (Ent.append (L := [_]) (Ent.trans (row_open (show 0 < es.length by omega)) (Ent.refl _)) (Ent.refl _)) ?_
      refine CW.open_ fun y => ?_
      obtain ⟨g, rest⟩ := y
      refine CW.pure_ fun hv => ?_
      simp only at hv
      subst hv
      (refine G tt_ok pk223 ?_; repeat (refine G1 tt_ok pk223 ?_; intro _))
      refine SQ.idx tt_ok rfl rfl (id - first).toNat (by omega) hkl (o' := 0 + (id - first).toNat * 7) rfl ?_
      refine SQ.load tt_ok rfl rfl 0 rfl (rd_ln hl rest) ?_
      (refine G tt_ok pk223 ?_; repeat (refine G1 tt_ok pk223 ?_; intro _))
      (refine ka rfl rfl (shows39' β e.1 r) ?_; rintro _ _ ⟨rfl, rfl⟩; refine ⟨(by repeat (first | exact trivial | refine ⟨trivial, ?_⟩ | refine ⟨wk .h (rd_ln hl rest), ?_⟩ | refine ⟨wk (by repeat (first | exact .h | exact .q | apply At.t)) (by rfl), ?_⟩)), ?_⟩)
      rw [hs2]
      (refine G tt_ok pk223 ?_; repeat (refine G1 tt_ok pk223 ?_; intro _))
      (refine ka rfl rfl (with38 β hw1 hs1 r f cnt k) ?_; rintro _ _ ⟨rfl, rfl⟩; refine ⟨(by repeat (first | exact trivial | refine ⟨trivial, ?_⟩ | refine ⟨wk .h (rd_ln hl rest), ?_⟩ | refine ⟨wk (by repeat (first | exact .h | exact .q | apply At.t)) (by rfl), ?_⟩)), ?_⟩)
      (refine G tt_ok pk223 ?_; repeat (refine G1 tt_ok pk223 ?_; intro _))
      refine ⟨k + 1, by omega, by omega, ⟨by rw [← hw]; rfl, by rw [hnx]; rfl, rfl, rfl, trivial⟩, ?_⟩
      exact Ent.trans (L := [_, _, _]) (M := [pt g ((lsV es).flatMap lnC ++ rest), pt b [.int .i64 first, .slice (some ⟨g, 0, none⟩) es.length c, S2], pt b3 [.int .i64 r, .int .i64 f, .int .i64 cnt]]) pk_ (Ent.trans (Ent.append (L := [_]) row_close (Ent.refl _)) (Ent.sel (is := [2, 1, 0]) rfl))
    · have hat : atD first es.length id = -1 := by unfold atD; rw [if_neg hin]
      have hae : atE first es (IntKind.i64.wrap (f + (k : Int))) = none := by
        rw [hid]
        cases h : atE first es id with
        | none => rfl
        | some e =>
          obtain ⟨i, hi, he⟩ := atE_iff.1 h
          have := (List.getElem?_eq_some_iff.1 he).1
          omega
      rw [hat]
      (refine G tt_ok pk223 ?_; repeat (refine G1 tt_ok pk223 ?_; intro _))
      refine ⟨k + 1, by omega, by omega, ⟨by rw [← hw]; rfl, by rw [rdK_none hae]; rfl, rfl, rfl, trivial⟩, ?_⟩
      exact pk_
@[reducible] def pk142 : List (Nat × Plan) := [(7, [(0, 0, []), (1, 0, []), (2, 0, []), (3, 0, []), (4, 0, []), (5, 0, []), (6, 0, []), (7, 0, []), (8, 1, [])])]
theorem made_flat_of {α : Type} {enc : α → List Value} {a : α} (z : Array Value) (hz : enc a = z.toList) (hp : 0 < z.size) : ∀ n, (madeCells z (n * z.size)).toList = (List.replicate n a).flatMap enc
  | 0 => by simp [madeCells]
  | n + 1 => by
    have ih := made_flat_of z hz hp n
    rw [List.replicate_succ', List.flatMap_append, ← ih]
    simp only [madeCells, Array.toList_map, Array.toList_range, List.flatMap_cons, List.flatMap_nil, List.append_nil]
    rw [Nat.add_mul, Nat.one_mul, List.range_add, List.map_append, hz]
    congr 1
    apply List.ext_getElem?
    intro i
    rw [List.map_map]
    by_cases hi : i < z.size
    · simp [hi, Nat.mod_eq_of_lt hi, getElem!_pos]
    · simp [hi]
theorem made_flat (n : Nat) : (madeCells ti128.zero.cells (n * ti128.size)).toList = (List.replicate n zeroE).flatMap enC :=
  made_flat_of (enc := enC) (a := zeroE) ti128.zero.cells rfl (by decide) n
/-- A new bank's interrupts, some of them with what they have besides. -/
def newK (tx : (Int × Bool)) (n k : Nat) : List En := List.replicate k (zeroE.1, tx) ++ List.replicate (n - k) zeroE
theorem newK_at {tx : (Int × Bool)} {n k : Nat} (h : k < n) : (newK tx n k)[k]? = some zeroE := by
  obtain ⟨m, hm⟩ : ∃ m, n - k = m + 1 := ⟨n - k - 1, by omega⟩
  unfold newK
  rw [List.getElem?_append_right (by simp), List.length_replicate, Nat.sub_self, hm]
  rfl
theorem newK_set {tx : (Int × Bool)} {n k : Nat} (h : k < n) : (newK tx n k).set k (zeroE.1, tx) = newK tx n (k + 1) := by
  unfold newK
  obtain ⟨m, hm⟩ : ∃ m, n - k = m + 1 := ⟨n - k - 1, by omega⟩
  rw [hm, show n - (k + 1) = m from by omega, List.set_append_right _ _ (by simp), List.length_replicate, Nat.sub_self, List.replicate_succ (n := m), List.set_cons_zero, List.replicate_succ' (n := k), List.append_assoc]
  rfl
theorem wr_tx {tx : (Int × Bool)} {es : List En} {k : Nat} {e : En} (h : es[k]? = some e) : wrv ti126 (es.flatMap enC) (bif Nat.beq (0 + k * 9) 0 then 7 else 0 + k * 9 + 7) (.agg #[.int .i64 tx.1, .bool tx.2]) = some ((es.set k (e.1, tx)).flatMap enC) :=
  wr_enc (enc := enC) (sz := 9) (fun _ => rfl) h 7 (i := ti126) (by decide) rfl rfl (by rw [off_add]; omega)
set_option maxHeartbeats 2000000 in
theorem bankNew (β : Base) {first n : Int} (h0 : 0 ≤ first) (h1 : 0 ≤ n) (h2 : first + n ≤ 16384) (tx : (Int × Bool)) :
    Tri Tryz.prog β 142 [.int .i64 first, .int .i64 n, (.agg #[.int .i64 tx.1, .bool tx.2])] [] (fun v L => ∃ b q0 c0, v = .tuple #[.pointer (some ⟨b, 0, none⟩), .int .i64 0] ∧ L = bkA b q0 c0 first (List.replicate n.toNat (zeroE.1, tx))) := by
  obtain ⟨m, rfl⟩ : ∃ m : Nat, n = (m : Int) := ⟨n.toNat, by omega⟩
  have hw0 : IntKind.i64.wrap (16384 - first) = 16384 - first := by rw [wrap_i64]; split <;> omega
  refine Tri.intro tt_ok Tryz.func142 rfl rfl Tryz.ntmps142 rfl fun F => ?_
  (refine G tt_ok pk142 ?_; repeat (refine G1 tt_ok pk142 ?_; intro _))
  rw [decide_eq_false (show ¬ first < 0 by omega)]
  (refine G tt_ok pk142 ?_; repeat (refine G1 tt_ok pk142 ?_; intro _))
  rw [decide_eq_false (show ¬ (m : Int) < 0 by omega)]
  (refine G tt_ok pk142 ?_; repeat (refine G1 tt_ok pk142 ?_; intro _))
  rw [decide_eq_false (show ¬ first > 16384 by omega)]
  (refine G tt_ok pk142 ?_; repeat (refine G1 tt_ok pk142 ?_; intro _))
  rw [hw0, decide_eq_false (show ¬ (m : Int) > 16384 - first by omega)]
  (refine G tt_ok pk142 ?_; repeat (refine G1 tt_ok pk142 ?_; intro _))
  refine SQ.make tt_ok rfl rfl m rfl rfl (show m * 9 ≤ 16777216 by omega) (show 40 * m ≤ 281474976710656 by omega) (by omega) (fun eb => ⟨(by repeat (first | exact trivial | refine ⟨trivial, ?_⟩ | refine ⟨wk (by repeat (first | exact .h | exact .q | apply At.t)) (by rfl), ?_⟩)), ?_⟩)
  rw [made_flat]
  (refine G tt_ok pk142 ?_; repeat (refine G1 tt_ok pk142 ?_; intro _))
  rename_i b5 b
  refine CW.loop (α := Nat) (fun k => k ≤ m) (fun k => [(36, .int .i64 k), (35, .int .i64 m), (8, .pointer (some ⟨b, 0, none⟩)), (5, .pointer (some ⟨b5, 0, none⟩))])
    (fun k => [pt b [.int .i64 first, .slice (some ⟨eb, 0, none⟩) m m], pt eb ((newK tx m k).flatMap enC), pt b5 [.int .i64 tx.1, .bool tx.2]]) (fun k => m - k) 0 (by omega) ⟨rfl, rfl, rfl, rfl, trivial⟩ (by rw [show newK tx m 0 = List.replicate m zeroE by simp [newK]]; exact pk_) ?_
  intro k hk
  (refine G tt_ok pk142 ?_; repeat (refine G1 tt_ok pk142 ?_; intro _))
  generalize e1 : decide ((k : Int) < (m : Int)) = cc
  cases cc
  · have : k = m := by simp at e1; omega
    subst this
    (refine G tt_ok pk142 ?_; repeat (refine G1 tt_ok pk142 ?_; intro _))
    refine CW.exit ?_
    (refine G tt_ok pk142 ?_; repeat (refine G1 tt_ok pk142 ?_; intro _))
    have hnk : (newK tx k k).length = k := by simp [newK]
    refine CW.ret (fin_ret rfl (Ent.trans (M := [pt b [.int .i64 first, .slice (some ⟨eb, 0, none⟩) k k], pt eb ((newK tx k k).flatMap enC)]) pk_ (Ent.cons _ (row_close0 (n := k)))) ?_)
    refine ⟨b, some ⟨eb, 0, none⟩, k, rfl, ?_⟩
    simp [bkA, newK]
  · have hlt : k < m := by simp at e1; omega
    have hw : IntKind.i64.wrap ((k : Int) + 1) = ((k + 1 : Nat) : Int) := by rw [wrap_i64]; split <;> omega
    (refine G tt_ok pk142 ?_; repeat (refine G1 tt_ok pk142 ?_; intro _))
    refine SQ.idx tt_ok rfl rfl k rfl hlt (o' := 0 + k * 9) rfl ?_
    (refine G tt_ok pk142 ?_; repeat (refine G1 tt_ok pk142 ?_; intro _))
    refine SQ.stA tt_ok rfl rfl (by repeat (first | apply Up.h | apply Up.t)) (by rfl) (wr_tx (tx := tx) (newK_at hlt)) (by repeat (first | exact trivial | refine ⟨trivial, ?_⟩ | refine ⟨wk (by repeat (first | exact .h | exact .q | apply At.t)) (by rfl), ?_⟩)) ?_
    rw [newK_set hlt]
    (refine G tt_ok pk142 ?_; repeat (refine G1 tt_ok pk142 ?_; intro _))
    exact ⟨k + 1, by omega, by omega, ⟨by rw [← hw]; rfl, rfl, rfl, rfl, trivial⟩, pk_⟩
end Go.Proofs.YtebpodnbalfomaaGreatDoor.Sl.Br
namespace Go.Proofs.YtebpodnbalfomaaGreatDoor.Sl
open Go Go.RowKit Go.Proofs
set_option linter.unusedVariables false
set_option linter.unusedSimpArgs false
attribute [local irreducible] CW Tri OW
set_option maxRecDepth 10000
/-- A processor: where its bank lies, its bank's row, its interrupts, whether it sleeps. -/
structure CR where
  b : Nat
  q : Option Addr
  c : Nat
  es : List Bn.En
  sl : Bool
def CR.bank (x : CR) : List Atom := Bn.bkA x.b x.q x.c 0 x.es
@[reducible] def crC (x : CR) : List Value := [.pointer (some ⟨x.b, 0, none⟩), .bool x.sl]
/-- The processors' banks. -/
def bksA (xs : List CR) : Atom := packA (xs.flatMap CR.bank)
theorem bks_open {xs : List CR} {k : Nat} {x : CR} (h : xs[k]? = some x) : Ent [bksA xs] (x.bank ++ [bksA (xs.eraseIdx k)]) := by
  have p : (xs.flatMap CR.bank).Perm (x.bank ++ (xs.eraseIdx k).flatMap CR.bank) := by
    have := (perm_ix h).flatMap_right CR.bank
    simpa using this
  have e1 := Ent.unpack (xs.flatMap CR.bank) []
  rw [List.append_nil] at e1
  refine e1.trans ((Ent.perm p).trans (Ent.append (Ent.refl _) ?_))
  have e2 := Ent.pack ((xs.eraseIdx k).flatMap CR.bank) []
  rw [List.append_nil] at e2
  exact e2
theorem bks_close {xs : List CR} {k : Nat} (x : CR) (h : k < xs.length) : Ent (x.bank ++ [bksA (xs.eraseIdx k)]) [bksA (xs.set k x)] := by
  have h2 : (xs.set k x)[k]? = some x := List.getElem?_set_self h
  have p : (x.bank ++ (xs.eraseIdx k).flatMap CR.bank).Perm ((xs.set k x).flatMap CR.bank) := by
    have := (perm_ix h2).flatMap_right CR.bank
    rw [List.eraseIdx_set_eq] at this
    simpa using this.symm
  have e1 := Ent.unpack ((xs.eraseIdx k).flatMap CR.bank) []
  rw [List.append_nil] at e1
  have e2 := Ent.pack ((xs.set k x).flatMap CR.bank) []
  rw [List.append_nil] at e2
  exact (Ent.append (Ent.refl _) e1).trans ((Ent.perm p).trans e2)
/-- A distributor. -/
structure DS where
  o0 : Bool
  o1 : Bool
  sb : Nat
  sq : Option Addr
  sc : Nat
  sh : List Br.En
  qc : Option Addr
  cc : Nat
  xs : List CR
def dA (d : Nat) (D : DS) : List Atom := [pt d [.bool D.o0, .bool D.o1, .pointer (some ⟨D.sb, 0, none⟩), .slice D.qc D.xs.length D.cc], rowA D.qc D.xs.length (D.xs.flatMap crC), bksA D.xs] ++ Br.bkA D.sb D.sq D.sc 32 D.sh
def rightV (n : Nat) (k : Int) : Bool := decide (k ≥ 0) && decide (k < n)
theorem right55 (β : Base) (d : Nat) (a b c : Value) (ha : vcells a = [a]) (hb : vcells b = [b]) (hc : vcells c = [c]) (q : Option Addr) (n cc : Nat) (k : Int) : Tri Tryz.prog β 63 [.pointer (some ⟨d, 0, none⟩), .int .i64 k] [pt d [a, b, c, .slice q n cc]] (fun v L => v = .bool (rightV n k) ∧ L = [pt d [a, b, c, .slice q n cc]]) := by
  refine Tri.intro tt_ok Tryz.func63 rfl rfl Tryz.ntmps63 rfl fun F => ?_
  (repeat' (first | refine CW.seq ?_ | refine CW.region tt_ok rfl ?_ | refine CW.block ?_ | refine CW.skip ?_ | refine SQ.nil ?_ | refine SQ.pures1 tt_ok rfl ?_ | refine SQ.pure1 tt_ok rfl ?_ | refine SQ.new _ _ rfl rfl (fun _ => ?_) | refine SQ.ldA tt_ok rfl rfl (by repeat (first | exact .h | exact .q | apply At.t)) (by rfl) ?_ | refine SQ.stA tt_ok rfl rfl (by repeat (first | apply Up.h | apply Up.t)) (by rfl) (by rfl) (by exact trivial) ?_ | refine CW.cond_tt rfl ?_ | refine CW.cond_ff rfl ?_ | ((first | refine CW.cond rfl (fun hc => ?_) (fun hc => ?_) | refine SQ.gsplit rfl (fun hc => ?_) (fun hc => ?_)) <;> try (exfalso; simp_all; done))))
  all_goals (refine CW.ret (fin_ret rfl (Ent.refl _) ⟨?_, rfl⟩); simp_all [packV, rightV]; try omega)
theorem flag67 (β : Base) (a : Bool) (k : Nat) : Tri Tryz.prog β 56 [.bool a, .int .i64 k] [] (fun v L => v = .int .u64 (if a then IntKind.u64.wrap (1 * 2 ^ min k IntKind.u64.bits) else 0) ∧ L = []) := by
  refine Tri.intro tt_ok Tryz.func56 rfl rfl Tryz.ntmps56 rfl fun F => ?_
  cases a
  · refine G tt_ok [] ?_
    exact CW.ret (fin_ret rfl (Ent.refl _) ⟨rfl, rfl⟩)
  · refine G tt_ok [] ?_
    exact CW.ret (fin_ret rfl (Ent.refl _) ⟨rfl, rfl⟩)
theorem rd_own {xs : List CR} {k : Nat} {x : CR} (h : xs[k]? = some x) (X : List Value) : rdv ti137 (xs.flatMap crC ++ X) (0 + k * 2) = some (.pointer (some ⟨x.b, 0, none⟩)) :=
  rd_partR (enc := crC) (sz := 2) (fun _ => rfl) h 0 (i := ti137) rfl (by decide) (by omega) (by decide) X
theorem rd_core {xs : List CR} {k : Nat} {x : CR} (h : xs[k]? = some x) (X : List Value) : rdv ti139 (xs.flatMap crC ++ X) (0 + k * 2) = some (.agg #[.pointer (some ⟨x.b, 0, none⟩), .bool x.sl]) :=
  rd_partR (enc := crC) (sz := 2) (fun _ => rfl) h 0 (i := ti139) rfl (by decide) (by omega) (by decide) X
theorem rd_sl {xs : List CR} {k : Nat} {x : CR} (h : xs[k]? = some x) (X : List Value) : rdv ti4 (xs.flatMap crC ++ X) (bif Nat.beq (0 + k * 2) 0 then 1 else 0 + k * 2 + 1) = some (.bool x.sl) :=
  rd_partR (enc := crC) (sz := 2) (fun _ => rfl) h 1 (i := ti4) rfl (by decide) (by rw [off_add]; omega) (by decide) X
theorem wr_sl {xs : List CR} {k : Nat} {x : CR} (h : xs[k]? = some x) (s : Bool) (X : List Value) : wrv ti4 (xs.flatMap crC ++ X) (bif Nat.beq (0 + k * 2) 0 then 1 else 0 + k * 2 + 1) (.bool s) = some ((xs.set k { x with sl := s }).flatMap crC ++ X) :=
  wr_encR (enc := crC) (sz := 2) (fun _ => rfl) h 1 (i := ti4) (by decide) rfl rfl (by rw [off_add]; omega) X
def asleepV (xs : List CR) (k : Int) : Bool := if rightV xs.length k then (match xs[k.toNat]? with | some x => x.sl | none => true) else true
theorem right_at {xs : List CR} {k : Int} (h : rightV xs.length k = true) : ∃ x, xs[k.toNat]? = some x ∧ k.toNat < xs.length ∧ k = (k.toNat : Int) := by
  simp [rightV] at h
  exact ⟨_, List.getElem?_eq_getElem (show k.toNat < xs.length by omega), by omega, by omega⟩
theorem asleep22 (β : Base) (d : Nat) (D : DS) (k : Int) : Tri Tryz.prog β 22 [.pointer (some ⟨d, 0, none⟩), .int .i64 k] [pt d [.bool D.o0, .bool D.o1, .pointer (some ⟨D.sb, 0, none⟩), .slice D.qc D.xs.length D.cc], rowA D.qc D.xs.length (D.xs.flatMap crC)]
    (fun v L => v = .bool (asleepV D.xs k) ∧ L = [pt d [.bool D.o0, .bool D.o1, .pointer (some ⟨D.sb, 0, none⟩), .slice D.qc D.xs.length D.cc], rowA D.qc D.xs.length (D.xs.flatMap crC)]) := by
  obtain ⟨o0, o1, sb, sq, sc, sh, qc, cc, xs⟩ := D
  simp only
  refine Tri.intro tt_ok Tryz.func22 rfl rfl Tryz.ntmps22 rfl fun F => ?_
  refine G tt_ok [] ?_
  refine ke rfl rfl (right55 β d _ _ _ rfl rfl rfl qc xs.length cc k) ?_
  unfold asleepV
  cases hr : rightV xs.length k with
  | false =>
    refine G tt_ok [] ?_
    exact CW.ret (fin_ret rfl pk_ ⟨rfl, rfl⟩)
  | true =>
    obtain ⟨x, hx, hl, hk⟩ := right_at hr
    refine SQ.ent _ (Rm.to (A := rowA qc xs.length (xs.flatMap crC)) (by repeat (first | exact Rm.h | apply Rm.t)) (row_open (by omega))) ?_
    refine SQ.open_ fun y => ?_
    obtain ⟨g, rest⟩ := y
    refine SQ.pure_ fun hv => ?_
    simp only at hv
    subst hv
    refine G tt_ok [] ?_
    refine SQ.idx tt_ok rfl rfl k.toNat hk hl (o' := 0 + k.toNat * 2) rfl ?_
    refine G tt_ok [] ?_
    refine SQ.ldA tt_ok rfl rfl (by repeat (first | exact .h | exact .q | apply At.t)) (rd_sl hx rest) ?_
    refine G tt_ok [] ?_
    rw [hx]
    refine CW.ret (fin_ret rfl (Ent.trans (Rm.to (A := pt g (xs.flatMap crC ++ rest)) (by repeat (first | exact Rm.h | apply Rm.t)) (row_close (n := xs.length))) (Tk.ent (As := [pt d [.bool o0, .bool o1, .pointer (some ⟨sb, 0, none⟩), .slice (some ⟨g, 0, none⟩) xs.length cc], rowA (some ⟨g, 0, none⟩) xs.length (xs.flatMap crC)]) (by repeat (first | exact .n | exact Rm.h | apply Tk.c | apply Rm.t)))) ⟨rfl, rfl⟩)
theorem Tk.to {As L F B : List Atom} (h : Tk As L F) (e : Ent As B) : Ent L (B ++ F) := h.gives.trans (Ent.append e (Ent.refl F))
theorem flat_set_same {α : Type} {enc : α → List Value} {xs : List α} {k : Nat} {x y : α} (h : xs[k]? = some x) (he : enc y = enc x) : (xs.set k y).flatMap enc = xs.flatMap enc := by
  rw [List.flatMap_def, List.flatMap_def, List.map_set, he]
  congr 1
  apply List.ext_getElem?
  intro i
  by_cases e : k = i
  · subst e
    rw [List.getElem?_set_self (by rw [List.length_map]; exact (List.getElem?_eq_some_iff.1 h).1), List.getElem?_map, h]; rfl
  · rw [List.getElem?_set_ne e]
theorem bks_shut {xs : List CR} {k : Nat} {x : CR} (h : xs[k]? = some x) : Ent (x.bank ++ [bksA (xs.eraseIdx k)]) [bksA xs] := by
  have := bks_close (xs := xs) (k := k) x (List.getElem?_eq_some_iff.1 h).1
  have e : xs.set k x = xs := by
    apply List.ext_getElem?
    intro i
    by_cases e : k = i
    · subst e; rw [List.getElem?_set_self (List.getElem?_eq_some_iff.1 h).1, h]
    · rw [List.getElem?_set_ne e]
  rwa [e] at this
/-- What befalls an interrupt, as a processor sees it. -/
def DS.doV (D : DS) (k id a : Int) : DS × Int :=
  if rightV D.xs.length k then
    if id < 32 then (match D.xs[k.toNat]? with
      | some x => ({ D with xs := D.xs.set k.toNat { x with es := (Bn.doV 0 x.es id a).1 } }, (Bn.doV 0 x.es id a).2)
      | none => (D, 0))
    else ({ D with sh := (Br.doV 32 D.sh id a).1 }, (Br.doV 32 D.sh id a).2)
  else (D, 130)
set_option maxHeartbeats 2000000 in
theorem do23 (β : Base) (d : Nat) (D : DS) (k id a : Int) (hid : id < 9223372036854775808) : Tri Tryz.prog β 129 [.pointer (some ⟨d, 0, none⟩), .int .i64 k, .int .i64 id, .int .i64 a] (dA d D) (fun v L => v = .int .i64 (D.doV k id a).2 ∧ L = dA d (D.doV k id a).1) := by
  obtain ⟨o0, o1, sb, sq, sc, sh, qc, cc, xs⟩ := D
  refine Tri.intro tt_ok Tryz.func129 rfl rfl Tryz.ntmps129 rfl fun F => ?_
  unfold dA DS.doV
  simp only
  refine G tt_ok [] ?_
  refine ke rfl rfl (right55 β d _ _ _ rfl rfl rfl qc xs.length cc k) ?_
  cases hr : rightV xs.length k with
  | false =>
    refine G tt_ok [] ?_
    exact CW.ret (fin_ret rfl pk_ ⟨rfl, rfl⟩)
  | true =>
    obtain ⟨x, hx, hl, hk⟩ := right_at hr
    rw [if_pos rfl, hx]
    by_cases h32 : id < 32
    · rw [if_pos h32]
      refine G tt_ok [] ?_
      rw [decide_eq_true h32]
      refine CW.ent (Rm.to (A := rowA qc xs.length (xs.flatMap crC)) (by repeat (first | exact Rm.h | apply Rm.t)) (row_open (by omega))) ?_
      refine CW.open_ fun y => ?_
      obtain ⟨g, rest⟩ := y
      refine CW.pure_ fun hv => ?_
      simp only at hv
      subst hv
      refine CW.ent (Rm.to (A := bksA xs) (by repeat (first | exact Rm.h | apply Rm.t)) (bks_open hx)) ?_
      refine G tt_ok [] ?_
      refine SQ.idx tt_ok rfl rfl k.toNat hk hl (o' := 0 + k.toNat * 2) rfl ?_
      refine G tt_ok [] ?_
      refine SQ.ldA tt_ok rfl rfl (by repeat (first | exact .h | exact .q | apply At.t)) (rd_own hx rest) ?_
      refine G tt_ok [] ?_
      refine ke rfl rfl (Bn.do35 β x.b x.q x.c (first := 0) (id := id) (x := a) (es := x.es) (by omega) (by omega) hid) ?_
      refine G tt_ok [] ?_
      refine CW.ret (fin_ret rfl (A := dA d ⟨o0, o1, sb, sq, sc, sh, some ⟨g, 0, none⟩, cc, xs.set k.toNat { x with es := (Bn.doV 0 x.es id a).1 }⟩) ?_ ⟨rfl, rfl⟩)
      unfold dA
      simp only [List.length_set]
      rw [flat_set_same (enc := crC) (y := { x with es := (Bn.doV 0 x.es id a).1 }) hx rfl]
      refine Ent.trans (Rm.to (A := pt g (xs.flatMap crC ++ rest)) (by repeat (first | exact Rm.h | apply Rm.t)) (row_close (n := xs.length))) ?_
      refine Ent.trans (Tk.to (As := CR.bank { x with es := (Bn.doV 0 x.es id a).1 } ++ [bksA (xs.eraseIdx k.toNat)]) (by repeat (first | exact .n | exact Rm.h | apply Tk.c | apply Rm.t)) (bks_close _ hl)) ?_
      exact pk_
    · rw [if_neg h32]
      refine G tt_ok [] ?_
      rw [decide_eq_false h32]
      refine G tt_ok [] ?_
      refine ke rfl rfl (Br.do35 β sb sq sc (first := 32) (id := id) (x := a) (es := sh) (by omega) (by omega) hid) ?_
      refine G tt_ok [] ?_
      exact CW.ret (fin_ret rfl pk_ ⟨rfl, rfl⟩)
/-- An interrupt, as a processor sees it. -/
def DS.getV (D : DS) (k id : Int) : Ln × Int :=
  if rightV D.xs.length k then
    if id < 32 then (match D.xs[k.toNat]? with
      | some x => ((Bn.getV 0 x.es id).1.1, (Bn.getV 0 x.es id).2)
      | none => (zeroL, 0))
    else ((Br.getV 32 D.sh id).1.1, (Br.getV 32 D.sh id).2)
  else (zeroL, 130)
theorem getN (β : Base) (b : Nat) (q0 : Option Addr) (c0 : Nat) {first id : Int} {es : List Bn.En} (h0 : 0 ≤ first) (h1 : first ≤ 16384) (h3 : id < 9223372036854775808) :
    Tri Tryz.prog β 133 [.pointer (some ⟨b, 0, none⟩), .int .i64 id] (Bn.bkA b q0 c0 first es) (fun v L => v = .tuple #[.agg #[.bool (Bn.getV first es id).1.1.1.1, .bool (Bn.getV first es id).1.1.1.2.1, .bool (Bn.getV first es id).1.1.1.2.2.1, .bool (Bn.getV first es id).1.1.1.2.2.2, .bool (Bn.getV first es id).1.1.2.1, .int .i64 (Bn.getV first es id).1.1.2.2.1, .int .i64 (Bn.getV first es id).1.1.2.2.2], .int .i64 (Bn.getV first es id).2] ∧ L = Bn.bkA b q0 c0 first es) := Bn.get14 β b q0 c0 h0 h1 h3
theorem getR (β : Base) (b : Nat) (q0 : Option Addr) (c0 : Nat) {first id : Int} {es : List Br.En} (h0 : 0 ≤ first) (h1 : first ≤ 16384) (h3 : id < 9223372036854775808) :
    Tri Tryz.prog β 52 [.pointer (some ⟨b, 0, none⟩), .int .i64 id] (Br.bkA b q0 c0 first es) (fun v L => v = .tuple #[.agg #[.bool (Br.getV first es id).1.1.1.1, .bool (Br.getV first es id).1.1.1.2.1, .bool (Br.getV first es id).1.1.1.2.2.1, .bool (Br.getV first es id).1.1.1.2.2.2, .bool (Br.getV first es id).1.1.2.1, .int .i64 (Br.getV first es id).1.1.2.2.1, .int .i64 (Br.getV first es id).1.1.2.2.2, .int .i64 (Br.getV first es id).1.2.1, .bool (Br.getV first es id).1.2.2], .int .i64 (Br.getV first es id).2] ∧ L = Br.bkA b q0 c0 first es) := Br.get14 β b q0 c0 h0 h1 h3
set_option maxHeartbeats 2000000 in
theorem get21 (β : Base) (d : Nat) (D : DS) (k id : Int) (hid : id < 9223372036854775808) : Tri Tryz.prog β 153 [.pointer (some ⟨d, 0, none⟩), .int .i64 k, .int .i64 id] (dA d D) (fun v L => v = .tuple #[.agg (lnC (D.getV k id).1).toArray, .int .i64 (D.getV k id).2] ∧ L = dA d D) := by
  obtain ⟨o0, o1, sb, sq, sc, sh, qc, cc, xs⟩ := D
  refine Tri.intro tt_ok Tryz.func153 rfl rfl Tryz.ntmps153 rfl fun F => ?_
  unfold dA DS.getV
  simp only
  (refine G tt_ok [] ?_; repeat (refine G1 tt_ok [] ?_; intro _))
  rename_i b6
  refine ke rfl rfl (right55 β d _ _ _ rfl rfl rfl qc xs.length cc k) ?_
  cases hr : rightV xs.length k with
  | false =>
    (refine G tt_ok [] ?_; repeat (refine G1 tt_ok [] ?_; intro _))
    refine CW.ret (fin_cells [_, _] ⟨⟨_, _, _, _, 1, rfl, rfl, rfl, rfl⟩, rfl, trivial⟩ pk_ ⟨rfl, rfl⟩)
  | true =>
    obtain ⟨x, hx, hl, hk⟩ := right_at hr
    rw [if_pos rfl, hx]
    by_cases h32 : id < 32
    · rw [if_pos h32]
      (refine G tt_ok [] ?_; repeat (refine G1 tt_ok [] ?_; intro _))
      rw [decide_eq_true h32]
      refine CW.ent (Rm.to (A := rowA qc xs.length (xs.flatMap crC)) (by repeat (first | exact Rm.h | apply Rm.t)) (row_open (by omega))) ?_
      refine CW.open_ fun y => ?_
      obtain ⟨g, rest⟩ := y
      refine CW.pure_ fun hv => ?_
      simp only at hv
      subst hv
      refine CW.ent (Rm.to (A := bksA xs) (by repeat (first | exact Rm.h | apply Rm.t)) (bks_open hx)) ?_
      (refine G tt_ok [] ?_; repeat (refine G1 tt_ok [] ?_; intro _))
      refine SQ.idx tt_ok rfl rfl k.toNat hk hl (o' := 0 + k.toNat * 2) rfl ?_
      (refine G tt_ok [] ?_; repeat (refine G1 tt_ok [] ?_; intro _))
      refine SQ.ldA tt_ok rfl rfl (by repeat (first | exact .h | exact .q | apply At.t)) (rd_own hx rest) ?_
      (refine G tt_ok [] ?_; repeat (refine G1 tt_ok [] ?_; intro _))
      refine ke rfl rfl (getN β x.b x.q x.c (first := 0) (id := id) (es := x.es) (by omega) (by omega) hid) ?_
      (refine G tt_ok [] ?_; repeat (refine G1 tt_ok [] ?_; intro _))
      refine CW.ret (fin_cells [_, _] ⟨⟨_, _, _, _, 6, rfl, rfl, rfl, rfl⟩, rfl, trivial⟩ (A := dA d ⟨o0, o1, sb, sq, sc, sh, some ⟨g, 0, none⟩, cc, xs⟩) ?_ ⟨rfl, rfl⟩)
      refine Ent.trans (Rm.to (A := pt g (xs.flatMap crC ++ rest)) (by repeat (first | exact Rm.h | apply Rm.t)) (row_close (n := xs.length))) ?_
      refine Ent.trans (Tk.to (As := x.bank ++ [bksA (xs.eraseIdx k.toNat)]) (by repeat (first | exact .n | exact Rm.h | apply Tk.c | apply Rm.t)) (bks_shut hx)) ?_
      exact pk_
    · rw [if_neg h32]
      (refine G tt_ok [] ?_; repeat (refine G1 tt_ok [] ?_; intro _))
      rw [decide_eq_false h32]
      (refine G tt_ok [] ?_; repeat (refine G1 tt_ok [] ?_; intro _))
      refine ke rfl rfl (getR β sb sq sc (first := 32) (id := id) (es := sh) (by omega) (by omega) hid) ?_
      (refine G tt_ok [] ?_; repeat (refine G1 tt_ok [] ?_; intro _))
      refine CW.ret (fin_cells [_, _] ⟨⟨_, _, _, _, 4, rfl, rfl, rfl, rfl⟩, rfl, trivial⟩ (A := dA d ⟨o0, o1, sb, sq, sc, sh, qc, cc, xs⟩) pk_ ⟨rfl, rfl⟩)
/-- The least one that is awake. -/
def leastV : List CR → Int → Int
  | [], _ => -1
  | x :: r, k => if x.sl then leastV r (k + 1) else k
theorem leastV_step {xs : List CR} {k : Nat} {x : CR} (h : xs[k]? = some x) : leastV (xs.drop k) k = if x.sl then leastV (xs.drop (k + 1)) ((k + 1 : Nat) : Int) else k := by
  rw [List.drop_eq_getElem_cons (List.getElem?_eq_some_iff.1 h).1, (List.getElem?_eq_some_iff.1 h).2]
  rfl
theorem least54 (β : Base) (d : Nat) (o0 o1 : Bool) (sb : Nat) (qc : Option Addr) (cc : Nat) (xs : List CR) (hn : xs.length ≤ 1000) : Tri Tryz.prog β 211 [.pointer (some ⟨d, 0, none⟩)] [pt d [.bool o0, .bool o1, .pointer (some ⟨sb, 0, none⟩), .slice qc xs.length cc], rowA qc xs.length (xs.flatMap crC)]
    (fun v L => v = .int .i64 (leastV xs 0) ∧ L = [pt d [.bool o0, .bool o1, .pointer (some ⟨sb, 0, none⟩), .slice qc xs.length cc], rowA qc xs.length (xs.flatMap crC)]) := by
  refine Tri.intro tt_ok Tryz.func211 rfl rfl Tryz.ntmps211 rfl fun F => ?_
  (refine G tt_ok [] ?_; repeat (refine G1 tt_ok [] ?_; intro _))
  refine CW.loop (α := Nat) (fun k => k ≤ xs.length ∧ leastV xs 0 = leastV (xs.drop k) k) (fun k => [(10, .int .i64 k), (9, .int .i64 xs.length), (8, .slice qc xs.length cc)])
    (fun k => [pt d [.bool o0, .bool o1, .pointer (some ⟨sb, 0, none⟩), .slice qc xs.length cc], rowA qc xs.length (xs.flatMap crC)]) (fun k => xs.length - k) 0 ⟨by omega, rfl⟩ ⟨rfl, rfl, rfl, trivial⟩ (Ent.refl _) ?_
  rintro k ⟨hk, hv0⟩
  (refine G tt_ok [] ?_; repeat (refine G1 tt_ok [] ?_; intro _))
  generalize e1 : decide ((k : Int) < (xs.length : Int)) = c
  cases c
  · have : k = xs.length := by simp at e1; omega
    subst this
    (refine G tt_ok [] ?_; repeat (refine G1 tt_ok [] ?_; intro _))
    refine CW.exit ?_
    (refine G tt_ok [] ?_; repeat (refine G1 tt_ok [] ?_; intro _))
    rw [hv0, List.drop_length]
    exact CW.ret (fin_ret rfl pk_ ⟨rfl, rfl⟩)
  · have hlt : k < xs.length := by simp at e1; omega
    have hw : IntKind.i64.wrap ((k : Int) + 1) = ((k + 1 : Nat) : Int) := by rw [wrap_i64]; split <;> omega
    obtain ⟨x, hx⟩ : ∃ x, xs[k]? = some x := ⟨_, List.getElem?_eq_getElem hlt⟩
    have hst := leastV_step hx
    refine CW.ent (Rm.to (A := rowA qc xs.length (xs.flatMap crC)) (by repeat (first | exact Rm.h | apply Rm.t)) (row_open (by omega))) ?_
    refine CW.open_ fun y => ?_
    obtain ⟨g, rest⟩ := y
    refine CW.pure_ fun hv => ?_
    simp only at hv
    subst hv
    (refine G tt_ok [] ?_; repeat (refine G1 tt_ok [] ?_; intro _))
    refine SQ.idx tt_ok rfl rfl k rfl hlt (o' := 0 + k * 2) rfl ?_
    refine SQ.ldA tt_ok rfl rfl (by repeat (first | exact .h | exact .q | apply At.t)) (rd_core hx rest) ?_
    (refine G tt_ok [] ?_; repeat (refine G1 tt_ok [] ?_; intro _))
    cases hs : x.sl with
    | true =>
      rw [hs] at hst
      (refine G tt_ok [] ?_; repeat (refine G1 tt_ok [] ?_; intro _))
      refine ⟨k + 1, ⟨by omega, by rw [hv0, hst]; rfl⟩, by omega, ⟨by rw [← hw]; rfl, rfl, rfl, trivial⟩, ?_⟩
      exact Ent.trans (Rm.to (A := pt g (xs.flatMap crC ++ rest)) (by repeat (first | exact Rm.h | apply Rm.t)) (row_close (n := xs.length))) pk_
    | false =>
      rw [hs] at hst
      (refine G tt_ok [] ?_; repeat (refine G1 tt_ok [] ?_; intro _))
      rw [hv0, hst]
      exact CW.ret (fin_ret rfl (Ent.trans (Rm.to (A := pt g (xs.flatMap crC ++ rest)) (by repeat (first | exact Rm.h | apply Rm.t)) (row_close (n := xs.length))) (Tk.ent (As := [pt d [.bool o0, .bool o1, .pointer (some ⟨sb, 0, none⟩), .slice (some ⟨g, 0, none⟩) xs.length cc], rowA (some ⟨g, 0, none⟩) xs.length (xs.flatMap crC)]) (by repeat (first | exact .n | exact Rm.h | apply Tk.c | apply Rm.t)))) ⟨rfl, rfl⟩)
/-- The processor that a shared interrupt goes to. -/
def targetV (sh : List Br.En) (xs : List CR) (id : Int) : Int := match Br.atE 32 sh id with
  | none => -1
  | some e => if e.2.2 then leastV xs 0 else if rightV xs.length e.2.1 then e.2.1 else -1
set_option maxHeartbeats 2000000 in
theorem target19 (β : Base) (d : Nat) (o0 o1 : Bool) (sb : Nat) (sq : Option Addr) (sc : Nat) (sh : List Br.En) (qc : Option Addr) (cc : Nat) (xs : List CR) (hn : xs.length ≤ 1000) (id : Int) (hid : id < 9223372036854775808) : Tri Tryz.prog β 141 [.pointer (some ⟨d, 0, none⟩), .int .i64 id]
    ([pt d [.bool o0, .bool o1, .pointer (some ⟨sb, 0, none⟩), .slice qc xs.length cc], rowA qc xs.length (xs.flatMap crC)] ++ Br.bkA sb sq sc 32 sh)
    (fun v L => v = .int .i64 (targetV sh xs id) ∧ L = [pt d [.bool o0, .bool o1, .pointer (some ⟨sb, 0, none⟩), .slice qc xs.length cc], rowA qc xs.length (xs.flatMap crC)] ++ Br.bkA sb sq sc 32 sh) := by
  refine Tri.intro tt_ok Tryz.func141 rfl rfl Tryz.ntmps141 rfl fun F => ?_
  (refine G tt_ok [] ?_; repeat (refine G1 tt_ok [] ?_; intro _))
  refine ke rfl rfl (getR β sb sq sc (first := 32) (id := id) (es := sh) (by omega) (by omega) hid) ?_
  (refine G tt_ok [] ?_; repeat (refine G1 tt_ok [] ?_; intro _))
  unfold targetV
  cases ha : Br.atE 32 sh id with
  | none =>
    rw [show Br.getV 32 sh id = (Br.zeroE, 90) by unfold Br.getV; rw [ha]]
    (refine G tt_ok [] ?_; repeat (refine G1 tt_ok [] ?_; intro _))
    exact CW.ret (fin_ret rfl pk_ ⟨rfl, rfl⟩)
  | some e =>
    rw [show Br.getV 32 sh id = (e, 0) by unfold Br.getV; rw [ha]]
    (refine G tt_ok [] ?_; repeat (refine G1 tt_ok [] ?_; intro _))
    cases hany : e.2.2 with
    | true =>
      (refine G tt_ok [] ?_; repeat (refine G1 tt_ok [] ?_; intro _))
      refine ke rfl rfl (least54 β d o0 o1 sb qc cc xs hn) ?_
      (refine G tt_ok [] ?_; repeat (refine G1 tt_ok [] ?_; intro _))
      exact CW.ret (fin_ret rfl pk_ ⟨by simp [packV, hany], rfl⟩)
    | false =>
      (refine G tt_ok [] ?_; repeat (refine G1 tt_ok [] ?_; intro _))
      refine ke rfl rfl (right55 β d _ _ _ rfl rfl rfl qc xs.length cc e.2.1) ?_
      cases hr : rightV xs.length e.2.1 with
      | true =>
        (refine G tt_ok [] ?_; repeat (refine G1 tt_ok [] ?_; intro _))
        exact CW.ret (fin_ret rfl pk_ ⟨by simp [packV, hany, hr], rfl⟩)
      | false =>
        (refine G tt_ok [] ?_; repeat (refine G1 tt_ok [] ?_; intro _))
        exact CW.ret (fin_ret rfl pk_ ⟨by simp [packV, hany, hr], rfl⟩)
@[reducible] def pk116 : List (Nat × Plan) := [(13, [(0, 0, []), (1, 0, []), (2, 0, []), (3, 0, []), (4, 0, []), (5, 0, []), (6, 0, []), (7, 0, []), (8, 0, []), (9, 0, []), (10, 0, []), (11, 0, []), (12, 1, [1, 3, 6, 9]), (13, 1, [])]), (14, [(0, 0, []), (1, 0, []), (2, 0, []), (3, 0, []), (4, 0, []), (5, 0, []), (6, 0, []), (7, 0, []), (8, 0, []), (9, 0, []), (10, 0, []), (11, 0, []), (12, 0, []), (13, 0, []), (14, 1, [])])]
@[reducible] def pl116_0 : Plan := [(0, 0, []), (1, 0, []), (2, 0, []), (3, 0, []), (4, 0, []), (5, 0, []), (6, 0, []), (7, 0, []), (8, 0, []), (9, 0, []), (10, 0, []), (11, 0, []), (12, 1, [1, 3, 6, 9]), (13, 1, [])]
@[reducible] def pl116_1 : Plan := [(0, 0, []), (1, 0, []), (2, 0, []), (3, 0, []), (4, 0, []), (5, 0, []), (6, 0, []), (7, 0, []), (8, 0, []), (9, 0, []), (10, 0, []), (11, 0, []), (12, 0, []), (13, 0, []), (14, 1, [])]
theorem wrap_wrap (x : Int) : IntKind.i64.wrap (IntKind.i64.wrap x) = IntKind.i64.wrap x := by
  rw [wrap_i64 x]; split <;> (rw [wrap_i64]; split <;> omega)
theorem hitK_iff {r : Rw} {off : Int} : ∀ {k : Nat}, hitK r off k = true ↔ ∃ j : Nat, j < k ∧ r.1 ≤ off + j ∧ off + j < r.2.1
  | 0 => by simp [hitK]
  | k + 1 => by
    have ih := hitK_iff (r := r) (off := off) (k := k)
    simp only [hitK, Bool.or_eq_true, Bool.and_eq_true, decide_eq_true_eq, ih]
    constructor
    · rintro (⟨j, h1, h2, h3⟩ | ⟨h2, h3⟩)
      · exact ⟨j, by omega, h2, h3⟩
      · exact ⟨k, by omega, h2, h3⟩
    · rintro ⟨j, h1, h2, h3⟩
      by_cases h : j = k
      · subst h; exact .inr ⟨h2, h3⟩
      · exact .inl ⟨j, by omega, h2, h3⟩
theorem hit_iff {r : Rw} {off w : Int} (h : r.1 < r.2.1) (hw : 0 < w) : hitK r off w.toNat = !(decide (off + w ≤ r.1) || decide (off ≥ r.2.1)) := by
  rw [Bool.eq_iff_iff, hitK_iff]
  simp only [Bool.not_eq_true', Bool.or_eq_false_iff, decide_eq_false_iff_not]
  constructor
  · rintro ⟨j, h1, h2, h3⟩; omega
  · rintro ⟨h1, h2⟩
    exact ⟨(max off r.1 - off).toNat, by omega, by omega, by omega⟩
/-- A row that the program and the document read alike. -/
def rowOk (r : Rw) : Prop := r.1 < r.2.1 ∧ (r.2.2.2.2.2.2 = 1 ∨ (r.2.2.2.2.2.1 = 1 ∧ r.2.2.2.2.2.2 ≠ 0))
theorem plV_alike {r : Rw} (h : rowOk r) (off w : Int) (hw : IntKind.i64.wrap w = w) : IntKind.i64.wrap (r.2.2.2.2.1 + IntKind.i64.wrap ((IntKind.i64.wrap (IntKind.i64.wrap (off - r.1) * r.2.2.2.2.2.1)).tdiv r.2.2.2.2.2.2)) = (plV r off w).2.1 ∧ IntKind.i64.wrap ((IntKind.i64.wrap (w * r.2.2.2.2.2.1)).tdiv r.2.2.2.2.2.2) = (plV r off w).2.2 := by
  unfold plV
  rcases h.2 with h1 | ⟨h1, h2⟩
  · rw [h1]
    simp only [Int.tdiv_one, wrap_wrap, hw]
    exact ⟨trivial, trivial⟩
  · rw [h1]
    simp only [Int.mul_one, wrap_wrap, hw]
    exact ⟨trivial, trivial⟩
theorem rd_row {cs : List Value} {off n : Nat} {ts : List Rw} (h : (cs.drop off).take (n * 7) = ts.flatMap rwC) {k : Nat} {t : Rw} (hk : ts[k]? = some t) : rdv ti265 cs (off + k * 7) = some (.agg (rwC t).toArray) :=
  rd_enc (enc := rwC) (sz := 7) (fun _ => rfl) rfl rfl h hk
set_option maxHeartbeats 8000000 in
theorem find108 (β : Base) {p : Option Addr} {n c : Nat} {rows : List Rw} {A : Atom} (h : RdS β p n 7 (rows.flatMap rwC) A) (hn : n ≤ 1000) (hok : ∀ r ∈ rows, rowOk r) {size : Int} (hs0 : 8 ≤ size) (hs1 : size ≤ 1000000) (off w : Int) :
    Tri Tryz.prog β 116 [.slice p n c, .int .i64 size, .int .i64 off, .int .i64 w] [A] (fun v L => v = .tuple #[plC (findV rows size off w).1, .int .i64 (findV rows size off w).2] ∧ L = [A]) := by
  have hrl : rows.length = n := by have := h.1; rw [flatE_len (sz := 7) (fun _ => rfl)] at this; omega
  refine Tri.intro tt_ok Tryz.func116 rfl rfl Tryz.ntmps116 rfl fun F => ?_
  by_cases hw48 : w ≠ 4 ∧ w ≠ 8
  · (repeat' (first | refine CW.seq ?_ | refine CW.region tt_ok rfl ?_ | refine CW.regionD tt_ok (by kernel_rfl) pl116_0 (by decide +kernel) ?_ | refine CW.regionD tt_ok (by kernel_rfl) pl116_1 (by decide +kernel) ?_ | refine CW.block ?_ | refine CW.skip ?_ | refine SQ.nil ?_ | refine SQ.pures1 tt_ok rfl ?_ | refine SQ.pure1 tt_ok rfl ?_ | refine SQ.new _ _ rfl rfl (fun _ => ?_) | refine SQ.ldA tt_ok rfl rfl (by repeat (first | exact .h | exact .q | apply At.t)) (by rfl) ?_ | refine SQ.stA tt_ok rfl rfl (by repeat (first | apply Up.h | apply Up.t)) (by rfl) (by rfl) (by repeat (first | exact trivial | refine ⟨trivial, ?_⟩ | refine ⟨wk (by repeat (first | exact .h | exact .q | apply At.t)) (by rfl), ?_⟩)) ?_ | refine CW.cond_tt rfl ?_ | refine CW.cond_ff rfl ?_ | ((first | refine CW.cond rfl (fun hc => ?_) (fun hc => ?_) | refine SQ.gsplit rfl (fun hc => ?_) (fun hc => ?_)) <;> try (exfalso; simp_all; done))))
    all_goals (first | (exfalso; simp at *; omega; done) | skip)
    refine CW.ret (fin_cells [_, _] ⟨⟨_, _, _, _, 0, rfl, rfl, rfl, rfl⟩, rfl, trivial⟩ (Ent.sel (is := [1]) rfl) ⟨?_, rfl⟩)
    simp [packV, findV, hw48, plC]
  · have hw48' : w = 4 ∨ w = 8 := by omega
    have hws : IntKind.i64.wrap (size - w) = size - w := by rw [wrap_i64]; split <;> omega
    refine CW.seq ?_
    (refine G tt_ok pk116 ?_; repeat (refine G1 tt_ok pk116 ?_; intro _))
    rename_i b8
    (repeat' (first | refine CW.seq ?_ | refine CW.region tt_ok rfl ?_ | refine CW.regionD tt_ok (by kernel_rfl) pl116_0 (by decide +kernel) ?_ | refine CW.regionD tt_ok (by kernel_rfl) pl116_1 (by decide +kernel) ?_ | refine CW.block ?_ | refine CW.skip ?_ | refine SQ.nil ?_ | refine SQ.pures1 tt_ok rfl ?_ | refine SQ.pure1 tt_ok rfl ?_ | refine SQ.new _ _ rfl rfl (fun _ => ?_) | refine SQ.ldA tt_ok rfl rfl (by repeat (first | exact .h | exact .q | apply At.t)) (by rfl) ?_ | refine SQ.stA tt_ok rfl rfl (by repeat (first | apply Up.h | apply Up.t)) (by rfl) (by rfl) (by repeat (first | exact trivial | refine ⟨trivial, ?_⟩ | refine ⟨wk (by repeat (first | exact .h | exact .q | apply At.t)) (by rfl), ?_⟩)) ?_ | refine CW.cond_tt rfl ?_ | refine CW.cond_ff rfl ?_ | ((first | refine CW.cond rfl (fun hc => ?_) (fun hc => ?_) | refine SQ.gsplit rfl (fun hc => ?_) (fun hc => ?_)) <;> try (exfalso; simp_all; done))))
    all_goals (first | (exfalso; simp at *; omega; done) | skip)
    all_goals refine SQ.div tt_ok rfl rfl (by omega) rfl ?_
    all_goals by_cases ht : off.tmod w = 0
    all_goals (repeat' (first | refine CW.seq ?_ | refine CW.region tt_ok rfl ?_ | refine CW.regionD tt_ok (by kernel_rfl) pl116_0 (by decide +kernel) ?_ | refine CW.regionD tt_ok (by kernel_rfl) pl116_1 (by decide +kernel) ?_ | refine CW.block ?_ | refine CW.skip ?_ | refine SQ.nil ?_ | refine SQ.pures1 tt_ok rfl ?_ | refine SQ.pure1 tt_ok rfl ?_ | refine SQ.new _ _ rfl rfl (fun _ => ?_) | refine SQ.ldA tt_ok rfl rfl (by repeat (first | exact .h | exact .q | apply At.t)) (by rfl) ?_ | refine SQ.stA tt_ok rfl rfl (by repeat (first | apply Up.h | apply Up.t)) (by rfl) (by rfl) (by repeat (first | exact trivial | refine ⟨trivial, ?_⟩ | refine ⟨wk (by repeat (first | exact .h | exact .q | apply At.t)) (by rfl), ?_⟩)) ?_ | refine CW.cond_tt rfl ?_ | refine CW.cond_ff rfl ?_ | ((first | refine CW.cond rfl (fun hc => ?_) (fun hc => ?_) | refine SQ.gsplit rfl (fun hc => ?_) (fun hc => ?_)) <;> try (exfalso; simp_all; done))))
    all_goals (first | (exfalso; simp at *; first | done | contradiction | omega) | skip)
    all_goals (first | (refine CW.ret (fin_cells [_, _] ⟨⟨_, _, _, _, 0, rfl, rfl, rfl, rfl⟩, rfl, trivial⟩ (Ent.sel (is := [1]) rfl) ⟨?_, rfl⟩)
                        simp [packV, findV, hw48, plC, ht]; done) | skip)
    all_goals rw [hws] at *
    all_goals (first | (refine CW.ret (fin_cells [_, _] ⟨⟨_, _, _, _, 0, rfl, rfl, rfl, rfl⟩, rfl, trivial⟩ (Ent.sel (is := [1]) rfl) ⟨?_, rfl⟩)
                        simp only [decide_eq_true_eq, decide_eq_false_iff_not] at *
                        have ho : off < 0 ∨ off > size - w := by omega
                        simp [packV, findV, hw48, plC, ht, ho]; done) | skip)
    all_goals (
      simp only [decide_eq_true_eq, decide_eq_false_iff_not] at *
      have hof : ¬ (off < 0 ∨ off > size - w) := by omega
      have hwo : IntKind.i64.wrap (off + w) = off + w := by rw [wrap_i64]; split <;> omega
      have hww : IntKind.i64.wrap w = w := by rw [wrap_i64]; split <;> omega
      refine CW.loop (α := Nat) (fun k => k ≤ n ∧ ∀ (j : Nat) (r : Rw), j < k → rows[j]? = some r → hitK r off w.toNat = false) (fun k => [(40, .int .i64 k), (39, .int .i64 n), (38, .slice p n c), (9, .int .i64 0), (8, .pointer (some ⟨b8, 0, none⟩)), (3, .int .i64 w), (2, .int .i64 off)]) (fun _ => [pt b8 [.int .i64 0, .int .i64 0, .int .i64 0], A]) (fun k => n - k) 0 ⟨by omega, by omega⟩ ⟨rfl, rfl, rfl, rfl, rfl, rfl, rfl, trivial⟩ (Ent.refl _) ?_
      rintro k ⟨hk, hbef⟩
      (refine G tt_ok pk116 ?_; repeat (refine G1 tt_ok pk116 ?_; intro _))
      generalize e1 : decide ((k : Int) < (n : Int)) = cc
      cases cc
      · have : k = n := by simp at e1; omega
        subst this
        (refine G tt_ok pk116 ?_; repeat (refine G1 tt_ok pk116 ?_; intro _))
        refine CW.exit ?_
        (refine G tt_ok pk116 ?_; repeat (refine G1 tt_ok pk116 ?_; intro _))
        refine CW.ret (fin_cells [_, _] ⟨⟨_, _, _, _, 0, rfl, rfl, rfl, rfl⟩, rfl, trivial⟩ (Ent.sel (is := [1]) rfl) ⟨?_, rfl⟩)
        rw [show findV rows size off w = ((0, 0, 0), 0) by
          unfold findV
          rw [if_neg hw48, if_neg (by simpa using ht), if_neg hof, find_no (fun j b hj => hbef j b (by have := (List.getElem?_eq_some_iff.1 hj).1; omega) hj)]]
        rfl
      · have hlt : k < n := by simp at e1; omega
        have hw1 : IntKind.i64.wrap ((k : Int) + 1) = ((k + 1 : Nat) : Int) := by rw [wrap_i64]; split <;> omega
        obtain ⟨r, hr⟩ : ∃ r, rows[k]? = some r := ⟨rows[k], List.getElem?_eq_getElem (by omega)⟩
        have hpr := hok r (List.mem_of_getElem? hr)
        obtain ⟨b, o, q, cs, rfl, rfl, hcs⟩ := h.2.resolve_left (by omega)
        have hh := hit_iff (off := off) (w := w) hpr.1 (by omega)
        have hpl := plV_alike hpr off w hww
        have hfind : ∀ (x : (Int × Int × Int) × Int), outV r off w = x → hitK r off w.toNat = true → findV rows size off w = x := fun x hx hh => by
          unfold findV
          rw [if_neg hw48, if_neg (by simpa using ht), if_neg hof, find_at hr hh hbef]
          exact hx
        have hnext : hitK r off w.toNat = false → ∀ (j : Nat) (r2 : Rw), j < k + 1 → rows[j]? = some r2 → hitK r2 off w.toNat = false := fun hnj i r2 hi hr2 => by
          by_cases hik : i = k
          · subst hik
            rw [hr] at hr2
            injection hr2 with hr2
            rw [← hr2]; exact hnj
          · exact hbef i r2 (by omega) hr2
        have hper : r.2.2.2.2.2.2 ≠ 0 := by rcases hpr.2 with h | h <;> omega
        obtain ⟨r1, r2, r3, r4, r5, r6, r7⟩ := r
        simp only at hh hpl hper
        (refine G tt_ok pk116 ?_; repeat (refine G1 tt_ok pk116 ?_; intro _))
        refine SQ.idx tt_ok rfl rfl k rfl hlt (o' := o + k * 7) rfl ?_
        refine SQ.loadq tt_ok rfl rfl 1 rfl (rd_row hcs hr) ?_
        (refine G tt_ok pk116 ?_; repeat (refine G1 tt_ok pk116 ?_; intro _))
        rename_i b11
        rw [hwo]
        by_cases h3 : off + w ≤ r1
        · rw [decide_eq_true h3] at hh ⊢
          (refine G tt_ok pk116 ?_; repeat (refine G1 tt_ok pk116 ?_; intro _))
          refine CW.exit ?_
          (refine G tt_ok pk116 ?_; repeat (refine G1 tt_ok pk116 ?_; intro _))
          exact ⟨k + 1, ⟨by omega, hnext (by rw [hh]; rfl)⟩, by omega, ⟨by rw [← hw1]; rfl, rfl, rfl, rfl, rfl, rfl, rfl, trivial⟩, Ent.sel (is := [1, 1]) rfl⟩
        · rw [decide_eq_false h3] at hh ⊢
          (refine G tt_ok pk116 ?_; repeat (refine G1 tt_ok pk116 ?_; intro _))
          by_cases h4 : off ≥ r2
          · rw [decide_eq_true h4] at hh ⊢
            (refine G tt_ok pk116 ?_; repeat (refine G1 tt_ok pk116 ?_; intro _))
            refine CW.exit ?_
            (refine G tt_ok pk116 ?_; repeat (refine G1 tt_ok pk116 ?_; intro _))
            exact ⟨k + 1, ⟨by omega, hnext (by rw [hh]; rfl)⟩, by omega, ⟨by rw [← hw1]; rfl, rfl, rfl, rfl, rfl, rfl, rfl, trivial⟩, Ent.sel (is := [1, 1]) rfl⟩
          · rw [decide_eq_false h4] at hh ⊢
            (refine G tt_ok pk116 ?_; repeat (refine G1 tt_ok pk116 ?_; intro _))
            by_cases h5 : w = r3
            · rw [show (w != r3) = false by simp [h5]]
              (refine G tt_ok pk116 ?_; repeat (refine G1 tt_ok pk116 ?_; intro _))
              refine SQ.div tt_ok rfl rfl hper rfl ?_
              (refine G tt_ok pk116 ?_; repeat (refine G1 tt_ok pk116 ?_; intro _))
              refine SQ.div tt_ok rfl rfl hper rfl ?_
              (refine G tt_ok pk116 ?_; repeat (refine G1 tt_ok pk116 ?_; intro _))
              refine CW.ret (fin_cells [_, _] ⟨⟨_, _, _, _, 2, rfl, rfl, rfl, rfl⟩, rfl, trivial⟩ (Ent.sel (is := [3]) rfl) ⟨?_, rfl⟩)
              rw [hfind _ rfl (by rw [hh]; rfl)]
              unfold outV
              rw [if_pos h5]
              simp only [if_true]
              rw [hpl.1, hpl.2]
              rfl
            · rw [show (w != r3) = true by simp [h5]]
              (refine G tt_ok pk116 ?_; repeat (refine G1 tt_ok pk116 ?_; intro _))
              refine CW.ret (fin_cells [_, _] ⟨⟨_, _, _, _, 1, rfl, rfl, rfl, rfl⟩, rfl, trivial⟩ (Ent.sel (is := [2]) rfl) ⟨?_, rfl⟩)
              rw [hfind _ rfl (by rw [hh]; rfl)]
              unfold outV
              rw [if_neg h5]
              rfl)
theorem distRw_ok : ∀ r ∈ distRw, rowOk r := by
  have h : (distRw.all fun r => decide (r.1 < r.2.1) && (r.2.2.2.2.2.2 == 1 || (r.2.2.2.2.2.1 == 1 && r.2.2.2.2.2.2 != 0))) = true := by kernel_rfl
  intro r hr
  have := List.all_eq_true.1 h r hr
  simp only [Bool.and_eq_true, Bool.or_eq_true, decide_eq_true_eq, beq_iff_eq, bne_iff_ne] at this
  exact this
theorem dist109 (β : Base) : Tri Tryz.prog β 119 [] [] (fun v L => ∃ b, v = .slice (some ⟨b, 0, none⟩) 12 12 ∧ L = [pt b (distRw.flatMap rwC)]) := by
  refine Tri.intro tt_ok Tryz.func119 rfl rfl Tryz.ntmps119 rfl fun F => ?_
  refine G tt_ok [] ?_
  refine SQ.built tt_ok rfl rfl (fun b => ⟨(by repeat (first | exact trivial | refine ⟨trivial, ?_⟩ | refine ⟨wk (by repeat (first | exact .h | exact .q | apply At.t)) (by rfl), ?_⟩)), ?_⟩)
  refine G tt_ok [] ?_
  refine CW.ret (fin_ret rfl (Ent.refl _) ⟨b, rfl, ?_⟩)
  rfl
theorem regsDist69 (β : Base) (off w : Int) : Tri Tryz.prog β 51 [.int .i64 off, .int .i64 w] [] (fun v L => v = .tuple #[.agg #[.int .i64 (distV off w).1.1, .int .i64 (distV off w).1.2.1, .int .i64 (distV off w).1.2.2], .int .i64 (distV off w).2] ∧ L = []) := by
  refine Tri.intro tt_ok Tryz.func51 rfl rfl Tryz.ntmps51 rfl fun F => ?_
  (refine G tt_ok [] ?_; repeat (refine G1 tt_ok [] ?_; intro _))
  (refine ka rfl rfl (dist109 β) ?_; rintro _ _ ⟨b, rfl, rfl⟩; refine w_ ?_)
  have hB : RdS β (some ⟨b, 0, none⟩) 12 7 (distRw.flatMap rwC) (pt b (distRw.flatMap rwC)) := ⟨rfl, .inr ⟨b, 0, true, _, rfl, rfl, rfl⟩⟩
  (refine G tt_ok [] ?_; repeat (refine G1 tt_ok [] ?_; intro _))
  refine ke rfl rfl (find108 β hB (by omega) distRw_ok (by omega) (by omega) off w) ?_
  (refine G tt_ok [] ?_; repeat (refine G1 tt_ok [] ?_; intro _))
  refine CW.ret (fin_cells [_, _] ⟨⟨_, _, _, _, 1, rfl, rfl, rfl, rfl⟩, rfl, trivial⟩ (Ent.dropAll _) ⟨rfl, rfl⟩)
@[reducible] def pk50 : List (Nat × Plan) := [(6, [(0, 0, []), (1, 0, []), (2, 0, []), (3, 0, []), (4, 0, []), (5, 0, []), (6, 0, []), (7, 0, []), (8, 0, []), (9, 0, []), (10, 1, [3, 7, 8])])]
theorem and2_is (v : Nat) (hv : v < 2 ^ 64) : (IntKind.u64.wrap ((BitVec.ofInt IntKind.u64.bits (v : Int) &&& BitVec.ofInt IntKind.u64.bits 2).toNat : Int) == 2) = decide (v / 2 % 2 = 1) := by
  have h := and64 (b := 2) hv (by decide)
  rw [show IntKind.u64.wrap ((BitVec.ofInt IntKind.u64.bits (v : Int) &&& BitVec.ofInt IntKind.u64.bits 2).toNat : Int) = ((v &&& 2 : Nat) : Int) from h, nat_and_two, Bool.eq_iff_iff]
  simp only [beq_iff_eq, decide_eq_true_eq]
  omega
theorem and1_is (v : Nat) (hv : v < 2 ^ 64) : (IntKind.u64.wrap ((BitVec.ofInt IntKind.u64.bits (v : Int) &&& BitVec.ofInt IntKind.u64.bits 1).toNat : Int) == 1) = decide (v % 2 = 1) := by
  have h := and64_1 hv
  rw [show IntKind.u64.wrap ((BitVec.ofInt IntKind.u64.bits (v : Int) &&& BitVec.ofInt IntKind.u64.bits 1).toNat : Int) = ((v % 2 : Nat) : Int) from h, Bool.eq_iff_iff]
  simp only [beq_iff_eq, decide_eq_true_eq]
  omega
/-- What a write to a processor's own registers makes. -/
def DS.wrOwnV (D : DS) (k r f c : Int) (v : Nat) : DS × Int :=
  if rightV D.xs.length k then (match D.xs[k.toNat]? with
    | some x => (if r = 3 then { D with xs := D.xs.set k.toNat { x with sl := decide (v / 2 % 2 = 1) } } else { D with xs := D.xs.set k.toNat { x with es := (Bn.wrK 0 x.es r f c v (cntV c)).1 } }, 0)
    | none => (D, 0))
  else (D, 130)
set_option maxHeartbeats 4000000 in
theorem wrOwn27 (β : Base) (d : Nat) (D : DS) (k r f c : Int) (v : Nat) (hv : v < 2 ^ 64) : Tri Tryz.prog β 50 [.pointer (some ⟨d, 0, none⟩), .int .i64 k, .agg #[.int .i64 r, .int .i64 f, .int .i64 c], .int .u64 v] (dA d D) (fun u L => u = .int .i64 (D.wrOwnV k r f c v).2 ∧ L = dA d (D.wrOwnV k r f c v).1) := by
  obtain ⟨o0, o1, sb, sq, sc, sh, qc, cc, xs⟩ := D
  refine Tri.intro tt_ok Tryz.func50 rfl rfl Tryz.ntmps50 rfl fun F => ?_
  unfold dA DS.wrOwnV
  simp only
  (refine G tt_ok pk50 ?_; repeat (refine G1 tt_ok pk50 ?_; intro _))
  refine ke rfl rfl (right55 β d _ _ _ rfl rfl rfl qc xs.length cc k) ?_
  cases hr : rightV xs.length k with
  | false =>
    (refine G tt_ok pk50 ?_; repeat (refine G1 tt_ok pk50 ?_; intro _))
    exact CW.ret (fin_ret rfl pk_ ⟨rfl, rfl⟩)
  | true =>
    obtain ⟨x, hx, hl, hk⟩ := right_at hr
    rw [if_pos rfl, hx]
    simp only
    (refine G tt_ok pk50 ?_; repeat (refine G1 tt_ok pk50 ?_; intro _))
    refine CW.ent (Rm.to (A := rowA qc xs.length (xs.flatMap crC)) (by repeat (first | exact Rm.h | apply Rm.t)) (row_open (by omega))) ?_
    refine CW.open_ fun y => ?_
    obtain ⟨g, rest⟩ := y
    refine CW.pure_ fun hv => ?_
    simp only at hv
    subst hv
    refine CW.ent (Rm.to (A := bksA xs) (by repeat (first | exact Rm.h | apply Rm.t)) (bks_open hx)) ?_
    by_cases h3 : r = 3
    · subst h3
      (refine G tt_ok pk50 ?_; repeat (refine G1 tt_ok pk50 ?_; intro _))
      refine SQ.idx tt_ok rfl rfl k.toNat hk hl (o' := 0 + k.toNat * 2) rfl ?_
      (refine G tt_ok pk50 ?_; repeat (refine G1 tt_ok pk50 ?_; intro _))
      refine SQ.stA tt_ok rfl rfl (by repeat (first | apply Up.h | apply Up.t)) (by rfl) (wr_sl hx _ rest) (by repeat (first | exact trivial | refine ⟨trivial, ?_⟩ | refine ⟨wk (by repeat (first | exact .h | exact .q | apply At.t)) (by rfl), ?_⟩)) ?_
      rw [and2_is v hv]
      (refine G tt_ok pk50 ?_; repeat (refine G1 tt_ok pk50 ?_; intro _))
      refine CW.ret (fin_ret rfl (A := dA d ⟨o0, o1, sb, sq, sc, sh, some ⟨g, 0, none⟩, cc, xs.set k.toNat { x with sl := decide (v / 2 % 2 = 1) }⟩) ?_ ⟨rfl, rfl⟩)
      unfold dA
      simp only [List.length_set]
      refine Ent.trans (Rm.to (A := pt g ((xs.set k.toNat { x with sl := decide (v / 2 % 2 = 1) }).flatMap crC ++ rest)) (by repeat (first | exact Rm.h | apply Rm.t)) (row_close (n := xs.length))) ?_
      refine Ent.trans (Tk.to (As := CR.bank { x with sl := decide (v / 2 % 2 = 1) } ++ [bksA (xs.eraseIdx k.toNat)]) (by repeat (first | exact .n | exact Rm.h | apply Tk.c | apply Rm.t)) (bks_close _ hl)) ?_
      exact pk_
    · rw [if_neg h3]
      (refine G tt_ok pk50 ?_; repeat (refine G1 tt_ok pk50 ?_; intro _))
      rw [show (r == 3) = false by simp [h3]]
      (refine G tt_ok pk50 ?_; repeat (refine G1 tt_ok pk50 ?_; intro _))
      refine SQ.idx tt_ok rfl rfl k.toNat hk hl (o' := 0 + k.toNat * 2) rfl ?_
      (refine G tt_ok pk50 ?_; repeat (refine G1 tt_ok pk50 ?_; intro _))
      refine SQ.ldA tt_ok rfl rfl (by repeat (first | exact .h | exact .q | apply At.t)) (rd_own hx rest) ?_
      (refine G tt_ok pk50 ?_; repeat (refine G1 tt_ok pk50 ?_; intro _))
      (refine ka rfl rfl (Bn.write13 β x.b x.q x.c (first := 0) (es0 := x.es) (by omega) (by omega) r f c v) ?_; rintro _ _ ⟨rfl, rfl⟩; refine ⟨(by repeat (first | exact trivial | refine ⟨trivial, ?_⟩ | refine ⟨wk (by repeat (first | exact .h | exact .q | apply At.t)) (rd_own hx rest), ?_⟩ | refine ⟨wk (by repeat (first | exact .h | exact .q | apply At.t)) (by rfl), ?_⟩)), ?_⟩)
      (refine G tt_ok pk50 ?_; repeat (refine G1 tt_ok pk50 ?_; intro _))
      refine CW.ret (fin_ret rfl (A := dA d ⟨o0, o1, sb, sq, sc, sh, some ⟨g, 0, none⟩, cc, xs.set k.toNat { x with es := (Bn.wrK 0 x.es r f c v (cntV c)).1 }⟩) ?_ ⟨rfl, rfl⟩)
      unfold dA
      simp only [List.length_set]
      rw [flat_set_same (enc := crC) (y := { x with es := (Bn.wrK 0 x.es r f c v (cntV c)).1 }) hx rfl]
      refine Ent.trans (Rm.to (A := pt g (xs.flatMap crC ++ rest)) (by repeat (first | exact Rm.h | apply Rm.t)) (row_close (n := xs.length))) ?_
      refine Ent.trans (Tk.to (As := CR.bank { x with es := (Bn.wrK 0 x.es r f c v (cntV c)).1 } ++ [bksA (xs.eraseIdx k.toNat)]) (by repeat (first | exact .n | exact Rm.h | apply Tk.c | apply Rm.t)) (bks_close _ hl)) ?_
      exact pk_
@[reducible] def pk19 : List (Nat × Plan) := [(9, [(0, 0, []), (1, 0, []), (2, 0, []), (3, 0, []), (4, 0, []), (5, 0, []), (6, 1, [3, 5]), (7, 0, []), (8, 0, []), (9, 0, []), (10, 2, []), (11, 1, []), (12, 0, [])]), (12, [(0, 0, []), (1, 0, []), (2, 0, []), (3, 0, []), (4, 0, []), (5, 0, []), (6, 0, []), (7, 1, [3, 5, 6])]), (5, [(0, 0, []), (1, 0, []), (2, 0, []), (3, 0, []), (4, 0, []), (5, 0, []), (6, 1, [3, 4])])]
theorem and_mod {a k : Nat} (ha : a < 2 ^ 64) (hk : k ≤ 63) : IntKind.u64.wrap ((BitVec.ofInt IntKind.u64.bits (a : Int) &&& BitVec.ofInt IntKind.u64.bits ((2 ^ k - 1 : Nat) : Int)).toNat : Int) = ((a % 2 ^ k : Nat) : Int) := by
  have h1 : (2 : Nat) ^ k ≤ 2 ^ 63 := Nat.pow_le_pow_right (by omega) hk
  have e63 : (2 : Nat) ^ 63 = 9223372036854775808 := rfl
  have e64 : (2 : Nat) ^ 64 = 18446744073709551616 := rfl
  have h2 := and64 ha (b := 2 ^ k - 1) (by omega)
  rw [Nat.and_two_pow_sub_one_eq_mod] at h2
  exact h2
/-- A route, of a register. -/
def routeV (v : Nat) : Int × Bool := (((v % 256 : Nat) : Int), decide (v / 2 ^ 31 % 2 = 1))
theorem route70 (β : Base) (v : Nat) (hv : v < 2 ^ 64) : Tri Tryz.prog β 53 [.int .u64 v] [] (fun u L => u = .agg #[.int .i64 (routeV v).1, .bool (routeV v).2] ∧ L = []) := by
  refine Tri.intro tt_ok Tryz.func53 rfl rfl Tryz.ntmps53 rfl fun F => ?_
  (refine G tt_ok [] ?_; repeat (refine G1 tt_ok [] ?_; intro _))
  refine CW.ret (fin_cells [_] ⟨⟨_, _, _, _, 0, rfl, rfl, rfl, rfl⟩, trivial⟩ (Ent.dropAll _) ⟨?_, rfl⟩)
  have h1 : IntKind.i64.wrap (IntKind.u64.wrap ((BitVec.ofInt IntKind.u64.bits (v : Int) &&& BitVec.ofInt IntKind.u64.bits 255).toNat : Int)) = ((v % 256 : Nat) : Int) := by
    have h := and_mod (k := 8) hv (by omega)
    rw [show IntKind.u64.wrap ((BitVec.ofInt IntKind.u64.bits (v : Int) &&& BitVec.ofInt IntKind.u64.bits 255).toNat : Int) = ((v % 256 : Nat) : Int) from h]
    exact wrap_id (by omega) (by omega)
  have h2 := bit64 hv (show 31 < 64 by omega)
  unfold routeV packV
  simp only
  rw [← h1]
  have h3 : decide (v / 2 ^ 31 % 2 = 1) = (IntKind.u64.wrap ((BitVec.ofInt IntKind.u64.bits ((v : Int).fdiv (2 ^ min 31 IntKind.u64.bits)) &&& BitVec.ofInt IntKind.u64.bits 1).toNat : Int) == 1) := by
    rw [h2, Bool.eq_iff_iff]
    simp only [beq_iff_eq, decide_eq_true_eq]
    omega
  rw [h3]
/-- What a write to the distributor's frame makes. -/
def DS.wrV (D : DS) (off w : Int) (v : Nat) : DS × Int :=
  if (distV off w).2 ≠ 0 then (D, (distV off w).2) else
  (if (distV off w).1.1 = 1 then { D with o0 := decide (v % 2 = 1), o1 := decide (v / 2 % 2 = 1) }
   else if (distV off w).1.1 = 13 then (match Br.atE 32 D.sh (distV off w).1.2.1 with
     | some e => { D with sh := (Br.putV 32 D.sh (distV off w).1.2.1 (e.1, routeV v)).1 }
     | none => D)
   else { D with sh := (Br.wrK 32 D.sh (distV off w).1.1 (distV off w).1.2.1 (distV off w).1.2.2 v (cntV (distV off w).1.2.2)).1 }, 0)
theorem getR_some (β : Base) (b : Nat) (q0 : Option Addr) (c0 : Nat) {first id : Int} {es : List Br.En} {e : Br.En} (h0 : 0 ≤ first) (h1 : first ≤ 16384) (h3 : id < 9223372036854775808) (h : Br.atE first es id = some e) :
    Tri Tryz.prog β 52 [.pointer (some ⟨b, 0, none⟩), .int .i64 id] (Br.bkA b q0 c0 first es) (fun v L => v = .tuple #[.agg #[.bool e.1.1.1, .bool e.1.1.2.1, .bool e.1.1.2.2.1, .bool e.1.1.2.2.2, .bool e.1.2.1, .int .i64 e.1.2.2.1, .int .i64 e.1.2.2.2, .int .i64 e.2.1, .bool e.2.2], .int .i64 0] ∧ L = Br.bkA b q0 c0 first es) := by
  have := getR β b q0 c0 (es := es) h0 h1 h3
  rw [show Br.getV first es id = (e, 0) by unfold Br.getV; rw [h]] at this
  exact this
theorem getR_none (β : Base) (b : Nat) (q0 : Option Addr) (c0 : Nat) {first id : Int} {es : List Br.En} (h0 : 0 ≤ first) (h1 : first ≤ 16384) (h3 : id < 9223372036854775808) (h : Br.atE first es id = none) :
    Tri Tryz.prog β 52 [.pointer (some ⟨b, 0, none⟩), .int .i64 id] (Br.bkA b q0 c0 first es) (fun v L => v = .tuple #[.agg #[.bool false, .bool false, .bool false, .bool false, .bool false, .int .i64 0, .int .i64 0, .int .i64 0, .bool false], .int .i64 90] ∧ L = Br.bkA b q0 c0 first es) := by
  have := getR β b q0 c0 (es := es) h0 h1 h3
  rw [show Br.getV first es id = (Br.zeroE, 90) by unfold Br.getV; rw [h]] at this
  exact this
theorem putR (β : Base) (b : Nat) (q0 : Option Addr) (c0 : Nat) {first id : Int} {es : List Br.En} (l : Ln) (t : Int × Bool) (h0 : 0 ≤ first) (h1 : first ≤ 16384) (h3 : id < 9223372036854775808) :
    Tri Tryz.prog β 54 [.pointer (some ⟨b, 0, none⟩), .int .i64 id, .agg #[.bool l.1.1, .bool l.1.2.1, .bool l.1.2.2.1, .bool l.1.2.2.2, .bool l.2.1, .int .i64 l.2.2.1, .int .i64 l.2.2.2, .int .i64 t.1, .bool t.2]] (Br.bkA b q0 c0 first es) (fun v L => v = .int .i64 (Br.putV first es id (l, t)).2 ∧ L = Br.bkA b q0 c0 first (Br.putV first es id (l, t)).1) := Br.put30 β b q0 c0 (l, t) h0 h1 h3
theorem distV_id (off w : Int) : (distV off w).1.2.1 < 9223372036854775808 := by
  unfold distV findV
  split
  · simp
  · split
    · simp
    · split
      · simp
      · split
        · unfold outV; split
          · exact Bn.wrap_lt _
          · simp
        · simp
set_option maxHeartbeats 8000000 in
theorem write32 (β : Base) (d : Nat) (D : DS) (off w : Int) (v : Nat) (hv : v < 2 ^ 64) : Tri Tryz.prog β 19 [.pointer (some ⟨d, 0, none⟩), .int .i64 off, .int .i64 w, .int .u64 v] (dA d D) (fun u L => u = .int .i64 (D.wrV off w v).2 ∧ L = dA d (D.wrV off w v).1) := by
  obtain ⟨o0, o1, sb, sq, sc, sh, qc, cc, xs⟩ := D
  refine Tri.intro tt_ok Tryz.func19 rfl rfl Tryz.ntmps19 rfl fun F => ?_
  unfold dA DS.wrV
  simp only
  have hD := regsDist69 β off w
  have hpid := distV_id off w
  generalize distV off w = P at hD hpid ⊢
  obtain ⟨⟨pr, pf, pc⟩, e⟩ := P
  simp only at hD hpid ⊢
  (refine G tt_ok pk19 ?_; repeat (refine G1 tt_ok pk19 ?_; intro _))
  refine ke rfl rfl (hD) ?_
  (refine G tt_ok pk19 ?_; repeat (refine G1 tt_ok pk19 ?_; intro _))
  by_cases he : e = 0
  · subst he
    rw [if_neg (by simp)]
    (refine G tt_ok pk19 ?_; repeat (refine G1 tt_ok pk19 ?_; intro _))
    by_cases h1 : pr = 1
    · subst h1
      rw [if_pos rfl]
      (refine G tt_ok pk19 ?_; repeat (refine G1 tt_ok pk19 ?_; intro _))
      refine SQ.bArr tt_ok rfl rfl ?_
      (refine G tt_ok pk19 ?_; repeat (refine G1 tt_ok pk19 ?_; intro _))
      rw [and2_is v hv, and1_is v hv]
      exact CW.ret (fin_ret rfl (A := dA d ⟨decide (v % 2 = 1), decide (v / 2 % 2 = 1), sb, sq, sc, sh, qc, cc, xs⟩) pk_ ⟨rfl, rfl⟩)
    · rw [if_neg h1, show (pr == 1) = false by simp [h1]]
      (refine G tt_ok pk19 ?_; repeat (refine G1 tt_ok pk19 ?_; intro _))
      by_cases h13 : pr = 13
      · subst h13
        rw [if_pos rfl]
        (refine G tt_ok pk19 ?_; repeat (refine G1 tt_ok pk19 ?_; intro _))
        cases ha : Br.atE 32 sh pf with
        | none =>
          refine ke rfl rfl (getR_none β sb sq sc (first := 32) (id := pf) (es := sh) (by omega) (by omega) hpid ha) ?_
          (refine G tt_ok pk19 ?_; repeat (refine G1 tt_ok pk19 ?_; intro _))
          refine ke rfl rfl (route70 β v hv) ?_
          (refine G tt_ok pk19 ?_; repeat (refine G1 tt_ok pk19 ?_; intro _))
          exact CW.ret (fin_ret rfl (A := dA d ⟨o0, o1, sb, sq, sc, sh, qc, cc, xs⟩) pk_ ⟨rfl, rfl⟩)
        | some en =>
          refine ke rfl rfl (getR_some β sb sq sc (first := 32) (id := pf) (es := sh) (by omega) (by omega) hpid ha) ?_
          (refine G tt_ok pk19 ?_; repeat (refine G1 tt_ok pk19 ?_; intro _))
          refine ke rfl rfl (route70 β v hv) ?_
          (refine G tt_ok pk19 ?_; repeat (refine G1 tt_ok pk19 ?_; intro _))
          refine ke rfl rfl (putR β sb sq sc (first := 32) (id := pf) (es := sh) en.1 (routeV v) (by omega) (by omega) hpid) ?_
          (refine G tt_ok pk19 ?_; repeat (refine G1 tt_ok pk19 ?_; intro _))
          exact CW.ret (fin_ret rfl (A := dA d ⟨o0, o1, sb, sq, sc, (Br.putV 32 sh pf (en.1, routeV v)).1, qc, cc, xs⟩) pk_ ⟨rfl, rfl⟩)
      · rw [if_neg h13, show (pr == 13) = false by simp [h13]]
        (refine G tt_ok pk19 ?_; repeat (refine G1 tt_ok pk19 ?_; intro _))
        refine ke rfl rfl (Br.write13 β sb sq sc (first := 32) (es0 := sh) (by omega) (by omega) pr pf pc v) ?_
        (refine G tt_ok pk19 ?_; repeat (refine G1 tt_ok pk19 ?_; intro _))
        exact CW.ret (fin_ret rfl (A := dA d ⟨o0, o1, sb, sq, sc, (Br.wrK 32 sh pr pf pc v (cntV pc)).1, qc, cc, xs⟩) pk_ ⟨rfl, rfl⟩)
  · rw [if_pos he, show (e != 0) = true by simp [he]]
    (refine G tt_ok pk19 ?_; repeat (refine G1 tt_ok pk19 ?_; intro _))
    exact CW.ret (fin_ret rfl pk_ ⟨rfl, rfl⟩)
/-- An interrupt's state, set. -/
def DS.putV (D : DS) (k id : Int) (s : Iq) : DS × Int :=
  if (D.getV k id).2 ≠ 0 then (D, (D.getV k id).2) else
  if id < 32 then (match D.xs[k.toNat]? with
    | some x => ({ D with xs := D.xs.set k.toNat { x with es := (Bn.putV 0 x.es id ((s, (D.getV k id).1.2), ())).1 } }, (Bn.putV 0 x.es id ((s, (D.getV k id).1.2), ())).2)
    | none => (D, 0))
  else ({ D with sh := (Br.putV 32 D.sh id ((s, (D.getV k id).1.2), (Br.getV 32 D.sh id).1.2)).1 }, (Br.putV 32 D.sh id ((s, (D.getV k id).1.2), (Br.getV 32 D.sh id).1.2)).2)
theorem get21' (β : Base) (d : Nat) (D : DS) (k id : Int) (hid : id < 9223372036854775808) : Tri Tryz.prog β 153 [.pointer (some ⟨d, 0, none⟩), .int .i64 k, .int .i64 id] (dA d D) (fun v L => v = .tuple #[.agg #[.bool (D.getV k id).1.1.1, .bool (D.getV k id).1.1.2.1, .bool (D.getV k id).1.1.2.2.1, .bool (D.getV k id).1.1.2.2.2, .bool (D.getV k id).1.2.1, .int .i64 (D.getV k id).1.2.2.1, .int .i64 (D.getV k id).1.2.2.2], .int .i64 (D.getV k id).2] ∧ L = dA d D) := get21 β d D k id hid
theorem fld {v : Nat} (hv : v < 2 ^ 64) (k m : Nat) (hk : k < 64) (hm : m ≤ 63) : IntKind.u64.wrap ((BitVec.ofInt IntKind.u64.bits ((v : Int).fdiv (2 ^ min k IntKind.u64.bits)) &&& BitVec.ofInt IntKind.u64.bits ((2 ^ m - 1 : Nat) : Int)).toNat : Int) = ((v / 2 ^ k % 2 ^ m : Nat) : Int) := by
  have ep : ((2 : Int) ^ k) = ((2 ^ k : Nat) : Int) := by push_cast; rfl
  rw [show min k IntKind.u64.bits = k by show min k 64 = k; omega, ep, Int.fdiv_eq_ediv_of_nonneg _ (Int.natCast_nonneg _), ← Int.natCast_ediv]
  exact and_mod (Nat.lt_of_le_of_lt (Nat.div_le_self _ _) hv) hm
def oddV (v : Nat) : Bool := decide (v / 2 ^ 16 % 256 ≠ 0) || decide (v / 2 ^ 32 % 256 ≠ 0) || decide (v / 2 ^ 44 % 16 ≠ 0) || decide (v / 2 ^ 48 % 256 ≠ 0)
theorem decode61 (β : Base) (v : Nat) (hv : v < 2 ^ 64) : Tri Tryz.prog β 131 [.int .u64 v] [] (fun u L => u = .agg #[.int .i64 ((v / 2 ^ 24 % 16 : Nat) : Int), .bool (decide (v / 2 ^ 40 % 2 = 1)), .int .i64 ((v % 65536 : Nat) : Int), .bool (oddV v)] ∧ L = []) := by
  refine Tri.intro tt_ok Tryz.func131 rfl rfl Tryz.ntmps131 rfl fun F => ?_
  have f24 : IntKind.u64.wrap ((BitVec.ofInt IntKind.u64.bits ((v : Int).fdiv (2 ^ min 24 IntKind.u64.bits)) &&& BitVec.ofInt IntKind.u64.bits 15).toNat : Int) = ((v / 2 ^ 24 % 16 : Nat) : Int) := fld hv 24 4 (by omega) (by omega)
  have f40 : IntKind.u64.wrap ((BitVec.ofInt IntKind.u64.bits ((v : Int).fdiv (2 ^ min 40 IntKind.u64.bits)) &&& BitVec.ofInt IntKind.u64.bits 1).toNat : Int) = ((v / 2 ^ 40 % 2 : Nat) : Int) := fld hv 40 1 (by omega) (by omega)
  have f0 : IntKind.u64.wrap ((BitVec.ofInt IntKind.u64.bits (v : Int) &&& BitVec.ofInt IntKind.u64.bits 65535).toNat : Int) = ((v % 65536 : Nat) : Int) := and_mod (k := 16) hv (by omega)
  have f16 : IntKind.u64.wrap ((BitVec.ofInt IntKind.u64.bits ((v : Int).fdiv (2 ^ min 16 IntKind.u64.bits)) &&& BitVec.ofInt IntKind.u64.bits 255).toNat : Int) = ((v / 2 ^ 16 % 256 : Nat) : Int) := fld hv 16 8 (by omega) (by omega)
  have f32 : IntKind.u64.wrap ((BitVec.ofInt IntKind.u64.bits ((v : Int).fdiv (2 ^ min 32 IntKind.u64.bits)) &&& BitVec.ofInt IntKind.u64.bits 255).toNat : Int) = ((v / 2 ^ 32 % 256 : Nat) : Int) := fld hv 32 8 (by omega) (by omega)
  have f44 : IntKind.u64.wrap ((BitVec.ofInt IntKind.u64.bits ((v : Int).fdiv (2 ^ min 44 IntKind.u64.bits)) &&& BitVec.ofInt IntKind.u64.bits 15).toNat : Int) = ((v / 2 ^ 44 % 16 : Nat) : Int) := fld hv 44 4 (by omega) (by omega)
  have f48 : IntKind.u64.wrap ((BitVec.ofInt IntKind.u64.bits ((v : Int).fdiv (2 ^ min 48 IntKind.u64.bits)) &&& BitVec.ofInt IntKind.u64.bits 255).toNat : Int) = ((v / 2 ^ 48 % 256 : Nat) : Int) := fld hv 48 8 (by omega) (by omega)
  have w1 : IntKind.i64.wrap ((v / 2 ^ 24 % 16 : Nat) : Int) = ((v / 2 ^ 24 % 16 : Nat) : Int) := wrap_id (by omega) (by omega)
  have w2 : IntKind.i64.wrap ((v % 65536 : Nat) : Int) = ((v % 65536 : Nat) : Int) := wrap_id (by omega) (by omega)
  have hb : ((((v / 2 ^ 40 % 2 : Nat) : Int)) == 1) = decide (v / 2 ^ 40 % 2 = 1) := by
    rw [Bool.eq_iff_iff]; simp only [beq_iff_eq, decide_eq_true_eq]; omega
  (refine G tt_ok [] ?_; repeat (refine G1 tt_ok [] ?_; intro _))
  rw [f16]
  by_cases h16 : v / 2 ^ 16 % 256 = 0
  · rw [h16, show (((0 : Nat) : Int) != 0) = false from rfl]
    (refine G tt_ok [] ?_; repeat (refine G1 tt_ok [] ?_; intro _))
    rw [f32]
    by_cases h32 : v / 2 ^ 32 % 256 = 0
    · rw [h32, show (((0 : Nat) : Int) != 0) = false from rfl]
      (refine G tt_ok [] ?_; repeat (refine G1 tt_ok [] ?_; intro _))
      rw [f44]
      by_cases h44 : v / 2 ^ 44 % 16 = 0
      · rw [h44, show (((0 : Nat) : Int) != 0) = false from rfl]
        (refine G tt_ok [] ?_; repeat (refine G1 tt_ok [] ?_; intro _))
        rw [f48]
        refine CW.ret (fin_cells [_] ⟨⟨_, _, _, _, 0, rfl, rfl, rfl, rfl⟩, trivial⟩ (Ent.dropAll _) ⟨?_, rfl⟩)
        rw [f24, f40, f0, w1, w2, hb]
        have : ((((v / 2 ^ 48 % 256 : Nat) : Int)) != 0) = oddV v := by
          unfold oddV; rw [Bool.eq_iff_iff]; simp only [bne_iff_ne, h16, h32, h44, Bool.or_eq_true, decide_eq_true_eq]; omega
        rw [this]; rfl
      · rw [show ((((v / 2 ^ 44 % 16 : Nat) : Int)) != 0) = true by simp only [bne_iff_ne]; omega]
        (refine G tt_ok [] ?_; repeat (refine G1 tt_ok [] ?_; intro _))
        refine CW.ret (fin_cells [_] ⟨⟨_, _, _, _, 0, rfl, rfl, rfl, rfl⟩, trivial⟩ (Ent.dropAll _) ⟨?_, rfl⟩)
        rw [f24, f40, f0, w1, w2, hb, show oddV v = true by unfold oddV; simp [h44]]; rfl
    · rw [show ((((v / 2 ^ 32 % 256 : Nat) : Int)) != 0) = true by simp only [bne_iff_ne]; omega]
      (refine G tt_ok [] ?_; repeat (refine G1 tt_ok [] ?_; intro _))
      refine CW.ret (fin_cells [_] ⟨⟨_, _, _, _, 0, rfl, rfl, rfl, rfl⟩, trivial⟩ (Ent.dropAll _) ⟨?_, rfl⟩)
      rw [f24, f40, f0, w1, w2, hb, show oddV v = true by unfold oddV; simp [h32]]; rfl
  · rw [show ((((v / 2 ^ 16 % 256 : Nat) : Int)) != 0) = true by simp only [bne_iff_ne]; omega]
    (refine G tt_ok [] ?_; repeat (refine G1 tt_ok [] ?_; intro _))
    refine CW.ret (fin_cells [_] ⟨⟨_, _, _, _, 0, rfl, rfl, rfl, rfl⟩, trivial⟩ (Ent.dropAll _) ⟨?_, rfl⟩)
    rw [f24, f40, f0, w1, w2, hb, show oddV v = true by unfold oddV; simp [h16]]; rfl
theorem to62 (β : Base) (i : Int) (a : Bool) (t : Int) (o : Bool) (fr n : Int) : Tri Tryz.prog β 132 [.agg #[.int .i64 i, .bool a, .int .i64 t, .bool o], .int .i64 fr, .int .i64 n] [] (fun v L => ∃ b3 b4 b5, v = .func (.func 203) #[] #[.pointer (some ⟨b5, 0, none⟩), .pointer (some ⟨b3, 0, none⟩), .pointer (some ⟨b4, 0, none⟩)] ∧
    L = [pt b5 [.int .i64 n], pt b3 [.int .i64 i, .bool a, .int .i64 t, .bool o], pt b4 [.int .i64 fr]]) := by
  refine Tri.intro tt_ok Tryz.func132 rfl rfl Tryz.ntmps132 rfl fun F => ?_
  (refine G tt_ok [] ?_; repeat (refine G1 tt_ok [] ?_; intro _))
  rename_i b3 b4 b5
  refine CW.ret (fin_ret rfl (A := [pt b5 [.int .i64 n], pt b3 [.int .i64 i, .bool a, .int .i64 t, .bool o], pt b4 [.int .i64 fr]]) pk_ ?_)
  exact ⟨b3, b4, b5, rfl, rfl⟩
/-- Is a processor called? -/
def calledV (a : Bool) (t : Nat) (o : Bool) (fr : Int) (k : Nat) : Bool := (if a then decide ((k : Int) ≠ fr) else decide (t / 2 ^ k % 2 = 1)) && (a || !o)
def toL (a : Bool) (t : Nat) (o : Bool) (fr : Int) : Nat → List Int
  | 0 => []
  | k + 1 => toL a t o fr k ++ if calledV a t o fr k then [(k : Int)] else []
theorem toL_pre {a : Bool} {t : Nat} {o : Bool} {fr : Int} : ∀ {k n : Nat}, k ≤ n → toL a t o fr k <+: toL a t o fr n
  | k, 0, h => by
    obtain rfl : k = 0 := by omega
    exact List.prefix_refl _
  | k, n + 1, h => by
    by_cases e : k = n + 1
    · subst e; exact List.prefix_refl _
    · exact (toL_pre (by omega)).trans (List.prefix_append _ _)
theorem tbit {t k : Nat} (ht : t < 65536) (hk : k < 64) : (IntKind.i64.wrap ((BitVec.ofInt IntKind.i64.bits ((t : Int).fdiv (2 ^ min k IntKind.i64.bits)) &&& BitVec.ofInt IntKind.i64.bits 1).toNat : Int) == 1) = decide (t / 2 ^ k % 2 = 1) := by
  have ep : ((2 : Int) ^ k) = ((2 ^ k : Nat) : Int) := by push_cast; rfl
  rw [show min k IntKind.i64.bits = k by show min k 64 = k; omega, ep, Int.fdiv_eq_ediv_of_nonneg _ (Int.natCast_nonneg _), ← Int.natCast_ediv, and_i64 _ 1 1 rfl (by omega), show ((2 : Int) ^ 1) = 2 from rfl]
  generalize t / 2 ^ k = z
  rw [wrap_id (by omega) (by omega), Bool.eq_iff_iff]
  simp only [beq_iff_eq, decide_eq_true_eq]
  omega
set_option maxHeartbeats 4000000 in
theorem iter99 (β : Base) (b3 b4 b5 : Nat) (i : Int) (a : Bool) {t : Nat} (ht : t < 65536) (o : Bool) (fr : Int) {n : Nat} (hn : n ≤ 8) :
    Iter Tryz.prog β 203 [.pointer (some ⟨b5, 0, none⟩), .pointer (some ⟨b3, 0, none⟩), .pointer (some ⟨b4, 0, none⟩)] [pt b5 [.int .i64 n], pt b3 [.int .i64 i, .bool a, .int .i64 t, .bool o], pt b4 [.int .i64 fr]] (fun x => [Value.int .i64 x]) (toL a t o fr n) := by
  intro l J Jx hY
  refine Tri.intro tt_ok Tryz.func203 rfl rfl Tryz.ntmps203 rfl fun F => ?_
  refine G tt_ok [] ?_
  have hm : (if (0 : Int) < (if (8 : Int) < (n : Int) then 8 else (n : Int)) then (if (8 : Int) < (n : Int) then 8 else (n : Int)) else 0) = (n : Int) := by split <;> split <;> omega
  rw [hm]
  refine CW.loop (α := Nat) (fun k => k ≤ n) (fun k => [(10, .int .i64 k), (9, .int .i64 n), (0, .func (.yield l) #[] #[]), (2, .pointer (some ⟨b3, 0, none⟩)), (3, .pointer (some ⟨b4, 0, none⟩))])
    (fun k => [J (toL a t o fr k), pt b5 [.int .i64 n], pt b3 [.int .i64 i, .bool a, .int .i64 t, .bool o], pt b4 [.int .i64 fr]]) (fun k => n - k) 0 (by omega) ⟨rfl, rfl, rfl, rfl, rfl, trivial⟩ (Ent.refl _) ?_
  intro k hk
  refine G tt_ok [] ?_
  generalize e1 : decide ((k : Int) < (n : Int)) = c
  cases c
  · refine G tt_ok [] ?_
    refine CW.exit ?_
    have : k = n := by simp at e1; omega
    subst this
    exact fin_normal rfl (Ent.refl _) (.inl rfl)
  · have hlt : k < n := by simp at e1; omega
    have hw : IntKind.i64.wrap ((k : Int) + 1) = ((k + 1 : Nat) : Int) := by rw [wrap_i64]; split <;> omega
    have hq := tbit ht (show k < 64 by omega)
    have hpre := toL_pre (a := a) (t := t) (o := o) (fr := fr) (show k + 1 ≤ n by omega)
    have hne : ((k : Int) != fr) = decide ((k : Int) ≠ fr) := by rw [Bool.eq_iff_iff]; simp
    have hstep : toL a t o fr (k + 1) = toL a t o fr k ++ if calledV a t o fr k then [(k : Int)] else [] := rfl
    unfold calledV at hstep
    refine G tt_ok [] ?_
    rw [hq]
    cases a
    · simp only [Bool.false_eq_true, if_false, Bool.false_or] at hstep
      generalize decide (t / 2 ^ k % 2 = 1) = q at hstep ⊢
      cases q <;> cases o
      all_goals simp only [Bool.false_and, Bool.true_and, Bool.not_true, Bool.not_false, Bool.false_eq_true, if_false, if_true, List.append_nil] at hstep
      · refine G tt_ok [] ?_
        refine ⟨k + 1, by omega, by omega, ⟨by rw [← hw]; rfl, rfl, rfl, rfl, rfl, trivial⟩, ?_⟩
        rw [hstep]; exact pk_
      · refine G tt_ok [] ?_
        refine ⟨k + 1, by omega, by omega, ⟨by rw [← hw]; rfl, rfl, rfl, rfl, rfl, trivial⟩, ?_⟩
        rw [hstep]; exact pk_
      · refine G tt_ok [] ?_
        rw [hstep] at hpre
        (refine SQ.yield rfl rfl (hY (toL false t false fr k) (k : Int) hpre) [0, 0, 0, 0] rfl ?_; rintro _ _ (⟨rfl, rfl⟩ | ⟨rfl, rfl⟩) <;> refine w_ ?_)
        · refine G tt_ok [] ?_
          refine ⟨k + 1, by omega, by omega, ⟨by rw [← hw]; rfl, rfl, rfl, rfl, rfl, trivial⟩, ?_⟩
          rw [hstep]; exact pk_
        · refine G tt_ok [] ?_
          exact CW.ret (fin_ret rfl pk_ (.inr ⟨_, rfl⟩))
      · refine G tt_ok [] ?_
        refine ⟨k + 1, by omega, by omega, ⟨by rw [← hw]; rfl, rfl, rfl, rfl, rfl, trivial⟩, ?_⟩
        rw [hstep]; exact pk_
    · simp only [if_true, Bool.true_or, Bool.and_true] at hstep
      refine G tt_ok [] ?_
      rw [hne]
      generalize decide ((k : Int) ≠ fr) = q at hstep ⊢
      cases q
      all_goals simp only [Bool.false_eq_true, if_false, if_true, List.append_nil] at hstep
      · refine G tt_ok [] ?_
        refine ⟨k + 1, by omega, by omega, ⟨by rw [← hw]; rfl, rfl, rfl, rfl, rfl, trivial⟩, ?_⟩
        rw [hstep]; exact pk_
      · refine G tt_ok [] ?_
        rw [hstep] at hpre
        (refine SQ.yield rfl rfl (hY (toL true t o fr k) (k : Int) hpre) [0, 0, 0, 0] rfl ?_; rintro _ _ (⟨rfl, rfl⟩ | ⟨rfl, rfl⟩) <;> refine w_ ?_)
        · refine G tt_ok [] ?_
          refine ⟨k + 1, by omega, by omega, ⟨by rw [← hw]; rfl, rfl, rfl, rfl, rfl, trivial⟩, ?_⟩
          rw [hstep]; exact pk_
        · refine G tt_ok [] ?_
          exact CW.ret (fin_ret rfl pk_ (.inr ⟨_, rfl⟩))
@[reducible] def pk70 : List (Nat × Plan) := [(5, [(0, 0, []), (1, 0, []), (2, 0, []), (3, 0, []), (4, 0, []), (5, 0, []), (6, 0, []), (7, 1, [0, 2, 5])]), (7, [(0, 0, []), (1, 0, []), (2, 0, []), (3, 0, []), (4, 0, []), (5, 0, []), (6, 0, []), (7, 0, []), (8, 0, []), (9, 0, []), (10, 1, [0, 3, 7, 9]), (11, 0, []), (12, 0, []), (13, 0, []), (14, 2, []), (15, 1, []), (16, 0, [])]), (9, [(0, 0, []), (1, 0, []), (2, 0, []), (3, 0, []), (4, 0, []), (5, 0, []), (6, 0, []), (7, 0, []), (8, 0, []), (9, 0, []), (10, 1, [0, 3, 7, 9])])]
def callS (id gr : Int) (st : List CR × Nat) (k : Int) : List CR × Nat := match st.1[k.toNat]? with
  | some x => if (Bn.getV 0 x.es id).1.1.2.2.1 = gr then (st.1.set k.toNat { x with es := (Bn.doV 0 x.es id 3).1 }, st.2 + 1) else st
  | none => st
def callL (id gr : Int) (l : List Int) (xs : List CR) : List CR × Nat := l.foldl (callS id gr) (xs, 0)
theorem callS_len (id gr : Int) (st : List CR × Nat) (k : Int) : (callS id gr st k).1.length = st.1.length ∧ (callS id gr st k).2 ≤ st.2 + 1 := by
  unfold callS; split
  · split <;> simp
  · simp
theorem callF_len (id gr : Int) : ∀ (l : List Int) (st : List CR × Nat), (l.foldl (callS id gr) st).1.length = st.1.length ∧ (l.foldl (callS id gr) st).2 ≤ st.2 + l.length
  | [], st => by simp
  | x :: r, st => by
    have h1 := callF_len id gr r (callS id gr st x)
    have h2 := callS_len id gr st x
    simp only [List.foldl_cons, List.length_cons]
    omega
theorem toL_mem {a : Bool} {t : Nat} {o : Bool} {fr : Int} : ∀ {n : Nat} {x : Int}, x ∈ toL a t o fr n → ∃ k : Nat, x = k ∧ k < n
  | 0, x, h => by simp [toL] at h
  | n + 1, x, h => by
    simp only [toL, List.mem_append] at h
    rcases h with h | h
    · obtain ⟨k, h1, h2⟩ := toL_mem h; exact ⟨k, h1, by omega⟩
    · split at h
      · simp at h; exact ⟨n, h, by omega⟩
      · simp at h
theorem toL_len (a : Bool) (t : Nat) (o : Bool) (fr : Int) : ∀ n, (toL a t o fr n).length ≤ n
  | 0 => by simp [toL]
  | n + 1 => by
    have := toL_len a t o fr n
    simp only [toL, List.length_append]
    split <;> simp <;> omega
/-- A call. -/
def DS.callV (D : DS) (fr gr : Int) (v : Nat) : DS × Int × Int :=
  if rightV D.xs.length fr then ({ D with xs := (callL ((v / 2 ^ 24 % 16 : Nat) : Int) gr (toL (decide (v / 2 ^ 40 % 2 = 1)) (v % 65536) (oddV v) fr D.xs.length) D.xs).1 }, ((callL ((v / 2 ^ 24 % 16 : Nat) : Int) gr (toL (decide (v / 2 ^ 40 % 2 = 1)) (v % 65536) (oddV v) fr D.xs.length) D.xs).2 : Int), 0)
  else (D, 0, 130)
set_option maxHeartbeats 8000000 in
theorem call25 (β : Base) (d : Nat) (D : DS) (fr gr : Int) (v : Nat) (hv : v < 2 ^ 64) (hn8 : D.xs.length ≤ 8) : Tri Tryz.prog β 70 [.pointer (some ⟨d, 0, none⟩), .int .i64 fr, .int .i64 gr, .int .u64 v] (dA d D) (fun u L => u = .tuple #[.int .i64 (D.callV fr gr v).2.1, .int .i64 (D.callV fr gr v).2.2] ∧ L = dA d (D.callV fr gr v).1) := by
  obtain ⟨o0, o1, sb, sq, sc, sh, qc, cc, xs⟩ := D
  refine Tri.intro tt_ok Tryz.func70 rfl rfl Tryz.ntmps70 rfl fun F => ?_
  unfold dA DS.callV
  simp only at hn8 ⊢
  (refine G tt_ok pk70 ?_; repeat (refine G1 tt_ok pk70 ?_; intro _))
  rename_i b4 b6
  refine ke rfl rfl (right55 β d _ _ _ rfl rfl rfl qc xs.length cc fr) ?_
  cases hr : rightV xs.length fr with
  | false =>
    (refine G tt_ok pk70 ?_; repeat (refine G1 tt_ok pk70 ?_; intro _))
    exact CW.ret (fin_ret rfl pk_ ⟨rfl, rfl⟩)
  | true =>
    rw [if_pos rfl]
    simp only
    (refine G tt_ok pk70 ?_; repeat (refine G1 tt_ok pk70 ?_; intro _))
    refine ke rfl rfl (decode61 β v hv) ?_
    (refine G tt_ok pk70 ?_; repeat (refine G1 tt_ok pk70 ?_; intro _))
    rename_i b10 b11
    have ht : v % 65536 < 65536 := Nat.mod_lt _ (by decide)
    have hid0 : ((v / 2 ^ 24 % 16 : Nat) : Int) < 9223372036854775808 := by omega
    generalize v / 2 ^ 24 % 16 = idn at hid0 ⊢
    generalize decide (v / 2 ^ 40 % 2 = 1) = al
    generalize v % 65536 = tg at ht ⊢
    generalize oddV v = od
    (refine ka rfl rfl (to62 β idn al tg od fr xs.length) ?_; rintro _ _ ⟨b3', b4', b5', rfl, rfl⟩; refine w_ ?_)
    (refine G tt_ok pk70 ?_; repeat (refine G1 tt_ok pk70 ?_; intro _))
    refine CW.ent (L' := [pt b5' [.int .i64 xs.length], pt b3' [.int .i64 idn, .bool al, .int .i64 tg, .bool od], pt b4' [.int .i64 fr], pt b11 [.int .i64 0], pt b10 [.int .i64 idn, .bool al, .int .i64 tg, .bool od], pt b6 [.int .i64 gr], pt b4 [.pointer (some ⟨d, 0, none⟩)], pt d [.bool o0, .bool o1, .pointer (some ⟨sb, 0, none⟩), .slice qc xs.length cc], rowA qc xs.length (xs.flatMap crC), bksA xs] ++ Br.bkA sb sq sc 32 sh) pk_ ?_
    refine CW.rangeFunc rfl (iter99 β b3' b4' b5' idn al ht od fr hn8) [0, 0, 0] rfl
      (fun pre => [pt b11 [.int .i64 ((callL idn gr pre xs).2 : Int)], pt b10 [.int .i64 idn, .bool al, .int .i64 tg, .bool od], pt b6 [.int .i64 gr], pt b4 [.pointer (some ⟨d, 0, none⟩)], pt d [.bool o0, .bool o1, .pointer (some ⟨sb, 0, none⟩), .slice qc xs.length cc], rowA qc xs.length ((callL idn gr pre xs).1.flatMap crC), bksA (callL idn gr pre xs).1] ++ Br.bkA sb sq sc 32 sh)
      (fun _ _ => False) (Ent.refl _) (fun _ => rfl) (by decide) ?_ ?_ (fun _ _ h => h.elim)
    · intro pre x hpre l fm rec1
      obtain ⟨k, rfl, hk⟩ := toL_mem (hpre.subset (by simp : x ∈ pre ++ [x]))
      have hstep : callL idn gr (pre ++ [(k : Int)]) xs = callS idn gr (callL idn gr pre xs) k := by unfold callL; rw [List.foldl_append]; rfl
      have hcl := callF_len idn gr pre (xs, 0)
      have hpl : pre.length ≤ 8 := by
        have h1 := hpre.length_le
        have h2 := toL_len al tg od fr xs.length
        simp at h1; omega
      rw [hstep]
      change (callL idn gr pre xs).1.length = xs.length ∧ (callL idn gr pre xs).2 ≤ 0 + pre.length at hcl
      unfold callS
      generalize callL idn gr pre xs = st at hcl ⊢
      obtain ⟨ys, m⟩ := st
      simp only at hcl ⊢
      obtain ⟨hyl, hml⟩ := hcl
      obtain ⟨y, hy⟩ : ∃ y, ys[k]? = some y := ⟨_, List.getElem?_eq_getElem (by omega)⟩
      have hwm : IntKind.i64.wrap ((m : Int) + 1) = ((m + 1 : Nat) : Int) := by rw [wrap_i64]; split <;> omega
      rw [Int.toNat_natCast, hy]
      simp only
      refine CW.ent (Rm.to (A := rowA qc xs.length (ys.flatMap crC)) (by repeat (first | exact Rm.h | apply Rm.t)) (row_open (by omega))) ?_
      refine CW.open_ fun z => ?_
      obtain ⟨g, rest⟩ := z
      refine CW.pure_ fun hv => ?_
      simp only at hv
      subst hv
      refine CW.ent (Rm.to (A := bksA ys) (by repeat (first | exact Rm.h | apply Rm.t)) (bks_open hy)) ?_
      (refine G tt_ok pk70 ?_; repeat (refine G1 tt_ok pk70 ?_; intro _))
      intro fm2 rec2
      (refine G tt_ok pk70 ?_; repeat (refine G1 tt_ok pk70 ?_; intro _))
      refine SQ.idx tt_ok rfl rfl k rfl hk (o' := 0 + k * 2) rfl ?_
      (refine G tt_ok pk70 ?_; repeat (refine G1 tt_ok pk70 ?_; intro _))
      refine SQ.ldA tt_ok rfl rfl (by repeat (first | exact .h | exact .q | apply At.t)) (rd_own hy rest) ?_
      (refine G tt_ok pk70 ?_; repeat (refine G1 tt_ok pk70 ?_; intro _))
      (refine ka rfl rfl (getN β y.b y.q y.c (first := 0) (id := idn) (es := y.es) (by omega) (by omega) hid0) ?_; rintro _ _ ⟨rfl, rfl⟩; refine ⟨(by repeat (first | exact trivial | refine ⟨trivial, ?_⟩ | refine ⟨wk (by repeat (first | exact .h | exact .q | apply At.t)) (rd_own hy rest), ?_⟩ | refine ⟨wk (by repeat (first | exact .h | exact .q | apply At.t)) (by rfl), ?_⟩)), ?_⟩)
      (refine G tt_ok pk70 ?_; repeat (refine G1 tt_ok pk70 ?_; intro _))
      by_cases hg : (Bn.getV 0 y.es idn).1.1.2.2.1 = gr
      · rw [if_pos hg, show ((Bn.getV 0 y.es idn).1.1.2.2.1 == gr) = true by simp [hg]]
        (refine G tt_ok pk70 ?_; repeat (refine G1 tt_ok pk70 ?_; intro _))
        refine SQ.idx tt_ok rfl rfl k rfl hk (o' := 0 + k * 2) rfl ?_
        (refine G tt_ok pk70 ?_; repeat (refine G1 tt_ok pk70 ?_; intro _))
        refine SQ.ldA tt_ok rfl rfl (by repeat (first | exact .h | exact .q | apply At.t)) (rd_own hy rest) ?_
        (refine G tt_ok pk70 ?_; repeat (refine G1 tt_ok pk70 ?_; intro _))
        (refine ka rfl rfl (Bn.do35 β y.b y.q y.c (first := 0) (id := idn) (x := 3) (es := y.es) (by omega) (by omega) hid0) ?_; rintro _ _ ⟨rfl, rfl⟩; refine ⟨(by repeat (first | exact trivial | refine ⟨trivial, ?_⟩ | refine ⟨wk (by repeat (first | exact .h | exact .q | apply At.t)) (rd_own hy rest), ?_⟩ | refine ⟨wk (by repeat (first | exact .h | exact .q | apply At.t)) (by rfl), ?_⟩)), ?_⟩)
        (refine G tt_ok pk70 ?_; repeat (refine G1 tt_ok pk70 ?_; intro _))
        rw [hwm]
        simp only
        rw [flat_set_same (enc := crC) (y := { y with es := (Bn.doV 0 y.es idn 3).1 }) hy rfl]
        refine Ent.trans (Rm.to (A := pt g (ys.flatMap crC ++ rest)) (by repeat (first | exact Rm.h | apply Rm.t)) (row_close (n := xs.length))) ?_
        refine Ent.trans (Tk.to (As := CR.bank { y with es := (Bn.doV 0 y.es idn 3).1 } ++ [bksA (ys.eraseIdx k)]) (by repeat (first | exact .n | exact Rm.h | apply Tk.c | apply Rm.t)) (bks_close _ (by omega))) ?_
        exact pk_
      · rw [if_neg hg, show ((Bn.getV 0 y.es idn).1.1.2.2.1 == gr) = false by simp [hg]]
        (refine G tt_ok pk70 ?_; repeat (refine G1 tt_ok pk70 ?_; intro _))
        refine Ent.trans (Rm.to (A := pt g (ys.flatMap crC ++ rest)) (by repeat (first | exact Rm.h | apply Rm.t)) (row_close (n := xs.length))) ?_
        refine Ent.trans (Tk.to (As := y.bank ++ [bksA (ys.eraseIdx k)]) (by repeat (first | exact .n | exact Rm.h | apply Tk.c | apply Rm.t)) (bks_shut hy)) ?_
        exact pk_
    · (refine G tt_ok pk70 ?_; repeat (refine G1 tt_ok pk70 ?_; intro _))
      have hcl := callF_len idn gr (toL al tg od fr xs.length) (xs, 0)
      change (callL idn gr (toL al tg od fr xs.length) xs).1.length = xs.length ∧ _ at hcl
      refine CW.ret (fin_ret rfl (A := [pt d [.bool o0, .bool o1, .pointer (some ⟨sb, 0, none⟩), .slice qc xs.length cc], rowA qc xs.length ((callL idn gr (toL al tg od fr xs.length) xs).1.flatMap crC), bksA (callL idn gr (toL al tg od fr xs.length) xs).1] ++ Br.bkA sb sq sc 32 sh) pk_ ⟨rfl, ?_⟩)
      rw [hcl.1]
/-- A new processor's interrupts, the first of them with edges. -/
def ownK : Nat → List Bn.En
  | 0 => List.replicate 32 (Bn.zeroE.1, ())
  | k + 1 => (Bn.doV 0 (ownK k) k 8).1
def newCR (x : CR) : Prop := x.es = ownK 16 ∧ x.sl = false
theorem bks_nil {L : List Atom} : Ent L (bksA [] :: L) := fun h s => ⟨h, ⟨Hp.emp, h, rfl, s, Hp.emp_disj _, (Hp.emp_add _).symm⟩, Hp.le_refl h⟩
theorem bks_snoc {xs : List CR} {x : CR} : Ent (x.bank ++ [bksA xs]) [bksA (xs ++ [x])] := by
  have e1 := Ent.unpack (xs.flatMap CR.bank) []
  rw [List.append_nil] at e1
  have e2 := Ent.pack ((xs ++ [x]).flatMap CR.bank) []
  rw [List.append_nil] at e2
  refine (Ent.append (Ent.refl _) e1).trans (Ent.trans (Ent.perm ?_) e2)
  rw [List.flatMap_append]
  simp only [List.flatMap_cons, List.flatMap_nil, List.append_nil]
  exact List.perm_append_comm
set_option maxHeartbeats 8000000 in
theorem new11 (β : Base) {n s : Int} (hn0 : 1 ≤ n) (hn1 : n ≤ 8) (hs0 : 0 ≤ s) (hs1 : s ≤ 64) : Tri Tryz.prog β 82 [.int .i64 n, .int .i64 s] [] (fun v L => ∃ d D, v = .tuple #[.pointer (some ⟨d, 0, none⟩), .int .i64 0] ∧ L = dA d D ∧ D.o0 = false ∧ D.o1 = false ∧ D.sh = List.replicate s.toNat (Br.zeroE.1, (0, false)) ∧ (D.xs.length : Int) = n ∧ ∀ x ∈ D.xs, newCR x) := by
  refine Tri.intro tt_ok Tryz.func82 rfl rfl Tryz.ntmps82 rfl fun F => ?_
  (refine G tt_ok [] ?_; repeat (refine G1 tt_ok [] ?_; intro _))
  rw [decide_eq_false (show ¬ n < 1 by omega)]
  (refine G tt_ok [] ?_; repeat (refine G1 tt_ok [] ?_; intro _))
  rw [decide_eq_false (show ¬ n > 8 by omega)]
  (refine G tt_ok [] ?_; repeat (refine G1 tt_ok [] ?_; intro _))
  rw [decide_eq_false (show ¬ s < 0 by omega)]
  (refine G tt_ok [] ?_; repeat (refine G1 tt_ok [] ?_; intro _))
  rw [decide_eq_false (show ¬ s > 64 by omega)]
  (refine G tt_ok [] ?_; repeat (refine G1 tt_ok [] ?_; intro _))
  (refine ka rfl rfl (Br.bankNew β (first := 32) (n := s) (by omega) hs0 (by omega) (0, false)) ?_; rintro _ _ ⟨sb, sq, sc, rfl, rfl⟩; refine w_ ?_)
  (refine G tt_ok [] ?_; repeat (refine G1 tt_ok [] ?_; intro _))
  rename_i d
  refine CW.loop (α := List CR × Option Addr × Nat) (fun x => (x.1.length : Int) ≤ n ∧ ∀ y ∈ x.1, newCR y) (fun x => [(36, .int .i64 x.1.length), (35, .int .i64 n), (8, .pointer (some ⟨d, 0, none⟩))])
    (fun x => [pt d [.bool false, .bool false, .pointer (some ⟨sb, 0, none⟩), .slice x.2.1 x.1.length x.2.2], own 139 2 (.slice x.2.1 x.1.length x.2.2) x.1.length (x.1.flatMap crC), bksA x.1] ++ Br.bkA sb sq sc 32 (List.replicate s.toNat (Br.zeroE.1, (0, false)))) (fun x => n.toNat - x.1.length) ([], none, 0) ⟨by simp; omega, by simp⟩ ⟨rfl, rfl, rfl, trivial⟩ ?_ ?_
  · refine Ent.trans ((own_nil 139 2).trans bks_nil) ?_
    exact pk_
  rintro ⟨xs, qc, cc⟩ ⟨hl, hnew⟩
  simp only at hl hnew ⊢
  (refine G tt_ok [] ?_; repeat (refine G1 tt_ok [] ?_; intro _))
  by_cases hlt : (xs.length : Int) < n
  · have hw : IntKind.i64.wrap ((xs.length : Int) + 1) = ((xs.length + 1 : Nat) : Int) := by rw [wrap_i64]; split <;> omega
    rw [decide_eq_true hlt]
    (refine G tt_ok [] ?_; repeat (refine G1 tt_ok [] ?_; intro _))
    (refine ka rfl rfl (Bn.bankNew β (first := 0) (n := 32) (by omega) (by omega) (by omega) ()) ?_; rintro _ _ ⟨b, bq, bc, rfl, rfl⟩; refine w_ ?_)
    (refine G tt_ok [] ?_; repeat (refine G1 tt_ok [] ?_; intro _))
    refine CW.loop (α := Nat) (fun j => j ≤ 16) (fun j => [(43, .int .i64 j), (9, .pointer (some ⟨b, 0, none⟩)), (36, .int .i64 xs.length), (35, .int .i64 n), (8, .pointer (some ⟨d, 0, none⟩))])
      (fun j => Bn.bkA b bq bc 0 (ownK j) ++ ([pt d [.bool false, .bool false, .pointer (some ⟨sb, 0, none⟩), .slice qc xs.length cc], own 139 2 (.slice qc xs.length cc) xs.length (xs.flatMap crC), bksA xs] ++ Br.bkA sb sq sc 32 (List.replicate s.toNat (Br.zeroE.1, (0, false))))) (fun j => 16 - j) 0 (by omega) ⟨rfl, rfl, rfl, rfl, rfl, trivial⟩ pk_ ?_
    intro j hj
    (refine G tt_ok [] ?_; repeat (refine G1 tt_ok [] ?_; intro _))
    generalize e1 : decide ((j : Int) < 16) = cc2
    cases cc2
    · have : j = 16 := by simp at e1; omega
      subst this
      (refine G tt_ok [] ?_; repeat (refine G1 tt_ok [] ?_; intro _))
      refine CW.exit ?_
      (refine G tt_ok [] ?_; repeat (refine G1 tt_ok [] ?_; intro _))
      (refine SQ.built tt_ok rfl rfl (fun _ => w_ ?_))
      (refine G tt_ok [] ?_; repeat (refine G1 tt_ok [] ?_; intro _))
      have hx' : newCR ⟨b, bq, bc, ownK 16, false⟩ := ⟨rfl, rfl⟩
      refine SQ.append tt_ok rfl rfl 4 rfl 0 (q := true) rfl (crC ⟨b, bq, bc, ownK 16, false⟩) rfl rfl rfl (scal_eq rfl) (by omega) (by show (xs.length + 1) * 16 ≤ _; omega) (fun v' => ⟨(by repeat (first | exact trivial | refine ⟨trivial, ?_⟩ | refine ⟨wk (by repeat (first | exact .h | exact .q | apply At.t)) (by rfl), ?_⟩)), ?_⟩)
      refine SQ.ent _ (Ent.head (own_shape _ _ _ _ _)) ?_
      refine SQ.open_ fun z => ?_
      refine SQ.pure_ fun hv => ?_
      subst hv
      (refine G tt_ok [] ?_; repeat (refine G1 tt_ok [] ?_; intro _))
      refine ⟨(xs ++ [⟨b, bq, bc, ownK 16, false⟩], z.1, z.2), ⟨by simp; omega, fun y hy => ?_⟩, by simp; omega, ⟨by rw [show (xs ++ [(⟨b, bq, bc, ownK 16, false⟩ : CR)]).length = xs.length + 1 by simp, ← hw]; rfl, rfl, rfl, trivial⟩, ?_⟩
      · rcases List.mem_append.1 hy with h | h
        · exact hnew y h
        · rw [List.mem_singleton.1 h]; exact hx'
      · simp only
        rw [show (xs ++ [(⟨b, bq, bc, ownK 16, false⟩ : CR)]).length = xs.length + 1 by simp, show (xs ++ [(⟨b, bq, bc, ownK 16, false⟩ : CR)]).flatMap crC = xs.flatMap crC ++ crC ⟨b, bq, bc, ownK 16, false⟩ by simp]
        refine Ent.trans (Tk.to (As := CR.bank ⟨b, bq, bc, ownK 16, false⟩ ++ [bksA xs]) (by repeat (first | exact .n | exact Rm.h | apply Tk.c | apply Rm.t)) bks_snoc) ?_
        exact pk_
    · have hlt2 : j < 16 := by simp at e1; omega
      have hw2 : IntKind.i64.wrap ((j : Int) + 1) = ((j + 1 : Nat) : Int) := by rw [wrap_i64]; split <;> omega
      (refine G tt_ok [] ?_; repeat (refine G1 tt_ok [] ?_; intro _))
      refine ke rfl rfl (Bn.do35 β b bq bc (first := 0) (id := (j : Int)) (x := 8) (es := ownK j) (by omega) (by omega) (by omega)) ?_
      (refine G tt_ok [] ?_; repeat (refine G1 tt_ok [] ?_; intro _))
      exact ⟨j + 1, by omega, by omega, ⟨by rw [← hw2]; rfl, rfl, rfl, rfl, rfl, trivial⟩, pk_⟩
  · rw [decide_eq_false hlt]
    (refine G tt_ok [] ?_; repeat (refine G1 tt_ok [] ?_; intro _))
    refine CW.exit ?_
    (refine G tt_ok [] ?_; repeat (refine G1 tt_ok [] ?_; intro _))
    refine CW.ret (fin_ret rfl (A := dA d ⟨false, false, sb, sq, sc, List.replicate s.toNat (Br.zeroE.1, (0, false)), qc, cc, xs⟩) ?_ ?_)
    · exact Ent.trans (Rm.to (A := own 139 2 (.slice qc xs.length cc) xs.length (xs.flatMap crC)) (by repeat (first | exact Rm.h | apply Rm.t)) own_row) pk_
    · exact ⟨d, _, rfl, rfl, rfl, rfl, rfl, by simp only; omega, hnew⟩
@[reducible] def pk139 : List (Nat × Plan) := [(2, [(0, 0, []), (1, 0, []), (2, 0, []), (3, 0, []), (4, 0, []), (5, 0, []), (6, 0, []), (7, 0, []), (8, 1, [0, 3, 4, 7])]), (9, [(0, 0, []), (1, 0, []), (3, 0, []), (2, 1, [0, 3]), (4, 0, []), (5, 0, []), (6, 0, []), (7, 0, []), (8, 0, []), (9, 0, []), (10, 1, []), (11, 0, []), (12, 0, [])])]
def seenA (es : List Bn.En) : List (Int × Ln) := (Bn.allV 0 es).map fun p => (p.1, p.2.1)
def seenB (sh : List Br.En) (xs : List CR) (k : Int) (ps : List (Int × Br.En)) : List (Int × Ln) := (ps.filter fun p => targetV sh xs p.1 == k).map fun p => (p.1, p.2.1)
/-- All interrupts that a processor may have to do with. -/
def DS.seenV (D : DS) (k : Int) : List (Int × Ln) := if rightV D.xs.length k then (match D.xs[k.toNat]? with
  | some x => seenA x.es ++ seenB D.sh D.xs k (Br.allV 32 D.sh)
  | none => []) else []
@[reducible] def ilC (x : Int × Ln) : List Value := [.int .i64 x.1, .agg #[.bool x.2.1.1, .bool x.2.1.2.1, .bool x.2.1.2.2.1, .bool x.2.1.2.2.2, .bool x.2.2.1, .int .i64 x.2.2.2.1, .int .i64 x.2.2.2.2]]
theorem seen26 (β : Base) (d : Nat) (k : Int) : Tri Tryz.prog β 81 [.pointer (some ⟨d, 0, none⟩), .int .i64 k] [] (fun v L => ∃ b2 b3, v = .func (.func 139) #[] #[.pointer (some ⟨b2, 0, none⟩), .pointer (some ⟨b3, 0, none⟩)] ∧ L = [pt b2 [.pointer (some ⟨d, 0, none⟩)], pt b3 [.int .i64 k]]) := by
  refine Tri.intro tt_ok Tryz.func81 rfl rfl Tryz.ntmps81 rfl fun F => ?_
  (refine G tt_ok [] ?_; repeat (refine G1 tt_ok [] ?_; intro _))
  rename_i b2 b3
  refine CW.ret (fin_ret rfl (A := [pt b2 [.pointer (some ⟨d, 0, none⟩)], pt b3 [.int .i64 k]]) pk_ ?_)
  exact ⟨b2, b3, rfl, rfl⟩
theorem map_pre {α β : Type} (f : α → β) {l m : List α} (h : l <+: m) : l.map f <+: m.map f := by
  obtain ⟨t, rfl⟩ := h; rw [List.map_append]; exact List.prefix_append _ _
theorem filter_pre {α : Type} (f : α → Bool) {l m : List α} (h : l <+: m) : l.filter f <+: m.filter f := by
  obtain ⟨t, rfl⟩ := h; rw [List.filter_append]; exact List.prefix_append _ _
set_option maxHeartbeats 8000000 in
theorem iter63 (β : Base) (d b2 b3 : Nat) (D : DS) (k : Int) (hn8 : D.xs.length ≤ 8) (hns : D.sh.length ≤ 64) (hes : ∀ x ∈ D.xs, x.es.length = 32) :
    Iter Tryz.prog β 139 [.pointer (some ⟨b2, 0, none⟩), .pointer (some ⟨b3, 0, none⟩)] ([pt b2 [.pointer (some ⟨d, 0, none⟩)], pt b3 [.int .i64 k]] ++ dA d D) ilC (D.seenV k) := by
  intro l J Jx hY
  obtain ⟨o0, o1, sb, sq, sc, sh, qc, cc, xs⟩ := D
  unfold dA DS.seenV at hY ⊢
  simp only at hY hn8 hns hes ⊢
  refine Tri.intro tt_ok Tryz.func139 rfl rfl Tryz.ntmps139 rfl fun F => ?_
  (refine G tt_ok pk139 ?_; repeat (refine G1 tt_ok pk139 ?_; intro _))
  rename_i by_
  refine ke rfl rfl (right55 β d _ _ _ rfl rfl rfl qc xs.length cc k) ?_
  cases hr : rightV xs.length k with
  | false =>
    (refine G tt_ok pk139 ?_; repeat (refine G1 tt_ok pk139 ?_; intro _))
    exact CW.ret (fin_ret rfl (A := J [] :: ([pt b2 [.pointer (some ⟨d, 0, none⟩)], pt b3 [.int .i64 k]] ++ ([pt d [.bool o0, .bool o1, .pointer (some ⟨sb, 0, none⟩), .slice qc xs.length cc], rowA qc xs.length (xs.flatMap crC), bksA xs] ++ Br.bkA sb sq sc 32 sh))) pk_ (.inl rfl))
  | true =>
    obtain ⟨x, hx, hl, hk⟩ := right_at hr
    rw [hr, if_pos rfl, hx] at hY
    rw [if_pos rfl, hx]
    simp only at hY ⊢
    have hxl := hes x (List.mem_of_getElem? hx)
    (refine G tt_ok pk139 ?_; repeat (refine G1 tt_ok pk139 ?_; intro _))
    refine SQ.ent _ (Rm.to (A := rowA qc xs.length (xs.flatMap crC)) (by repeat (first | exact Rm.h | apply Rm.t)) (row_open (by omega))) ?_
    refine SQ.open_ fun z => ?_
    obtain ⟨g, rest⟩ := z
    refine SQ.pure_ fun hv => ?_
    simp only at hv
    subst hv
    refine SQ.ent _ (Rm.to (A := bksA xs) (by repeat (first | exact Rm.h | apply Rm.t)) (bks_open hx)) ?_
    (refine G tt_ok pk139 ?_; repeat (refine G1 tt_ok pk139 ?_; intro _))
    refine SQ.idx tt_ok rfl rfl k.toNat hk hl (o' := 0 + k.toNat * 2) rfl ?_
    (refine G tt_ok pk139 ?_; repeat (refine G1 tt_ok pk139 ?_; intro _))
    refine SQ.ldA tt_ok rfl rfl (by repeat (first | exact .h | exact .q | apply At.t)) (rd_own hx rest) ?_
    (refine G tt_ok pk139 ?_; repeat (refine G1 tt_ok pk139 ?_; intro _))
    (refine ka rfl rfl (Bn.all21 β x.b x.q x.c 0 x.es (by omega)) ?_; rintro _ _ ⟨c1, c3, q1, n1, rfl, rfl⟩; refine ⟨(by repeat (first | exact trivial | refine ⟨trivial, ?_⟩ | refine ⟨wk (by repeat (first | exact .h | exact .q | apply At.t)) (rd_own hx rest), ?_⟩ | refine ⟨wk (by repeat (first | exact .h | exact .q | apply At.t)) (by rfl), ?_⟩)), ?_⟩)
    (refine G tt_ok pk139 ?_; repeat (refine G1 tt_ok pk139 ?_; intro _))
    refine CW.ent (Rm.to (A := pt g (xs.flatMap crC ++ rest)) (by repeat (first | exact Rm.h | apply Rm.t)) (row_close (n := xs.length))) ?_
    generalize (some ⟨g, 0, none⟩ : Option Addr) = qc at hY ⊢
    refine CW.ent (Rm.to (A := rowA q1 x.es.length (x.es.flatMap Bn.enC)) (by repeat (first | exact Rm.h | apply Rm.t)) (row_rd β (sz := 7) (flatE_len (sz := 7) (fun _ => rfl) x.es))) ?_
    refine CW.open_ fun B => CW.pure_ fun hB => ?_
    refine CW.ent (L' := [pt c3 [.slice q1 x.es.length n1], pt c1 [.pointer (some ⟨x.b, 0, none⟩)], pt x.b [.int .i64 0, .slice x.q x.es.length x.c], B, J [], pt by_ [.func (.yield l) #[] #[]], pt b2 [.pointer (some ⟨d, 0, none⟩)], pt b3 [.int .i64 k], pt d [.bool o0, .bool o1, .pointer (some ⟨sb, 0, none⟩), .slice qc xs.length cc], rowA qc xs.length (xs.flatMap crC), rowA x.q x.es.length (x.es.flatMap Bn.enC), bksA (xs.eraseIdx k.toNat)] ++ Br.bkA sb sq sc 32 sh) pk_ ?_
    refine CW.rangeFunc rfl (Bn.iter43 β x.b c1 c3 hB (by omega) (by omega) (by omega) rfl) [0, 0, 0, 0] rfl
      (fun pre => [J (pre.map fun p => (p.1, p.2.1)), pt by_ [.func (.yield l) #[] #[]], pt b2 [.pointer (some ⟨d, 0, none⟩)], pt b3 [.int .i64 k], pt d [.bool o0, .bool o1, .pointer (some ⟨sb, 0, none⟩), .slice qc xs.length cc], rowA qc xs.length (xs.flatMap crC), rowA x.q x.es.length (x.es.flatMap Bn.enC), bksA (xs.eraseIdx k.toNat)] ++ Br.bkA sb sq sc 32 sh)
      (fun c M => c = .ret ∧ ∃ pre, M = [Jx pre, pt by_ [.func (.yield l) #[] #[]], pt b2 [.pointer (some ⟨d, 0, none⟩)], pt b3 [.int .i64 k], pt d [.bool o0, .bool o1, .pointer (some ⟨sb, 0, none⟩), .slice qc xs.length cc], rowA qc xs.length (xs.flatMap crC), rowA x.q x.es.length (x.es.flatMap Bn.enC), bksA (xs.eraseIdx k.toNat)] ++ Br.bkA sb sq sc 32 sh) (Ent.refl _) (fun _ => rfl) (by decide) ?_ ?_ ?_
    · intro pre p hpre lp fm rec1
      obtain ⟨e, he, rfl⟩ := Bn.allV_pre hpre
      have hp2 : (pre.map fun p => (p.1, p.2.1)) ++ [((0 : Int) + pre.length, e.1)] <+: seenA x.es ++ seenB sh xs k (Br.allV 32 sh) := by
        have := map_pre (fun p : Int × Bn.En => (p.1, p.2.1)) hpre
        rw [List.map_append] at this
        exact this.trans (List.prefix_append _ _)
      have hmap : ((pre ++ [((0 : Int) + pre.length, e)]).map fun p : Int × Bn.En => (p.1, p.2.1)) = (pre.map fun p => (p.1, p.2.1)) ++ [((0 : Int) + pre.length, e.1)] := by rw [List.map_append]; rfl
      rw [hmap]
      (refine G tt_ok pk139 ?_; repeat (refine G1 tt_ok pk139 ?_; intro _))
      intro fm2 rec2
      refine CW.ent (Tk.to (As := x.bank ++ [bksA (xs.eraseIdx k.toNat)]) (by repeat (first | exact .n | exact Rm.h | apply Tk.c | apply Rm.t)) (bks_shut hx)) ?_
      (refine G tt_ok pk139 ?_; repeat (refine G1 tt_ok pk139 ?_; intro _))
      (refine SQ.yieldA rfl rfl (hY (pre.map fun p => (p.1, p.2.1)) ((0 : Int) + pre.length, e.1) hp2) (by repeat (first | exact .n | exact Rm.h | exact Rm.of own_row | exact Rm.of row_close0 | apply Tk.c | apply Rm.t)) ?_; rintro _ _ (⟨rfl, rfl⟩ | ⟨rfl, rfl⟩) <;> refine w_ ?_)
      · (refine G tt_ok pk139 ?_; repeat (refine G1 tt_ok pk139 ?_; intro _))
        refine Ent.trans (Rm.to (A := bksA xs) (by repeat (first | exact Rm.h | apply Rm.t)) (bks_open hx)) ?_
        exact Tk.ent (by repeat (first | exact .n | exact Rm.h | apply Tk.c | apply Rm.t))
      · (refine G tt_ok pk139 ?_; repeat (refine G1 tt_ok pk139 ?_; intro _))
        refine CW.ret ?_
        refine ⟨_, ⟨rfl, (pre.map fun p => (p.1, p.2.1)) ++ [((0 : Int) + pre.length, e.1)], rfl⟩, ?_⟩
        refine Ent.trans (Rm.to (A := bksA xs) (by repeat (first | exact Rm.h | apply Rm.t)) (bks_open hx)) ?_
        exact Tk.ent (by repeat (first | exact .n | exact Rm.h | apply Tk.c | apply Rm.t))
    · refine CW.ent (Tk.to (As := x.bank ++ [bksA (xs.eraseIdx k.toNat)]) (by repeat (first | exact .n | exact Rm.h | apply Tk.c | apply Rm.t)) (bks_shut hx)) ?_
      rw [show ((Bn.allV 0 x.es).map fun p => (p.1, p.2.1)) = seenA x.es from rfl]
      (refine G tt_ok pk139 ?_; repeat (refine G1 tt_ok pk139 ?_; intro _))
      (refine ka rfl rfl (Br.all21 β sb sq sc 32 sh (by omega)) ?_; rintro _ _ ⟨e1, e3, q2, n2, rfl, rfl⟩; refine w_ ?_)
      (refine G tt_ok pk139 ?_; repeat (refine G1 tt_ok pk139 ?_; intro _))
      refine CW.ent (Rm.to (A := rowA q2 sh.length (sh.flatMap Br.enC)) (by repeat (first | exact Rm.h | apply Rm.t)) (row_rd β (sz := 9) (flatE_len (sz := 9) (fun _ => rfl) sh))) ?_
      refine CW.open_ fun B2 => CW.pure_ fun hB2 => ?_
      refine CW.ent (L' := [pt e3 [.slice q2 sh.length n2], pt e1 [.pointer (some ⟨sb, 0, none⟩)], pt sb [.int .i64 32, .slice sq sh.length sc], B2, J (seenA x.es), pt by_ [.func (.yield l) #[] #[]], pt b2 [.pointer (some ⟨d, 0, none⟩)], pt b3 [.int .i64 k], pt d [.bool o0, .bool o1, .pointer (some ⟨sb, 0, none⟩), .slice qc xs.length cc], rowA qc xs.length (xs.flatMap crC), bksA xs, rowA sq sh.length (sh.flatMap Br.enC)]) (Tk.ent (by repeat (first | exact .n | exact Rm.h | apply Tk.c | apply Rm.t))) ?_
      refine CW.rangeFunc rfl (Br.iter43 β sb e1 e3 hB2 (by omega) (by omega) (by omega) rfl) [0, 0, 0, 0] rfl
        (fun pre => [J (seenA x.es ++ seenB sh xs k pre), pt by_ [.func (.yield l) #[] #[]], pt b2 [.pointer (some ⟨d, 0, none⟩)], pt b3 [.int .i64 k], pt d [.bool o0, .bool o1, .pointer (some ⟨sb, 0, none⟩), .slice qc xs.length cc], rowA qc xs.length (xs.flatMap crC), bksA xs, rowA sq sh.length (sh.flatMap Br.enC)])
        (fun c M => c = .ret ∧ ∃ pre, M = [Jx pre, pt by_ [.func (.yield l) #[] #[]], pt b2 [.pointer (some ⟨d, 0, none⟩)], pt b3 [.int .i64 k], pt d [.bool o0, .bool o1, .pointer (some ⟨sb, 0, none⟩), .slice qc xs.length cc], rowA qc xs.length (xs.flatMap crC), bksA xs, rowA sq sh.length (sh.flatMap Br.enC)]) ?_ (fun _ => rfl) (by decide) ?_ ?_ ?_
      · rw [show seenB sh xs k [] = [] from rfl, List.append_nil]
        exact Ent.refl _
      · intro pre p hpre lp fm rec1
        obtain ⟨e, he, rfl⟩ := Br.allV_pre hpre
        have hplt : pre.length < sh.length := (List.getElem?_eq_some_iff.1 he).1
        have hsb : seenB sh xs k (pre ++ [((32 : Int) + pre.length, e)]) = seenB sh xs k pre ++ if (targetV sh xs (32 + pre.length) == k) = true then [((32 : Int) + pre.length, e.1)] else [] := by
          unfold seenB
          rw [List.filter_append, List.map_append]
          congr 1
          simp only [List.filter_cons, List.filter_nil]
          split <;> rfl
        have hp2 : seenA x.es ++ seenB sh xs k (pre ++ [((32 : Int) + pre.length, e)]) <+: seenA x.es ++ seenB sh xs k (Br.allV 32 sh) := List.prefix_append_right_inj _ |>.2 (map_pre _ (filter_pre _ hpre))
        rw [hsb] at hp2 ⊢
        (refine G tt_ok pk139 ?_; repeat (refine G1 tt_ok pk139 ?_; intro _))
        intro fm2 rec2
        (refine G tt_ok pk139 ?_; repeat (refine G1 tt_ok pk139 ?_; intro _))
        refine ke rfl rfl (target19 β d o0 o1 sb sq sc sh qc cc xs (by omega) (32 + pre.length) (by omega)) ?_
        (refine G tt_ok pk139 ?_; repeat (refine G1 tt_ok pk139 ?_; intro _))
        cases ht : (targetV sh xs (32 + pre.length) == k) with
        | false =>
          simp only [ht, Bool.false_eq_true, if_false, List.append_nil] at hp2 ⊢
          (refine G tt_ok pk139 ?_; repeat (refine G1 tt_ok pk139 ?_; intro _))
          exact Tk.ent (by repeat (first | exact .n | exact Rm.h | apply Tk.c | apply Rm.t))
        | true =>
          simp only [ht, if_true] at hp2 ⊢
          rw [← List.append_assoc] at hp2 ⊢
          (refine G tt_ok pk139 ?_; repeat (refine G1 tt_ok pk139 ?_; intro _))
          (refine SQ.yieldA rfl rfl (hY (seenA x.es ++ seenB sh xs k pre) ((32 : Int) + pre.length, e.1) hp2) (by repeat (first | exact .n | exact Rm.h | exact Rm.of own_row | exact Rm.of row_close0 | apply Tk.c | apply Rm.t)) ?_; rintro _ _ (⟨rfl, rfl⟩ | ⟨rfl, rfl⟩) <;> refine w_ ?_)
          · (refine G tt_ok pk139 ?_; repeat (refine G1 tt_ok pk139 ?_; intro _))
            exact Tk.ent (by repeat (first | exact .n | exact Rm.h | apply Tk.c | apply Rm.t))
          · (refine G tt_ok pk139 ?_; repeat (refine G1 tt_ok pk139 ?_; intro _))
            refine CW.ret ?_
            refine ⟨_, ⟨rfl, (seenA x.es ++ seenB sh xs k pre) ++ [((32 : Int) + pre.length, e.1)], rfl⟩, ?_⟩
            exact Tk.ent (by repeat (first | exact .n | exact Rm.h | apply Tk.c | apply Rm.t))
      · refine fin_normal (vs := []) rfl (A := J (seenA x.es ++ seenB sh xs k (Br.allV 32 sh)) :: ([pt b2 [.pointer (some ⟨d, 0, none⟩)], pt b3 [.int .i64 k]] ++ ([pt d [.bool o0, .bool o1, .pointer (some ⟨sb, 0, none⟩), .slice qc xs.length cc], rowA qc xs.length (xs.flatMap crC), bksA xs] ++ Br.bkA sb sq sc 32 sh))) (Tk.ent (by repeat (first | exact .n | exact Rm.h | apply Tk.c | apply Rm.t))) (.inl rfl)
      · rintro c M ⟨rfl, pre, rfl⟩
        refine CW.ret ?_
        exact fin_ret rfl (A := Jx pre :: ([pt b2 [.pointer (some ⟨d, 0, none⟩)], pt b3 [.int .i64 k]] ++ ([pt d [.bool o0, .bool o1, .pointer (some ⟨sb, 0, none⟩), .slice qc xs.length cc], rowA qc xs.length (xs.flatMap crC), bksA xs] ++ Br.bkA sb sq sc 32 sh))) (Tk.ent (by repeat (first | exact .n | exact Rm.h | apply Tk.c | apply Rm.t))) (.inr ⟨pre, rfl⟩)
    · rintro c M ⟨rfl, pre, rfl⟩
      refine CW.ret ?_
      refine fin_ret rfl (A := Jx pre :: ([pt b2 [.pointer (some ⟨d, 0, none⟩)], pt b3 [.int .i64 k]] ++ ([pt d [.bool o0, .bool o1, .pointer (some ⟨sb, 0, none⟩), .slice qc xs.length cc], rowA qc xs.length (xs.flatMap crC), bksA xs] ++ Br.bkA sb sq sc 32 sh))) ?_ (.inr ⟨pre, rfl⟩)
      refine Ent.trans (Tk.to (As := x.bank ++ [bksA (xs.eraseIdx k.toNat)]) (by repeat (first | exact .n | exact Rm.h | apply Tk.c | apply Rm.t)) (bks_shut hx)) ?_
      exact Tk.ent (by repeat (first | exact .n | exact Rm.h | apply Tk.c | apply Rm.t))
@[reducible] def pk114 : List (Nat × Plan) := [(5, [(0, 0, []), (1, 0, []), (2, 0, []), (3, 0, []), (4, 0, []), (5, 0, []), (6, 0, []), (7, 0, []), (8, 0, []), (9, 0, []), (10, 0, []), (11, 0, []), (12, 0, []), (13, 0, []), (14, 1, [1, 3, 5, 9, 13]), (15, 0, []), (16, 0, []), (17, 0, []), (18, 0, []), (19, 0, []), (20, 1, []), (21, 0, []), (22, 0, [])])]
/-- May it be taken now? -/
def takeP (o0 o1 : Bool) (p : Int × Ln) : Bool := p.2.2.1 && ((if p.2.2.2.1 = 0 then o0 else o1) && readyI p.2.1)
def DS.readyV (D : DS) (k : Int) : List (Int × Ln) := if asleepV D.xs k then [] else (D.seenV k).filter (takeP D.o0 D.o1)
theorem ready17 (β : Base) (d : Nat) (k : Int) : Tri Tryz.prog β 47 [.pointer (some ⟨d, 0, none⟩), .int .i64 k] [] (fun v L => ∃ b2 b3, v = .func (.func 114) #[] #[.pointer (some ⟨b2, 0, none⟩), .pointer (some ⟨b3, 0, none⟩)] ∧ L = [pt b2 [.pointer (some ⟨d, 0, none⟩)], pt b3 [.int .i64 k]]) := by
  refine Tri.intro tt_ok Tryz.func47 rfl rfl Tryz.ntmps47 rfl fun F => ?_
  (refine G tt_ok [] ?_; repeat (refine G1 tt_ok [] ?_; intro _))
  rename_i b2 b3
  refine CW.ret (fin_ret rfl (A := [pt b2 [.pointer (some ⟨d, 0, none⟩)], pt b3 [.int .i64 k]]) pk_ ?_)
  exact ⟨b2, b3, rfl, rfl⟩
theorem readyIs (β : Base) (i : Iq) : Tri Tryz.prog β 115 [.agg #[.bool i.1, .bool i.2.1, .bool i.2.2.1, .bool i.2.2.2]] [] (fun v L => v = .bool (readyI i) ∧ L = []) := ready60 β _ _ _ _
theorem rd_on {o0 o1 : Bool} {u w : Value} {g : Int} (h0 : 0 ≤ g) (h1 : g ≤ 1) : rdv ti4 [.bool o0, .bool o1, u, w] (0 + g.toNat * 1) = some (.bool (if g = 0 then o0 else o1)) := by
  have : g = 0 ∨ g = 1 := by omega
  rcases this with rfl | rfl <;> rfl
set_option maxHeartbeats 8000000 in
theorem iter51 (β : Base) (d b2 b3 : Nat) (D : DS) (k : Int) (hn8 : D.xs.length ≤ 8) (hns : D.sh.length ≤ 64) (hes : ∀ x ∈ D.xs, x.es.length = 32) (hgr : ∀ p ∈ D.seenV k, 0 ≤ p.2.2.2.1 ∧ p.2.2.2.1 ≤ 1) :
    Iter Tryz.prog β 114 [.pointer (some ⟨b2, 0, none⟩), .pointer (some ⟨b3, 0, none⟩)] ([pt b2 [.pointer (some ⟨d, 0, none⟩)], pt b3 [.int .i64 k]] ++ dA d D) ilC (D.readyV k) := by
  intro l J Jx hY
  refine Tri.intro tt_ok Tryz.func114 rfl rfl Tryz.ntmps114 rfl fun F => ?_
  unfold DS.readyV at hY ⊢
  (refine G tt_ok pk114 ?_; repeat (refine G1 tt_ok pk114 ?_; intro _))
  rename_i by_
  refine ke rfl rfl (asleep22 β d D k) ?_
  cases hs : asleepV D.xs k with
  | true =>
    (refine G tt_ok pk114 ?_; repeat (refine G1 tt_ok pk114 ?_; intro _))
    exact CW.ret (fin_ret rfl (A := J [] :: ([pt b2 [.pointer (some ⟨d, 0, none⟩)], pt b3 [.int .i64 k]] ++ dA d D)) pk_ (.inl rfl))
  | false =>
    rw [hs] at hY
    simp only [Bool.false_eq_true, if_false] at hY ⊢
    (refine G tt_ok pk114 ?_; repeat (refine G1 tt_ok pk114 ?_; intro _))
    (refine ka rfl rfl (seen26 β d k) ?_; rintro _ _ ⟨s2, s3, rfl, rfl⟩; refine w_ ?_)
    (refine G tt_ok pk114 ?_; repeat (refine G1 tt_ok pk114 ?_; intro _))
    refine CW.ent (L' := ([pt s2 [.pointer (some ⟨d, 0, none⟩)], pt s3 [.int .i64 k]] ++ dA d D) ++ [J [], pt by_ [.func (.yield l) #[] #[]], pt b2 [.pointer (some ⟨d, 0, none⟩)], pt b3 [.int .i64 k]]) pk_ ?_
    refine CW.rangeFunc rfl (iter63 β d s2 s3 D k hn8 hns hes) [0, 0, 0, 0, 0, 0, 0] rfl
      (fun pre => [J (pre.filter (takeP D.o0 D.o1)), pt by_ [.func (.yield l) #[] #[]], pt b2 [.pointer (some ⟨d, 0, none⟩)], pt b3 [.int .i64 k]])
      (fun c M => c = .ret ∧ ∃ pre, M = [Jx pre, pt by_ [.func (.yield l) #[] #[]], pt b2 [.pointer (some ⟨d, 0, none⟩)], pt b3 [.int .i64 k]]) (Ent.refl _) (fun _ => rfl) (by decide) ?_ ?_ ?_
    · intro pre p hpre lp fm rec1
      obtain ⟨hg0, hg1⟩ := hgr p (hpre.subset (by simp : p ∈ pre ++ [p]))
      have hfl : (pre ++ [p]).filter (takeP D.o0 D.o1) = pre.filter (takeP D.o0 D.o1) ++ if takeP D.o0 D.o1 p = true then [p] else [] := by
        rw [List.filter_append]
        congr 1
        rw [List.filter_cons, List.filter_nil]
      have hp2 := filter_pre (takeP D.o0 D.o1) hpre
      rw [hfl] at hp2 ⊢
      (refine G tt_ok pk114 ?_; repeat (refine G1 tt_ok pk114 ?_; intro _))
      intro fm2 rec2
      (refine G tt_ok pk114 ?_; repeat (refine G1 tt_ok pk114 ?_; intro _))
      obtain ⟨id, iq, en, g, pr⟩ := p
      rw [show takeP D.o0 D.o1 (id, iq, en, g, pr) = (en && ((if g = 0 then D.o0 else D.o1) && readyI iq)) from rfl] at hp2 ⊢
      simp only at hg0 hg1 hp2 ⊢
      cases en with
      | false =>
        simp only [Bool.false_and, Bool.false_eq_true, if_false, List.append_nil] at hp2 ⊢
        (refine G tt_ok pk114 ?_; repeat (refine G1 tt_ok pk114 ?_; intro _))
        exact pk_
      | true =>
        simp only [Bool.true_and] at hp2 ⊢
        (refine G tt_ok pk114 ?_; repeat (refine G1 tt_ok pk114 ?_; intro _))
        refine SQ.idx tt_ok rfl rfl g.toNat (by omega) (by omega) (o' := 0 + g.toNat * 1) rfl ?_
        refine SQ.ldA tt_ok rfl rfl (by repeat (first | exact .h | exact .q | apply At.t)) (rd_on hg0 hg1) ?_
        (refine G tt_ok pk114 ?_; repeat (refine G1 tt_ok pk114 ?_; intro _))
        have hon := fun u w => rd_on (o0 := D.o0) (o1 := D.o1) (u := u) (w := w) hg0 hg1
        generalize (if g = 0 then D.o0 else D.o1) = on at hp2 hon ⊢
        cases on with
        | false =>
          simp only [Bool.false_and, Bool.false_eq_true, if_false, List.append_nil] at hp2 ⊢
          (refine G tt_ok pk114 ?_; repeat (refine G1 tt_ok pk114 ?_; intro _))
          exact pk_
        | true =>
          simp only [Bool.true_and] at hp2 ⊢
          (refine G tt_ok pk114 ?_; repeat (refine G1 tt_ok pk114 ?_; intro _))
          (refine ka rfl rfl (readyIs β iq) ?_; rintro _ _ ⟨rfl, rfl⟩; refine ⟨(by repeat (first | exact trivial | refine ⟨trivial, ?_⟩ | refine ⟨wk (by repeat (first | exact .h | exact .q | apply At.t)) (hon _ _), ?_⟩ | refine ⟨wk (by repeat (first | exact .h | exact .q | apply At.t)) (by rfl), ?_⟩)), ?_⟩)
          generalize readyI iq = rd at hp2 ⊢
          cases rd with
          | false =>
            simp only [Bool.false_eq_true, if_false, List.append_nil] at hp2 ⊢
            (refine G tt_ok pk114 ?_; repeat (refine G1 tt_ok pk114 ?_; intro _))
            exact pk_
          | true =>
            simp only [if_true] at hp2 ⊢
            (refine G tt_ok pk114 ?_; repeat (refine G1 tt_ok pk114 ?_; intro _))
            (refine SQ.yieldA rfl rfl (hY (pre.filter (takeP D.o0 D.o1)) (id, iq, true, g, pr) hp2) (by repeat (first | exact .n | exact Rm.h | exact Rm.of own_row | exact Rm.of row_close0 | apply Tk.c | apply Rm.t)) ?_; rintro _ _ (⟨rfl, rfl⟩ | ⟨rfl, rfl⟩) <;> refine w_ ?_)
            · (refine G tt_ok pk114 ?_; repeat (refine G1 tt_ok pk114 ?_; intro _))
              exact pk_
            · (refine G tt_ok pk114 ?_; repeat (refine G1 tt_ok pk114 ?_; intro _))
              refine CW.ret ?_
              refine ⟨_, ⟨rfl, pre.filter (takeP D.o0 D.o1) ++ [(id, iq, true, g, pr)], rfl⟩, ?_⟩
              exact pk_
    · exact fin_normal (vs := []) rfl (A := J ((D.seenV k).filter (takeP D.o0 D.o1)) :: ([pt b2 [.pointer (some ⟨d, 0, none⟩)], pt b3 [.int .i64 k]] ++ dA d D)) pk_ (.inl rfl)
    · rintro c M ⟨rfl, pre, rfl⟩
      refine CW.ret ?_
      exact fin_ret rfl (A := Jx pre :: ([pt b2 [.pointer (some ⟨d, 0, none⟩)], pt b3 [.int .i64 k]] ++ dA d D)) pk_ (.inr ⟨pre, rfl⟩)
theorem before56 (β : Base) (p i q j : Int) : Tri Tryz.prog β 214 [.int .i64 p, .int .i64 i, .int .i64 q, .int .i64 j] [] (fun v L => v = .bool (decide (p < q) || (p == q && decide (i < j))) ∧ L = []) := by
  refine Tri.intro tt_ok Tryz.func214 rfl rfl Tryz.ntmps214 rfl fun F => ?_
  (repeat' (first | refine CW.seq ?_ | refine CW.region tt_ok rfl ?_ | refine CW.block ?_ | refine CW.skip ?_ | refine SQ.nil ?_ | refine SQ.pures1 tt_ok rfl ?_ | refine SQ.pure1 tt_ok rfl ?_ | refine SQ.new _ _ rfl rfl (fun _ => ?_) | refine SQ.ldA tt_ok rfl rfl (by repeat (first | exact .h | exact .q | apply At.t)) (by rfl) ?_ | refine SQ.stA tt_ok rfl rfl (by repeat (first | apply Up.h | apply Up.t)) (by rfl) (by rfl) (by exact trivial) ?_ | refine CW.cond_tt rfl ?_ | refine CW.cond_ff rfl ?_ | ((first | refine CW.cond rfl (fun hc => ?_) (fun hc => ?_) | refine SQ.gsplit rfl (fun hc => ?_) (fun hc => ?_)) <;> try (exfalso; simp_all; done))))
  all_goals (refine CW.ret (fin_ret rfl (Ent.refl _) ⟨?_, rfl⟩); simp_all [packV])
/-- A candidate: ID, Priority, Group, Is. -/
abbrev Cd := Int × Int × Int × Bool
def beforeV (p i q j : Int) : Bool := decide (p < q) || (p == q && decide (i < j))
def bestS (c : Cd) (p : Int × Ln) : Cd := if (!c.2.2.2 || beforeV p.2.2.2.2 p.1 c.2.1 c.1) = true then (p.1, p.2.2.2.2, p.2.2.2.1, true) else c
def bestL (ps : List (Int × Ln)) : Cd := ps.foldl bestS (0, 0, 0, false)
theorem before56' (β : Base) (p i q j : Int) : Tri Tryz.prog β 214 [.int .i64 p, .int .i64 i, .int .i64 q, .int .i64 j] [] (fun v L => v = .bool (beforeV p i q j) ∧ L = []) := before56 β p i q j
set_option maxHeartbeats 4000000 in
theorem best20 (β : Base) (d : Nat) (D : DS) (k : Int) (hn8 : D.xs.length ≤ 8) (hns : D.sh.length ≤ 64) (hes : ∀ x ∈ D.xs, x.es.length = 32) (hgr : ∀ p ∈ D.seenV k, 0 ≤ p.2.2.2.1 ∧ p.2.2.2.1 ≤ 1) :
    Tri Tryz.prog β 147 [.pointer (some ⟨d, 0, none⟩), .int .i64 k] (dA d D) (fun v L => v = .agg #[.int .i64 (bestL (D.readyV k)).1, .int .i64 (bestL (D.readyV k)).2.1, .int .i64 (bestL (D.readyV k)).2.2.1, .bool (bestL (D.readyV k)).2.2.2] ∧ L = dA d D) := by
  refine Tri.intro tt_ok Tryz.func147 rfl rfl Tryz.ntmps147 rfl fun F => ?_
  (refine G tt_ok [] ?_; repeat (refine G1 tt_ok [] ?_; intro _))
  rename_i b4 b5
  (refine ka rfl rfl (ready17 β d k) ?_; rintro _ _ ⟨s2, s3, rfl, rfl⟩; refine w_ ?_)
  (refine G tt_ok [] ?_; repeat (refine G1 tt_ok [] ?_; intro _))
  refine CW.ent (L' := ([pt s2 [.pointer (some ⟨d, 0, none⟩)], pt s3 [.int .i64 k]] ++ dA d D) ++ [pt b5 [.int .i64 0, .int .i64 0, .int .i64 0, .bool false], pt b4 [.int .i64 0, .int .i64 0, .int .i64 0, .bool false]]) pk_ ?_
  refine CW.rangeFunc rfl (iter51 β d s2 s3 D k hn8 hns hes hgr) [0, 0, 0, 0, 0, 0, 0] rfl
    (fun pre => [pt b5 [.int .i64 (bestL pre).1, .int .i64 (bestL pre).2.1, .int .i64 (bestL pre).2.2.1, .bool (bestL pre).2.2.2], pt b4 [.int .i64 0, .int .i64 0, .int .i64 0, .bool false]])
    (fun _ _ => False) (Ent.refl _) (fun _ => rfl) (by decide) ?_ ?_ (fun _ _ h => h.elim)
  · intro pre p hpre lp fm rec1
    have hst : bestL (pre ++ [p]) = bestS (bestL pre) p := by unfold bestL; rw [List.foldl_append]; rfl
    rw [hst]
    generalize bestL pre = c
    obtain ⟨ci, cp, cg, cis⟩ := c
    obtain ⟨id, iq, en, g, pr⟩ := p
    unfold bestS
    simp only
    (refine G tt_ok [] ?_; repeat (refine G1 tt_ok [] ?_; intro _))
    intro fm2 rec2
    (refine G tt_ok [] ?_; repeat (refine G1 tt_ok [] ?_; intro _))
    cases cis with
    | false =>
      (refine G tt_ok [] ?_; repeat (refine G1 tt_ok [] ?_; intro _))
      exact pk_
    | true =>
      (refine G tt_ok [] ?_; repeat (refine G1 tt_ok [] ?_; intro _))
      refine ke rfl rfl (before56' β pr id cp ci) ?_
      cases hb : beforeV pr id cp ci with
      | true =>
        (refine G tt_ok [] ?_; repeat (refine G1 tt_ok [] ?_; intro _))
        exact pk_
      | false =>
        (refine G tt_ok [] ?_; repeat (refine G1 tt_ok [] ?_; intro _))
        exact pk_
  · (refine G tt_ok [] ?_; repeat (refine G1 tt_ok [] ?_; intro _))
    refine CW.ret (fin_cells [_] ⟨⟨_, _, _, _, 1, rfl, rfl, rfl, rfl⟩, trivial⟩ (A := dA d D) pk_ ⟨rfl, rfl⟩)
end Go.Proofs.YtebpodnbalfomaaGreatDoor.Sl
namespace Go.Proofs.YtebpodnbalfomaaGreatDoor.Sl
open Go Go.RowKit Go.Proofs
set_option linter.unusedVariables false
set_option linter.unusedSimpArgs false
/-- One candidate stands ahead of another one. -/
def ltC (a b : Cd) : Bool := beforeV a.2.1 a.1 b.2.1 b.1
theorem ltC_iff {a b : Cd} : ltC a b = true ↔ a.2.1 < b.2.1 ∨ (a.2.1 = b.2.1 ∧ a.1 < b.1) := by
  unfold ltC beforeV
  simp
theorem ltC_not {a b : Cd} : ltC a b = false ↔ ¬ (a.2.1 < b.2.1 ∨ (a.2.1 = b.2.1 ∧ a.1 < b.1)) := by
  rw [← ltC_iff]; simp
def insC (x : Cd) : List Cd → List Cd
  | [] => [x]
  | y :: r => if ltC y x = true then y :: insC x r else x :: y :: r
/-- Some candidates in their order. -/
def ordC (l : List Cd) : List Cd := l.foldr insC []
theorem insC_perm (x : Cd) : ∀ l, (insC x l).Perm (x :: l)
  | [] => List.Perm.refl _
  | y :: r => by
    unfold insC
    split
    · exact (List.Perm.cons y (insC_perm x r)).trans (List.Perm.swap _ _ _)
    · exact List.Perm.refl _
theorem ordC_perm : ∀ l, (ordC l).Perm l
  | [] => List.Perm.refl _
  | x :: r => (insC_perm x _).trans (List.Perm.cons x (ordC_perm r))
def Sorted (l : List Cd) : Prop := l.Pairwise fun a b => ltC b a = false
theorem insC_sorted (x : Cd) : ∀ l, Sorted l → Sorted (insC x l)
  | [], _ => by unfold insC Sorted; simp
  | y :: r, h => by
    unfold Sorted at h ⊢
    rw [List.pairwise_cons] at h
    unfold insC
    split
    · rename_i hy
      rw [List.pairwise_cons]
      refine ⟨fun z hz => ?_, insC_sorted x r h.2⟩
      rcases List.mem_cons.1 ((insC_perm x r).mem_iff.1 hz) with rfl | hz
      · rw [ltC_iff] at hy; rw [ltC_not]; omega
      · exact h.1 z hz
    · rename_i hy
      rw [List.pairwise_cons, List.pairwise_cons]
      refine ⟨fun z hz => ?_, h⟩
      rw [Bool.not_eq_true] at hy
      rcases List.mem_cons.1 hz with rfl | hz
      · exact hy
      · have := h.1 z hz
        rw [ltC_not] at hy this ⊢; omega
theorem ordC_sorted : ∀ l, Sorted (ordC l)
  | [] => List.Pairwise.nil
  | x :: r => insC_sorted x _ (ordC_sorted r)
theorem sorted_unique : ∀ {l m : List Cd}, l.Perm m → Sorted l → Sorted m → (∀ a ∈ l, ∀ b ∈ l, a.1 = b.1 → a.2.1 = b.2.1 → a = b) → l = m
  | [], m, p, _, _, _ => (List.Perm.nil_eq p)
  | a :: l, [], p, _, _, _ => absurd p.length_eq (by simp)
  | a :: l, b :: m, p, hl, hm, hu => by
    have hab : a = b := by
      unfold Sorted at hl hm
      rw [List.pairwise_cons] at hl hm
      have hb : b ∈ a :: l := p.mem_iff.2 (by simp)
      have ha : a ∈ b :: m := p.mem_iff.1 (by simp)
      rcases List.mem_cons.1 hb with h | h
      · exact h.symm
      rcases List.mem_cons.1 ha with h' | h'
      · exact h'
      have h1 := hl.1 b h
      have h2 := hm.1 a h'
      rw [ltC_not] at h1 h2
      exact hu a (by simp) b hb (by omega) (by omega)
    subst hab
    rw [sorted_unique ((List.perm_cons a).1 p) (List.pairwise_cons.1 hl).2 (List.pairwise_cons.1 hm).2 (fun x hx y hy => hu x (List.mem_cons_of_mem _ hx) y (List.mem_cons_of_mem _ hy))]
theorem ordC_of {l m : List Cd} (p : m.Perm l) (h : Sorted m) (hu : ∀ a ∈ l, ∀ b ∈ l, a.1 = b.1 → a.2.1 = b.2.1 → a = b) : m = ordC l :=
  sorted_unique (p.trans (ordC_perm l).symm) h (ordC_sorted l) fun a ha b hb => hu a (p.mem_iff.1 ha) b (p.mem_iff.1 hb)
/-- No two of them have one number. -/
def uniqC (l : List Cd) : Prop := (l.map (·.1)).Nodup
theorem uniq_eq : ∀ {l : List Cd}, uniqC l → ∀ a ∈ l, ∀ b ∈ l, a.1 = b.1 → a = b
  | [], _, a, ha, _, _, _ => by simp at ha
  | x :: l, h, a, ha, b, hb, e => by
    unfold uniqC at h
    rw [List.map_cons, List.nodup_cons] at h
    rcases List.mem_cons.1 ha with h1 | h1 <;> rcases List.mem_cons.1 hb with h2 | h2
    · rw [h1, h2]
    · exact (h.1 (List.mem_map.2 ⟨b, h2, by rw [← e, h1]⟩)).elim
    · exact (h.1 (List.mem_map.2 ⟨a, h1, by rw [e, h2]⟩)).elim
    · exact uniq_eq h.2 a h1 b h2 e
theorem ordC_uniq {l m : List Cd} (p : m.Perm l) (h : Sorted m) (hu : uniqC l) : m = ordC l := ordC_of p h fun a ha b hb e _ => uniq_eq hu a ha b hb e
theorem ordC_len (l : List Cd) : (ordC l).length = l.length := (ordC_perm l).length_eq
theorem ordC_mem {l : List Cd} {a : Cd} : a ∈ ordC l ↔ a ∈ l := (ordC_perm l).mem_iff
/-- The one that is first. -/
def topC (l : List Cd) : Cd := match ordC l with
  | [] => (0, 0, 0, false)
  | c :: _ => c
end Go.Proofs.YtebpodnbalfomaaGreatDoor.Sl
namespace Go.Proofs.YtebpodnbalfomaaGreatDoor.Sl
open Go Go.RowKit Go.Proofs
set_option linter.unusedVariables false
set_option linter.unusedSimpArgs false
attribute [local irreducible] CW Tri OW
set_option maxRecDepth 10000
@[reducible] def pk27 : List (Nat × Plan) := []
@[reducible] def pk76 : List (Nat × Plan) := []
@[reducible] def pk26 : List (Nat × Plan) := [(2, [(0, 0, []), (1, 0, []), (2, 0, []), (3, 0, []), (4, 0, []), (5, 0, []), (6, 0, []), (7, 0, []), (8, 0, []), (9, 0, []), (10, 0, []), (11, 0, []), (12, 0, []), (13, 0, []), (14, 0, []), (15, 1, [1, 4, 8, 12, 14]), (16, 0, []), (17, 0, []), (18, 0, []), (19, 0, []), (20, 0, []), (21, 0, []), (22, 0, []), (23, 0, []), (24, 1, [1, 4, 8, 12, 14, 19, 21, 23]), (25, 1, [1, 4, 8, 12, 14, 19, 21, 23]), (26, 0, []), (27, 0, [])])]
@[reducible] def pk66 : List (Nat × Plan) := []
@[reducible] def pk135 : List (Nat × Plan) := []
@[reducible] def pk73 : List (Nat × Plan) := []
/-- A processor's interface. -/
structure Fc where
  m : Nat
  p0 : Nat
  p1 : Nat
  on0 : Bool
  on1 : Bool
  sp : Bool
  b0 : Nat
  b1 : Nat
@[reducible] def fcV (f : Fc) : Value := .agg #[.int .i64 f.m, .int .i64 f.p0, .int .i64 f.p1, .bool f.on0, .bool f.on1, .bool f.sp, .int .u32 f.b0, .int .u32 f.b1]
structure FcOk (f : Fc) : Prop where
  m : f.m ≤ 255
  p0 : f.p0 ≤ 7
  p1 : f.p1 ≤ 7
  b0 : f.b0 < 2 ^ 32
  b1 : f.b1 < 2 ^ 32
def Fc.run (f : Fc) : Int × Int := runV f.b0 f.b1
def Fc.on (f : Fc) (g : Nat) : Bool := if g = 0 then f.on0 else f.on1
def Fc.msk (f : Fc) (g : Nat) : Nat := maskN g (if g = 0 then f.p0 else f.p1)
theorem running27 (β : Base) {f : Fc} (ok : FcOk f) : Tri Tryz.prog β 27 [fcV f] [] (fun v L => v = .tuple #[.int .i64 f.run.1, .int .i64 f.run.2] ∧ L = []) := by
  refine Tri.intro tt_ok Tryz.func27 rfl rfl Tryz.ntmps27 rfl fun F => ?_
  (refine G tt_ok pk27 ?_; repeat (refine G1 tt_ok pk27 ?_; intro _))
  refine ke rfl rfl (running77 β ok.b0 ok.b1) ?_
  (refine G tt_ok pk27 ?_; repeat (refine G1 tt_ok pk27 ?_; intro _))
  exact CW.ret (fin_ret rfl (A := []) (Ent.dropAll _) ⟨rfl, rfl⟩)
theorem fmask76 (β : Base) {f : Fc} (ok : FcOk f) {g : Nat} (hg : g ≤ 1) : Tri Tryz.prog β 76 [fcV f, .int .i64 g] [] (fun v L => v = .int .i64 (f.msk g) ∧ L = []) := by
  refine Tri.intro tt_ok Tryz.func76 rfl rfl Tryz.ntmps76 rfl fun F => ?_
  have hg2 : g = 0 ∨ g = 1 := by omega
  rcases hg2 with rfl | rfl
  · have h := mask136 β (g := 0) (p := f.p0) (by omega) ok.p0
    rw [show ((0 : Nat) : Int) = 0 from rfl] at h ⊢
    (refine G tt_ok pk76 ?_; repeat (refine G1 tt_ok pk76 ?_; intro _))
    refine SQ.idx tt_ok rfl rfl 0 rfl (by decide) (o' := 1) rfl ?_
    (refine G tt_ok pk76 ?_; repeat (refine G1 tt_ok pk76 ?_; intro _))
    refine ke rfl rfl (h) ?_
    (refine G tt_ok pk76 ?_; repeat (refine G1 tt_ok pk76 ?_; intro _))
    exact CW.ret (fin_ret rfl (A := []) (Ent.dropAll _) ⟨rfl, rfl⟩)
  · have h := mask136 β (g := 1) (p := f.p1) (by omega) ok.p1
    rw [show ((1 : Nat) : Int) = 1 from rfl] at h ⊢
    (refine G tt_ok pk76 ?_; repeat (refine G1 tt_ok pk76 ?_; intro _))
    refine SQ.idx tt_ok rfl rfl 1 rfl (by decide) (o' := 2) rfl ?_
    (refine G tt_ok pk76 ?_; repeat (refine G1 tt_ok pk76 ?_; intro _))
    refine ke rfl rfl (h) ?_
    (refine G tt_ok pk76 ?_; repeat (refine G1 tt_ok pk76 ?_; intro _))
    exact CW.ret (fin_ret rfl (A := []) (Ent.dropAll _) ⟨rfl, rfl⟩)
/-- Whether an interrupt comes through. -/
def Fc.may (f : Fc) (p : Int) (g : Nat) (is : Bool) : Bool := is && (f.on g && (decide (p < f.m) && decide (andI p (f.msk g) < f.run.1)))
set_option maxHeartbeats 4000000 in
theorem may26 (β : Base) {f : Fc} (ok : FcOk f) (id p : Int) {g : Nat} (hg : g ≤ 1) (is : Bool) : Tri Tryz.prog β 26 [fcV f, .agg #[.int .i64 id, .int .i64 p, .int .i64 g, .bool is]] [] (fun v L => v = .bool (f.may p g is) ∧ L = []) := by
  refine Tri.intro tt_ok Tryz.func26 rfl rfl Tryz.ntmps26 rfl fun F => ?_
  obtain ⟨m, p0, p1, on0, on1, sp, b0, b1⟩ := f
  have hm := fmask76 β ok hg
  unfold Fc.may
  cases is with
  | false =>
    (refine G tt_ok pk26 ?_; repeat (refine G1 tt_ok pk26 ?_; intro _))
    refine ke rfl rfl (running27 β ok) ?_
    (refine G tt_ok pk26 ?_; repeat (refine G1 tt_ok pk26 ?_; intro _))
    exact CW.ret (fin_ret rfl (A := []) (Ent.dropAll _) ⟨rfl, rfl⟩)
  | true =>
    have hg2 : g = 0 ∨ g = 1 := by omega
    rcases hg2 with rfl | rfl
    · rw [show ((0 : Nat) : Int) = 0 from rfl] at hm ⊢
      (refine G tt_ok pk26 ?_; repeat (refine G1 tt_ok pk26 ?_; intro _))
      refine ke rfl rfl (running27 β ok) ?_
      (refine G tt_ok pk26 ?_; repeat (refine G1 tt_ok pk26 ?_; intro _))
      refine SQ.idx tt_ok rfl rfl 0 rfl (by decide) (o' := 3) rfl ?_
      (refine G tt_ok pk26 ?_; repeat (refine G1 tt_ok pk26 ?_; intro _))
      have e : (⟨m, p0, p1, on0, on1, sp, b0, b1⟩ : Fc).on 0 = on0 := rfl
      rw [e]
      clear e
      cases on0 with
      | false =>
        (refine G tt_ok pk26 ?_; repeat (refine G1 tt_ok pk26 ?_; intro _))
        exact CW.ret (fin_ret rfl (A := []) (Ent.dropAll _) ⟨rfl, rfl⟩)
      | true =>
        (refine G tt_ok pk26 ?_; repeat (refine G1 tt_ok pk26 ?_; intro _))
        refine ke rfl rfl (passes74 β p m) ?_
        (refine G tt_ok pk26 ?_; repeat (refine G1 tt_ok pk26 ?_; intro _))
        cases decide (p < (m : Int)) with
        | false =>
          (refine G tt_ok pk26 ?_; repeat (refine G1 tt_ok pk26 ?_; intro _))
          exact CW.ret (fin_ret rfl (A := []) (Ent.dropAll _) ⟨rfl, rfl⟩)
        | true =>
          (refine G tt_ok pk26 ?_; repeat (refine G1 tt_ok pk26 ?_; intro _))
          refine ke rfl rfl (hm) ?_
          (refine G tt_ok pk26 ?_; repeat (refine G1 tt_ok pk26 ?_; intro _))
          refine ke rfl rfl (preempts75 β p _ _) ?_
          (refine G tt_ok pk26 ?_; repeat (refine G1 tt_ok pk26 ?_; intro _))
          exact CW.ret (fin_ret rfl (A := []) (Ent.dropAll _) ⟨rfl, rfl⟩)
    · rw [show ((1 : Nat) : Int) = 1 from rfl] at hm ⊢
      (refine G tt_ok pk26 ?_; repeat (refine G1 tt_ok pk26 ?_; intro _))
      refine ke rfl rfl (running27 β ok) ?_
      (refine G tt_ok pk26 ?_; repeat (refine G1 tt_ok pk26 ?_; intro _))
      refine SQ.idx tt_ok rfl rfl 1 rfl (by decide) (o' := 4) rfl ?_
      (refine G tt_ok pk26 ?_; repeat (refine G1 tt_ok pk26 ?_; intro _))
      have e : (⟨m, p0, p1, on0, on1, sp, b0, b1⟩ : Fc).on 1 = on1 := rfl
      rw [e]
      clear e
      cases on1 with
      | false =>
        (refine G tt_ok pk26 ?_; repeat (refine G1 tt_ok pk26 ?_; intro _))
        exact CW.ret (fin_ret rfl (A := []) (Ent.dropAll _) ⟨rfl, rfl⟩)
      | true =>
        (refine G tt_ok pk26 ?_; repeat (refine G1 tt_ok pk26 ?_; intro _))
        refine ke rfl rfl (passes74 β p m) ?_
        (refine G tt_ok pk26 ?_; repeat (refine G1 tt_ok pk26 ?_; intro _))
        cases decide (p < (m : Int)) with
        | false =>
          (refine G tt_ok pk26 ?_; repeat (refine G1 tt_ok pk26 ?_; intro _))
          exact CW.ret (fin_ret rfl (A := []) (Ent.dropAll _) ⟨rfl, rfl⟩)
        | true =>
          (refine G tt_ok pk26 ?_; repeat (refine G1 tt_ok pk26 ?_; intro _))
          refine ke rfl rfl (hm) ?_
          (refine G tt_ok pk26 ?_; repeat (refine G1 tt_ok pk26 ?_; intro _))
          refine ke rfl rfl (preempts75 β p _ _) ?_
          (refine G tt_ok pk26 ?_; repeat (refine G1 tt_ok pk26 ?_; intro _))
          exact CW.ret (fin_ret rfl (A := []) (Ent.dropAll _) ⟨rfl, rfl⟩)
/-- The number that a group's register tells. -/
def Fc.shows (f : Fc) (c : Cd) (k : Nat) : Int := if c.2.2.2 = true ∧ c.2.2.1 = k ∧ f.on k = true then c.1 else 1023
theorem shows66 (β : Base) (f : Fc) (c : Cd) {k : Nat} (hk : k ≤ 1) : Tri Tryz.prog β 66 [fcV f, .agg #[.int .i64 c.1, .int .i64 c.2.1, .int .i64 c.2.2.1, .bool c.2.2.2], .int .i64 k] [] (fun v L => v = .int .i64 (f.shows c k) ∧ L = []) := by
  obtain ⟨id, p, g, is⟩ := c
  refine Tri.intro tt_ok Tryz.func66 rfl rfl Tryz.ntmps66 rfl fun F => ?_
  unfold Fc.shows
  simp only
  cases is with
  | false =>
    (refine G tt_ok pk66 ?_; repeat (refine G1 tt_ok pk66 ?_; intro _))
    rw [if_neg (by simp)]
    exact CW.ret (fin_ret rfl (A := []) (Ent.dropAll _) ⟨rfl, rfl⟩)
  | true =>
    by_cases hg : g = k
    · subst hg
      have hg2 : k = 0 ∨ k = 1 := by omega
      rcases hg2 with rfl | rfl
      · rw [show ((0 : Nat) : Int) = 0 from rfl]
        (refine G tt_ok pk66 ?_; repeat (refine G1 tt_ok pk66 ?_; intro _))
        refine SQ.idx tt_ok rfl rfl 0 rfl (by decide) (o' := 3) rfl ?_
        (refine G tt_ok pk66 ?_; repeat (refine G1 tt_ok pk66 ?_; intro _))
        have e : f.on 0 = f.on0 := rfl
        rw [e]
        cases f.on0 with
        | false =>
          (refine G tt_ok pk66 ?_; repeat (refine G1 tt_ok pk66 ?_; intro _))
          rw [if_neg (by simp)]
          exact CW.ret (fin_ret rfl (A := []) (Ent.dropAll _) ⟨rfl, rfl⟩)
        | true =>
          (refine G tt_ok pk66 ?_; repeat (refine G1 tt_ok pk66 ?_; intro _))
          rw [if_pos (by simp)]
          exact CW.ret (fin_ret rfl (A := []) (Ent.dropAll _) ⟨rfl, rfl⟩)
      · rw [show ((1 : Nat) : Int) = 1 from rfl]
        (refine G tt_ok pk66 ?_; repeat (refine G1 tt_ok pk66 ?_; intro _))
        refine SQ.idx tt_ok rfl rfl 1 rfl (by decide) (o' := 4) rfl ?_
        (refine G tt_ok pk66 ?_; repeat (refine G1 tt_ok pk66 ?_; intro _))
        have e : f.on 1 = f.on1 := rfl
        rw [e]
        cases f.on1 with
        | false =>
          (refine G tt_ok pk66 ?_; repeat (refine G1 tt_ok pk66 ?_; intro _))
          rw [if_neg (by simp)]
          exact CW.ret (fin_ret rfl (A := []) (Ent.dropAll _) ⟨rfl, rfl⟩)
        | true =>
          (refine G tt_ok pk66 ?_; repeat (refine G1 tt_ok pk66 ?_; intro _))
          rw [if_pos (by simp)]
          exact CW.ret (fin_ret rfl (A := []) (Ent.dropAll _) ⟨rfl, rfl⟩)
    · (refine G tt_ok pk66 ?_; repeat (refine G1 tt_ok pk66 ?_; intro _))
      rw [show (g == (k : Int)) = false by simpa using hg]
      (refine G tt_ok pk66 ?_; repeat (refine G1 tt_ok pk66 ?_; intro _))
      rw [if_neg (by rintro ⟨_, h, _⟩; exact hg h)]
      exact CW.ret (fin_ret rfl (A := []) (Ent.dropAll _) ⟨rfl, rfl⟩)
theorem creal68 (β : Base) (n : Int) : Tri Tryz.prog β 68 [.int .i64 n] [] (fun v L => v = .bool (decide (0 ≤ n ∧ n < 1020) || decide (8192 ≤ n ∧ n < 16384)) ∧ L = []) := by
  refine Tri.intro tt_ok Tryz.func68 rfl rfl Tryz.ntmps68 rfl fun F => ?_
  (repeat' (first | refine CW.seq ?_ | refine CW.region tt_ok rfl ?_ | refine CW.block ?_ | refine CW.skip ?_ | refine SQ.nil ?_ | refine SQ.pures1 tt_ok rfl ?_ | refine SQ.pure1 tt_ok rfl ?_ | refine SQ.new _ _ rfl rfl (fun _ => ?_) | refine SQ.ldA tt_ok rfl rfl (by repeat (first | exact .h | exact .q | apply At.t)) (by rfl) ?_ | refine SQ.stA tt_ok rfl rfl (by repeat (first | apply Up.h | apply Up.t)) (by rfl) (by rfl) (by repeat (first | exact trivial | refine ⟨trivial, ?_⟩ | refine ⟨wk (by repeat (first | exact .h | exact .q | apply At.t)) (by rfl), ?_⟩)) ?_ | refine CW.cond_tt rfl ?_ | refine CW.cond_ff rfl ?_ | ((first | refine CW.cond rfl (fun hc => ?_) (fun hc => ?_) | refine SQ.gsplit rfl (fun hc => ?_) (fun hc => ?_)) <;> try (exfalso; simp_all; done))))
  all_goals (refine CW.ret (fin_ret rfl (Ent.refl _) ⟨congrArg Value.bool ?_, rfl⟩); rw [Bool.eq_iff_iff]; simp_all; try omega)
theorem cbit135 (β : Base) (a : Bool) : Tri Tryz.prog β 135 [.bool a] [] (fun v L => v = .int .u64 (if a then 1 else 0) ∧ L = []) := by
  refine Tri.intro tt_ok Tryz.func135 rfl rfl Tryz.ntmps135 rfl fun F => ?_
  cases a <;> (
    refine G tt_ok pk135 ?_
    exact CW.ret (fin_ret rfl (Ent.refl _) ⟨rfl, rfl⟩))
def fc0 : Fc := ⟨0, 0, 0, false, false, false, 0, 0⟩
theorem fnew73 (β : Base) : Tri Tryz.prog β 73 [] [] (fun v L => v = fcV fc0 ∧ L = []) := by
  refine Tri.intro tt_ok Tryz.func73 rfl rfl Tryz.ntmps73 rfl fun F => ?_
  (refine G tt_ok pk73 ?_; repeat (refine G1 tt_ok pk73 ?_; intro _))
  exact CW.ret (fin_cells [_] ⟨cl_, trivial⟩ (A := []) (Ent.dropAll _) ⟨rfl, rfl⟩)
set_option maxHeartbeats 4000000 in
/-- The numbers that a loop goes through. -/
theorem ids28 (β : Base) {gf : Nat} {cap : Array Value} {A : List Atom} {ps : List (Int × Ln)} (hI : Iter Tryz.prog β gf cap.toList A ilC ps) (hl : ps.length ≤ 400) :
    Tri Tryz.prog β 149 [.func (.func gf) #[] cap] A (fun v L => ∃ q c, v = .slice q ps.length c ∧ L = rowA q ps.length ((ps.map (·.1)).flatMap i1C) :: A) := by
  refine Tri.intro tt_ok Tryz.func149 rfl rfl Tryz.ntmps149 rfl fun F => ?_
  (refine G tt_ok [] ?_; repeat (refine G1 tt_ok [] ?_; intro _))
  rename_i b3
  refine CW.ent (L' := A ++ [exA fun x : Option Addr × Nat => [pt b3 [.slice x.1 0 x.2], own 3 1 (.slice x.1 0 x.2) 0 []]]) ?_ ?_
  · refine Ent.trans ?_ (Ent.perm List.perm_append_comm)
    refine Ent.trans (own_nil 3 1) ?_
    exact Ent.append (L := [own 3 1 (.slice none 0 0) 0 [], pt b3 [.slice none 0 0]]) (L' := [exA fun x : Option Addr × Nat => [pt b3 [.slice x.1 0 x.2], own 3 1 (.slice x.1 0 x.2) 0 []]]) (M := A) (M' := A)
      ((Ent.perm (List.Perm.swap _ _ _)).trans (Ent.exA (f := fun x : Option Addr × Nat => [pt b3 [.slice x.1 0 x.2], own 3 1 (.slice x.1 0 x.2) 0 []]) (none, 0))) (Ent.refl _)
  refine CW.rangeFunc rfl hI (List.replicate A.length 0) (sel_front A)
    (fun pre => [exA fun x : Option Addr × Nat => [pt b3 [.slice x.1 pre.length x.2], own 3 1 (.slice x.1 pre.length x.2) pre.length ((pre.map (·.1)).flatMap i1C)]])
    (fun _ _ => False) (Ent.refl _) (fun _ => rfl) (by decide) ?_ ?_ (fun _ _ h => h.elim)
  · intro pre p hpre lp fm rec1
    have hpl : pre.length < 400 := by have := hpre.length_le; simp at this; omega
    refine CW.open_ fun x => ?_
    obtain ⟨q, c⟩ := x
    (refine G tt_ok [] ?_; repeat (refine G1 tt_ok [] ?_; intro _))
    intro fm2 rec2
    (refine G tt_ok [] ?_; repeat (refine G1 tt_ok [] ?_; intro _))
    (refine SQ.built tt_ok rfl rfl (fun _ => w_ ?_))
    (refine G tt_ok [] ?_; repeat (refine G1 tt_ok [] ?_; intro _))
    refine SQ.append tt_ok rfl rfl 2 rfl 0 (q := true) rfl [.int .i64 p.1] rfl rfl rfl (scal_eq rfl) (by omega) (by show (pre.length + 1) * 8 ≤ _; omega) (fun v' => ⟨(by repeat (first | exact trivial | refine ⟨trivial, ?_⟩ | refine ⟨wk (by repeat (first | exact .h | exact .q | apply At.t)) (by rfl), ?_⟩)), ?_⟩)
    refine SQ.ent _ (Ent.head (own_shape _ _ _ _ _)) ?_
    refine SQ.open_ fun s => ?_
    refine SQ.pure_ fun hv => ?_
    subst hv
    (refine G tt_ok [] ?_; repeat (refine G1 tt_ok [] ?_; intro _))
    rw [decide_eq_false (show ¬ (((pre.length + 1 : Nat) : Int) > 500) by omega)]
    (refine G tt_ok [] ?_; repeat (refine G1 tt_ok [] ?_; intro _))
    refine Ent.trans ?_ (Ent.append (L' := [exA fun x : Option Addr × Nat => [pt b3 [.slice x.1 (pre ++ [p]).length x.2], own 3 1 (.slice x.1 (pre ++ [p]).length x.2) (pre ++ [p]).length (((pre ++ [p]).map (·.1)).flatMap i1C)]]) (M := A) (M' := A) (Ent.exA (f := fun x : Option Addr × Nat => [pt b3 [.slice x.1 (pre ++ [p]).length x.2], own 3 1 (.slice x.1 (pre ++ [p]).length x.2) (pre ++ [p]).length (((pre ++ [p]).map (·.1)).flatMap i1C)]) s) (Ent.refl _))
    rw [show (pre ++ [p]).length = pre.length + 1 by simp, show ((pre ++ [p]).map (·.1)).flatMap i1C = (pre.map (·.1)).flatMap i1C ++ [.int .i64 p.1] by simp [i1C]]
    exact Ent.append (L := [_, _, _]) (L' := [pt b3 [.slice s.1 (pre.length + 1) s.2], own 3 1 (.slice s.1 (pre.length + 1) s.2) (pre.length + 1) ((pre.map (·.1)).flatMap i1C ++ [.int .i64 p.1])]) (M := A) (Ent.sel (is := [2, 0]) rfl) (Ent.refl A)
  · refine CW.open_ fun x => ?_
    obtain ⟨q, c⟩ := x
    (refine G tt_ok [] ?_; repeat (refine G1 tt_ok [] ?_; intro _))
    refine CW.ret (fin_ret rfl (A := rowA q ps.length ((ps.map (·.1)).flatMap i1C) :: A) (Ent.append (L := [pt b3 [.slice q ps.length c], own 3 1 (.slice q ps.length c) ps.length ((ps.map (·.1)).flatMap i1C)]) (L' := [rowA q ps.length ((ps.map (·.1)).flatMap i1C)]) (M := A) (Ent.trans (Ent.sel (is := [1]) rfl) own_row) (Ent.refl A)) ?_)
    exact ⟨q, c, rfl, rfl⟩
@[reducible] def pk158 : List (Nat × Plan) := [(4, [(0, 0, []), (1, 0, []), (2, 0, []), (3, 0, []), (4, 0, []), (5, 0, []), (6, 0, []), (7, 0, []), (9, 0, []), (10, 0, []), (11, 0, []), (12, 0, []), (13, 0, []), (14, 0, []), (15, 0, []), (16, 0, []), (8, 1, [3, 7, 12, 16]), (17, 1, [3, 7, 12, 16]), (18, 0, []), (19, 0, []), (20, 0, [])]), (5, [(0, 0, []), (1, 0, []), (2, 0, []), (3, 0, []), (4, 0, []), (5, 0, []), (6, 0, []), (7, 0, []), (8, 0, []), (9, 1, [3, 7, 8]), (10, 0, []), (11, 0, [])])]
/-- What a processor's own registers show. -/
def DS.rdOwnV (D : DS) (k r f c : Int) : Int × Int :=
  if rightV D.xs.length k then (match D.xs[k.toNat]? with
    | some x => (if r = 3 then (if x.sl then 6 else 0) else Bn.rdK 0 x.es r f c (cntV c), 0)
    | none => (0, 0))
  else (0, 130)
set_option maxHeartbeats 4000000 in
theorem rdOwn29 (β : Base) (d : Nat) (D : DS) (k r f c : Int) : Tri Tryz.prog β 158 [.pointer (some ⟨d, 0, none⟩), .int .i64 k, .agg #[.int .i64 r, .int .i64 f, .int .i64 c]] (dA d D) (fun u L => u = .tuple #[.int .u64 (D.rdOwnV k r f c).1, .int .i64 (D.rdOwnV k r f c).2] ∧ L = dA d D) := by
  obtain ⟨o0, o1, sb, sq, sc, sh, qc, cc, xs⟩ := D
  refine Tri.intro tt_ok Tryz.func158 rfl rfl Tryz.ntmps158 rfl fun F => ?_
  unfold dA DS.rdOwnV
  simp only
  (refine G tt_ok pk158 ?_; repeat (refine G1 tt_ok pk158 ?_; intro _))
  refine ke rfl rfl (right55 β d _ _ _ rfl rfl rfl qc xs.length cc k) ?_
  cases hr : rightV xs.length k with
  | false =>
    (refine G tt_ok pk158 ?_; repeat (refine G1 tt_ok pk158 ?_; intro _))
    exact CW.ret (fin_ret rfl pk_ ⟨rfl, rfl⟩)
  | true =>
    obtain ⟨x, hx, hl, hk⟩ := right_at hr
    rw [if_pos rfl, hx]
    simp only
    (refine G tt_ok pk158 ?_; repeat (refine G1 tt_ok pk158 ?_; intro _))
    refine CW.ent (Rm.to (A := rowA qc xs.length (xs.flatMap crC)) (by repeat (first | exact Rm.h | apply Rm.t)) (row_open (by omega))) ?_
    refine CW.open_ fun y => ?_
    obtain ⟨g, rest⟩ := y
    refine CW.pure_ fun hv => ?_
    simp only at hv
    subst hv
    refine CW.ent (Rm.to (A := bksA xs) (by repeat (first | exact Rm.h | apply Rm.t)) (bks_open hx)) ?_
    by_cases h3 : r = 3
    · subst h3
      (refine G tt_ok pk158 ?_; repeat (refine G1 tt_ok pk158 ?_; intro _))
      refine SQ.idx tt_ok rfl rfl k.toNat hk hl (o' := 0 + k.toNat * 2) rfl ?_
      (refine G tt_ok pk158 ?_; repeat (refine G1 tt_ok pk158 ?_; intro _))
      refine SQ.ldA tt_ok rfl rfl (by repeat (first | exact .h | exact .q | apply At.t)) (rd_sl hx rest) ?_
      (refine G tt_ok pk158 ?_; repeat (refine G1 tt_ok pk158 ?_; intro _))
      refine SQ.idx tt_ok rfl rfl k.toNat hk hl (o' := 0 + k.toNat * 2) rfl ?_
      (refine G tt_ok pk158 ?_; repeat (refine G1 tt_ok pk158 ?_; intro _))
      refine SQ.ldA tt_ok rfl rfl (by repeat (first | exact .h | exact .q | apply At.t)) (rd_sl hx rest) ?_
      (refine G tt_ok pk158 ?_; repeat (refine G1 tt_ok pk158 ?_; intro _))
      (refine ka rfl rfl (flag67 β x.sl 1) ?_; rintro _ _ ⟨rfl, rfl⟩; refine ⟨(by repeat (first | exact trivial | refine ⟨trivial, ?_⟩ | refine ⟨wk (by repeat (first | exact .h | exact .q | apply At.t)) (rd_sl hx rest), ?_⟩ | refine ⟨wk (by repeat (first | exact .h | exact .q | apply At.t)) (by rfl), ?_⟩)), ?_⟩)
      (refine G tt_ok pk158 ?_; repeat (refine G1 tt_ok pk158 ?_; intro _))
      (refine ka rfl rfl (flag67 β x.sl 2) ?_; rintro _ _ ⟨rfl, rfl⟩; refine ⟨(by repeat (first | exact trivial | refine ⟨trivial, ?_⟩ | refine ⟨wk (by repeat (first | exact .h | exact .q | apply At.t)) (rd_sl hx rest), ?_⟩ | refine ⟨wk (by repeat (first | exact .h | exact .q | apply At.t)) (by rfl), ?_⟩)), ?_⟩)
      (refine G tt_ok pk158 ?_; repeat (refine G1 tt_ok pk158 ?_; intro _))
      refine CW.ret (fin_ret rfl (A := dA d ⟨o0, o1, sb, sq, sc, sh, some ⟨g, 0, none⟩, cc, xs⟩) ?_ ⟨by cases x.sl <;> rfl, rfl⟩)
      refine Ent.trans (Rm.to (A := pt g (xs.flatMap crC ++ rest)) (by repeat (first | exact Rm.h | apply Rm.t)) (row_close (n := xs.length))) ?_
      refine Ent.trans (Tk.to (As := x.bank ++ [bksA (xs.eraseIdx k.toNat)]) (by repeat (first | exact .n | exact Rm.h | apply Tk.c | apply Rm.t)) (bks_shut hx)) ?_
      exact pk_
    · rw [if_neg h3]
      (refine G tt_ok pk158 ?_; repeat (refine G1 tt_ok pk158 ?_; intro _))
      rw [show (r == 3) = false by simp [h3]]
      (refine G tt_ok pk158 ?_; repeat (refine G1 tt_ok pk158 ?_; intro _))
      refine SQ.idx tt_ok rfl rfl k.toNat hk hl (o' := 0 + k.toNat * 2) rfl ?_
      (refine G tt_ok pk158 ?_; repeat (refine G1 tt_ok pk158 ?_; intro _))
      refine SQ.ldA tt_ok rfl rfl (by repeat (first | exact .h | exact .q | apply At.t)) (rd_own hx rest) ?_
      (refine G tt_ok pk158 ?_; repeat (refine G1 tt_ok pk158 ?_; intro _))
      (refine ka rfl rfl (Bn.read12 β x.b x.q x.c (first := 0) (es := x.es) (by omega) (by omega) r f c) ?_; rintro _ _ ⟨rfl, rfl⟩; refine ⟨(by repeat (first | exact trivial | refine ⟨trivial, ?_⟩ | refine ⟨wk (by repeat (first | exact .h | exact .q | apply At.t)) (rd_own hx rest), ?_⟩ | refine ⟨wk (by repeat (first | exact .h | exact .q | apply At.t)) (by rfl), ?_⟩)), ?_⟩)
      (refine G tt_ok pk158 ?_; repeat (refine G1 tt_ok pk158 ?_; intro _))
      refine CW.ret (fin_ret rfl (A := dA d ⟨o0, o1, sb, sq, sc, sh, some ⟨g, 0, none⟩, cc, xs⟩) ?_ ⟨rfl, rfl⟩)
      refine Ent.trans (Rm.to (A := pt g (xs.flatMap crC ++ rest)) (by repeat (first | exact Rm.h | apply Rm.t)) (row_close (n := xs.length))) ?_
      refine Ent.trans (Tk.to (As := x.bank ++ [bksA (xs.eraseIdx k.toNat)]) (by repeat (first | exact .n | exact Rm.h | apply Tk.c | apply Rm.t)) (bks_shut hx)) ?_
      exact pk_
/-- Where a bank of the document's lies. -/
structure OB where
  b : Nat
  q : Option Addr
  c : Nat
  q2 : Option Addr
  c2 : Nat
def OB.at_ (o : OB) (first : Int) (ls : List Ln) : List Atom := rbA o.b first o.q o.c (.slice o.q2 ls.length o.c2) ls
/-- Where the document's distributor's parts lie. -/
structure RS where
  s : OB
  qk : Option Addr
  ck : Nat
  qa : Option Addr
  ca : Nat
  qo : Option Addr
  co : Nat
  qs : Option Addr
  cs : Nat
  os : List OB
@[reducible] def opC (o : OB) : List Value := [.pointer (some ⟨o.b, 0, none⟩)]
@[reducible] def rcC (e : Br.En) : List Value := [.int .i64 e.2.1]
@[reducible] def raC (e : Br.En) : List Value := [.bool e.2.2]
@[reducible] def slC (x : CR) : List Value := [.bool x.sl]
def obF (p : OB × CR) : List Atom := p.1.at_ 0 (Bn.lsV p.2.es)
/-- The document's distributor, that is what the program's is. -/
def rD (r : Nat) (R : RS) (D : DS) : List Atom := [pt r [.bool D.o0, .bool D.o1, .pointer (some ⟨R.s.b, 0, none⟩), .slice R.qk D.sh.length R.ck, .slice R.qa D.sh.length R.ca, .slice R.qo D.xs.length R.co, .slice R.qs D.xs.length R.cs],
  rowA R.qk D.sh.length (D.sh.flatMap rcC), rowA R.qa D.sh.length (D.sh.flatMap raC), rowA R.qo D.xs.length (R.os.flatMap opC), rowA R.qs D.xs.length (D.xs.flatMap slC), pkA obF (R.os.zip D.xs)] ++ R.s.at_ 32 (Br.lsV D.sh)
theorem there48 (β : Base) (r : Nat) (a b c : Value) (ha : vcells a = [a]) (hb : vcells b = [b]) (hc : vcells c = [c]) (q1 q2 q3 q4 : Option Addr) (n1 n2 n3 n4 c1 c2 c3 c4 : Nat) (k : Int) : Tri Tryz.prog β 215 [.pointer (some ⟨r, 0, none⟩), .int .i64 k] [pt r [a, b, c, .slice q1 n1 c1, .slice q2 n2 c2, .slice q3 n3 c3, .slice q4 n4 c4]] (fun v L => v = .bool (rightV n3 k) ∧ L = [pt r [a, b, c, .slice q1 n1 c1, .slice q2 n2 c2, .slice q3 n3 c3, .slice q4 n4 c4]]) := by
  refine Tri.intro tt_ok Tryz.func215 rfl rfl Tryz.ntmps215 rfl fun F => ?_
  (repeat' (first | refine CW.seq ?_ | refine CW.region tt_ok rfl ?_ | refine CW.block ?_ | refine CW.skip ?_ | refine SQ.nil ?_ | refine SQ.pures1 tt_ok rfl ?_ | refine SQ.pure1 tt_ok rfl ?_ | refine SQ.new _ _ rfl rfl (fun _ => ?_) | refine SQ.ldA tt_ok rfl rfl (by repeat (first | exact .h | exact .q | apply At.t)) (by rfl) ?_ | refine SQ.stA tt_ok rfl rfl (by repeat (first | apply Up.h | apply Up.t)) (by rfl) (by rfl) (by exact trivial) ?_ | refine CW.cond_tt rfl ?_ | refine CW.cond_ff rfl ?_ | ((first | refine CW.cond rfl (fun hc => ?_) (fun hc => ?_) | refine SQ.gsplit rfl (fun hc => ?_) (fun hc => ?_)) <;> try (exfalso; simp_all; done))))
  all_goals (refine CW.ret (fin_ret rfl (Ent.refl _) ⟨?_, rfl⟩); simp_all [packV, rightV]; try omega)
theorem rd_op {os : List OB} {k : Nat} {o : OB} (h : os[k]? = some o) (X : List Value) : rdv ti233 (os.flatMap opC ++ X) (0 + k * 1) = some (.pointer (some ⟨o.b, 0, none⟩)) :=
  rd_partR (enc := opC) (sz := 1) (fun _ => rfl) h 0 (i := ti233) rfl (by decide) (by omega) (by decide) X
def bankB (R : RS) (k id : Int) : Nat := if id < 32 then (match R.os[k.toNat]? with | some o => o.b | none => 0) else R.s.b
theorem bank89 (β : Base) (r : Nat) (a b : Value) (ha : vcells a = [a]) (hb : vcells b = [b]) (R : RS) (q1 q2 q4 : Option Addr) (n1 n2 n4 c1 c2 c4 : Nat) (k id : Int) (hk : rightV R.os.length k = true) :
    Tri Tryz.prog β 217 [.pointer (some ⟨r, 0, none⟩), .int .i64 k, .int .i64 id] [pt r [a, b, .pointer (some ⟨R.s.b, 0, none⟩), .slice q1 n1 c1, .slice q2 n2 c2, .slice R.qo R.os.length R.co, .slice q4 n4 c4], rowA R.qo R.os.length (R.os.flatMap opC)]
      (fun v L => v = .pointer (some ⟨bankB R k id, 0, none⟩) ∧ L = [pt r [a, b, .pointer (some ⟨R.s.b, 0, none⟩), .slice q1 n1 c1, .slice q2 n2 c2, .slice R.qo R.os.length R.co, .slice q4 n4 c4], rowA R.qo R.os.length (R.os.flatMap opC)]) := by
  obtain ⟨s, qk, ck, qa, ca, qo, co, qs, cs, os⟩ := R
  refine Tri.intro tt_ok Tryz.func217 rfl rfl Tryz.ntmps217 rfl fun F => ?_
  unfold bankB
  simp only at hk ⊢
  have hk2 : 0 ≤ k ∧ k < os.length := by simp [rightV] at hk; omega
  obtain ⟨o, ho⟩ : ∃ o, os[k.toNat]? = some o := ⟨_, List.getElem?_eq_getElem (show k.toNat < os.length by omega)⟩
  by_cases h32 : id < 32
  · rw [if_pos h32, ho]
    refine G tt_ok [] ?_
    rw [decide_eq_true h32]
    refine CW.ent (Rm.to (A := rowA qo os.length (os.flatMap opC)) (by repeat (first | exact Rm.h | apply Rm.t)) (row_open (by omega))) ?_
    refine CW.open_ fun y => ?_
    obtain ⟨g, rest⟩ := y
    refine CW.pure_ fun hv => ?_
    simp only at hv
    subst hv
    refine G tt_ok [] ?_
    refine SQ.idx tt_ok rfl rfl k.toNat (by omega) (by omega) (o' := 0 + k.toNat * 1) rfl ?_
    refine SQ.ldA tt_ok rfl rfl (by repeat (first | exact .h | exact .q | apply At.t)) (rd_op ho rest) ?_
    refine G tt_ok [] ?_
    refine CW.ret (fin_ret rfl (A := [pt r [a, b, .pointer (some ⟨s.b, 0, none⟩), .slice q1 n1 c1, .slice q2 n2 c2, .slice (some ⟨g, 0, none⟩) os.length co, .slice q4 n4 c4], rowA (some ⟨g, 0, none⟩) os.length (os.flatMap opC)]) ?_ ⟨rfl, rfl⟩)
    exact Ent.trans (Rm.to (A := pt g (os.flatMap opC ++ rest)) (by repeat (first | exact Rm.h | apply Rm.t)) (row_close (n := os.length))) pk_
  · rw [if_neg h32]
    refine G tt_ok [] ?_
    rw [decide_eq_false h32]
    refine G tt_ok [] ?_
    exact CW.ret (fin_ret rfl pk_ ⟨rfl, rfl⟩)
end Go.Proofs.YtebpodnbalfomaaGreatDoor.Sl
