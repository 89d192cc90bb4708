/-
  Part 3 of the proof: contracts of the code's functions, and what is plain.
-/
import Derived.Test.YtakkogdmlbkdaaaGreatDoorM2
import Derived.Test.YtakkogdmlbkdaaaGreatDoorL5
import Derived.Test.YtakkogdmlbkdaaaGreatDoorL9
set_option linter.unusedVariables false
set_option linter.unusedSimpArgs false
set_option maxRecDepth 10000
open Go Go.RowKit Go.Proofs
namespace Go.Proofs.YtakkogdmlbkdaaaGreatDoor.Sl.Bn
attribute [local irreducible] CW Tri OW
@[reducible] def pk152 : List (Nat × Plan) := [(3, [(0, 0, []), (1, 0, []), (2, 0, []), (3, 0, []), (4, 0, []), (5, 0, []), (6, 0, []), (7, 0, []), (8, 0, []), (9, 0, []), (10, 0, []), (11, 0, []), (12, 1, []), (13, 0, [])])]
@[reducible] def pk85 : List (Nat × Plan) := [(3, [(0, 0, []), (1, 0, []), (2, 0, []), (3, 0, []), (4, 0, []), (5, 0, []), (6, 0, []), (7, 0, []), (8, 0, []), (9, 0, []), (10, 0, []), (11, 0, [])])]
@[reducible] def pk155 : List (Nat × Plan) := [(6, [(0, 0, []), (1, 0, []), (2, 0, []), (3, 0, []), (4, 0, []), (5, 0, []), (6, 0, []), (7, 0, []), (8, 0, []), (9, 0, []), (10, 0, []), (11, 0, []), (12, 1, [])])]
@[reducible] def pk101 : List (Nat × Plan) := [(5, [(0, 0, []), (1, 0, []), (2, 0, []), (3, 0, []), (4, 0, []), (5, 0, []), (6, 0, []), (7, 0, []), (8, 1, [2, 4, 5, 6, 7]), (9, 1, [2, 4, 5, 6, 7]), (10, 2, []), (11, 1, [])])]
@[reducible] def pk230 : List (Nat × Plan) := [(3, [(0, 0, []), (1, 0, []), (2, 0, []), (3, 0, []), (4, 0, []), (5, 0, []), (6, 0, []), (7, 0, []), (8, 1, []), (9, 0, [])])]
@[reducible] def pl135_0 : Plan := [(0, 0, []), (1, 0, []), (2, 0, []), (3, 0, []), (4, 0, []), (5, 0, []), (6, 0, []), (7, 0, []), (8, 0, []), (9, 0, []), (10, 0, []), (11, 0, []), (12, 0, []), (13, 0, []), (14, 0, []), (15, 0, []), (16, 0, []), (17, 0, []), (18, 0, []), (19, 0, []), (20, 0, [])]
@[reducible] def pl155_0 : Plan := [(0, 0, []), (1, 0, []), (2, 0, []), (3, 0, []), (4, 0, []), (5, 0, []), (6, 0, []), (7, 0, []), (8, 0, []), (9, 0, []), (10, 0, []), (11, 0, []), (12, 1, [])]
-- part Fe
abbrev En := Ln × Unit
@[reducible] def enC (x : En) : List Value := [.bool x.1.1.1, .bool x.1.1.2.1, .bool x.1.1.2.2.1, .bool x.1.1.2.2.2, .bool x.1.2.1, .int .i64 x.1.2.2.1, .int .i64 x.1.2.2.2]
def atE (first : Int) (es : List En) (id : Int) : Option En := if id ≥ first then es[(id - first).toNat]? else none
def bkA (b : Nat) (q0 : Option Addr) (c0 : Nat) (first : Int) (es : List En) : List Atom := [pt b [.int .i64 first, .slice q0 es.length c0], rowA q0 es.length (es.flatMap enC)]
theorem wrap_sub {id first : Int} (h0 : 0 ≤ first) (h1 : first ≤ 16384) (h2 : id ≥ first) (h3 : id < 9223372036854775808) : IntKind.i64.wrap (id - first) = id - first := by
  rw [wrap_i64]; split <;> omega
theorem has11 (β : Base) (b : Nat) (q0 : Option Addr) (c0 : Nat) (first id : Int) (n : Nat) (h0 : 0 ≤ first) (h1 : first ≤ 16384) (h3 : id < 9223372036854775808) :
    Tri Tryz.prog β 135 [.pointer (some ⟨b, 0, none⟩), .int .i64 id] [pt b [.int .i64 first, .slice q0 n c0]] (fun v L => v = .bool (decide (id ≥ first) && decide (id - first < n)) ∧ L = [pt b [.int .i64 first, .slice q0 n c0]]) := by
  refine Tri.intro tt_ok Tryz.func135 rfl rfl Tryz.ntmps135 rfl fun F => ?_
  by_cases h2 : id ≥ first
  · have hw := wrap_sub h0 h1 h2 h3
    (repeat' (first | refine CW.seq ?_ | refine CW.region tt_ok rfl ?_ | refine CW.regionD tt_ok (by kernel_rfl) pl135_0 (by decide +kernel) ?_ | refine CW.block ?_ | refine CW.skip ?_ | refine SQ.nil ?_ | refine SQ.pures1 tt_ok rfl ?_ | refine SQ.pure1 tt_ok rfl ?_ | refine SQ.new _ _ rfl rfl (fun _ => ?_) | refine SQ.ldA tt_ok rfl rfl (by repeat (first | exact .h | exact .q | apply At.t)) (by rfl) ?_ | refine SQ.stA tt_ok rfl rfl (by repeat (first | apply Up.h | apply Up.t)) (by rfl) (by rfl) (by repeat (first | exact trivial | refine ⟨trivial, ?_⟩ | refine ⟨wk (by repeat (first | exact .h | exact .q | apply At.t)) (by rfl), ?_⟩)) ?_ | refine CW.cond_tt rfl ?_ | refine CW.cond_ff rfl ?_ | ((first | refine CW.cond rfl (fun hc => ?_) (fun hc => ?_) | refine SQ.gsplit rfl (fun hc => ?_) (fun hc => ?_)) <;> try (exfalso; simp_all; done))))
    all_goals (refine CW.ret (fin_ret rfl (Ent.refl _) ⟨?_, rfl⟩); simp_all [packV])
  · (repeat' (first | refine CW.seq ?_ | refine CW.region tt_ok rfl ?_ | refine CW.regionD tt_ok (by kernel_rfl) pl135_0 (by decide +kernel) ?_ | refine CW.block ?_ | refine CW.skip ?_ | refine SQ.nil ?_ | refine SQ.pures1 tt_ok rfl ?_ | refine SQ.pure1 tt_ok rfl ?_ | refine SQ.new _ _ rfl rfl (fun _ => ?_) | refine SQ.ldA tt_ok rfl rfl (by repeat (first | exact .h | exact .q | apply At.t)) (by rfl) ?_ | refine SQ.stA tt_ok rfl rfl (by repeat (first | apply Up.h | apply Up.t)) (by rfl) (by rfl) (by repeat (first | exact trivial | refine ⟨trivial, ?_⟩ | refine ⟨wk (by repeat (first | exact .h | exact .q | apply At.t)) (by rfl), ?_⟩)) ?_ | refine CW.cond_tt rfl ?_ | refine CW.cond_ff rfl ?_ | ((first | refine CW.cond rfl (fun hc => ?_) (fun hc => ?_) | refine SQ.gsplit rfl (fun hc => ?_) (fun hc => ?_)) <;> try (exfalso; simp_all; done))))
    all_goals (refine CW.ret (fin_ret rfl (Ent.refl _) ⟨?_, rfl⟩); simp_all [packV])
    all_goals (first | omega | (exfalso; omega))
theorem atE_some {first : Int} {es : List En} {id : Int} {e : En} (h : atE first es id = some e) : id ≥ first ∧ (id - first).toNat < es.length ∧ es[(id - first).toNat]? = some e ∧ ((id - first).toNat : Int) = id - first ∧ (decide (id ≥ first) && decide (id - first < es.length)) = true := by
  unfold atE at h
  split at h
  · rename_i h1
    have h2 := (List.getElem?_eq_some_iff.1 h).1
    refine ⟨h1, h2, h, by omega, ?_⟩
    simp; omega
  · cases h
theorem atE_none {first : Int} {es : List En} {id : Int} (h : atE first es id = none) : (decide (id ≥ first) && decide (id - first < es.length)) = false := by
  unfold atE at h
  split at h
  · rename_i h1
    have h2 := List.getElem?_eq_none_iff.1 h
    simp; omega
  · rename_i h1
    simp; omega
theorem hasIs (β : Base) (b : Nat) (q0 : Option Addr) (c0 : Nat) {first id : Int} {es : List En} (h0 : 0 ≤ first) (h1 : first ≤ 16384) (h3 : id < 9223372036854775808) {c : Bool} (h : (decide (id ≥ first) && decide (id - first < es.length)) = c) :
    Tri Tryz.prog β 135 [.pointer (some ⟨b, 0, none⟩), .int .i64 id] [pt b [.int .i64 first, .slice q0 es.length c0]] (fun v L => v = .bool c ∧ L = [pt b [.int .i64 first, .slice q0 es.length c0]]) := by
  rw [← h]; exact has11 β b q0 c0 first id es.length h0 h1 h3
theorem rd_en {es : List En} {k : Nat} {e : En} (h : es[k]? = some e) (X : List Value) : rdv ti237 (es.flatMap enC ++ X) (0 + k * 7) = some (.agg (enC e).toArray) :=
  rd_partR (enc := enC) (sz := 7) (fun _ => rfl) h 0 (i := ti237) rfl (by decide) (by omega) (by decide) X
theorem bk_open {b : Nat} {q0 : Option Addr} {c0 : Nat} {first : Int} {es : List En} (h : 0 < es.length) : Ent (bkA b q0 c0 first es) [exA fun x : Nat × List Value => [pureA (q0 = some ⟨x.1, 0, none⟩), pt x.1 (es.flatMap enC ++ x.2), pt b [.int .i64 first, .slice q0 es.length c0]]] := by
  intro hp s
  obtain ⟨h1, h2, a, st, d, rfl⟩ := s
  obtain ⟨k, ⟨k1, k2, ⟨x, sx⟩, e0, d2, rfl⟩, le⟩ := row_open (q := q0) (cs := es.flatMap enC) h h2 st
  obtain rfl : k2 = Hp.emp := e0
  rw [Hp.add_emp] at le
  have hd : Hp.disj h1 k1 := Hp.disj_le (Hp.le_refl _) le d
  have hs : star ([pureA (q0 = some ⟨x.1, 0, none⟩), pt x.1 (es.flatMap enC ++ x.2)] ++ [pt b [.int .i64 first, .slice q0 es.length c0]]) (Hp.add k1 h1) :=
    star_append.2 ⟨k1, h1, sx, ⟨h1, Hp.emp, a, rfl, Hp.disj_emp _, (Hp.add_emp _).symm⟩, Hp.disj_comm hd, rfl⟩
  refine ⟨Hp.add k1 h1, ⟨_, Hp.emp, ⟨x, hs⟩, rfl, Hp.disj_emp _, (Hp.add_emp _).symm⟩, ?_⟩
  rw [Hp.add_comm (Hp.disj_comm hd)]
  exact Hp.add_le_add (Hp.le_refl _) le d
theorem bk_close {b g n : Nat} {first : Int} {cs rest : List Value} {v : Value} : Ent [pt g (cs ++ rest), pt b [.int .i64 first, v]] [pt b [.int .i64 first, v], rowA (some ⟨g, 0, none⟩) n cs] :=
  Ent.trans (Ent.sel (is := [1, 0]) rfl) (Ent.cons _ row_close)
def zeroE : En := (((false, false, false, false), false, 0, 0), ())
def getV (first : Int) (es : List En) (id : Int) : En × Int := match atE first es id with
  | some e => (e, 0)
  | none => (zeroE, 90)
theorem get14 (β : Base) (b : Nat) (q0 : Option Addr) (c0 : Nat) {first id : Int} {es : List En} (h0 : 0 ≤ first) (h1 : first ≤ 16384) (h3 : id < 9223372036854775808) :
    Tri Tryz.prog β 152 [.pointer (some ⟨b, 0, none⟩), .int .i64 id] (bkA b q0 c0 first es) (fun v L => v = .tuple #[.agg (enC (getV first es id).1).toArray, .int .i64 (getV first es id).2] ∧ L = bkA b q0 c0 first es) := by
  refine Tri.intro tt_ok Tryz.func152 rfl rfl Tryz.ntmps152 rfl fun F => ?_
  cases h : atE first es id with
  | none =>
    (refine G tt_ok pk152 ?_; repeat (refine G1 tt_ok pk152 ?_; intro _))
    refine ke rfl rfl (hasIs β b q0 c0 h0 h1 h3 (atE_none h)) ?_
    refine G tt_ok pk152 ?_
    refine CW.ret (fin_cells [_, _] ⟨⟨_, _, _, _, 1, rfl, rfl, rfl, rfl⟩, rfl, trivial⟩ pk_ ⟨?_, rfl⟩)
    simp [packV, getV, h, zeroE, enC]
  | some e =>
    obtain ⟨g1, g2, g3, g4, g5⟩ := atE_some h
    have hw := wrap_sub h0 h1 g1 h3
    refine CW.ent (bk_open (by omega)) (CW.open_ fun y => ?_)
    obtain ⟨g, rest⟩ := y
    refine CW.pure_ fun hv => ?_
    simp only at hv
    subst hv
    (refine G tt_ok pk152 ?_; repeat (refine G1 tt_ok pk152 ?_; intro _))
    refine ke rfl rfl (hasIs β b _ c0 h0 h1 h3 g5) ?_
    refine G tt_ok pk152 ?_
    refine SQ.idx tt_ok rfl rfl (id - first).toNat (by rw [hw, g4]) g2 (o' := 0 + (id - first).toNat * 7) rfl ?_
    refine SQ.load tt_ok rfl rfl 2 rfl (rd_en g3 rest) ?_
    refine G tt_ok pk152 ?_
    refine CW.ret (fin_cells [_, _] ⟨⟨_, _, _, _, 1, rfl, rfl, rfl, rfl⟩, rfl, trivial⟩ (Ent.trans pk_ (bk_close)) ⟨?_, rfl⟩)
    simp [packV, getV, h, zeroE, enC]
theorem rd_iq {es : List En} {k : Nat} {e : En} (h : es[k]? = some e) (X : List Value) : rdv ti228 (es.flatMap enC ++ X) (0 + k * 7) = some (.agg #[.bool e.1.1.1, .bool e.1.1.2.1, .bool e.1.1.2.2.1, .bool e.1.1.2.2.2]) :=
  rd_partR (enc := enC) (sz := 7) (fun _ => rfl) h 0 (i := ti228) rfl (by decide) (by omega) (by decide) X
theorem wr_iq {es : List En} {k : Nat} {e : En} (h : es[k]? = some e) (q : Iq) (X : List Value) : wrv ti228 (es.flatMap enC ++ X) (0 + k * 7) (.agg #[.bool q.1, .bool q.2.1, .bool q.2.2.1, .bool q.2.2.2]) = some ((es.set k ((q, e.1.2), e.2)).flatMap enC ++ X) :=
  wr_encR (enc := enC) (sz := 7) (fun _ => rfl) h 0 (i := ti228) (by decide) rfl rfl (by omega) X
def doV (first : Int) (es : List En) (id x : Int) : List En × Int := match atE first es id with
  | some e => (es.set (id - first).toNat ((stepI e.1.1 x, e.1.2), e.2), 0)
  | none => (es, 90)
theorem doV_len (first : Int) (es : List En) (id x : Int) : (doV first es id x).1.length = es.length := by
  unfold doV; split <;> simp
theorem do35 (β : Base) (b : Nat) (q0 : Option Addr) (c0 : Nat) {first id x : Int} {es : List En} (h0 : 0 ≤ first) (h1 : first ≤ 16384) (h3 : id < 9223372036854775808) :
    Tri Tryz.prog β 85 [.pointer (some ⟨b, 0, none⟩), .int .i64 id, .int .i64 x] (bkA b q0 c0 first es) (fun v L => v = .int .i64 (doV first es id x).2 ∧ L = bkA b q0 c0 first (doV first es id x).1) := by
  refine Tri.intro tt_ok Tryz.func85 rfl rfl Tryz.ntmps85 rfl fun F => ?_
  unfold bkA
  rw [doV_len]
  cases h : atE first es id with
  | none =>
    rw [show doV first es id x = (es, 90) by simp [doV, h]]
    refine G tt_ok pk85 ?_
    refine ke rfl rfl (hasIs β b q0 c0 h0 h1 h3 (atE_none h)) ?_
    refine G tt_ok pk85 ?_
    exact CW.ret (fin_ret rfl pk_ ⟨rfl, rfl⟩)
  | some e =>
    obtain ⟨g1, g2, g3, g4, g5⟩ := atE_some h
    have hw := wrap_sub h0 h1 g1 h3
    rw [show doV first es id x = (es.set (id - first).toNat ((stepI e.1.1 x, e.1.2), e.2), 0) by simp [doV, h]]
    refine CW.ent (bk_open (by omega)) (CW.open_ fun y => ?_)
    obtain ⟨g, rest⟩ := y
    refine CW.pure_ fun hv => ?_
    simp only at hv
    subst hv
    refine G tt_ok pk85 ?_
    refine ke rfl rfl (hasIs β b _ c0 h0 h1 h3 g5) ?_
    refine G tt_ok pk85 ?_
    refine SQ.idx tt_ok rfl rfl (id - first).toNat (by rw [hw, g4]) g2 (o' := 0 + (id - first).toNat * 7) rfl ?_
    refine G tt_ok pk85 ?_
    refine SQ.load tt_ok rfl rfl 1 rfl (rd_iq g3 rest) ?_
    refine G tt_ok pk85 ?_
    refine ke rfl rfl (step48' β _ _ _ _ _) ?_
    refine G tt_ok pk85 ?_
    refine SQ.store tt_ok rfl rfl 1 rfl rfl (wr_iq g3 (stepI e.1.1 x) rest) rfl (by repeat (first | exact trivial | refine ⟨trivial, ?_⟩ | refine ⟨wk (by repeat (first | exact .h | exact .q | apply At.t)) (by rfl), ?_⟩)) ?_
    refine G tt_ok pk85 ?_
    exact CW.ret (fin_ret rfl (Ent.trans pk_ (bk_close)) ⟨rfl, rfl⟩)
-- part Ff
theorem wr_en {es : List En} {k : Nat} {e : En} (h : es[k]? = some e) (q : En) (X : List Value) : wrv ti237 (es.flatMap enC ++ X) (0 + k * 7) (.agg (enC q).toArray) = some ((es.set k q).flatMap enC ++ X) :=
  wr_encR (enc := enC) (sz := 7) (fun _ => rfl) h 0 (i := ti237) (by decide) rfl rfl (by omega) X
def putV (first : Int) (es : List En) (id : Int) (q : En) : List En × Int := match atE first es id with
  | some e => if q.1.2.2.1 < 0 ∨ q.1.2.2.1 > 1 ∨ q.1.2.2.2 < 0 ∨ q.1.2.2.2 > 255 then (es, 1) else (es.set (id - first).toNat ((q.1.1, q.1.2.1, q.1.2.2.1, realV q.1.2.2.2), q.2), 0)
  | none => (es, 90)
theorem putV_len (first : Int) (es : List En) (id : Int) (q : En) : (putV first es id q).1.length = es.length := by
  unfold putV; split
  · split <;> simp
  · rfl
set_option maxHeartbeats 4000000 in
theorem put30 (β : Base) (b : Nat) (q0 : Option Addr) (c0 : Nat) {first id : Int} {es : List En} (q : En) (h0 : 0 ≤ first) (h1 : first ≤ 16384) (h3 : id < 9223372036854775808) :
    Tri Tryz.prog β 155 [.pointer (some ⟨b, 0, none⟩), .int .i64 id, .agg (enC q).toArray] (bkA b q0 c0 first es) (fun v L => v = .int .i64 (putV first es id q).2 ∧ L = bkA b q0 c0 first (putV first es id q).1) := by
  refine Tri.intro tt_ok Tryz.func155 rfl rfl Tryz.ntmps155 rfl fun F => ?_
  unfold bkA
  rw [putV_len]
  cases h : atE first es id with
  | none =>
    rw [show putV first es id q = (es, 90) by simp [putV, h]]
    (refine G tt_ok pk155 ?_; repeat (refine G1 tt_ok pk155 ?_; intro _))
    refine ke rfl rfl (hasIs β b q0 c0 h0 h1 h3 (atE_none h)) ?_
    refine G tt_ok pk155 ?_
    exact CW.ret (fin_ret rfl pk_ ⟨rfl, rfl⟩)
  | some e =>
    obtain ⟨g1, g2, g3, g4, g5⟩ := atE_some h
    have hw := wrap_sub h0 h1 g1 h3
    refine CW.ent (bk_open (by omega)) (CW.open_ fun y => ?_)
    obtain ⟨g, rest⟩ := y
    refine CW.pure_ fun hv => ?_
    simp only at hv
    subst hv
    (refine G tt_ok pk155 ?_; repeat (refine G1 tt_ok pk155 ?_; intro _))
    refine ke rfl rfl (hasIs β b _ c0 h0 h1 h3 g5) ?_
    (repeat' (first | refine CW.seq ?_ | refine CW.region tt_ok rfl ?_ | refine CW.regionD tt_ok (by kernel_rfl) pl155_0 (by decide +kernel) ?_ | refine CW.block ?_ | refine CW.skip ?_ | refine SQ.nil ?_ | refine SQ.pures1 tt_ok rfl ?_ | refine SQ.pure1 tt_ok rfl ?_ | refine SQ.new _ _ rfl rfl (fun _ => ?_) | refine SQ.ldA tt_ok rfl rfl (by repeat (first | exact .h | exact .q | apply At.t)) (by rfl) ?_ | refine SQ.stA tt_ok rfl rfl (by repeat (first | apply Up.h | apply Up.t)) (by rfl) (by rfl) (by repeat (first | exact trivial | refine ⟨trivial, ?_⟩ | refine ⟨wk (by repeat (first | exact .h | exact .q | apply At.t)) (by rfl), ?_⟩)) ?_ | refine CW.cond_tt rfl ?_ | refine CW.cond_ff rfl ?_ | (refine SQ.callA rfl rfl (real50' β _) (by repeat (first | exact .n | exact Rm.h | exact Rm.of own_row | exact Rm.of row_close0 | apply Tk.c | apply Rm.t)) ?_; rintro _ _ ⟨rfl, rfl⟩; refine ⟨(by repeat (first | exact trivial | refine ⟨trivial, ?_⟩ | refine ⟨wk (by repeat (first | exact .h | exact .q | apply At.t)) (by rfl), ?_⟩)), ?_⟩) | ((first | refine CW.cond rfl (fun hc => ?_) (fun hc => ?_) | refine SQ.gsplit rfl (fun hc => ?_) (fun hc => ?_)) <;> try (exfalso; simp_all; done))))
    all_goals (first
      | (refine CW.ret (fin_ret rfl (Ent.trans pk_ (bk_close (b := b) (g := g) (n := es.length) (first := first) (rest := rest) (v := .slice (some ⟨g, 0, none⟩) es.length c0) (cs := es.flatMap enC))) ⟨?_, ?_⟩)
         · simp_all [packV, putV]
         · simp_all [putV])
      | (refine SQ.idx tt_ok rfl rfl (id - first).toNat (by rw [hw, g4]) g2 (o' := 0 + (id - first).toNat * 7) rfl ?_
         refine SQ.stA tt_ok rfl rfl (by repeat (first | apply Up.h | apply Up.t)) (by rfl) (wr_en g3 ((q.1.1, q.1.2.1, q.1.2.2.1, realV q.1.2.2.2), q.2) rest) (by repeat (first | exact trivial | refine ⟨trivial, ?_⟩ | refine ⟨wk (by repeat (first | exact .h | exact .q | apply At.t)) (by rfl), ?_⟩)) ?_
         refine G tt_ok pk155 ?_
         refine CW.ret (fin_ret rfl (Ent.trans pk_ (bk_close (b := b) (g := g) (n := es.length) (first := first) (rest := rest) (v := .slice (some ⟨g, 0, none⟩) es.length c0) (cs := (es.set (id - first).toNat ((q.1.1, q.1.2.1, q.1.2.2.1, realV q.1.2.2.2), q.2)).flatMap enC))) ⟨?_, ?_⟩)
         · simp_all [packV, putV]; rw [if_neg (by omega)]
         · simp_all [putV]; rw [if_neg (by omega)]))
-- part Fh
theorem idsV_len (f : Int) : ∀ n, (idsV f n).length = n
  | 0 => rfl
  | n + 1 => by simp [idsV, idsV_len f n]
theorem idsV_at (f : Int) : ∀ {n i : Nat}, i < n → (idsV f n)[i]? = some (IntKind.i64.wrap (f + i))
  | n + 1, i, h => by
    simp only [idsV]
    by_cases e : i = n
    · subst e; rw [List.getElem?_append_right (by rw [idsV_len]; omega), idsV_len]; simp
    · rw [List.getElem?_append_left (by rw [idsV_len]; omega)]; exact idsV_at f (by omega)
theorem pre_at {f : Int} {n : Nat} {pre : List Int} {x : Int} (h : (pre ++ [x]) <+: idsV f n) : pre.length < n ∧ x = IntKind.i64.wrap (f + pre.length) := by
  obtain ⟨t, ht⟩ := h
  have hl := congrArg List.length ht
  rw [idsV_len] at hl
  simp at hl
  have h1 : (idsV f n)[pre.length]? = some x := by rw [← ht]; simp
  rw [idsV_at f (by omega)] at h1
  exact ⟨by omega, by simpa using h1.symm⟩
theorem wrap_lt (x : Int) : IntKind.i64.wrap x < 9223372036854775808 := by rw [wrap_i64]; split <;> omega
def rdK (first : Int) (es : List En) (r f c : Int) : Nat → Int
  | 0 => 0
  | k + 1 => match atE first es (IntKind.i64.wrap (f + k)) with
    | some e => withV (rdK first es r f c k) r c k (showsV e.1 r)
    | none => rdK first es r f c k
theorem getSome (β : Base) (b : Nat) (q0 : Option Addr) (c0 : Nat) {first id : Int} {es : List En} {e : En} (h0 : 0 ≤ first) (h1 : first ≤ 16384) (h3 : id < 9223372036854775808) (h : atE first es id = some e) :
    Tri Tryz.prog β 152 [.pointer (some ⟨b, 0, none⟩), .int .i64 id] [pt b [.int .i64 first, .slice q0 es.length c0], rowA q0 es.length (es.flatMap enC)] (fun v L => v = .tuple #[.agg #[.bool e.1.1.1, .bool e.1.1.2.1, .bool e.1.1.2.2.1, .bool e.1.1.2.2.2, .bool e.1.2.1, .int .i64 e.1.2.2.1, .int .i64 e.1.2.2.2], .int .i64 0] ∧
      L = [pt b [.int .i64 first, .slice q0 es.length c0], rowA q0 es.length (es.flatMap enC)]) := by
  have := get14 β b q0 c0 (es := es) h0 h1 h3
  simp only [getV, h] at this
  exact this
theorem getNone (β : Base) (b : Nat) (q0 : Option Addr) (c0 : Nat) {first id : Int} {es : List En} (h0 : 0 ≤ first) (h1 : first ≤ 16384) (h3 : id < 9223372036854775808) (h : atE first es id = none) :
    Tri Tryz.prog β 152 [.pointer (some ⟨b, 0, none⟩), .int .i64 id] [pt b [.int .i64 first, .slice q0 es.length c0], rowA q0 es.length (es.flatMap enC)] (fun v L => v = .tuple #[.agg #[.bool false, .bool false, .bool false, .bool false, .bool false, .int .i64 0, .int .i64 0], .int .i64 90] ∧
      L = [pt b [.int .i64 first, .slice q0 es.length c0], rowA q0 es.length (es.flatMap enC)]) := by
  have := get14 β b q0 c0 (es := es) h0 h1 h3
  simp only [getV, h] at this
  exact this
def wr1 (first : Int) (es : List En) (r f c v : Int) (k : Nat) : List En × Bool :=
  match atE first es (IntKind.i64.wrap (f + k)) with
  | some e => let l := writtenV (IntKind.i64.wrap (f + k)) e.1 r (fieldV v r c k)
    if l = e.1 then (es, false) else ((putV first es (IntKind.i64.wrap (f + k)) (l, e.2)).1, true)
  | none => (es, false)
def wrK (first : Int) (es : List En) (r f c v : Int) : Nat → List En × Nat
  | 0 => (es, 0)
  | k + 1 => let p := wrK first es r f c v k
    let q := wr1 first p.1 r f c v k
    (q.1, p.2 + if q.2 then 1 else 0)
theorem wr1_len (first : Int) (es : List En) (r f c v : Int) (k : Nat) : (wr1 first es r f c v k).1.length = es.length := by
  unfold wr1; split
  · simp only; split
    · rfl
    · exact putV_len _ _ _ _
  · rfl
theorem wrK_len (first : Int) (es : List En) (r f c v : Int) : ∀ k, (wrK first es r f c v k).1.length = es.length
  | 0 => rfl
  | k + 1 => by simp only [wrK]; rw [wr1_len, wrK_len first es r f c v k]
theorem wrK_cnt (first : Int) (es : List En) (r f c v : Int) : ∀ k, (wrK first es r f c v k).2 ≤ k
  | 0 => Nat.le_refl _
  | k + 1 => by simp only [wrK]; have := wrK_cnt first es r f c v k; split <;> omega
-- part Fi
theorem written28' (β : Base) (id : Int) (e l t a en : Bool) (g p r x : Int) : Tri Tryz.prog β 153 [.int .i64 id, .agg #[.bool e, .bool l, .bool t, .bool a, .bool en, .int .i64 g, .int .i64 p], .int .i64 r, .int .u64 x] []
    (fun v L => v = .agg #[.bool (writtenV id ((e, l, t, a), en, g, p) r x).1.1, .bool (writtenV id ((e, l, t, a), en, g, p) r x).1.2.1, .bool (writtenV id ((e, l, t, a), en, g, p) r x).1.2.2.1, .bool (writtenV id ((e, l, t, a), en, g, p) r x).1.2.2.2, .bool (writtenV id ((e, l, t, a), en, g, p) r x).2.1, .int .i64 (writtenV id ((e, l, t, a), en, g, p) r x).2.2.1, .int .i64 (writtenV id ((e, l, t, a), en, g, p) r x).2.2.2] ∧ L = []) := written28 β id e l t a en g p r x
theorem put30' (β : Base) (b : Nat) (q0 : Option Addr) (c0 : Nat) {first id : Int} {es : List En} (q : En) (h0 : 0 ≤ first) (h1 : first ≤ 16384) (h3 : id < 9223372036854775808) :
    Tri Tryz.prog β 155 [.pointer (some ⟨b, 0, none⟩), .int .i64 id, .agg #[.bool q.1.1.1, .bool q.1.1.2.1, .bool q.1.1.2.2.1, .bool q.1.1.2.2.2, .bool q.1.2.1, .int .i64 q.1.2.2.1, .int .i64 q.1.2.2.2]] [pt b [.int .i64 first, .slice q0 es.length c0], rowA q0 es.length (es.flatMap enC)]
      (fun v L => ∃ u, v = .int .i64 u ∧ L = [pt b [.int .i64 first, .slice q0 es.length c0], rowA q0 (putV first es id q).1.length ((putV first es id q).1.flatMap enC)]) :=
  (put30 β b q0 c0 q h0 h1 h3).mono fun v L ⟨e1, e2⟩ => ⟨_, e1, by rw [e2, bkA, putV_len]⟩
set_option maxHeartbeats 4000000 in
theorem write13 (β : Base) (b : Nat) (q0 : Option Addr) (c0 : Nat) {first : Int} {es0 : List En} (h0 : 0 ≤ first) (h1 : first ≤ 16384) (r f c v : Int) :
    Tri Tryz.prog β 101 [.pointer (some ⟨b, 0, none⟩), .agg #[.int .i64 r, .int .i64 f, .int .i64 c], .int .u64 v] (bkA b q0 c0 first es0) (fun u L => u = .int .i64 (wrK first es0 r f c v (cntV c)).2 ∧ L = bkA b q0 c0 first (wrK first es0 r f c v (cntV c)).1) := by
  refine Tri.intro tt_ok Tryz.func101 rfl rfl Tryz.ntmps101 rfl fun F => ?_
  unfold bkA
  (refine G tt_ok pk101 ?_; repeat (refine G1 tt_ok pk101 ?_; intro _))
  rename_i b3 b4 b5 b7 b8
  (refine SQ.call rfl rfl (ids25 β r f c) [] rfl ?_; rintro _ _ ⟨b1, rfl, rfl⟩; refine w_ ?_)
  refine G tt_ok pk101 ?_
  refine CW.rangeFunc rfl (iter44 β r f c b1) [0] rfl
    (fun pre => [pt b8 [.int .i64 pre.length], pt b7 [.int .i64 ((wrK first es0 r f c v pre.length).2 : Int)], pt b5 [.int .u64 v], pt b4 [.int .i64 r, .int .i64 f, .int .i64 c], pt b3 [.pointer (some ⟨b, 0, none⟩)], pt b [.int .i64 first, .slice q0 (wrK first es0 r f c v pre.length).1.length c0], rowA q0 (wrK first es0 r f c v pre.length).1.length ((wrK first es0 r f c v pre.length).1.flatMap enC)])
    (fun _ _ => False) (Ent.refl _) (fun _ => rfl) (by decide) ?_ ?_ (fun _ _ h => h.elim)
  · intro pre x hpre l fm rec1
    obtain ⟨hlt, hx⟩ := pre_at hpre
    have hx3 : x < 9223372036854775808 := by rw [hx]; exact wrap_lt _
    have hle : cntV c ≤ 16384 := by unfold cntV; omega
    have hw : IntKind.i64.wrap ((pre.length : Int) + 1) = (((pre ++ [x]).length : Nat) : Int) := by rw [wrap_i64]; simp; split <;> omega
    have hcn := wrK_cnt first es0 r f c v pre.length
    have hstep : wrK first es0 r f c v (pre ++ [x]).length = ((wr1 first (wrK first es0 r f c v pre.length).1 r f c v pre.length).1, (wrK first es0 r f c v pre.length).2 + if (wr1 first (wrK first es0 r f c v pre.length).1 r f c v pre.length).2 then 1 else 0) := by rw [List.length_append]; rfl
    rw [hstep]
    generalize wrK first es0 r f c v pre.length = z at hcn ⊢
    obtain ⟨es, m⟩ := z
    simp only at hcn ⊢
    have hwm : IntKind.i64.wrap ((m : Int) + 1) = ((m + 1 : Nat) : Int) := by rw [wrap_i64]; split <;> omega
    refine G tt_ok pk101 ?_
    intro fm2 rec2
    refine G tt_ok pk101 ?_
    cases h : atE first es x with
    | none =>
      have hq : wr1 first es r f c v pre.length = (es, false) := by simp only [wr1, ← hx, h]
      rw [hq]
      (refine SQ.call rfl rfl (getNone β b q0 c0 h0 h1 hx3 h) [5, 5] rfl ?_; rintro _ _ ⟨rfl, rfl⟩; refine w_ ?_)
      (refine G tt_ok pk101 ?_; repeat (refine G1 tt_ok pk101 ?_; intro _))
      (refine SQ.call rfl rfl (field29 β v r f c _) [] rfl ?_; rintro _ _ ⟨rfl, rfl⟩; refine w_ ?_)
      refine G tt_ok pk101 ?_
      (refine SQ.call rfl rfl (written28' β _ _ _ _ _ _ _ _ _ _) [] rfl ?_; rintro _ _ ⟨rfl, rfl⟩; refine w_ ?_)
      (refine G tt_ok pk101 ?_; repeat (refine G1 tt_ok pk101 ?_; intro _))
      rw [← hw]
      exact Ent.sel (is := [4, 4, 4, 4, 4, 2, 2, 2]) rfl
    | some e =>
      obtain ⟨⟨⟨a1, a2, a3, a4⟩, en, g, p⟩, tx⟩ := e
      (refine SQ.call rfl rfl (getSome β b q0 c0 h0 h1 hx3 h) [5, 5] rfl ?_; rintro _ _ ⟨rfl, rfl⟩; refine w_ ?_)
      (refine G tt_ok pk101 ?_; repeat (refine G1 tt_ok pk101 ?_; intro _))
      (refine SQ.call rfl rfl (field29 β v r f c _) [] rfl ?_; rintro _ _ ⟨rfl, rfl⟩; refine w_ ?_)
      refine G tt_ok pk101 ?_
      have hcall := written28' β x a1 a2 a3 a4 en g p r (fieldV v r c pre.length)
      have hq : wr1 first es r f c v pre.length = (let l := writtenV x ((a1, a2, a3, a4), en, g, p) r (fieldV v r c pre.length)
        if l = ((a1, a2, a3, a4), en, g, p) then (es, false) else ((putV first es x (l, tx)).1, true)) := by simp only [wr1, ← hx, h]
      generalize writtenV x ((a1, a2, a3, a4), en, g, p) r (fieldV v r c pre.length) = W at hcall hq
      obtain ⟨⟨w1, w2, w3, w4⟩, w5, w6, w7⟩ := W
      simp only at hcall hq
      rw [hq]
      (refine SQ.call rfl rfl (hcall) [] rfl ?_; rintro _ _ ⟨rfl, rfl⟩; refine w_ ?_)
      (refine G tt_ok pk101 ?_; repeat (refine G1 tt_ok pk101 ?_; intro _))
      by_cases hl : (((w1, w2, w3, w4), w5, w6, w7) : Ln) = ((a1, a2, a3, a4), en, g, p)
      · rw [if_pos hl]
        refine SQ.eqn tt_ok [230, 228] ⟨by kernel_rfl, by kernel_rfl, trivial⟩ rfl rfl (by kernel_rfl) false (by simp at hl ⊢; simp [hl]) ?_
        refine G tt_ok pk101 ?_
        rw [← hw]
        exact Ent.sel (is := [4, 4, 4, 4, 4, 2, 2, 2]) rfl
      · rw [if_neg hl]
        refine SQ.eqn tt_ok [230, 228] ⟨by kernel_rfl, by kernel_rfl, trivial⟩ rfl rfl (by kernel_rfl) true (by apply Decidable.byContradiction; intro hc; simp at hc; exact hl (by simp [hc])) ?_
        refine G tt_ok pk101 ?_
        (refine SQ.call rfl rfl (put30' β b q0 c0 (((w1, w2, w3, w4), w5, w6, w7), tx) h0 h1 hx3) [2, 2] rfl ?_; rintro _ _ ⟨u, rfl, rfl⟩; refine w_ ?_)
        refine G tt_ok pk101 ?_
        rw [← hw]
        simp only [putV_len, if_true]
        rw [hwm]
        exact Ent.sel (is := [4, 4, 4, 4, 4, 0, 0, 2]) rfl
  · refine G tt_ok pk101 ?_
    rw [idsV_len]
    refine CW.ret (fin_ret rfl (Ent.sel (is := [5, 5]) rfl) ⟨rfl, rfl⟩)
-- part Fx>
def updE (id r x : Int) (e : En) : En × Bool :=
  if writtenV id e.1 r x = e.1 then (e, false) else
  if (writtenV id e.1 r x).2.2.1 < 0 ∨ (writtenV id e.1 r x).2.2.1 > 1 ∨ (writtenV id e.1 r x).2.2.2 < 0 ∨ (writtenV id e.1 r x).2.2.2 > 255 then (e, true)
  else ((((writtenV id e.1 r x).1, (writtenV id e.1 r x).2.1, (writtenV id e.1 r x).2.2.1, realV (writtenV id e.1 r x).2.2.2), e.2), true)
theorem set_same {α : Type} {l : List α} {k : Nat} {a : α} (h : l[k]? = some a) : l.set k a = l := by
  apply List.ext_getElem?
  intro i
  by_cases e : k = i
  · subst e; rw [List.getElem?_set_self (List.getElem?_eq_some_iff.1 h).1, h]
  · rw [List.getElem?_set_ne e]
theorem wr1_upd (first : Int) (es : List En) (r f c v : Int) (k : Nat) : wr1 first es r f c v k = match atE first es (IntKind.i64.wrap (f + k)) with
    | some e => (es.set (IntKind.i64.wrap (f + k) - first).toNat (updE (IntKind.i64.wrap (f + k)) r (fieldV v r c k) e).1, (updE (IntKind.i64.wrap (f + k)) r (fieldV v r c k) e).2)
    | none => (es, false) := by
  unfold wr1
  cases h : atE first es (IntKind.i64.wrap (f + k)) with
  | none => rfl
  | some e =>
    obtain ⟨g1, g2, g3, g4, g5⟩ := atE_some h
    simp only [updE]
    split
    · simp only [set_same g3]
    · simp only [putV, h]
      split
      · simp only [set_same g3]
      · rfl
theorem atE_iff {first : Int} {es : List En} {id : Int} {e : En} : atE first es id = some e ↔ ∃ i : Nat, id = first + i ∧ es[i]? = some e := by
  constructor
  · intro h
    obtain ⟨g1, g2, g3, g4, g5⟩ := atE_some h
    exact ⟨(id - first).toNat, by omega, g3⟩
  · rintro ⟨i, rfl, h⟩
    unfold atE
    rw [if_pos (by omega), show (first + (i : Int) - first).toNat = i by omega, h]
theorem wrK_at {first : Int} {es : List En} {r f c v : Int} {N : Nat} (hf : ∀ k : Nat, k < N → IntKind.i64.wrap (f + k) = f + k) : ∀ m : Nat, m ≤ N → ∀ (i : Nat) (e : En), es[i]? = some e →
    (wrK first es r f c v m).1[i]? = some (if f ≤ first + i ∧ first + i < f + m then (updE (first + i) r (fieldV v r c (first + i - f)) e).1 else e)
  | 0, _, i, e, h => by rw [if_neg (by omega)]; exact h
  | m + 1, hm, i, e, h => by
    have ih := wrK_at (first := first) (es := es) (r := r) (c := c) (v := v) hf m (by omega) i e h
    simp only [wrK]
    rw [wr1_upd, hf m (by omega)]
    cases ha : atE first (wrK first es r f c v m).1 (f + m) with
    | none =>
      simp only
      rw [ih]
      have hne : first + (i : Int) ≠ f + m := fun h2 => by
        have : atE first (wrK first es r f c v m).1 (f + m) = some (if f ≤ first + (i : Int) ∧ first + (i : Int) < f + m then (updE (first + i) r (fieldV v r c (first + i - f)) e).1 else e) := atE_iff.2 ⟨i, h2.symm, ih⟩
        rw [ha] at this; cases this
      by_cases h3 : f ≤ first + (i : Int) ∧ first + (i : Int) < f + m
      · rw [if_pos h3, if_pos (by omega)]
      · rw [if_neg h3, if_neg (by omega)]
    | some e0 =>
      obtain ⟨j, hj, hje⟩ := atE_iff.1 ha
      simp only
      rw [show (f + (m : Int) - first).toNat = j by omega]
      by_cases hij : j = i
      · subst hij
        rw [List.getElem?_set_self (List.getElem?_eq_some_iff.1 hje).1, if_pos (by omega)]
        rw [ih, if_neg (by omega)] at hje
        injection hje with hje
        rw [hje, hj, show first + (j : Int) - f = (m : Int) by omega]
      · rw [List.getElem?_set_ne hij, ih]
        by_cases h3 : f ≤ first + (i : Int) ∧ first + (i : Int) < f + m
        · rw [if_pos h3, if_pos (by omega)]
        · rw [if_neg h3, if_neg (by omega)]
def okE (e : En) : Prop := 0 ≤ e.1.2.2.1 ∧ e.1.2.2.1 ≤ 1 ∧ 0 ≤ e.1.2.2.2 ∧ e.1.2.2.2 ≤ 255 ∧ realV e.1.2.2.2 = e.1.2.2.2
def okL (es : List En) : Prop := ∀ e ∈ es, okE e
theorem okL_at {es : List En} (h : okL es) {i : Nat} {e : En} (hi : es[i]? = some e) : okE e := h e (List.mem_of_getElem? hi)
theorem okL_set {es : List En} (h : okL es) {e : En} (he : okE e) (i : Nat) : okL (es.set i e) := fun x hx => by
  rcases List.mem_or_eq_of_mem_set hx with h2 | rfl
  · exact h x h2
  · exact he
theorem doV_ok {first : Int} {es : List En} {id x : Int} (h : okL es) : okL (doV first es id x).1 := by
  unfold doV
  split
  · rename_i e he
    obtain ⟨j, hj, hje⟩ := atE_iff.1 he
    exact okL_set h (by have := okL_at h hje; exact this) _
  · exact h
theorem okL_new (n : Nat) (tx : Unit) : okL (List.replicate n (zeroE.1, tx)) := fun e he => by
  rw [List.eq_of_mem_replicate he]
  have h : okE (zeroE.1, ()) := ⟨by decide, by decide, by decide, by decide, by decide⟩
  exact h
theorem enC_one (a : En) : scal (enC a) = true := rfl
set_option maxHeartbeats 2000000 in
theorem clone42 (β : Base) (q0 : Option Addr) (c0 : Nat) (es : List En) (hn : es.length ≤ 16384) :
    Tri Tryz.prog β 177 [.slice q0 es.length c0] [rowA q0 es.length (es.flatMap enC)] (fun v L => ∃ q1 c1, v = .slice q1 es.length c1 ∧ L = [rowA q0 es.length (es.flatMap enC), rowA q1 es.length (es.flatMap enC)]) := by
  refine Tri.intro tt_ok Tryz.func177 rfl rfl Tryz.ntmps177 rfl fun F => ?_
  cases q0 with
  | none =>
    refine CW.ent row_none (CW.pure_ fun h => ?_)
    obtain ⟨h1, h2⟩ := h
    rw [h1, h2]
    refine G tt_ok [] ?_
    refine CW.ret (fin_ret rfl (A := [rowA none 0 [], rowA none 0 []]) (Ent.trans row_nil row_nil) ?_)
    exact ⟨none, 0, rfl, rfl⟩
  | some a =>
    refine CW.ent row_some (CW.open_ fun y => ?_)
    obtain ⟨g, rest⟩ := y
    refine CW.pure_ fun hv => ?_
    simp only at hv
    subst hv
    refine G tt_ok [] ?_
    refine SQ.builtO tt_ok rfl rfl rfl rfl (fun b => ⟨(by repeat (first | exact trivial | refine ⟨trivial, ?_⟩ | refine ⟨wk (by repeat (first | exact .h | exact .q | apply At.t)) (by rfl), ?_⟩)), ?_⟩)
    refine G tt_ok [] ?_
    refine SQ.append tt_ok rfl rfl 0 rfl 1 (q := true) rfl (es.flatMap enC) (by rw [List.drop_zero]; exact List.take_left) (flatE_len (sz := 7) (fun _ => rfl) es) rfl (one_flat enC_one es) (by omega) (by show (0 + es.length) * 32 ≤ _; omega) (fun v' => ⟨(by repeat (first | exact trivial | refine ⟨trivial, ?_⟩ | refine ⟨wk (by repeat (first | exact .h | exact .q | apply At.t)) (by rfl), ?_⟩)), ?_⟩)
    refine SQ.ent _ (Ent.head (own_shape _ _ _ _ _)) ?_
    refine SQ.open_ fun x => ?_
    refine SQ.pure_ fun hv => ?_
    subst hv
    refine G tt_ok [] ?_
    have ho : Ent [own 237 7 (.slice x.1 (0 + es.length) x.2) (0 + es.length) ([] ++ es.flatMap enC)] [rowA x.1 es.length (es.flatMap enC)] := by
      rw [Nat.zero_add, List.nil_append]; exact own_row
    refine CW.ret (fin_ret rfl (A := [rowA (some ⟨g, 0, none⟩) es.length (es.flatMap enC), rowA x.1 es.length (es.flatMap enC)]) (Ent.trans (Ent.sel (is := [1, 0]) rfl) (Ent.append (L := [_]) (L' := [_]) row_close ho)) ?_)
    exact ⟨x.1, x.2, by rw [Nat.zero_add]; rfl, rfl⟩
theorem all21 (β : Base) (b : Nat) (q0 : Option Addr) (c0 : Nat) (first : Int) (es : List En) (hn : es.length ≤ 16384) :
    Tri Tryz.prog β 213 [.pointer (some ⟨b, 0, none⟩)] (bkA b q0 c0 first es) (fun v L => ∃ b1 b3 q1 c1, v = .func (.func 230) #[] #[.pointer (some ⟨b3, 0, none⟩), .pointer (some ⟨b1, 0, none⟩)] ∧
      L = [pt b3 [.slice q1 es.length c1], pt b1 [.pointer (some ⟨b, 0, none⟩)], rowA q1 es.length (es.flatMap enC)] ++ bkA b q0 c0 first es) := by
  refine Tri.intro tt_ok Tryz.func213 rfl rfl Tryz.ntmps213 rfl fun F => ?_
  (refine G tt_ok [] ?_; repeat (refine G1 tt_ok [] ?_; intro _))
  rename_i b1
  (refine ka rfl rfl (clone42 β q0 c0 es hn) ?_; rintro _ _ ⟨q1, c1, rfl, rfl⟩; refine w_ ?_)
  (refine G tt_ok [] ?_; repeat (refine G1 tt_ok [] ?_; intro _))
  rename_i b3
  refine CW.ret (fin_ret rfl (A := [pt b3 [.slice q1 es.length c1], pt b1 [.pointer (some ⟨b, 0, none⟩)], rowA q1 es.length (es.flatMap enC)] ++ bkA b q0 c0 first es) pk_ ?_)
  exact ⟨b1, b3, q1, c1, rfl, rfl⟩
def allV (first : Int) : List En → List (Int × En)
  | [] => []
  | e :: r => (first, e) :: allV (first + 1) r
theorem allV_len : ∀ (first : Int) (es : List En), (allV first es).length = es.length
  | _, [] => rfl
  | first, e :: r => by simp [allV, allV_len (first + 1) r]
theorem allV_at : ∀ {first : Int} {es : List En} {k : Nat} {e : En}, es[k]? = some e → (allV first es)[k]? = some (first + k, e)
  | _, [], _, _, h => by simp at h
  | first, a :: r, 0, e, h => by simp at h; subst h; simp [allV]
  | first, a :: r, k + 1, e, h => by
    have := allV_at (first := first + 1) (es := r) (k := k) (e := e) (by simpa using h)
    simp only [allV, List.getElem?_cons_succ]
    rw [this]; simp; omega
@[reducible] def peC (x : Int × En) : List Value := [.int .i64 x.1, .agg #[.bool x.2.1.1.1, .bool x.2.1.1.2.1, .bool x.2.1.1.2.2.1, .bool x.2.1.1.2.2.2, .bool x.2.1.2.1, .int .i64 x.2.1.2.2.1, .int .i64 x.2.1.2.2.2]]
theorem allV_pre {first : Int} {es : List En} {pre : List (Int × En)} {x : Int × En} (h : (pre ++ [x]) <+: allV first es) : ∃ e, es[pre.length]? = some e ∧ x = (first + pre.length, e) := by
  obtain ⟨t, ht⟩ := h
  have hl := congrArg List.length ht
  rw [allV_len] at hl
  simp at hl
  obtain ⟨e, he⟩ : ∃ e, es[pre.length]? = some e := ⟨_, List.getElem?_eq_getElem (by omega)⟩
  have h1 := allV_at (first := first) he
  rw [← ht] at h1
  simp at h1
  exact ⟨e, he, h1⟩
theorem take_pre {α : Type} {l : List α} {k : Nat} {x : α} (h : l[k]? = some x) : (l.take k ++ [x]) <+: l := by
  have : l.take (k + 1) = l.take k ++ [x] := by rw [List.take_add_one, h]; rfl
  rw [← this]; exact List.take_prefix _ _
theorem rd_enq {cs : List Value} {off n : Nat} {ts : List En} (h : (cs.drop off).take (n * 7) = ts.flatMap enC) {k : Nat} {t : En} (hk : ts[k]? = some t) : rdv ti237 cs (off + k * 7) = some (.agg (enC t).toArray) :=
  rd_enc (enc := enC) (sz := 7) (fun _ => rfl) rfl rfl h hk
set_option maxHeartbeats 2000000 in
theorem iter43 (β : Base) (b b1 b3 : Nat) {q1 : Option Addr} {c1 : Nat} {first : Int} {es : List En} {S : Value} {A1 : Atom} (h1 : RdS β q1 es.length 7 (es.flatMap enC) A1) (hf0 : 0 ≤ first) (hf1 : first ≤ 16384) (hn : es.length ≤ 16384) (hS : vcells S = [S]) :
    Iter Tryz.prog β 230 [.pointer (some ⟨b3, 0, none⟩), .pointer (some ⟨b1, 0, none⟩)] [pt b3 [.slice q1 es.length c1], pt b1 [.pointer (some ⟨b, 0, none⟩)], pt b [.int .i64 first, S], A1] peC (allV first es) := by
  intro l J Jx hY
  refine Tri.intro tt_ok Tryz.func230 rfl rfl Tryz.ntmps230 rfl fun F => ?_
  refine G tt_ok pk230 ?_
  refine CW.loop (α := Nat) (fun k => k ≤ es.length) (fun k => [(8, .int .i64 k), (7, .int .i64 es.length), (6, .slice q1 es.length c1), (0, .func (.yield l) #[] #[]), (2, .pointer (some ⟨b1, 0, none⟩))])
    (fun k => [J ((allV first es).take k), pt b3 [.slice q1 es.length c1], pt b1 [.pointer (some ⟨b, 0, none⟩)], pt b [.int .i64 first, S], A1]) (fun k => es.length - k) 0 (by omega) ⟨rfl, rfl, rfl, rfl, rfl, trivial⟩ (Ent.refl _) ?_
  intro k hk
  refine G tt_ok pk230 ?_
  generalize e1 : decide ((k : Int) < (es.length : Int)) = c
  cases c
  · refine G tt_ok pk230 ?_
    refine CW.exit ?_
    have : k = es.length := by simp at e1; omega
    subst this
    refine fin_normal rfl (Ent.refl _) (.inl ?_)
    rw [List.take_of_length_le (by rw [allV_len]; omega)]
  · have hlt : k < es.length := by simp at e1; omega
    have hw : IntKind.i64.wrap ((k : Int) + 1) = ((k + 1 : Nat) : Int) := by rw [wrap_i64]; split <;> omega
    have hwf : IntKind.i64.wrap (first + (k : Int)) = first + k := by rw [wrap_i64]; split <;> omega
    obtain ⟨e, he⟩ : ∃ e, es[k]? = some e := ⟨_, List.getElem?_eq_getElem hlt⟩
    obtain ⟨bs, os, qs, cs, rfl, rfl, hcs⟩ := h1.2.resolve_left (by omega)
    have hat := allV_at (first := first) he
    have htk : (allV first es).take (k + 1) = (allV first es).take k ++ [(first + k, e)] := by rw [List.take_add_one, hat]; rfl
    refine G tt_ok pk230 ?_
    refine SQ.idx tt_ok rfl rfl k rfl hlt (o' := os + k * 7) rfl ?_
    refine SQ.loadq tt_ok rfl rfl 4 rfl (rd_enq hcs he) ?_
    (refine G tt_ok pk230 ?_; repeat (refine G1 tt_ok pk230 ?_; intro _))
    rw [hwf]
    (refine SQ.yield rfl rfl (hY ((allV first es).take k) (first + k, e) (take_pre hat)) [1, 1, 1, 1, 1] rfl ?_; rintro _ _ (⟨rfl, rfl⟩ | ⟨rfl, rfl⟩) <;> refine w_ ?_)
    · refine G tt_ok pk230 ?_
      refine ⟨k + 1, by omega, by omega, ⟨by rw [← hw]; rfl, rfl, rfl, rfl, rfl, trivial⟩, ?_⟩
      rw [htk]
      exact pk_
    · refine G tt_ok pk230 ?_
      exact CW.ret (fin_ret rfl pk_ (.inr ⟨_, rfl⟩))
-- part Gj>
-- part Ft
theorem made_flat_of {α : Type} {enc : α → List Value} {a : α} (z : Array Value) (hz : enc a = z.toList) (hp : 0 < z.size) : ∀ n, (madeCells z (n * z.size)).toList = (List.replicate n a).flatMap enc
 | 0 => by simp [madeCells]
 | n + 1 => by
  have ih := made_flat_of z hz hp n
  rw [List.replicate_succ', List.flatMap_append, ← ih]
  simp only [madeCells, Array.toList_map, Array.toList_range, List.flatMap_cons, List.flatMap_nil, List.append_nil]
  rw [Nat.add_mul, Nat.one_mul, List.range_add, List.map_append, hz]
  congr 1
  apply List.ext_getElem?
  intro i
  rw [List.map_map]
  by_cases hi : i < z.size
  ·simp [hi, Nat.mod_eq_of_lt hi, getElem!_pos]
  ·simp [hi]
theorem made_flat (n : Nat) : (madeCells ti237.zero.cells (n * ti237.size)).toList = (List.replicate n zeroE).flatMap enC :=
 made_flat_of (enc := enC) (a := zeroE) ti237.zero.cells rfl (by decide) n
def newK (tx : Unit) (n k : Nat) : List En := List.replicate k (zeroE.1, tx) ++ List.replicate (n - k) zeroE
theorem newK_at {tx : Unit} {n k : Nat} (h : k < n) : (newK tx n k)[k]? = some zeroE := by
 obtain ⟨m, hm⟩ : ∃ m, n - k = m + 1 := ⟨n - k - 1, by omega⟩
 unfold newK
 rw [List.getElem?_append_right (by simp), List.length_replicate, Nat.sub_self, hm]
 rfl
theorem newK_set {tx : Unit} {n k : Nat} (h : k < n) : (newK tx n k).set k (zeroE.1, tx) = newK tx n (k + 1) := by
 unfold newK
 obtain ⟨m, hm⟩ : ∃ m, n - k = m + 1 := ⟨n - k - 1, by omega⟩
 rw [hm, show n - (k + 1) = m from by omega, List.set_append_right _ _ (by simp), List.length_replicate, Nat.sub_self, List.replicate_succ (n := m), List.set_cons_zero, List.replicate_succ' (n := k), List.append_assoc]
 rfl
set_option maxHeartbeats 2000000 in
theorem bankNew (β : Base) {first n : Int} (h0 : 0 ≤ first) (h1 : 0 ≤ n) (h2 : first + n ≤ 16384) (tx : Unit) :
  Tri Tryz.prog β 84 [.int .i64 first, .int .i64 n, (.agg #[])] [] (fun v L => ∃ b q0 c0, v = .tuple #[.pointer (some ⟨b, 0, none⟩), .int .i64 0] ∧ L = bkA b q0 c0 first (List.replicate n.toNat (zeroE.1, tx))) := by
 obtain ⟨m, rfl⟩ : ∃ m : Nat, n = (m : Int) := ⟨n.toNat, by omega⟩
 have hw0 : IntKind.i64.wrap (16384 - first) = 16384 - first := by rw [wrap_i64]; split <;> omega
 refine Tri.intro tt_ok Tryz.func84 rfl rfl Tryz.ntmps84 rfl fun F => ?_
 (refine G tt_ok [] ?_; repeat (refine G1 tt_ok [] ?_; intro _))
 rw [decide_eq_false (show ¬ first < 0 by omega)]
 refine G tt_ok [] ?_
 rw [decide_eq_false (show ¬ (m : Int) < 0 by omega)]
 refine G tt_ok [] ?_
 rw [decide_eq_false (show ¬ first > 16384 by omega)]
 refine G tt_ok [] ?_
 rw [hw0, decide_eq_false (show ¬ (m : Int) > 16384 - first by omega)]
 refine G tt_ok [] ?_
 refine SQ.makeT tt_ok rfl rfl rfl m rfl rfl (show m * 7 ≤ 16777216 by omega) (show 32 * m ≤ 281474976710656 by omega) (by omega) (fun eb => ⟨(by repeat (first | exact trivial | refine ⟨trivial, ?_⟩ | refine ⟨wk (by repeat (first | exact .h | exact .q | apply At.t)) (by rfl), ?_⟩)), ?_⟩)
 rw [made_flat]
 (refine G tt_ok [] ?_; repeat (refine G1 tt_ok [] ?_; intro _))
 rename_i b5 b
 refine CW.loop (α := Nat) (fun k => k ≤ m) (fun k => [(36, .int .i64 k), (35, .int .i64 m), (8, .pointer (some ⟨b, 0, none⟩)), (5, .pointer (some ⟨b5, 0, none⟩))])
  (fun k => [pt b [.int .i64 first, .slice (some ⟨eb, 0, none⟩) m m], ptT 237 eb ((List.replicate m zeroE).flatMap enC), pt b5 []]) (fun k => m - k) 0 (by omega) ⟨rfl, rfl, rfl, rfl, trivial⟩ pk_ ?_
 intro k hk
 refine G tt_ok [] ?_
 generalize e1 : decide ((k : Int) < (m : Int)) = cc
 cases cc
 ·have : k = m := by simp at e1; omega
  subst this
  refine G tt_ok [] ?_
  refine CW.exit ?_
  refine G tt_ok [] ?_
  refine CW.ret (fin_ret rfl (Ent.trans (M := [pt b [.int .i64 first, .slice (some ⟨eb, 0, none⟩) k k], ptT 237 eb ((List.replicate k zeroE).flatMap enC)]) pk_ (Ent.cons _ (ptT_pt.trans (row_close0 (n := k))))) ?_)
  refine ⟨b, some ⟨eb, 0, none⟩, k, rfl, ?_⟩
  have : (zeroE.1, tx) = zeroE := rfl
  simp [bkA, this]
 ·have hlt : k < m := by simp at e1; omega
  have hw : IntKind.i64.wrap ((k : Int) + 1) = ((k + 1 : Nat) : Int) := by rw [wrap_i64]; split <;> omega
  refine G tt_ok [] ?_
  refine CW.regionD tt_ok (by kernel_rfl) [(0, 0, []), (1, 0, []), (2, 0, []), (3, 0, []), (4, 0, []), (5, 0, []), (6, 0, []), (7, 1, [5]), (8, 1, [])] (by decide +kernel) ?_
  refine G tt_ok [] ?_
  refine SQ.idx tt_ok rfl rfl k rfl hlt (o' := 0 + k * 7) rfl ?_
  refine SQ.field0 rfl rfl 1 rfl Tryz.underlying237 rfl (fun w => (tt_ok.get (t := 170) rfl).run_sizeOf w) (q := 6) (x := 0) (y := 0) (by kernel_rfl) (by rw [show (0 + k * 7) % (6 + 1) = 0 by omega]; kernel_rfl) (by show byteOfCell Tryz.prog Tryz.prog.depth 237 ((0 + k * 7 + 7) % (6 + 1)) = some 0; rw [show (0 + k * 7 + 7) % (6 + 1) = 0 by omega]; kernel_rfl) (fun a => ⟨by repeat (first | exact trivial | refine ⟨trivial, ?_⟩ | refine ⟨wk (by repeat (first | exact .h | exact .q | apply At.t)) (by rfl), ?_⟩), ?_⟩)
  refine SQ.st0 tt_ok rfl rfl ⟨by repeat (first | exact trivial | refine ⟨trivial, ?_⟩ | refine ⟨wk (by repeat (first | exact .h | exact .q | apply At.t)) (by rfl), ?_⟩), ?_⟩
  refine G tt_ok [] ?_
  exact ⟨k + 1, by omega, by omega, ⟨by rw [← hw]; rfl, rfl, rfl, rfl, trivial⟩, pk_⟩
end Go.Proofs.YtakkogdmlbkdaaaGreatDoor.Sl.Bn
namespace Go.Proofs.YtakkogdmlbkdaaaGreatDoor.Sl.Br
attribute [local irreducible] CW Tri OW
@[reducible] def pk139 : List (Nat × Plan) := [(3, [(0, 0, []), (1, 0, []), (2, 0, []), (3, 0, []), (4, 0, []), (5, 0, []), (6, 0, []), (7, 0, []), (8, 0, []), (9, 0, []), (10, 0, []), (11, 0, []), (12, 1, []), (13, 0, [])])]
@[reducible] def pk102 : List (Nat × Plan) := [(3, [(0, 0, []), (1, 0, []), (2, 0, []), (3, 0, []), (4, 0, []), (5, 0, []), (6, 0, []), (7, 0, []), (8, 0, []), (9, 0, []), (10, 0, []), (11, 0, [])])]
@[reducible] def pk141 : List (Nat × Plan) := [(6, [(0, 0, []), (1, 0, []), (2, 0, []), (3, 0, []), (4, 0, []), (5, 0, []), (6, 0, []), (7, 0, []), (8, 0, []), (9, 0, []), (10, 0, []), (11, 0, []), (12, 1, [])])]
@[reducible] def pk142 : List (Nat × Plan) := [(5, [(0, 0, []), (1, 0, []), (2, 0, []), (3, 0, []), (4, 0, []), (5, 0, []), (6, 0, []), (7, 0, []), (8, 1, [2, 4, 5, 6, 7]), (9, 1, [2, 4, 5, 6, 7]), (10, 2, []), (11, 1, [])])]
@[reducible] def pk231 : List (Nat × Plan) := [(3, [(0, 0, []), (1, 0, []), (2, 0, []), (3, 0, []), (4, 0, []), (5, 0, []), (6, 0, []), (7, 0, []), (8, 1, []), (9, 0, [])])]
@[reducible] def pl156_0 : Plan := [(0, 0, []), (1, 0, []), (2, 0, []), (3, 0, []), (4, 0, []), (5, 0, []), (6, 0, []), (7, 0, []), (8, 0, []), (9, 0, []), (10, 0, []), (11, 0, []), (12, 0, []), (13, 0, []), (14, 0, []), (15, 0, []), (16, 0, []), (17, 0, []), (18, 0, []), (19, 0, []), (20, 0, [])]
@[reducible] def pl141_0 : Plan := [(0, 0, []), (1, 0, []), (2, 0, []), (3, 0, []), (4, 0, []), (5, 0, []), (6, 0, []), (7, 0, []), (8, 0, []), (9, 0, []), (10, 0, []), (11, 0, []), (12, 1, [])]
-- part Fe
abbrev En := Ln × (Int × Bool)
@[reducible] def enC (x : En) : List Value := [.bool x.1.1.1, .bool x.1.1.2.1, .bool x.1.1.2.2.1, .bool x.1.1.2.2.2, .bool x.1.2.1, .int .i64 x.1.2.2.1, .int .i64 x.1.2.2.2, .int .i64 x.2.1, .bool x.2.2]
def atE (first : Int) (es : List En) (id : Int) : Option En := if id ≥ first then es[(id - first).toNat]? else none
def bkA (b : Nat) (q0 : Option Addr) (c0 : Nat) (first : Int) (es : List En) : List Atom := [pt b [.int .i64 first, .slice q0 es.length c0], rowA q0 es.length (es.flatMap enC)]
theorem wrap_sub {id first : Int} (h0 : 0 ≤ first) (h1 : first ≤ 16384) (h2 : id ≥ first) (h3 : id < 9223372036854775808) : IntKind.i64.wrap (id - first) = id - first := by
  rw [wrap_i64]; split <;> omega
theorem has11 (β : Base) (b : Nat) (q0 : Option Addr) (c0 : Nat) (first id : Int) (n : Nat) (h0 : 0 ≤ first) (h1 : first ≤ 16384) (h3 : id < 9223372036854775808) :
    Tri Tryz.prog β 156 [.pointer (some ⟨b, 0, none⟩), .int .i64 id] [pt b [.int .i64 first, .slice q0 n c0]] (fun v L => v = .bool (decide (id ≥ first) && decide (id - first < n)) ∧ L = [pt b [.int .i64 first, .slice q0 n c0]]) := by
  refine Tri.intro tt_ok Tryz.func156 rfl rfl Tryz.ntmps156 rfl fun F => ?_
  by_cases h2 : id ≥ first
  · have hw := wrap_sub h0 h1 h2 h3
    (repeat' (first | refine CW.seq ?_ | refine CW.region tt_ok rfl ?_ | refine CW.regionD tt_ok (by kernel_rfl) pl156_0 (by decide +kernel) ?_ | refine CW.block ?_ | refine CW.skip ?_ | refine SQ.nil ?_ | refine SQ.pures1 tt_ok rfl ?_ | refine SQ.pure1 tt_ok rfl ?_ | refine SQ.new _ _ rfl rfl (fun _ => ?_) | refine SQ.ldA tt_ok rfl rfl (by repeat (first | exact .h | exact .q | apply At.t)) (by rfl) ?_ | refine SQ.stA tt_ok rfl rfl (by repeat (first | apply Up.h | apply Up.t)) (by rfl) (by rfl) (by repeat (first | exact trivial | refine ⟨trivial, ?_⟩ | refine ⟨wk (by repeat (first | exact .h | exact .q | apply At.t)) (by rfl), ?_⟩)) ?_ | refine CW.cond_tt rfl ?_ | refine CW.cond_ff rfl ?_ | ((first | refine CW.cond rfl (fun hc => ?_) (fun hc => ?_) | refine SQ.gsplit rfl (fun hc => ?_) (fun hc => ?_)) <;> try (exfalso; simp_all; done))))
    all_goals (refine CW.ret (fin_ret rfl (Ent.refl _) ⟨?_, rfl⟩); simp_all [packV])
  · (repeat' (first | refine CW.seq ?_ | refine CW.region tt_ok rfl ?_ | refine CW.regionD tt_ok (by kernel_rfl) pl156_0 (by decide +kernel) ?_ | refine CW.block ?_ | refine CW.skip ?_ | refine SQ.nil ?_ | refine SQ.pures1 tt_ok rfl ?_ | refine SQ.pure1 tt_ok rfl ?_ | refine SQ.new _ _ rfl rfl (fun _ => ?_) | refine SQ.ldA tt_ok rfl rfl (by repeat (first | exact .h | exact .q | apply At.t)) (by rfl) ?_ | refine SQ.stA tt_ok rfl rfl (by repeat (first | apply Up.h | apply Up.t)) (by rfl) (by rfl) (by repeat (first | exact trivial | refine ⟨trivial, ?_⟩ | refine ⟨wk (by repeat (first | exact .h | exact .q | apply At.t)) (by rfl), ?_⟩)) ?_ | refine CW.cond_tt rfl ?_ | refine CW.cond_ff rfl ?_ | ((first | refine CW.cond rfl (fun hc => ?_) (fun hc => ?_) | refine SQ.gsplit rfl (fun hc => ?_) (fun hc => ?_)) <;> try (exfalso; simp_all; done))))
    all_goals (refine CW.ret (fin_ret rfl (Ent.refl _) ⟨?_, rfl⟩); simp_all [packV])
    all_goals (first | omega | (exfalso; omega))
theorem atE_some {first : Int} {es : List En} {id : Int} {e : En} (h : atE first es id = some e) : id ≥ first ∧ (id - first).toNat < es.length ∧ es[(id - first).toNat]? = some e ∧ ((id - first).toNat : Int) = id - first ∧ (decide (id ≥ first) && decide (id - first < es.length)) = true := by
  unfold atE at h
  split at h
  · rename_i h1
    have h2 := (List.getElem?_eq_some_iff.1 h).1
    refine ⟨h1, h2, h, by omega, ?_⟩
    simp; omega
  · cases h
theorem atE_none {first : Int} {es : List En} {id : Int} (h : atE first es id = none) : (decide (id ≥ first) && decide (id - first < es.length)) = false := by
  unfold atE at h
  split at h
  · rename_i h1
    have h2 := List.getElem?_eq_none_iff.1 h
    simp; omega
  · rename_i h1
    simp; omega
theorem hasIs (β : Base) (b : Nat) (q0 : Option Addr) (c0 : Nat) {first id : Int} {es : List En} (h0 : 0 ≤ first) (h1 : first ≤ 16384) (h3 : id < 9223372036854775808) {c : Bool} (h : (decide (id ≥ first) && decide (id - first < es.length)) = c) :
    Tri Tryz.prog β 156 [.pointer (some ⟨b, 0, none⟩), .int .i64 id] [pt b [.int .i64 first, .slice q0 es.length c0]] (fun v L => v = .bool c ∧ L = [pt b [.int .i64 first, .slice q0 es.length c0]]) := by
  rw [← h]; exact has11 β b q0 c0 first id es.length h0 h1 h3
theorem rd_en {es : List En} {k : Nat} {e : En} (h : es[k]? = some e) (X : List Value) : rdv ti232 (es.flatMap enC ++ X) (0 + k * 9) = some (.agg (enC e).toArray) :=
  rd_partR (enc := enC) (sz := 9) (fun _ => rfl) h 0 (i := ti232) rfl (by decide) (by omega) (by decide) X
theorem bk_open {b : Nat} {q0 : Option Addr} {c0 : Nat} {first : Int} {es : List En} (h : 0 < es.length) : Ent (bkA b q0 c0 first es) [exA fun x : Nat × List Value => [pureA (q0 = some ⟨x.1, 0, none⟩), pt x.1 (es.flatMap enC ++ x.2), pt b [.int .i64 first, .slice q0 es.length c0]]] := by
  intro hp s
  obtain ⟨h1, h2, a, st, d, rfl⟩ := s
  obtain ⟨k, ⟨k1, k2, ⟨x, sx⟩, e0, d2, rfl⟩, le⟩ := row_open (q := q0) (cs := es.flatMap enC) h h2 st
  obtain rfl : k2 = Hp.emp := e0
  rw [Hp.add_emp] at le
  have hd : Hp.disj h1 k1 := Hp.disj_le (Hp.le_refl _) le d
  have hs : star ([pureA (q0 = some ⟨x.1, 0, none⟩), pt x.1 (es.flatMap enC ++ x.2)] ++ [pt b [.int .i64 first, .slice q0 es.length c0]]) (Hp.add k1 h1) :=
    star_append.2 ⟨k1, h1, sx, ⟨h1, Hp.emp, a, rfl, Hp.disj_emp _, (Hp.add_emp _).symm⟩, Hp.disj_comm hd, rfl⟩
  refine ⟨Hp.add k1 h1, ⟨_, Hp.emp, ⟨x, hs⟩, rfl, Hp.disj_emp _, (Hp.add_emp _).symm⟩, ?_⟩
  rw [Hp.add_comm (Hp.disj_comm hd)]
  exact Hp.add_le_add (Hp.le_refl _) le d
theorem bk_close {b g n : Nat} {first : Int} {cs rest : List Value} {v : Value} : Ent [pt g (cs ++ rest), pt b [.int .i64 first, v]] [pt b [.int .i64 first, v], rowA (some ⟨g, 0, none⟩) n cs] :=
  Ent.trans (Ent.sel (is := [1, 0]) rfl) (Ent.cons _ row_close)
def zeroE : En := (((false, false, false, false), false, 0, 0), (0, false))
def getV (first : Int) (es : List En) (id : Int) : En × Int := match atE first es id with
  | some e => (e, 0)
  | none => (zeroE, 90)
theorem get14 (β : Base) (b : Nat) (q0 : Option Addr) (c0 : Nat) {first id : Int} {es : List En} (h0 : 0 ≤ first) (h1 : first ≤ 16384) (h3 : id < 9223372036854775808) :
    Tri Tryz.prog β 139 [.pointer (some ⟨b, 0, none⟩), .int .i64 id] (bkA b q0 c0 first es) (fun v L => v = .tuple #[.agg (enC (getV first es id).1).toArray, .int .i64 (getV first es id).2] ∧ L = bkA b q0 c0 first es) := by
  refine Tri.intro tt_ok Tryz.func139 rfl rfl Tryz.ntmps139 rfl fun F => ?_
  cases h : atE first es id with
  | none =>
    (refine G tt_ok pk139 ?_; repeat (refine G1 tt_ok pk139 ?_; intro _))
    refine ke rfl rfl (hasIs β b q0 c0 h0 h1 h3 (atE_none h)) ?_
    refine G tt_ok pk139 ?_
    refine CW.ret (fin_cells [_, _] ⟨⟨_, _, _, _, 1, rfl, rfl, rfl, rfl⟩, rfl, trivial⟩ pk_ ⟨?_, rfl⟩)
    simp [packV, getV, h, zeroE, enC]
  | some e =>
    obtain ⟨g1, g2, g3, g4, g5⟩ := atE_some h
    have hw := wrap_sub h0 h1 g1 h3
    refine CW.ent (bk_open (by omega)) (CW.open_ fun y => ?_)
    obtain ⟨g, rest⟩ := y
    refine CW.pure_ fun hv => ?_
    simp only at hv
    subst hv
    (refine G tt_ok pk139 ?_; repeat (refine G1 tt_ok pk139 ?_; intro _))
    refine ke rfl rfl (hasIs β b _ c0 h0 h1 h3 g5) ?_
    refine G tt_ok pk139 ?_
    refine SQ.idx tt_ok rfl rfl (id - first).toNat (by rw [hw, g4]) g2 (o' := 0 + (id - first).toNat * 9) rfl ?_
    refine SQ.load tt_ok rfl rfl 2 rfl (rd_en g3 rest) ?_
    refine G tt_ok pk139 ?_
    refine CW.ret (fin_cells [_, _] ⟨⟨_, _, _, _, 1, rfl, rfl, rfl, rfl⟩, rfl, trivial⟩ (Ent.trans pk_ (bk_close)) ⟨?_, rfl⟩)
    simp [packV, getV, h, zeroE, enC]
theorem rd_iq {es : List En} {k : Nat} {e : En} (h : es[k]? = some e) (X : List Value) : rdv ti228 (es.flatMap enC ++ X) (0 + k * 9) = some (.agg #[.bool e.1.1.1, .bool e.1.1.2.1, .bool e.1.1.2.2.1, .bool e.1.1.2.2.2]) :=
  rd_partR (enc := enC) (sz := 9) (fun _ => rfl) h 0 (i := ti228) rfl (by decide) (by omega) (by decide) X
theorem wr_iq {es : List En} {k : Nat} {e : En} (h : es[k]? = some e) (q : Iq) (X : List Value) : wrv ti228 (es.flatMap enC ++ X) (0 + k * 9) (.agg #[.bool q.1, .bool q.2.1, .bool q.2.2.1, .bool q.2.2.2]) = some ((es.set k ((q, e.1.2), e.2)).flatMap enC ++ X) :=
  wr_encR (enc := enC) (sz := 9) (fun _ => rfl) h 0 (i := ti228) (by decide) rfl rfl (by omega) X
def doV (first : Int) (es : List En) (id x : Int) : List En × Int := match atE first es id with
  | some e => (es.set (id - first).toNat ((stepI e.1.1 x, e.1.2), e.2), 0)
  | none => (es, 90)
theorem doV_len (first : Int) (es : List En) (id x : Int) : (doV first es id x).1.length = es.length := by
  unfold doV; split <;> simp
theorem do35 (β : Base) (b : Nat) (q0 : Option Addr) (c0 : Nat) {first id x : Int} {es : List En} (h0 : 0 ≤ first) (h1 : first ≤ 16384) (h3 : id < 9223372036854775808) :
    Tri Tryz.prog β 102 [.pointer (some ⟨b, 0, none⟩), .int .i64 id, .int .i64 x] (bkA b q0 c0 first es) (fun v L => v = .int .i64 (doV first es id x).2 ∧ L = bkA b q0 c0 first (doV first es id x).1) := by
  refine Tri.intro tt_ok Tryz.func102 rfl rfl Tryz.ntmps102 rfl fun F => ?_
  unfold bkA
  rw [doV_len]
  cases h : atE first es id with
  | none =>
    rw [show doV first es id x = (es, 90) by simp [doV, h]]
    refine G tt_ok pk102 ?_
    refine ke rfl rfl (hasIs β b q0 c0 h0 h1 h3 (atE_none h)) ?_
    refine G tt_ok pk102 ?_
    exact CW.ret (fin_ret rfl pk_ ⟨rfl, rfl⟩)
  | some e =>
    obtain ⟨g1, g2, g3, g4, g5⟩ := atE_some h
    have hw := wrap_sub h0 h1 g1 h3
    rw [show doV first es id x = (es.set (id - first).toNat ((stepI e.1.1 x, e.1.2), e.2), 0) by simp [doV, h]]
    refine CW.ent (bk_open (by omega)) (CW.open_ fun y => ?_)
    obtain ⟨g, rest⟩ := y
    refine CW.pure_ fun hv => ?_
    simp only at hv
    subst hv
    refine G tt_ok pk102 ?_
    refine ke rfl rfl (hasIs β b _ c0 h0 h1 h3 g5) ?_
    refine G tt_ok pk102 ?_
    refine SQ.idx tt_ok rfl rfl (id - first).toNat (by rw [hw, g4]) g2 (o' := 0 + (id - first).toNat * 9) rfl ?_
    refine G tt_ok pk102 ?_
    refine SQ.load tt_ok rfl rfl 1 rfl (rd_iq g3 rest) ?_
    refine G tt_ok pk102 ?_
    refine ke rfl rfl (step48' β _ _ _ _ _) ?_
    refine G tt_ok pk102 ?_
    refine SQ.store tt_ok rfl rfl 1 rfl rfl (wr_iq g3 (stepI e.1.1 x) rest) rfl (by repeat (first | exact trivial | refine ⟨trivial, ?_⟩ | refine ⟨wk (by repeat (first | exact .h | exact .q | apply At.t)) (by rfl), ?_⟩)) ?_
    refine G tt_ok pk102 ?_
    exact CW.ret (fin_ret rfl (Ent.trans pk_ (bk_close)) ⟨rfl, rfl⟩)
-- part Ff
theorem wr_en {es : List En} {k : Nat} {e : En} (h : es[k]? = some e) (q : En) (X : List Value) : wrv ti232 (es.flatMap enC ++ X) (0 + k * 9) (.agg (enC q).toArray) = some ((es.set k q).flatMap enC ++ X) :=
  wr_encR (enc := enC) (sz := 9) (fun _ => rfl) h 0 (i := ti232) (by decide) rfl rfl (by omega) X
def putV (first : Int) (es : List En) (id : Int) (q : En) : List En × Int := match atE first es id with
  | some e => if q.1.2.2.1 < 0 ∨ q.1.2.2.1 > 1 ∨ q.1.2.2.2 < 0 ∨ q.1.2.2.2 > 255 then (es, 1) else (es.set (id - first).toNat ((q.1.1, q.1.2.1, q.1.2.2.1, realV q.1.2.2.2), q.2), 0)
  | none => (es, 90)
theorem putV_len (first : Int) (es : List En) (id : Int) (q : En) : (putV first es id q).1.length = es.length := by
  unfold putV; split
  · split <;> simp
  · rfl
set_option maxHeartbeats 4000000 in
theorem put30 (β : Base) (b : Nat) (q0 : Option Addr) (c0 : Nat) {first id : Int} {es : List En} (q : En) (h0 : 0 ≤ first) (h1 : first ≤ 16384) (h3 : id < 9223372036854775808) :
    Tri Tryz.prog β 141 [.pointer (some ⟨b, 0, none⟩), .int .i64 id, .agg (enC q).toArray] (bkA b q0 c0 first es) (fun v L => v = .int .i64 (putV first es id q).2 ∧ L = bkA b q0 c0 first (putV first es id q).1) := by
  refine Tri.intro tt_ok Tryz.func141 rfl rfl Tryz.ntmps141 rfl fun F => ?_
  unfold bkA
  rw [putV_len]
  cases h : atE first es id with
  | none =>
    rw [show putV first es id q = (es, 90) by simp [putV, h]]
    (refine G tt_ok pk141 ?_; repeat (refine G1 tt_ok pk141 ?_; intro _))
    refine ke rfl rfl (hasIs β b q0 c0 h0 h1 h3 (atE_none h)) ?_
    refine G tt_ok pk141 ?_
    exact CW.ret (fin_ret rfl pk_ ⟨rfl, rfl⟩)
  | some e =>
    obtain ⟨g1, g2, g3, g4, g5⟩ := atE_some h
    have hw := wrap_sub h0 h1 g1 h3
    refine CW.ent (bk_open (by omega)) (CW.open_ fun y => ?_)
    obtain ⟨g, rest⟩ := y
    refine CW.pure_ fun hv => ?_
    simp only at hv
    subst hv
    (refine G tt_ok pk141 ?_; repeat (refine G1 tt_ok pk141 ?_; intro _))
    refine ke rfl rfl (hasIs β b _ c0 h0 h1 h3 g5) ?_
    (repeat' (first | refine CW.seq ?_ | refine CW.region tt_ok rfl ?_ | refine CW.regionD tt_ok (by kernel_rfl) pl141_0 (by decide +kernel) ?_ | refine CW.block ?_ | refine CW.skip ?_ | refine SQ.nil ?_ | refine SQ.pures1 tt_ok rfl ?_ | refine SQ.pure1 tt_ok rfl ?_ | refine SQ.new _ _ rfl rfl (fun _ => ?_) | refine SQ.ldA tt_ok rfl rfl (by repeat (first | exact .h | exact .q | apply At.t)) (by rfl) ?_ | refine SQ.stA tt_ok rfl rfl (by repeat (first | apply Up.h | apply Up.t)) (by rfl) (by rfl) (by repeat (first | exact trivial | refine ⟨trivial, ?_⟩ | refine ⟨wk (by repeat (first | exact .h | exact .q | apply At.t)) (by rfl), ?_⟩)) ?_ | refine CW.cond_tt rfl ?_ | refine CW.cond_ff rfl ?_ | (refine SQ.callA rfl rfl (real50' β _) (by repeat (first | exact .n | exact Rm.h | exact Rm.of own_row | exact Rm.of row_close0 | apply Tk.c | apply Rm.t)) ?_; rintro _ _ ⟨rfl, rfl⟩; refine ⟨(by repeat (first | exact trivial | refine ⟨trivial, ?_⟩ | refine ⟨wk (by repeat (first | exact .h | exact .q | apply At.t)) (by rfl), ?_⟩)), ?_⟩) | ((first | refine CW.cond rfl (fun hc => ?_) (fun hc => ?_) | refine SQ.gsplit rfl (fun hc => ?_) (fun hc => ?_)) <;> try (exfalso; simp_all; done))))
    all_goals (first
      | (refine CW.ret (fin_ret rfl (Ent.trans pk_ (bk_close (b := b) (g := g) (n := es.length) (first := first) (rest := rest) (v := .slice (some ⟨g, 0, none⟩) es.length c0) (cs := es.flatMap enC))) ⟨?_, ?_⟩)
         · simp_all [packV, putV]
         · simp_all [putV])
      | (refine SQ.idx tt_ok rfl rfl (id - first).toNat (by rw [hw, g4]) g2 (o' := 0 + (id - first).toNat * 9) rfl ?_
         refine SQ.stA tt_ok rfl rfl (by repeat (first | apply Up.h | apply Up.t)) (by rfl) (wr_en g3 ((q.1.1, q.1.2.1, q.1.2.2.1, realV q.1.2.2.2), q.2) rest) (by repeat (first | exact trivial | refine ⟨trivial, ?_⟩ | refine ⟨wk (by repeat (first | exact .h | exact .q | apply At.t)) (by rfl), ?_⟩)) ?_
         refine G tt_ok pk141 ?_
         refine CW.ret (fin_ret rfl (Ent.trans pk_ (bk_close (b := b) (g := g) (n := es.length) (first := first) (rest := rest) (v := .slice (some ⟨g, 0, none⟩) es.length c0) (cs := (es.set (id - first).toNat ((q.1.1, q.1.2.1, q.1.2.2.1, realV q.1.2.2.2), q.2)).flatMap enC))) ⟨?_, ?_⟩)
         · simp_all [packV, putV]; rw [if_neg (by omega)]
         · simp_all [putV]; rw [if_neg (by omega)]))
-- part Fh
theorem idsV_len (f : Int) : ∀ n, (idsV f n).length = n
  | 0 => rfl
  | n + 1 => by simp [idsV, idsV_len f n]
theorem idsV_at (f : Int) : ∀ {n i : Nat}, i < n → (idsV f n)[i]? = some (IntKind.i64.wrap (f + i))
  | n + 1, i, h => by
    simp only [idsV]
    by_cases e : i = n
    · subst e; rw [List.getElem?_append_right (by rw [idsV_len]; omega), idsV_len]; simp
    · rw [List.getElem?_append_left (by rw [idsV_len]; omega)]; exact idsV_at f (by omega)
theorem pre_at {f : Int} {n : Nat} {pre : List Int} {x : Int} (h : (pre ++ [x]) <+: idsV f n) : pre.length < n ∧ x = IntKind.i64.wrap (f + pre.length) := by
  obtain ⟨t, ht⟩ := h
  have hl := congrArg List.length ht
  rw [idsV_len] at hl
  simp at hl
  have h1 : (idsV f n)[pre.length]? = some x := by rw [← ht]; simp
  rw [idsV_at f (by omega)] at h1
  exact ⟨by omega, by simpa using h1.symm⟩
theorem wrap_lt (x : Int) : IntKind.i64.wrap x < 9223372036854775808 := by rw [wrap_i64]; split <;> omega
def rdK (first : Int) (es : List En) (r f c : Int) : Nat → Int
  | 0 => 0
  | k + 1 => match atE first es (IntKind.i64.wrap (f + k)) with
    | some e => withV (rdK first es r f c k) r c k (showsV e.1 r)
    | none => rdK first es r f c k
theorem getSome (β : Base) (b : Nat) (q0 : Option Addr) (c0 : Nat) {first id : Int} {es : List En} {e : En} (h0 : 0 ≤ first) (h1 : first ≤ 16384) (h3 : id < 9223372036854775808) (h : atE first es id = some e) :
    Tri Tryz.prog β 139 [.pointer (some ⟨b, 0, none⟩), .int .i64 id] [pt b [.int .i64 first, .slice q0 es.length c0], rowA q0 es.length (es.flatMap enC)] (fun v L => v = .tuple #[.agg #[.bool e.1.1.1, .bool e.1.1.2.1, .bool e.1.1.2.2.1, .bool e.1.1.2.2.2, .bool e.1.2.1, .int .i64 e.1.2.2.1, .int .i64 e.1.2.2.2, .int .i64 e.2.1, .bool e.2.2], .int .i64 0] ∧
      L = [pt b [.int .i64 first, .slice q0 es.length c0], rowA q0 es.length (es.flatMap enC)]) := by
  have := get14 β b q0 c0 (es := es) h0 h1 h3
  simp only [getV, h] at this
  exact this
theorem getNone (β : Base) (b : Nat) (q0 : Option Addr) (c0 : Nat) {first id : Int} {es : List En} (h0 : 0 ≤ first) (h1 : first ≤ 16384) (h3 : id < 9223372036854775808) (h : atE first es id = none) :
    Tri Tryz.prog β 139 [.pointer (some ⟨b, 0, none⟩), .int .i64 id] [pt b [.int .i64 first, .slice q0 es.length c0], rowA q0 es.length (es.flatMap enC)] (fun v L => v = .tuple #[.agg #[.bool false, .bool false, .bool false, .bool false, .bool false, .int .i64 0, .int .i64 0, .int .i64 0, .bool false], .int .i64 90] ∧
      L = [pt b [.int .i64 first, .slice q0 es.length c0], rowA q0 es.length (es.flatMap enC)]) := by
  have := get14 β b q0 c0 (es := es) h0 h1 h3
  simp only [getV, h] at this
  exact this
def wr1 (first : Int) (es : List En) (r f c v : Int) (k : Nat) : List En × Bool :=
  match atE first es (IntKind.i64.wrap (f + k)) with
  | some e => let l := writtenV (IntKind.i64.wrap (f + k)) e.1 r (fieldV v r c k)
    if l = e.1 then (es, false) else ((putV first es (IntKind.i64.wrap (f + k)) (l, e.2)).1, true)
  | none => (es, false)
def wrK (first : Int) (es : List En) (r f c v : Int) : Nat → List En × Nat
  | 0 => (es, 0)
  | k + 1 => let p := wrK first es r f c v k
    let q := wr1 first p.1 r f c v k
    (q.1, p.2 + if q.2 then 1 else 0)
theorem wr1_len (first : Int) (es : List En) (r f c v : Int) (k : Nat) : (wr1 first es r f c v k).1.length = es.length := by
  unfold wr1; split
  · simp only; split
    · rfl
    · exact putV_len _ _ _ _
  · rfl
theorem wrK_len (first : Int) (es : List En) (r f c v : Int) : ∀ k, (wrK first es r f c v k).1.length = es.length
  | 0 => rfl
  | k + 1 => by simp only [wrK]; rw [wr1_len, wrK_len first es r f c v k]
theorem wrK_cnt (first : Int) (es : List En) (r f c v : Int) : ∀ k, (wrK first es r f c v k).2 ≤ k
  | 0 => Nat.le_refl _
  | k + 1 => by simp only [wrK]; have := wrK_cnt first es r f c v k; split <;> omega
-- part Fi
theorem written28' (β : Base) (id : Int) (e l t a en : Bool) (g p r x : Int) : Tri Tryz.prog β 153 [.int .i64 id, .agg #[.bool e, .bool l, .bool t, .bool a, .bool en, .int .i64 g, .int .i64 p], .int .i64 r, .int .u64 x] []
    (fun v L => v = .agg #[.bool (writtenV id ((e, l, t, a), en, g, p) r x).1.1, .bool (writtenV id ((e, l, t, a), en, g, p) r x).1.2.1, .bool (writtenV id ((e, l, t, a), en, g, p) r x).1.2.2.1, .bool (writtenV id ((e, l, t, a), en, g, p) r x).1.2.2.2, .bool (writtenV id ((e, l, t, a), en, g, p) r x).2.1, .int .i64 (writtenV id ((e, l, t, a), en, g, p) r x).2.2.1, .int .i64 (writtenV id ((e, l, t, a), en, g, p) r x).2.2.2] ∧ L = []) := written28 β id e l t a en g p r x
theorem put30' (β : Base) (b : Nat) (q0 : Option Addr) (c0 : Nat) {first id : Int} {es : List En} (q : En) (h0 : 0 ≤ first) (h1 : first ≤ 16384) (h3 : id < 9223372036854775808) :
    Tri Tryz.prog β 141 [.pointer (some ⟨b, 0, none⟩), .int .i64 id, .agg #[.bool q.1.1.1, .bool q.1.1.2.1, .bool q.1.1.2.2.1, .bool q.1.1.2.2.2, .bool q.1.2.1, .int .i64 q.1.2.2.1, .int .i64 q.1.2.2.2, .int .i64 q.2.1, .bool q.2.2]] [pt b [.int .i64 first, .slice q0 es.length c0], rowA q0 es.length (es.flatMap enC)]
      (fun v L => ∃ u, v = .int .i64 u ∧ L = [pt b [.int .i64 first, .slice q0 es.length c0], rowA q0 (putV first es id q).1.length ((putV first es id q).1.flatMap enC)]) :=
  (put30 β b q0 c0 q h0 h1 h3).mono fun v L ⟨e1, e2⟩ => ⟨_, e1, by rw [e2, bkA, putV_len]⟩
set_option maxHeartbeats 4000000 in
theorem write13 (β : Base) (b : Nat) (q0 : Option Addr) (c0 : Nat) {first : Int} {es0 : List En} (h0 : 0 ≤ first) (h1 : first ≤ 16384) (r f c v : Int) :
    Tri Tryz.prog β 142 [.pointer (some ⟨b, 0, none⟩), .agg #[.int .i64 r, .int .i64 f, .int .i64 c], .int .u64 v] (bkA b q0 c0 first es0) (fun u L => u = .int .i64 (wrK first es0 r f c v (cntV c)).2 ∧ L = bkA b q0 c0 first (wrK first es0 r f c v (cntV c)).1) := by
  refine Tri.intro tt_ok Tryz.func142 rfl rfl Tryz.ntmps142 rfl fun F => ?_
  unfold bkA
  (refine G tt_ok pk142 ?_; repeat (refine G1 tt_ok pk142 ?_; intro _))
  rename_i b3 b4 b5 b7 b8
  (refine SQ.call rfl rfl (ids25 β r f c) [] rfl ?_; rintro _ _ ⟨b1, rfl, rfl⟩; refine w_ ?_)
  refine G tt_ok pk142 ?_
  refine CW.rangeFunc rfl (iter44 β r f c b1) [0] rfl
    (fun pre => [pt b8 [.int .i64 pre.length], pt b7 [.int .i64 ((wrK first es0 r f c v pre.length).2 : Int)], pt b5 [.int .u64 v], pt b4 [.int .i64 r, .int .i64 f, .int .i64 c], pt b3 [.pointer (some ⟨b, 0, none⟩)], pt b [.int .i64 first, .slice q0 (wrK first es0 r f c v pre.length).1.length c0], rowA q0 (wrK first es0 r f c v pre.length).1.length ((wrK first es0 r f c v pre.length).1.flatMap enC)])
    (fun _ _ => False) (Ent.refl _) (fun _ => rfl) (by decide) ?_ ?_ (fun _ _ h => h.elim)
  · intro pre x hpre l fm rec1
    obtain ⟨hlt, hx⟩ := pre_at hpre
    have hx3 : x < 9223372036854775808 := by rw [hx]; exact wrap_lt _
    have hle : cntV c ≤ 16384 := by unfold cntV; omega
    have hw : IntKind.i64.wrap ((pre.length : Int) + 1) = (((pre ++ [x]).length : Nat) : Int) := by rw [wrap_i64]; simp; split <;> omega
    have hcn := wrK_cnt first es0 r f c v pre.length
    have hstep : wrK first es0 r f c v (pre ++ [x]).length = ((wr1 first (wrK first es0 r f c v pre.length).1 r f c v pre.length).1, (wrK first es0 r f c v pre.length).2 + if (wr1 first (wrK first es0 r f c v pre.length).1 r f c v pre.length).2 then 1 else 0) := by rw [List.length_append]; rfl
    rw [hstep]
    generalize wrK first es0 r f c v pre.length = z at hcn ⊢
    obtain ⟨es, m⟩ := z
    simp only at hcn ⊢
    have hwm : IntKind.i64.wrap ((m : Int) + 1) = ((m + 1 : Nat) : Int) := by rw [wrap_i64]; split <;> omega
    refine G tt_ok pk142 ?_
    intro fm2 rec2
    refine G tt_ok pk142 ?_
    cases h : atE first es x with
    | none =>
      have hq : wr1 first es r f c v pre.length = (es, false) := by simp only [wr1, ← hx, h]
      rw [hq]
      (refine SQ.call rfl rfl (getNone β b q0 c0 h0 h1 hx3 h) [5, 5] rfl ?_; rintro _ _ ⟨rfl, rfl⟩; refine w_ ?_)
      (refine G tt_ok pk142 ?_; repeat (refine G1 tt_ok pk142 ?_; intro _))
      (refine SQ.call rfl rfl (field29 β v r f c _) [] rfl ?_; rintro _ _ ⟨rfl, rfl⟩; refine w_ ?_)
      refine G tt_ok pk142 ?_
      (refine SQ.call rfl rfl (written28' β _ _ _ _ _ _ _ _ _ _) [] rfl ?_; rintro _ _ ⟨rfl, rfl⟩; refine w_ ?_)
      (refine G tt_ok pk142 ?_; repeat (refine G1 tt_ok pk142 ?_; intro _))
      rw [← hw]
      exact Ent.sel (is := [4, 4, 4, 4, 4, 2, 2, 2]) rfl
    | some e =>
      obtain ⟨⟨⟨a1, a2, a3, a4⟩, en, g, p⟩, tx⟩ := e
      (refine SQ.call rfl rfl (getSome β b q0 c0 h0 h1 hx3 h) [5, 5] rfl ?_; rintro _ _ ⟨rfl, rfl⟩; refine w_ ?_)
      (refine G tt_ok pk142 ?_; repeat (refine G1 tt_ok pk142 ?_; intro _))
      (refine SQ.call rfl rfl (field29 β v r f c _) [] rfl ?_; rintro _ _ ⟨rfl, rfl⟩; refine w_ ?_)
      refine G tt_ok pk142 ?_
      have hcall := written28' β x a1 a2 a3 a4 en g p r (fieldV v r c pre.length)
      have hq : wr1 first es r f c v pre.length = (let l := writtenV x ((a1, a2, a3, a4), en, g, p) r (fieldV v r c pre.length)
        if l = ((a1, a2, a3, a4), en, g, p) then (es, false) else ((putV first es x (l, tx)).1, true)) := by simp only [wr1, ← hx, h]
      generalize writtenV x ((a1, a2, a3, a4), en, g, p) r (fieldV v r c pre.length) = W at hcall hq
      obtain ⟨⟨w1, w2, w3, w4⟩, w5, w6, w7⟩ := W
      simp only at hcall hq
      rw [hq]
      (refine SQ.call rfl rfl (hcall) [] rfl ?_; rintro _ _ ⟨rfl, rfl⟩; refine w_ ?_)
      (refine G tt_ok pk142 ?_; repeat (refine G1 tt_ok pk142 ?_; intro _))
      by_cases hl : (((w1, w2, w3, w4), w5, w6, w7) : Ln) = ((a1, a2, a3, a4), en, g, p)
      · rw [if_pos hl]
        refine SQ.eqn tt_ok [230, 228] ⟨by kernel_rfl, by kernel_rfl, trivial⟩ rfl rfl (by kernel_rfl) false (by simp at hl ⊢; simp [hl]) ?_
        refine G tt_ok pk142 ?_
        rw [← hw]
        exact Ent.sel (is := [4, 4, 4, 4, 4, 2, 2, 2]) rfl
      · rw [if_neg hl]
        refine SQ.eqn tt_ok [230, 228] ⟨by kernel_rfl, by kernel_rfl, trivial⟩ rfl rfl (by kernel_rfl) true (by apply Decidable.byContradiction; intro hc; simp at hc; exact hl (by simp [hc])) ?_
        refine G tt_ok pk142 ?_
        (refine SQ.call rfl rfl (put30' β b q0 c0 (((w1, w2, w3, w4), w5, w6, w7), tx) h0 h1 hx3) [2, 2] rfl ?_; rintro _ _ ⟨u, rfl, rfl⟩; refine w_ ?_)
        refine G tt_ok pk142 ?_
        rw [← hw]
        simp only [putV_len, if_true]
        rw [hwm]
        exact Ent.sel (is := [4, 4, 4, 4, 4, 0, 0, 2]) rfl
  · refine G tt_ok pk142 ?_
    rw [idsV_len]
    refine CW.ret (fin_ret rfl (Ent.sel (is := [5, 5]) rfl) ⟨rfl, rfl⟩)
-- part Fx>
def updE (id r x : Int) (e : En) : En × Bool :=
  if writtenV id e.1 r x = e.1 then (e, false) else
  if (writtenV id e.1 r x).2.2.1 < 0 ∨ (writtenV id e.1 r x).2.2.1 > 1 ∨ (writtenV id e.1 r x).2.2.2 < 0 ∨ (writtenV id e.1 r x).2.2.2 > 255 then (e, true)
  else ((((writtenV id e.1 r x).1, (writtenV id e.1 r x).2.1, (writtenV id e.1 r x).2.2.1, realV (writtenV id e.1 r x).2.2.2), e.2), true)
theorem set_same {α : Type} {l : List α} {k : Nat} {a : α} (h : l[k]? = some a) : l.set k a = l := by
  apply List.ext_getElem?
  intro i
  by_cases e : k = i
  · subst e; rw [List.getElem?_set_self (List.getElem?_eq_some_iff.1 h).1, h]
  · rw [List.getElem?_set_ne e]
theorem wr1_upd (first : Int) (es : List En) (r f c v : Int) (k : Nat) : wr1 first es r f c v k = match atE first es (IntKind.i64.wrap (f + k)) with
    | some e => (es.set (IntKind.i64.wrap (f + k) - first).toNat (updE (IntKind.i64.wrap (f + k)) r (fieldV v r c k) e).1, (updE (IntKind.i64.wrap (f + k)) r (fieldV v r c k) e).2)
    | none => (es, false) := by
  unfold wr1
  cases h : atE first es (IntKind.i64.wrap (f + k)) with
  | none => rfl
  | some e =>
    obtain ⟨g1, g2, g3, g4, g5⟩ := atE_some h
    simp only [updE]
    split
    · simp only [set_same g3]
    · simp only [putV, h]
      split
      · simp only [set_same g3]
      · rfl
theorem atE_iff {first : Int} {es : List En} {id : Int} {e : En} : atE first es id = some e ↔ ∃ i : Nat, id = first + i ∧ es[i]? = some e := by
  constructor
  · intro h
    obtain ⟨g1, g2, g3, g4, g5⟩ := atE_some h
    exact ⟨(id - first).toNat, by omega, g3⟩
  · rintro ⟨i, rfl, h⟩
    unfold atE
    rw [if_pos (by omega), show (first + (i : Int) - first).toNat = i by omega, h]
theorem wrK_at {first : Int} {es : List En} {r f c v : Int} {N : Nat} (hf : ∀ k : Nat, k < N → IntKind.i64.wrap (f + k) = f + k) : ∀ m : Nat, m ≤ N → ∀ (i : Nat) (e : En), es[i]? = some e →
    (wrK first es r f c v m).1[i]? = some (if f ≤ first + i ∧ first + i < f + m then (updE (first + i) r (fieldV v r c (first + i - f)) e).1 else e)
  | 0, _, i, e, h => by rw [if_neg (by omega)]; exact h
  | m + 1, hm, i, e, h => by
    have ih := wrK_at (first := first) (es := es) (r := r) (c := c) (v := v) hf m (by omega) i e h
    simp only [wrK]
    rw [wr1_upd, hf m (by omega)]
    cases ha : atE first (wrK first es r f c v m).1 (f + m) with
    | none =>
      simp only
      rw [ih]
      have hne : first + (i : Int) ≠ f + m := fun h2 => by
        have : atE first (wrK first es r f c v m).1 (f + m) = some (if f ≤ first + (i : Int) ∧ first + (i : Int) < f + m then (updE (first + i) r (fieldV v r c (first + i - f)) e).1 else e) := atE_iff.2 ⟨i, h2.symm, ih⟩
        rw [ha] at this; cases this
      by_cases h3 : f ≤ first + (i : Int) ∧ first + (i : Int) < f + m
      · rw [if_pos h3, if_pos (by omega)]
      · rw [if_neg h3, if_neg (by omega)]
    | some e0 =>
      obtain ⟨j, hj, hje⟩ := atE_iff.1 ha
      simp only
      rw [show (f + (m : Int) - first).toNat = j by omega]
      by_cases hij : j = i
      · subst hij
        rw [List.getElem?_set_self (List.getElem?_eq_some_iff.1 hje).1, if_pos (by omega)]
        rw [ih, if_neg (by omega)] at hje
        injection hje with hje
        rw [hje, hj, show first + (j : Int) - f = (m : Int) by omega]
      · rw [List.getElem?_set_ne hij, ih]
        by_cases h3 : f ≤ first + (i : Int) ∧ first + (i : Int) < f + m
        · rw [if_pos h3, if_pos (by omega)]
        · rw [if_neg h3, if_neg (by omega)]
def okE (e : En) : Prop := 0 ≤ e.1.2.2.1 ∧ e.1.2.2.1 ≤ 1 ∧ 0 ≤ e.1.2.2.2 ∧ e.1.2.2.2 ≤ 255 ∧ realV e.1.2.2.2 = e.1.2.2.2
def okL (es : List En) : Prop := ∀ e ∈ es, okE e
theorem okL_at {es : List En} (h : okL es) {i : Nat} {e : En} (hi : es[i]? = some e) : okE e := h e (List.mem_of_getElem? hi)
theorem okL_set {es : List En} (h : okL es) {e : En} (he : okE e) (i : Nat) : okL (es.set i e) := fun x hx => by
  rcases List.mem_or_eq_of_mem_set hx with h2 | rfl
  · exact h x h2
  · exact he
theorem doV_ok {first : Int} {es : List En} {id x : Int} (h : okL es) : okL (doV first es id x).1 := by
  unfold doV
  split
  · rename_i e he
    obtain ⟨j, hj, hje⟩ := atE_iff.1 he
    exact okL_set h (by have := okL_at h hje; exact this) _
  · exact h
theorem okL_new (n : Nat) (tx : (Int × Bool)) : okL (List.replicate n (zeroE.1, tx)) := fun e he => by
  rw [List.eq_of_mem_replicate he]
  have h : okE (zeroE.1, (0, false)) := ⟨by decide, by decide, by decide, by decide, by decide⟩
  exact h
theorem enC_one (a : En) : scal (enC a) = true := rfl
set_option maxHeartbeats 2000000 in
theorem clone42 (β : Base) (q0 : Option Addr) (c0 : Nat) (es : List En) (hn : es.length ≤ 16384) :
    Tri Tryz.prog β 176 [.slice q0 es.length c0] [rowA q0 es.length (es.flatMap enC)] (fun v L => ∃ q1 c1, v = .slice q1 es.length c1 ∧ L = [rowA q0 es.length (es.flatMap enC), rowA q1 es.length (es.flatMap enC)]) := by
  refine Tri.intro tt_ok Tryz.func176 rfl rfl Tryz.ntmps176 rfl fun F => ?_
  cases q0 with
  | none =>
    refine CW.ent row_none (CW.pure_ fun h => ?_)
    obtain ⟨h1, h2⟩ := h
    rw [h1, h2]
    refine G tt_ok [] ?_
    refine CW.ret (fin_ret rfl (A := [rowA none 0 [], rowA none 0 []]) (Ent.trans row_nil row_nil) ?_)
    exact ⟨none, 0, rfl, rfl⟩
  | some a =>
    refine CW.ent row_some (CW.open_ fun y => ?_)
    obtain ⟨g, rest⟩ := y
    refine CW.pure_ fun hv => ?_
    simp only at hv
    subst hv
    refine G tt_ok [] ?_
    refine SQ.builtO tt_ok rfl rfl rfl rfl (fun b => ⟨(by repeat (first | exact trivial | refine ⟨trivial, ?_⟩ | refine ⟨wk (by repeat (first | exact .h | exact .q | apply At.t)) (by rfl), ?_⟩)), ?_⟩)
    refine G tt_ok [] ?_
    refine SQ.append tt_ok rfl rfl 0 rfl 1 (q := true) rfl (es.flatMap enC) (by rw [List.drop_zero]; exact List.take_left) (flatE_len (sz := 9) (fun _ => rfl) es) rfl (one_flat enC_one es) (by omega) (by show (0 + es.length) * 40 ≤ _; omega) (fun v' => ⟨(by repeat (first | exact trivial | refine ⟨trivial, ?_⟩ | refine ⟨wk (by repeat (first | exact .h | exact .q | apply At.t)) (by rfl), ?_⟩)), ?_⟩)
    refine SQ.ent _ (Ent.head (own_shape _ _ _ _ _)) ?_
    refine SQ.open_ fun x => ?_
    refine SQ.pure_ fun hv => ?_
    subst hv
    refine G tt_ok [] ?_
    have ho : Ent [own 232 9 (.slice x.1 (0 + es.length) x.2) (0 + es.length) ([] ++ es.flatMap enC)] [rowA x.1 es.length (es.flatMap enC)] := by
      rw [Nat.zero_add, List.nil_append]; exact own_row
    refine CW.ret (fin_ret rfl (A := [rowA (some ⟨g, 0, none⟩) es.length (es.flatMap enC), rowA x.1 es.length (es.flatMap enC)]) (Ent.trans (Ent.sel (is := [1, 0]) rfl) (Ent.append (L := [_]) (L' := [_]) row_close ho)) ?_)
    exact ⟨x.1, x.2, by rw [Nat.zero_add]; rfl, rfl⟩
theorem all21 (β : Base) (b : Nat) (q0 : Option Addr) (c0 : Nat) (first : Int) (es : List En) (hn : es.length ≤ 16384) :
    Tri Tryz.prog β 214 [.pointer (some ⟨b, 0, none⟩)] (bkA b q0 c0 first es) (fun v L => ∃ b1 b3 q1 c1, v = .func (.func 231) #[] #[.pointer (some ⟨b3, 0, none⟩), .pointer (some ⟨b1, 0, none⟩)] ∧
      L = [pt b3 [.slice q1 es.length c1], pt b1 [.pointer (some ⟨b, 0, none⟩)], rowA q1 es.length (es.flatMap enC)] ++ bkA b q0 c0 first es) := by
  refine Tri.intro tt_ok Tryz.func214 rfl rfl Tryz.ntmps214 rfl fun F => ?_
  (refine G tt_ok [] ?_; repeat (refine G1 tt_ok [] ?_; intro _))
  rename_i b1
  (refine ka rfl rfl (clone42 β q0 c0 es hn) ?_; rintro _ _ ⟨q1, c1, rfl, rfl⟩; refine w_ ?_)
  (refine G tt_ok [] ?_; repeat (refine G1 tt_ok [] ?_; intro _))
  rename_i b3
  refine CW.ret (fin_ret rfl (A := [pt b3 [.slice q1 es.length c1], pt b1 [.pointer (some ⟨b, 0, none⟩)], rowA q1 es.length (es.flatMap enC)] ++ bkA b q0 c0 first es) pk_ ?_)
  exact ⟨b1, b3, q1, c1, rfl, rfl⟩
def allV (first : Int) : List En → List (Int × En)
  | [] => []
  | e :: r => (first, e) :: allV (first + 1) r
theorem allV_len : ∀ (first : Int) (es : List En), (allV first es).length = es.length
  | _, [] => rfl
  | first, e :: r => by simp [allV, allV_len (first + 1) r]
theorem allV_at : ∀ {first : Int} {es : List En} {k : Nat} {e : En}, es[k]? = some e → (allV first es)[k]? = some (first + k, e)
  | _, [], _, _, h => by simp at h
  | first, a :: r, 0, e, h => by simp at h; subst h; simp [allV]
  | first, a :: r, k + 1, e, h => by
    have := allV_at (first := first + 1) (es := r) (k := k) (e := e) (by simpa using h)
    simp only [allV, List.getElem?_cons_succ]
    rw [this]; simp; omega
@[reducible] def peC (x : Int × En) : List Value := [.int .i64 x.1, .agg #[.bool x.2.1.1.1, .bool x.2.1.1.2.1, .bool x.2.1.1.2.2.1, .bool x.2.1.1.2.2.2, .bool x.2.1.2.1, .int .i64 x.2.1.2.2.1, .int .i64 x.2.1.2.2.2, .int .i64 x.2.2.1, .bool x.2.2.2]]
theorem allV_pre {first : Int} {es : List En} {pre : List (Int × En)} {x : Int × En} (h : (pre ++ [x]) <+: allV first es) : ∃ e, es[pre.length]? = some e ∧ x = (first + pre.length, e) := by
  obtain ⟨t, ht⟩ := h
  have hl := congrArg List.length ht
  rw [allV_len] at hl
  simp at hl
  obtain ⟨e, he⟩ : ∃ e, es[pre.length]? = some e := ⟨_, List.getElem?_eq_getElem (by omega)⟩
  have h1 := allV_at (first := first) he
  rw [← ht] at h1
  simp at h1
  exact ⟨e, he, h1⟩
theorem take_pre {α : Type} {l : List α} {k : Nat} {x : α} (h : l[k]? = some x) : (l.take k ++ [x]) <+: l := by
  have : l.take (k + 1) = l.take k ++ [x] := by rw [List.take_add_one, h]; rfl
  rw [← this]; exact List.take_prefix _ _
theorem rd_enq {cs : List Value} {off n : Nat} {ts : List En} (h : (cs.drop off).take (n * 9) = ts.flatMap enC) {k : Nat} {t : En} (hk : ts[k]? = some t) : rdv ti232 cs (off + k * 9) = some (.agg (enC t).toArray) :=
  rd_enc (enc := enC) (sz := 9) (fun _ => rfl) rfl rfl h hk
set_option maxHeartbeats 2000000 in
theorem iter43 (β : Base) (b b1 b3 : Nat) {q1 : Option Addr} {c1 : Nat} {first : Int} {es : List En} {S : Value} {A1 : Atom} (h1 : RdS β q1 es.length 9 (es.flatMap enC) A1) (hf0 : 0 ≤ first) (hf1 : first ≤ 16384) (hn : es.length ≤ 16384) (hS : vcells S = [S]) :
    Iter Tryz.prog β 231 [.pointer (some ⟨b3, 0, none⟩), .pointer (some ⟨b1, 0, none⟩)] [pt b3 [.slice q1 es.length c1], pt b1 [.pointer (some ⟨b, 0, none⟩)], pt b [.int .i64 first, S], A1] peC (allV first es) := by
  intro l J Jx hY
  refine Tri.intro tt_ok Tryz.func231 rfl rfl Tryz.ntmps231 rfl fun F => ?_
  refine G tt_ok pk231 ?_
  refine CW.loop (α := Nat) (fun k => k ≤ es.length) (fun k => [(8, .int .i64 k), (7, .int .i64 es.length), (6, .slice q1 es.length c1), (0, .func (.yield l) #[] #[]), (2, .pointer (some ⟨b1, 0, none⟩))])
    (fun k => [J ((allV first es).take k), pt b3 [.slice q1 es.length c1], pt b1 [.pointer (some ⟨b, 0, none⟩)], pt b [.int .i64 first, S], A1]) (fun k => es.length - k) 0 (by omega) ⟨rfl, rfl, rfl, rfl, rfl, trivial⟩ (Ent.refl _) ?_
  intro k hk
  refine G tt_ok pk231 ?_
  generalize e1 : decide ((k : Int) < (es.length : Int)) = c
  cases c
  · refine G tt_ok pk231 ?_
    refine CW.exit ?_
    have : k = es.length := by simp at e1; omega
    subst this
    refine fin_normal rfl (Ent.refl _) (.inl ?_)
    rw [List.take_of_length_le (by rw [allV_len]; omega)]
  · have hlt : k < es.length := by simp at e1; omega
    have hw : IntKind.i64.wrap ((k : Int) + 1) = ((k + 1 : Nat) : Int) := by rw [wrap_i64]; split <;> omega
    have hwf : IntKind.i64.wrap (first + (k : Int)) = first + k := by rw [wrap_i64]; split <;> omega
    obtain ⟨e, he⟩ : ∃ e, es[k]? = some e := ⟨_, List.getElem?_eq_getElem hlt⟩
    obtain ⟨bs, os, qs, cs, rfl, rfl, hcs⟩ := h1.2.resolve_left (by omega)
    have hat := allV_at (first := first) he
    have htk : (allV first es).take (k + 1) = (allV first es).take k ++ [(first + k, e)] := by rw [List.take_add_one, hat]; rfl
    refine G tt_ok pk231 ?_
    refine SQ.idx tt_ok rfl rfl k rfl hlt (o' := os + k * 9) rfl ?_
    refine SQ.loadq tt_ok rfl rfl 4 rfl (rd_enq hcs he) ?_
    (refine G tt_ok pk231 ?_; repeat (refine G1 tt_ok pk231 ?_; intro _))
    rw [hwf]
    (refine SQ.yield rfl rfl (hY ((allV first es).take k) (first + k, e) (take_pre hat)) [1, 1, 1, 1, 1] rfl ?_; rintro _ _ (⟨rfl, rfl⟩ | ⟨rfl, rfl⟩) <;> refine w_ ?_)
    · refine G tt_ok pk231 ?_
      refine ⟨k + 1, by omega, by omega, ⟨by rw [← hw]; rfl, rfl, rfl, rfl, rfl, trivial⟩, ?_⟩
      rw [htk]
      exact pk_
    · refine G tt_ok pk231 ?_
      exact CW.ret (fin_ret rfl pk_ (.inr ⟨_, rfl⟩))
-- part Gj>
-- part Ft
@[reducible] def pk83 : List (Nat × Plan) := [(7, [(0, 0, []), (1, 0, []), (2, 0, []), (3, 0, []), (4, 0, []), (5, 0, []), (6, 0, []), (7, 0, []), (8, 1, [])])]
theorem made_flat_of {α : Type} {enc : α → List Value} {a : α} (z : Array Value) (hz : enc a = z.toList) (hp : 0 < z.size) : ∀ n, (madeCells z (n * z.size)).toList = (List.replicate n a).flatMap enc
 | 0 => by simp [madeCells]
 | n + 1 => by
  have ih := made_flat_of z hz hp n
  rw [List.replicate_succ', List.flatMap_append, ← ih]
  simp only [madeCells, Array.toList_map, Array.toList_range, List.flatMap_cons, List.flatMap_nil, List.append_nil]
  rw [Nat.add_mul, Nat.one_mul, List.range_add, List.map_append, hz]
  congr 1
  apply List.ext_getElem?
  intro i
  rw [List.map_map]
  by_cases hi : i < z.size
  ·simp [hi, Nat.mod_eq_of_lt hi, getElem!_pos]
  ·simp [hi]
theorem made_flat (n : Nat) : (madeCells ti232.zero.cells (n * ti232.size)).toList = (List.replicate n zeroE).flatMap enC :=
 made_flat_of (enc := enC) (a := zeroE) ti232.zero.cells rfl (by decide) n
def newK (tx : (Int × Bool)) (n k : Nat) : List En := List.replicate k (zeroE.1, tx) ++ List.replicate (n - k) zeroE
theorem newK_at {tx : (Int × Bool)} {n k : Nat} (h : k < n) : (newK tx n k)[k]? = some zeroE := by
 obtain ⟨m, hm⟩ : ∃ m, n - k = m + 1 := ⟨n - k - 1, by omega⟩
 unfold newK
 rw [List.getElem?_append_right (by simp), List.length_replicate, Nat.sub_self, hm]
 rfl
theorem newK_set {tx : (Int × Bool)} {n k : Nat} (h : k < n) : (newK tx n k).set k (zeroE.1, tx) = newK tx n (k + 1) := by
 unfold newK
 obtain ⟨m, hm⟩ : ∃ m, n - k = m + 1 := ⟨n - k - 1, by omega⟩
 rw [hm, show n - (k + 1) = m from by omega, List.set_append_right _ _ (by simp), List.length_replicate, Nat.sub_self, List.replicate_succ (n := m), List.set_cons_zero, List.replicate_succ' (n := k), List.append_assoc]
 rfl
theorem wr_tx {tx : (Int × Bool)} {es : List En} {k : Nat} {e : En} (h : es[k]? = some e) : wrv ti162 (es.flatMap enC) (bif Nat.beq (0 + k * 9) 0 then 7 else 0 + k * 9 + 7) (.agg #[.int .i64 tx.1, .bool tx.2]) = some ((es.set k (e.1, tx)).flatMap enC) :=
 wr_enc (enc := enC) (sz := 9) (fun _ => rfl) h 7 (i := ti162) (by decide) rfl rfl (by rw [off_add]; omega)
set_option maxHeartbeats 2000000 in
theorem bankNew (β : Base) {first n : Int} (h0 : 0 ≤ first) (h1 : 0 ≤ n) (h2 : first + n ≤ 16384) (tx : (Int × Bool)) :
  Tri Tryz.prog β 83 [.int .i64 first, .int .i64 n, (.agg #[.int .i64 tx.1, .bool tx.2])] [] (fun v L => ∃ b q0 c0, v = .tuple #[.pointer (some ⟨b, 0, none⟩), .int .i64 0] ∧ L = bkA b q0 c0 first (List.replicate n.toNat (zeroE.1, tx))) := by
 obtain ⟨m, rfl⟩ : ∃ m : Nat, n = (m : Int) := ⟨n.toNat, by omega⟩
 have hw0 : IntKind.i64.wrap (16384 - first) = 16384 - first := by rw [wrap_i64]; split <;> omega
 refine Tri.intro tt_ok Tryz.func83 rfl rfl Tryz.ntmps83 rfl fun F => ?_
 (refine G tt_ok pk83 ?_; repeat (refine G1 tt_ok pk83 ?_; intro _))
 rw [decide_eq_false (show ¬ first < 0 by omega)]
 refine G tt_ok pk83 ?_
 rw [decide_eq_false (show ¬ (m : Int) < 0 by omega)]
 refine G tt_ok pk83 ?_
 rw [decide_eq_false (show ¬ first > 16384 by omega)]
 refine G tt_ok pk83 ?_
 rw [hw0, decide_eq_false (show ¬ (m : Int) > 16384 - first by omega)]
 refine G tt_ok pk83 ?_
 refine SQ.make tt_ok rfl rfl m rfl rfl (show m * 9 ≤ 16777216 by omega) (show 40 * m ≤ 281474976710656 by omega) (by omega) (fun eb => ⟨(by repeat (first | exact trivial | refine ⟨trivial, ?_⟩ | refine ⟨wk (by repeat (first | exact .h | exact .q | apply At.t)) (by rfl), ?_⟩)), ?_⟩)
 rw [made_flat]
 (refine G tt_ok pk83 ?_; repeat (refine G1 tt_ok pk83 ?_; intro _))
 rename_i b5 b
 refine CW.loop (α := Nat) (fun k => k ≤ m) (fun k => [(36, .int .i64 k), (35, .int .i64 m), (8, .pointer (some ⟨b, 0, none⟩)), (5, .pointer (some ⟨b5, 0, none⟩))])
  (fun k => [pt b [.int .i64 first, .slice (some ⟨eb, 0, none⟩) m m], pt eb ((newK tx m k).flatMap enC), pt b5 [.int .i64 tx.1, .bool tx.2]]) (fun k => m - k) 0 (by omega) ⟨rfl, rfl, rfl, rfl, trivial⟩ (by rw [show newK tx m 0 = List.replicate m zeroE by simp [newK]]; exact pk_) ?_
 intro k hk
 refine G tt_ok pk83 ?_
 generalize e1 : decide ((k : Int) < (m : Int)) = cc
 cases cc
 ·have : k = m := by simp at e1; omega
  subst this
  refine G tt_ok pk83 ?_
  refine CW.exit ?_
  refine G tt_ok pk83 ?_
  have hnk : (newK tx k k).length = k := by simp [newK]
  refine CW.ret (fin_ret rfl (Ent.trans (M := [pt b [.int .i64 first, .slice (some ⟨eb, 0, none⟩) k k], pt eb ((newK tx k k).flatMap enC)]) pk_ (Ent.cons _ (row_close0 (n := k)))) ?_)
  refine ⟨b, some ⟨eb, 0, none⟩, k, rfl, ?_⟩
  simp [bkA, newK]
 ·have hlt : k < m := by simp at e1; omega
  have hw : IntKind.i64.wrap ((k : Int) + 1) = ((k + 1 : Nat) : Int) := by rw [wrap_i64]; split <;> omega
  refine G tt_ok pk83 ?_
  refine SQ.idx tt_ok rfl rfl k rfl hlt (o' := 0 + k * 9) rfl ?_
  refine G tt_ok pk83 ?_
  refine SQ.stA tt_ok rfl rfl (by repeat (first | apply Up.h | apply Up.t)) (by rfl) (wr_tx (tx := tx) (newK_at hlt)) (by repeat (first | exact trivial | refine ⟨trivial, ?_⟩ | refine ⟨wk (by repeat (first | exact .h | exact .q | apply At.t)) (by rfl), ?_⟩)) ?_
  rw [newK_set hlt]
  refine G tt_ok pk83 ?_
  exact ⟨k + 1, by omega, by omega, ⟨by rw [← hw]; rfl, rfl, rfl, rfl, trivial⟩, pk_⟩
end Go.Proofs.YtakkogdmlbkdaaaGreatDoor.Sl.Br
namespace Go.Proofs.YtakkogdmlbkdaaaGreatDoor.Sl
attribute [local irreducible] CW Tri OW
structure CR where
 b : Nat
 q : Option Addr
 c : Nat
 es : List Bn.En
 sl : Bool
def CR.bank (x : CR) : List Atom := Bn.bkA x.b x.q x.c 0 x.es
@[reducible] def crC (x : CR) : List Value := [.pointer (some ⟨x.b, 0, none⟩), .bool x.sl]
def bksA (xs : List CR) : Atom := packA (xs.flatMap CR.bank)
theorem bks_open {xs : List CR} {k : Nat} {x : CR} (h : xs[k]? = some x) : Ent [bksA xs] (x.bank ++ [bksA (xs.eraseIdx k)]) := by
 have p : (xs.flatMap CR.bank).Perm (x.bank ++ (xs.eraseIdx k).flatMap CR.bank) := by
  have := (perm_ix h).flatMap_right CR.bank
  simpa using this
 have e1 := Ent.unpack (xs.flatMap CR.bank) []
 rw [List.append_nil] at e1
 refine e1.trans ((Ent.perm p).trans (Ent.append (Ent.refl _) ?_))
 have e2 := Ent.pack ((xs.eraseIdx k).flatMap CR.bank) []
 rw [List.append_nil] at e2
 exact e2
theorem bks_close {xs : List CR} {k : Nat} (x : CR) (h : k < xs.length) : Ent (x.bank ++ [bksA (xs.eraseIdx k)]) [bksA (xs.set k x)] := by
 have h2 : (xs.set k x)[k]? = some x := List.getElem?_set_self h
 have p : (x.bank ++ (xs.eraseIdx k).flatMap CR.bank).Perm ((xs.set k x).flatMap CR.bank) := by
  have := (perm_ix h2).flatMap_right CR.bank
  rw [List.eraseIdx_set_eq] at this
  simpa using this.symm
 have e1 := Ent.unpack ((xs.eraseIdx k).flatMap CR.bank) []
 rw [List.append_nil] at e1
 have e2 := Ent.pack ((xs.set k x).flatMap CR.bank) []
 rw [List.append_nil] at e2
 exact (Ent.append (Ent.refl _) e1).trans ((Ent.perm p).trans e2)
structure DS where
 o0 : Bool
 o1 : Bool
 sb : Nat
 sq : Option Addr
 sc : Nat
 sh : List Br.En
 qc : Option Addr
 cc : Nat
 xs : List CR
def dA (d : Nat) (D : DS) : List Atom := [pt d [.bool D.o0, .bool D.o1, .pointer (some ⟨D.sb, 0, none⟩), .slice D.qc D.xs.length D.cc], rowA D.qc D.xs.length (D.xs.flatMap crC), bksA D.xs] ++ Br.bkA D.sb D.sq D.sc 32 D.sh
def rightV (n : Nat) (k : Int) : Bool := decide (k ≥ 0) && decide (k < n)
theorem right55 (β : Base) (d : Nat) (a b c : Value) (ha : vcells a = [a]) (hb : vcells b = [b]) (hc : vcells c = [c]) (q : Option Addr) (n cc : Nat) (k : Int) : Tri Tryz.prog β 100 [.pointer (some ⟨d, 0, none⟩), .int .i64 k] [pt d [a, b, c, .slice q n cc]] (fun v L => v = .bool (rightV n k) ∧ L = [pt d [a, b, c, .slice q n cc]]) := by
 refine Tri.intro tt_ok Tryz.func100 rfl rfl Tryz.ntmps100 rfl fun F => ?_
 (repeat' (first | refine CW.seq ?_ | refine CW.region tt_ok rfl ?_ | refine CW.block ?_ | refine CW.skip ?_ | refine SQ.nil ?_ | refine SQ.pures1 tt_ok rfl ?_ | refine SQ.pure1 tt_ok rfl ?_ | refine SQ.new _ _ rfl rfl (fun _ => ?_) | refine SQ.ldA tt_ok rfl rfl (by repeat (first | exact .h | exact .q | apply At.t)) (by rfl) ?_ | refine SQ.stA tt_ok rfl rfl (by repeat (first | apply Up.h | apply Up.t)) (by rfl) (by rfl) (by exact trivial) ?_ | refine CW.cond_tt rfl ?_ | refine CW.cond_ff rfl ?_ | ((first | refine CW.cond rfl (fun hc => ?_) (fun hc => ?_) | refine SQ.gsplit rfl (fun hc => ?_) (fun hc => ?_)) <;> try (exfalso; simp_all; done))))
 all_goals (refine CW.ret (fin_ret rfl (Ent.refl _) ⟨?_, rfl⟩); simp_all [packV, rightV]; try omega)
theorem rd_own {xs : List CR} {k : Nat} {x : CR} (h : xs[k]? = some x) (X : List Value) : rdv ti166 (xs.flatMap crC ++ X) (0 + k * 2) = some (.pointer (some ⟨x.b, 0, none⟩)) :=
 rd_partR (enc := crC) (sz := 2) (fun _ => rfl) h 0 (i := ti166) rfl (by decide) (by omega) (by decide) X
theorem rd_core {xs : List CR} {k : Nat} {x : CR} (h : xs[k]? = some x) (X : List Value) : rdv ti173 (xs.flatMap crC ++ X) (0 + k * 2) = some (.agg #[.pointer (some ⟨x.b, 0, none⟩), .bool x.sl]) :=
 rd_partR (enc := crC) (sz := 2) (fun _ => rfl) h 0 (i := ti173) rfl (by decide) (by omega) (by decide) X
theorem rd_sl {xs : List CR} {k : Nat} {x : CR} (h : xs[k]? = some x) (X : List Value) : rdv ti4 (xs.flatMap crC ++ X) (bif Nat.beq (0 + k * 2) 0 then 1 else 0 + k * 2 + 1) = some (.bool x.sl) :=
 rd_partR (enc := crC) (sz := 2) (fun _ => rfl) h 1 (i := ti4) rfl (by decide) (by rw [off_add]; omega) (by decide) X
theorem wr_sl {xs : List CR} {k : Nat} {x : CR} (h : xs[k]? = some x) (s : Bool) (X : List Value) : wrv ti4 (xs.flatMap crC ++ X) (bif Nat.beq (0 + k * 2) 0 then 1 else 0 + k * 2 + 1) (.bool s) = some ((xs.set k { x with sl := s }).flatMap crC ++ X) :=
 wr_encR (enc := crC) (sz := 2) (fun _ => rfl) h 1 (i := ti4) (by decide) rfl rfl (by rw [off_add]; omega) X
def asleepV (xs : List CR) (k : Int) : Bool := if rightV xs.length k then (match xs[k.toNat]? with | some x => x.sl | none => true) else true
theorem right_at {xs : List CR} {k : Int} (h : rightV xs.length k = true) : ∃ x, xs[k.toNat]? = some x ∧ k.toNat < xs.length ∧ k = (k.toNat : Int) := by
 simp [rightV] at h
 exact ⟨_, List.getElem?_eq_getElem (show k.toNat < xs.length by omega), by omega, by omega⟩
theorem asleep22 (β : Base) (d : Nat) (D : DS) (k : Int) : Tri Tryz.prog β 81 [.pointer (some ⟨d, 0, none⟩), .int .i64 k] [pt d [.bool D.o0, .bool D.o1, .pointer (some ⟨D.sb, 0, none⟩), .slice D.qc D.xs.length D.cc], rowA D.qc D.xs.length (D.xs.flatMap crC)]
  (fun v L => v = .bool (asleepV D.xs k) ∧ L = [pt d [.bool D.o0, .bool D.o1, .pointer (some ⟨D.sb, 0, none⟩), .slice D.qc D.xs.length D.cc], rowA D.qc D.xs.length (D.xs.flatMap crC)]) := by
 obtain ⟨o0, o1, sb, sq, sc, sh, qc, cc, xs⟩ := D
 simp only
 refine Tri.intro tt_ok Tryz.func81 rfl rfl Tryz.ntmps81 rfl fun F => ?_
 refine G tt_ok [] ?_
 refine ke rfl rfl (right55 β d _ _ _ rfl rfl rfl qc xs.length cc k) ?_
 unfold asleepV
 cases hr : rightV xs.length k with
 | false =>
  refine G tt_ok [] ?_
  exact CW.ret (fin_ret rfl pk_ ⟨rfl, rfl⟩)
 | true =>
  obtain ⟨x, hx, hl, hk⟩ := right_at hr
  refine SQ.ent _ (Rm.to (A := rowA qc xs.length (xs.flatMap crC)) (by repeat (first | exact Rm.h | apply Rm.t)) (row_open (by omega))) ?_
  refine SQ.open_ fun y => ?_
  obtain ⟨g, rest⟩ := y
  refine SQ.pure_ fun hv => ?_
  simp only at hv
  subst hv
  refine G tt_ok [] ?_
  refine SQ.idx tt_ok rfl rfl k.toNat hk hl (o' := 0 + k.toNat * 2) rfl ?_
  refine G tt_ok [] ?_
  refine SQ.ldA tt_ok rfl rfl (by repeat (first | exact .h | exact .q | apply At.t)) (rd_sl hx rest) ?_
  refine G tt_ok [] ?_
  rw [hx]
  refine CW.ret (fin_ret rfl (Ent.trans (Rm.to (A := pt g (xs.flatMap crC ++ rest)) (by repeat (first | exact Rm.h | apply Rm.t)) (row_close (n := xs.length))) (Tk.ent (As := [pt d [.bool o0, .bool o1, .pointer (some ⟨sb, 0, none⟩), .slice (some ⟨g, 0, none⟩) xs.length cc], rowA (some ⟨g, 0, none⟩) xs.length (xs.flatMap crC)]) (by repeat (first | exact .n | exact Rm.h | apply Tk.c | apply Rm.t)))) ⟨rfl, rfl⟩)
theorem Tk.to {As L F B : List Atom} (h : Tk As L F) (e : Ent As B) : Ent L (B ++ F) := h.gives.trans (Ent.append e (Ent.refl F))
theorem flat_set_same {α : Type} {enc : α → List Value} {xs : List α} {k : Nat} {x y : α} (h : xs[k]? = some x) (he : enc y = enc x) : (xs.set k y).flatMap enc = xs.flatMap enc := by
 rw [List.flatMap_def, List.flatMap_def, List.map_set, he]
 congr 1
 apply List.ext_getElem?
 intro i
 by_cases e : k = i
 ·subst e
  rw [List.getElem?_set_self (by rw [List.length_map]; exact (List.getElem?_eq_some_iff.1 h).1), List.getElem?_map, h]; rfl
 ·rw [List.getElem?_set_ne e]
theorem bks_shut {xs : List CR} {k : Nat} {x : CR} (h : xs[k]? = some x) : Ent (x.bank ++ [bksA (xs.eraseIdx k)]) [bksA xs] := by
 have := bks_close (xs := xs) (k := k) x (List.getElem?_eq_some_iff.1 h).1
 have e : xs.set k x = xs := by
  apply List.ext_getElem?
  intro i
  by_cases e : k = i
  ·subst e; rw [List.getElem?_set_self (List.getElem?_eq_some_iff.1 h).1, h]
  ·rw [List.getElem?_set_ne e]
 rwa [e] at this
def DS.doV (D : DS) (k id a : Int) : DS × Int :=
 if rightV D.xs.length k then
  if id < 32 then (match D.xs[k.toNat]? with
   | some x => ({ D with xs := D.xs.set k.toNat { x with es := (Bn.doV 0 x.es id a).1 } }, (Bn.doV 0 x.es id a).2)
   | none => (D, 0))
  else ({ D with sh := (Br.doV 32 D.sh id a).1 }, (Br.doV 32 D.sh id a).2)
 else (D, 130)
set_option maxHeartbeats 2000000 in
theorem do23 (β : Base) (d : Nat) (D : DS) (k id a : Int) (hid : id < 9223372036854775808) : Tri Tryz.prog β 53 [.pointer (some ⟨d, 0, none⟩), .int .i64 k, .int .i64 id, .int .i64 a] (dA d D) (fun v L => v = .int .i64 (D.doV k id a).2 ∧ L = dA d (D.doV k id a).1) := by
 obtain ⟨o0, o1, sb, sq, sc, sh, qc, cc, xs⟩ := D
 refine Tri.intro tt_ok Tryz.func53 rfl rfl Tryz.ntmps53 rfl fun F => ?_
 unfold dA DS.doV
 simp only
 refine G tt_ok [] ?_
 refine ke rfl rfl (right55 β d _ _ _ rfl rfl rfl qc xs.length cc k) ?_
 cases hr : rightV xs.length k with
 | false =>
  refine G tt_ok [] ?_
  exact CW.ret (fin_ret rfl pk_ ⟨rfl, rfl⟩)
 | true =>
  obtain ⟨x, hx, hl, hk⟩ := right_at hr
  rw [if_pos rfl, hx]
  by_cases h32 : id < 32
  ·rw [if_pos h32]
   refine G tt_ok [] ?_
   rw [decide_eq_true h32]
   refine CW.ent (Rm.to (A := rowA qc xs.length (xs.flatMap crC)) (by repeat (first | exact Rm.h | apply Rm.t)) (row_open (by omega))) ?_
   refine CW.open_ fun y => ?_
   obtain ⟨g, rest⟩ := y
   refine CW.pure_ fun hv => ?_
   simp only at hv
   subst hv
   refine CW.ent (Rm.to (A := bksA xs) (by repeat (first | exact Rm.h | apply Rm.t)) (bks_open hx)) ?_
   refine G tt_ok [] ?_
   refine SQ.idx tt_ok rfl rfl k.toNat hk hl (o' := 0 + k.toNat * 2) rfl ?_
   refine G tt_ok [] ?_
   refine SQ.ldA tt_ok rfl rfl (by repeat (first | exact .h | exact .q | apply At.t)) (rd_own hx rest) ?_
   refine G tt_ok [] ?_
   refine ke rfl rfl (Bn.do35 β x.b x.q x.c (first := 0) (id := id) (x := a) (es := x.es) (by omega) (by omega) hid) ?_
   refine G tt_ok [] ?_
   refine CW.ret (fin_ret rfl (A := dA d ⟨o0, o1, sb, sq, sc, sh, some ⟨g, 0, none⟩, cc, xs.set k.toNat { x with es := (Bn.doV 0 x.es id a).1 }⟩) ?_ ⟨rfl, rfl⟩)
   unfold dA
   simp only [List.length_set]
   rw [flat_set_same (enc := crC) (y := { x with es := (Bn.doV 0 x.es id a).1 }) hx rfl]
   refine Ent.trans (Rm.to (A := pt g (xs.flatMap crC ++ rest)) (by repeat (first | exact Rm.h | apply Rm.t)) (row_close (n := xs.length))) ?_
   refine Ent.trans (Tk.to (As := CR.bank { x with es := (Bn.doV 0 x.es id a).1 } ++ [bksA (xs.eraseIdx k.toNat)]) (by repeat (first | exact .n | exact Rm.h | apply Tk.c | apply Rm.t)) (bks_close _ hl)) ?_
   exact pk_
  ·rw [if_neg h32]
   refine G tt_ok [] ?_
   rw [decide_eq_false h32]
   refine G tt_ok [] ?_
   refine ke rfl rfl (Br.do35 β sb sq sc (first := 32) (id := id) (x := a) (es := sh) (by omega) (by omega) hid) ?_
   refine G tt_ok [] ?_
   exact CW.ret (fin_ret rfl pk_ ⟨rfl, rfl⟩)
def DS.getV (D : DS) (k id : Int) : Ln × Int :=
 if rightV D.xs.length k then
  if id < 32 then (match D.xs[k.toNat]? with
   | some x => ((Bn.getV 0 x.es id).1.1, (Bn.getV 0 x.es id).2)
   | none => (zeroL, 0))
  else ((Br.getV 32 D.sh id).1.1, (Br.getV 32 D.sh id).2)
 else (zeroL, 130)
theorem getR (β : Base) (b : Nat) (q0 : Option Addr) (c0 : Nat) {first id : Int} {es : List Br.En} (h0 : 0 ≤ first) (h1 : first ≤ 16384) (h3 : id < 9223372036854775808) :
  Tri Tryz.prog β 139 [.pointer (some ⟨b, 0, none⟩), .int .i64 id] (Br.bkA b q0 c0 first es) (fun v L => v = .tuple #[.agg #[.bool (Br.getV first es id).1.1.1.1, .bool (Br.getV first es id).1.1.1.2.1, .bool (Br.getV first es id).1.1.1.2.2.1, .bool (Br.getV first es id).1.1.1.2.2.2, .bool (Br.getV first es id).1.1.2.1, .int .i64 (Br.getV first es id).1.1.2.2.1, .int .i64 (Br.getV first es id).1.1.2.2.2, .int .i64 (Br.getV first es id).1.2.1, .bool (Br.getV first es id).1.2.2], .int .i64 (Br.getV first es id).2] ∧ L = Br.bkA b q0 c0 first es) := Br.get14 β b q0 c0 h0 h1 h3
def leastV : List CR → Int → Int
 | [], _ => -1
 | x :: r, k => if x.sl then leastV r (k + 1) else k
theorem leastV_step {xs : List CR} {k : Nat} {x : CR} (h : xs[k]? = some x) : leastV (xs.drop k) k = if x.sl then leastV (xs.drop (k + 1)) ((k + 1 : Nat) : Int) else k := by
 rw [List.drop_eq_getElem_cons (List.getElem?_eq_some_iff.1 h).1, (List.getElem?_eq_some_iff.1 h).2]
 rfl
theorem least54 (β : Base) (d : Nat) (o0 o1 : Bool) (sb : Nat) (qc : Option Addr) (cc : Nat) (xs : List CR) (hn : xs.length ≤ 1000) : Tri Tryz.prog β 232 [.pointer (some ⟨d, 0, none⟩)] [pt d [.bool o0, .bool o1, .pointer (some ⟨sb, 0, none⟩), .slice qc xs.length cc], rowA qc xs.length (xs.flatMap crC)]
  (fun v L => v = .int .i64 (leastV xs 0) ∧ L = [pt d [.bool o0, .bool o1, .pointer (some ⟨sb, 0, none⟩), .slice qc xs.length cc], rowA qc xs.length (xs.flatMap crC)]) := by
 refine Tri.intro tt_ok Tryz.func232 rfl rfl Tryz.ntmps232 rfl fun F => ?_
 refine G tt_ok [] ?_
 refine CW.loop (α := Nat) (fun k => k ≤ xs.length ∧ leastV xs 0 = leastV (xs.drop k) k) (fun k => [(10, .int .i64 k), (9, .int .i64 xs.length), (8, .slice qc xs.length cc)])
  (fun k => [pt d [.bool o0, .bool o1, .pointer (some ⟨sb, 0, none⟩), .slice qc xs.length cc], rowA qc xs.length (xs.flatMap crC)]) (fun k => xs.length - k) 0 ⟨by omega, rfl⟩ ⟨rfl, rfl, rfl, trivial⟩ (Ent.refl _) ?_
 rintro k ⟨hk, hv0⟩
 refine G tt_ok [] ?_
 generalize e1 : decide ((k : Int) < (xs.length : Int)) = c
 cases c
 ·have : k = xs.length := by simp at e1; omega
  subst this
  refine G tt_ok [] ?_
  refine CW.exit ?_
  refine G tt_ok [] ?_
  rw [hv0, List.drop_length]
  exact CW.ret (fin_ret rfl pk_ ⟨rfl, rfl⟩)
 ·have hlt : k < xs.length := by simp at e1; omega
  have hw : IntKind.i64.wrap ((k : Int) + 1) = ((k + 1 : Nat) : Int) := by rw [wrap_i64]; split <;> omega
  obtain ⟨x, hx⟩ : ∃ x, xs[k]? = some x := ⟨_, List.getElem?_eq_getElem hlt⟩
  have hst := leastV_step hx
  refine CW.ent (Rm.to (A := rowA qc xs.length (xs.flatMap crC)) (by repeat (first | exact Rm.h | apply Rm.t)) (row_open (by omega))) ?_
  refine CW.open_ fun y => ?_
  obtain ⟨g, rest⟩ := y
  refine CW.pure_ fun hv => ?_
  simp only at hv
  subst hv
  refine G tt_ok [] ?_
  refine SQ.idx tt_ok rfl rfl k rfl hlt (o' := 0 + k * 2) rfl ?_
  refine SQ.ldA tt_ok rfl rfl (by repeat (first | exact .h | exact .q | apply At.t)) (rd_core hx rest) ?_
  (refine G tt_ok [] ?_; repeat (refine G1 tt_ok [] ?_; intro _))
  cases hs : x.sl with
  | true =>
   rw [hs] at hst
   refine G tt_ok [] ?_
   refine ⟨k + 1, ⟨by omega, by rw [hv0, hst]; rfl⟩, by omega, ⟨by rw [← hw]; rfl, rfl, rfl, trivial⟩, ?_⟩
   exact Ent.trans (Rm.to (A := pt g (xs.flatMap crC ++ rest)) (by repeat (first | exact Rm.h | apply Rm.t)) (row_close (n := xs.length))) pk_
  | false =>
   rw [hs] at hst
   refine G tt_ok [] ?_
   rw [hv0, hst]
   exact CW.ret (fin_ret rfl (Ent.trans (Rm.to (A := pt g (xs.flatMap crC ++ rest)) (by repeat (first | exact Rm.h | apply Rm.t)) (row_close (n := xs.length))) (Tk.ent (As := [pt d [.bool o0, .bool o1, .pointer (some ⟨sb, 0, none⟩), .slice (some ⟨g, 0, none⟩) xs.length cc], rowA (some ⟨g, 0, none⟩) xs.length (xs.flatMap crC)]) (by repeat (first | exact .n | exact Rm.h | apply Tk.c | apply Rm.t)))) ⟨rfl, rfl⟩)
def targetV (sh : List Br.En) (xs : List CR) (id : Int) : Int := match Br.atE 32 sh id with
 | none => -1
 | some e => if e.2.2 then leastV xs 0 else if rightV xs.length e.2.1 then e.2.1 else -1
set_option maxHeartbeats 2000000 in
theorem target19 (β : Base) (d : Nat) (o0 o1 : Bool) (sb : Nat) (sq : Option Addr) (sc : Nat) (sh : List Br.En) (qc : Option Addr) (cc : Nat) (xs : List CR) (hn : xs.length ≤ 1000) (id : Int) (hid : id < 9223372036854775808) : Tri Tryz.prog β 215 [.pointer (some ⟨d, 0, none⟩), .int .i64 id]
  ([pt d [.bool o0, .bool o1, .pointer (some ⟨sb, 0, none⟩), .slice qc xs.length cc], rowA qc xs.length (xs.flatMap crC)] ++ Br.bkA sb sq sc 32 sh)
  (fun v L => v = .int .i64 (targetV sh xs id) ∧ L = [pt d [.bool o0, .bool o1, .pointer (some ⟨sb, 0, none⟩), .slice qc xs.length cc], rowA qc xs.length (xs.flatMap crC)] ++ Br.bkA sb sq sc 32 sh) := by
 refine Tri.intro tt_ok Tryz.func215 rfl rfl Tryz.ntmps215 rfl fun F => ?_
 refine G tt_ok [] ?_
 refine ke rfl rfl (getR β sb sq sc (first := 32) (id := id) (es := sh) (by omega) (by omega) hid) ?_
 (refine G tt_ok [] ?_; repeat (refine G1 tt_ok [] ?_; intro _))
 unfold targetV
 cases ha : Br.atE 32 sh id with
 | none =>
  rw [show Br.getV 32 sh id = (Br.zeroE, 90) by unfold Br.getV; rw [ha]]
  refine G tt_ok [] ?_
  exact CW.ret (fin_ret rfl pk_ ⟨rfl, rfl⟩)
 | some e =>
  rw [show Br.getV 32 sh id = (e, 0) by unfold Br.getV; rw [ha]]
  refine G tt_ok [] ?_
  cases hany : e.2.2 with
  | true =>
   refine G tt_ok [] ?_
   refine ke rfl rfl (least54 β d o0 o1 sb qc cc xs hn) ?_
   refine G tt_ok [] ?_
   exact CW.ret (fin_ret rfl pk_ ⟨by simp [packV, hany], rfl⟩)
  | false =>
   refine G tt_ok [] ?_
   refine ke rfl rfl (right55 β d _ _ _ rfl rfl rfl qc xs.length cc e.2.1) ?_
   cases hr : rightV xs.length e.2.1 with
   | true =>
    refine G tt_ok [] ?_
    exact CW.ret (fin_ret rfl pk_ ⟨by simp [packV, hany, hr], rfl⟩)
   | false =>
    refine G tt_ok [] ?_
    exact CW.ret (fin_ret rfl pk_ ⟨by simp [packV, hany, hr], rfl⟩)
theorem wire35 (β : Base) (d : Nat) (D : DS) (k id : Int) (hi : Bool) (hid : id < 9223372036854775808) : Tri Tryz.prog β 54 [.pointer (some ⟨d, 0, none⟩), .int .i64 k, .int .i64 id, .bool hi] (dA d D)
  (fun v L => v = .int .i64 (if id < 16 then (90 : Int) else (D.doV k id (if hi then 1 else 2)).2) ∧ L = dA d (if id < 16 then D else (D.doV k id (if hi then 1 else 2)).1)) := by
 refine Tri.intro tt_ok Tryz.func54 rfl rfl Tryz.ntmps54 rfl fun F => ?_
 by_cases h16 : id < 16
 ·rw [if_pos h16, if_pos h16]
  cases hi
  all_goals refine G tt_ok [] ?_
  all_goals rw [decide_eq_true h16]
  all_goals refine G tt_ok [] ?_
  all_goals exact CW.ret (fin_ret rfl (Ent.refl _) ⟨rfl, rfl⟩)
 ·rw [if_neg h16, if_neg h16]
  cases hi
  ·refine G tt_ok [] ?_
   rw [decide_eq_false h16]
   refine G tt_ok [] ?_
   refine ke rfl rfl (do23 β d D k id 2 hid) ?_
   refine G tt_ok [] ?_
   exact CW.ret (fin_ret rfl (A := dA d (D.doV k id 2).1) pk_ ⟨rfl, rfl⟩)
  ·refine G tt_ok [] ?_
   rw [decide_eq_false h16]
   refine G tt_ok [] ?_
   refine ke rfl rfl (do23 β d D k id 1 hid) ?_
   refine G tt_ok [] ?_
   exact CW.ret (fin_ret rfl (A := dA d (D.doV k id 1).1) pk_ ⟨rfl, rfl⟩)
@[reducible] def pk182 : List (Nat × Plan) := [(13, [(0, 0, []), (1, 0, []), (2, 0, []), (3, 0, []), (4, 0, []), (5, 0, []), (6, 0, []), (7, 0, []), (8, 0, []), (9, 0, []), (10, 0, []), (11, 0, []), (12, 1, [1, 3, 6, 9]), (13, 1, [])]), (14, [(0, 0, []), (1, 0, []), (2, 0, []), (3, 0, []), (4, 0, []), (5, 0, []), (6, 0, []), (7, 0, []), (8, 0, []), (9, 0, []), (10, 0, []), (11, 0, []), (12, 0, []), (13, 0, []), (14, 1, [])])]
@[reducible] def pl182_0 : Plan := [(0, 0, []), (1, 0, []), (2, 0, []), (3, 0, []), (4, 0, []), (5, 0, []), (6, 0, []), (7, 0, []), (8, 0, []), (9, 0, []), (10, 0, []), (11, 0, []), (12, 1, [1, 3, 6, 9]), (13, 1, [])]
@[reducible] def pl182_1 : Plan := [(0, 0, []), (1, 0, []), (2, 0, []), (3, 0, []), (4, 0, []), (5, 0, []), (6, 0, []), (7, 0, []), (8, 0, []), (9, 0, []), (10, 0, []), (11, 0, []), (12, 0, []), (13, 0, []), (14, 1, [])]
theorem wrap_wrap (x : Int) : IntKind.i64.wrap (IntKind.i64.wrap x) = IntKind.i64.wrap x := by
  rw [wrap_i64 x]; split <;> (rw [wrap_i64]; split <;> omega)
theorem hitK_iff {r : Rw} {off : Int} : ∀ {k : Nat}, hitK r off k = true ↔ ∃ j : Nat, j < k ∧ r.1 ≤ off + j ∧ off + j < r.2.1
  | 0 => by simp [hitK]
  | k + 1 => by
    have ih := hitK_iff (r := r) (off := off) (k := k)
    simp only [hitK, Bool.or_eq_true, Bool.and_eq_true, decide_eq_true_eq, ih]
    constructor
    · rintro (⟨j, h1, h2, h3⟩ | ⟨h2, h3⟩)
      · exact ⟨j, by omega, h2, h3⟩
      · exact ⟨k, by omega, h2, h3⟩
    · rintro ⟨j, h1, h2, h3⟩
      by_cases h : j = k
      · subst h; exact .inr ⟨h2, h3⟩
      · exact .inl ⟨j, by omega, h2, h3⟩
theorem hit_iff {r : Rw} {off w : Int} (h : r.1 < r.2.1) (hw : 0 < w) : hitK r off w.toNat = !(decide (off + w ≤ r.1) || decide (off ≥ r.2.1)) := by
  rw [Bool.eq_iff_iff, hitK_iff]
  simp only [Bool.not_eq_true', Bool.or_eq_false_iff, decide_eq_false_iff_not]
  constructor
  · rintro ⟨j, h1, h2, h3⟩; omega
  · rintro ⟨h1, h2⟩
    exact ⟨(max off r.1 - off).toNat, by omega, by omega, by omega⟩
def rowOk (r : Rw) : Prop := r.1 < r.2.1 ∧ (r.2.2.2.2.2.2 = 1 ∨ (r.2.2.2.2.2.1 = 1 ∧ r.2.2.2.2.2.2 ≠ 0))
theorem plV_alike {r : Rw} (h : rowOk r) (off w : Int) (hw : IntKind.i64.wrap w = w) : IntKind.i64.wrap (r.2.2.2.2.1 + IntKind.i64.wrap ((IntKind.i64.wrap (IntKind.i64.wrap (off - r.1) * r.2.2.2.2.2.1)).tdiv r.2.2.2.2.2.2)) = (plV r off w).2.1 ∧ IntKind.i64.wrap ((IntKind.i64.wrap (w * r.2.2.2.2.2.1)).tdiv r.2.2.2.2.2.2) = (plV r off w).2.2 := by
  unfold plV
  rcases h.2 with h1 | ⟨h1, h2⟩
  · rw [h1]
    simp only [Int.tdiv_one, wrap_wrap, hw]
    exact ⟨trivial, trivial⟩
  · rw [h1]
    simp only [Int.mul_one, wrap_wrap, hw]
    exact ⟨trivial, trivial⟩
theorem rd_row {cs : List Value} {off n : Nat} {ts : List Rw} (h : (cs.drop off).take (n * 7) = ts.flatMap rwC) {k : Nat} {t : Rw} (hk : ts[k]? = some t) : rdv ti312 cs (off + k * 7) = some (.agg (rwC t).toArray) :=
  rd_enc (enc := rwC) (sz := 7) (fun _ => rfl) rfl rfl h hk
set_option maxHeartbeats 8000000 in
theorem find108 (β : Base) {p : Option Addr} {n c : Nat} {rows : List Rw} {A : Atom} (h : RdS β p n 7 (rows.flatMap rwC) A) (hn : n ≤ 1000) (hok : ∀ r ∈ rows, rowOk r) {size : Int} (hs0 : 8 ≤ size) (hs1 : size ≤ 1000000) (off w : Int) :
    Tri Tryz.prog β 182 [.slice p n c, .int .i64 size, .int .i64 off, .int .i64 w] [A] (fun v L => v = .tuple #[plC (findV rows size off w).1, .int .i64 (findV rows size off w).2] ∧ L = [A]) := by
  have hrl : rows.length = n := by have := h.1; rw [flatE_len (sz := 7) (fun _ => rfl)] at this; omega
  refine Tri.intro tt_ok Tryz.func182 rfl rfl Tryz.ntmps182 rfl fun F => ?_
  by_cases hw48 : w ≠ 4 ∧ w ≠ 8
  · (repeat' (first | refine CW.seq ?_ | refine CW.region tt_ok rfl ?_ | refine CW.regionD tt_ok (by kernel_rfl) pl182_0 (by decide +kernel) ?_ | refine CW.regionD tt_ok (by kernel_rfl) pl182_1 (by decide +kernel) ?_ | refine CW.block ?_ | refine CW.skip ?_ | refine SQ.nil ?_ | refine SQ.pures1 tt_ok rfl ?_ | refine SQ.pure1 tt_ok rfl ?_ | refine SQ.new _ _ rfl rfl (fun _ => ?_) | refine SQ.ldA tt_ok rfl rfl (by repeat (first | exact .h | exact .q | apply At.t)) (by rfl) ?_ | refine SQ.stA tt_ok rfl rfl (by repeat (first | apply Up.h | apply Up.t)) (by rfl) (by rfl) (by repeat (first | exact trivial | refine ⟨trivial, ?_⟩ | refine ⟨wk (by repeat (first | exact .h | exact .q | apply At.t)) (by rfl), ?_⟩)) ?_ | refine CW.cond_tt rfl ?_ | refine CW.cond_ff rfl ?_ | ((first | refine CW.cond rfl (fun hc => ?_) (fun hc => ?_) | refine SQ.gsplit rfl (fun hc => ?_) (fun hc => ?_)) <;> try (exfalso; simp_all; done))))
    all_goals (first | (exfalso; simp at *; omega; done) | skip)
    refine CW.ret (fin_cells [_, _] ⟨⟨_, _, _, _, 0, rfl, rfl, rfl, rfl⟩, rfl, trivial⟩ (Ent.sel (is := [1]) rfl) ⟨?_, rfl⟩)
    simp [packV, findV, hw48, plC]
  · have hw48' : w = 4 ∨ w = 8 := by omega
    have hws : IntKind.i64.wrap (size - w) = size - w := by rw [wrap_i64]; split <;> omega
    refine CW.seq ?_
    (refine G tt_ok pk182 ?_; repeat (refine G1 tt_ok pk182 ?_; intro _))
    rename_i b8
    (repeat' (first | refine CW.seq ?_ | refine CW.region tt_ok rfl ?_ | refine CW.regionD tt_ok (by kernel_rfl) pl182_0 (by decide +kernel) ?_ | refine CW.regionD tt_ok (by kernel_rfl) pl182_1 (by decide +kernel) ?_ | refine CW.block ?_ | refine CW.skip ?_ | refine SQ.nil ?_ | refine SQ.pures1 tt_ok rfl ?_ | refine SQ.pure1 tt_ok rfl ?_ | refine SQ.new _ _ rfl rfl (fun _ => ?_) | refine SQ.ldA tt_ok rfl rfl (by repeat (first | exact .h | exact .q | apply At.t)) (by rfl) ?_ | refine SQ.stA tt_ok rfl rfl (by repeat (first | apply Up.h | apply Up.t)) (by rfl) (by rfl) (by repeat (first | exact trivial | refine ⟨trivial, ?_⟩ | refine ⟨wk (by repeat (first | exact .h | exact .q | apply At.t)) (by rfl), ?_⟩)) ?_ | refine CW.cond_tt rfl ?_ | refine CW.cond_ff rfl ?_ | ((first | refine CW.cond rfl (fun hc => ?_) (fun hc => ?_) | refine SQ.gsplit rfl (fun hc => ?_) (fun hc => ?_)) <;> try (exfalso; simp_all; done))))
    all_goals (first | (exfalso; simp at *; omega; done) | skip)
    all_goals refine SQ.div tt_ok rfl rfl (by omega) rfl ?_
    all_goals by_cases ht : off.tmod w = 0
    all_goals (repeat' (first | refine CW.seq ?_ | refine CW.region tt_ok rfl ?_ | refine CW.regionD tt_ok (by kernel_rfl) pl182_0 (by decide +kernel) ?_ | refine CW.regionD tt_ok (by kernel_rfl) pl182_1 (by decide +kernel) ?_ | refine CW.block ?_ | refine CW.skip ?_ | refine SQ.nil ?_ | refine SQ.pures1 tt_ok rfl ?_ | refine SQ.pure1 tt_ok rfl ?_ | refine SQ.new _ _ rfl rfl (fun _ => ?_) | refine SQ.ldA tt_ok rfl rfl (by repeat (first | exact .h | exact .q | apply At.t)) (by rfl) ?_ | refine SQ.stA tt_ok rfl rfl (by repeat (first | apply Up.h | apply Up.t)) (by rfl) (by rfl) (by repeat (first | exact trivial | refine ⟨trivial, ?_⟩ | refine ⟨wk (by repeat (first | exact .h | exact .q | apply At.t)) (by rfl), ?_⟩)) ?_ | refine CW.cond_tt rfl ?_ | refine CW.cond_ff rfl ?_ | ((first | refine CW.cond rfl (fun hc => ?_) (fun hc => ?_) | refine SQ.gsplit rfl (fun hc => ?_) (fun hc => ?_)) <;> try (exfalso; simp_all; done))))
    all_goals (first | (exfalso; simp at *; first | done | contradiction | omega) | skip)
    all_goals (first | (refine CW.ret (fin_cells [_, _] ⟨⟨_, _, _, _, 0, rfl, rfl, rfl, rfl⟩, rfl, trivial⟩ (Ent.sel (is := [1]) rfl) ⟨?_, rfl⟩)
                        simp [packV, findV, hw48, plC, ht]; done) | skip)
    all_goals rw [hws] at *
    all_goals (first | (refine CW.ret (fin_cells [_, _] ⟨⟨_, _, _, _, 0, rfl, rfl, rfl, rfl⟩, rfl, trivial⟩ (Ent.sel (is := [1]) rfl) ⟨?_, rfl⟩)
                        simp only [decide_eq_true_eq, decide_eq_false_iff_not] at *
                        have ho : off < 0 ∨ off > size - w := by omega
                        simp [packV, findV, hw48, plC, ht, ho]; done) | skip)
    all_goals (
      simp only [decide_eq_true_eq, decide_eq_false_iff_not] at *
      have hof : ¬ (off < 0 ∨ off > size - w) := by omega
      have hwo : IntKind.i64.wrap (off + w) = off + w := by rw [wrap_i64]; split <;> omega
      have hww : IntKind.i64.wrap w = w := by rw [wrap_i64]; split <;> omega
      refine CW.loop (α := Nat) (fun k => k ≤ n ∧ ∀ (j : Nat) (r : Rw), j < k → rows[j]? = some r → hitK r off w.toNat = false) (fun k => [(40, .int .i64 k), (39, .int .i64 n), (38, .slice p n c), (9, .int .i64 0), (8, .pointer (some ⟨b8, 0, none⟩)), (3, .int .i64 w), (2, .int .i64 off)]) (fun _ => [pt b8 [.int .i64 0, .int .i64 0, .int .i64 0], A]) (fun k => n - k) 0 ⟨by omega, by omega⟩ ⟨rfl, rfl, rfl, rfl, rfl, rfl, rfl, trivial⟩ (Ent.refl _) ?_
      rintro k ⟨hk, hbef⟩
      refine G tt_ok pk182 ?_
      generalize e1 : decide ((k : Int) < (n : Int)) = cc
      cases cc
      · have : k = n := by simp at e1; omega
        subst this
        refine G tt_ok pk182 ?_
        refine CW.exit ?_
        refine G tt_ok pk182 ?_
        refine CW.ret (fin_cells [_, _] ⟨⟨_, _, _, _, 0, rfl, rfl, rfl, rfl⟩, rfl, trivial⟩ (Ent.sel (is := [1]) rfl) ⟨?_, rfl⟩)
        rw [show findV rows size off w = ((0, 0, 0), 0) by
          unfold findV
          rw [if_neg hw48, if_neg (by simpa using ht), if_neg hof, find_no (fun j b hj => hbef j b (by have := (List.getElem?_eq_some_iff.1 hj).1; omega) hj)]]
        rfl
      · have hlt : k < n := by simp at e1; omega
        have hw1 : IntKind.i64.wrap ((k : Int) + 1) = ((k + 1 : Nat) : Int) := by rw [wrap_i64]; split <;> omega
        obtain ⟨r, hr⟩ : ∃ r, rows[k]? = some r := ⟨rows[k], List.getElem?_eq_getElem (by omega)⟩
        have hpr := hok r (List.mem_of_getElem? hr)
        obtain ⟨b, o, q, cs, rfl, rfl, hcs⟩ := h.2.resolve_left (by omega)
        have hh := hit_iff (off := off) (w := w) hpr.1 (by omega)
        have hpl := plV_alike hpr off w hww
        have hfind : ∀ (x : (Int × Int × Int) × Int), outV r off w = x → hitK r off w.toNat = true → findV rows size off w = x := fun x hx hh => by
          unfold findV
          rw [if_neg hw48, if_neg (by simpa using ht), if_neg hof, find_at hr hh hbef]
          exact hx
        have hnext : hitK r off w.toNat = false → ∀ (j : Nat) (r2 : Rw), j < k + 1 → rows[j]? = some r2 → hitK r2 off w.toNat = false := fun hnj i r2 hi hr2 => by
          by_cases hik : i = k
          · subst hik
            rw [hr] at hr2
            injection hr2 with hr2
            rw [← hr2]; exact hnj
          · exact hbef i r2 (by omega) hr2
        have hper : r.2.2.2.2.2.2 ≠ 0 := by rcases hpr.2 with h | h <;> omega
        obtain ⟨r1, r2, r3, r4, r5, r6, r7⟩ := r
        simp only at hh hpl hper
        refine G tt_ok pk182 ?_
        refine SQ.idx tt_ok rfl rfl k rfl hlt (o' := o + k * 7) rfl ?_
        refine SQ.loadq tt_ok rfl rfl 1 rfl (rd_row hcs hr) ?_
        (refine G tt_ok pk182 ?_; repeat (refine G1 tt_ok pk182 ?_; intro _))
        rename_i b11
        rw [hwo]
        by_cases h3 : off + w ≤ r1
        · rw [decide_eq_true h3] at hh ⊢
          refine G tt_ok pk182 ?_
          refine CW.exit ?_
          refine G tt_ok pk182 ?_
          exact ⟨k + 1, ⟨by omega, hnext (by rw [hh]; rfl)⟩, by omega, ⟨by rw [← hw1]; rfl, rfl, rfl, rfl, rfl, rfl, rfl, trivial⟩, Ent.sel (is := [1, 1]) rfl⟩
        · rw [decide_eq_false h3] at hh ⊢
          refine G tt_ok pk182 ?_
          by_cases h4 : off ≥ r2
          · rw [decide_eq_true h4] at hh ⊢
            refine G tt_ok pk182 ?_
            refine CW.exit ?_
            refine G tt_ok pk182 ?_
            exact ⟨k + 1, ⟨by omega, hnext (by rw [hh]; rfl)⟩, by omega, ⟨by rw [← hw1]; rfl, rfl, rfl, rfl, rfl, rfl, rfl, trivial⟩, Ent.sel (is := [1, 1]) rfl⟩
          · rw [decide_eq_false h4] at hh ⊢
            refine G tt_ok pk182 ?_
            by_cases h5 : w = r3
            · rw [show (w != r3) = false by simp [h5]]
              refine G tt_ok pk182 ?_
              refine SQ.div tt_ok rfl rfl hper rfl ?_
              (refine G tt_ok pk182 ?_; repeat (refine G1 tt_ok pk182 ?_; intro _))
              refine SQ.div tt_ok rfl rfl hper rfl ?_
              refine G tt_ok pk182 ?_
              refine CW.ret (fin_cells [_, _] ⟨⟨_, _, _, _, 2, rfl, rfl, rfl, rfl⟩, rfl, trivial⟩ (Ent.sel (is := [3]) rfl) ⟨?_, rfl⟩)
              rw [hfind _ rfl (by rw [hh]; rfl)]
              unfold outV
              rw [if_pos h5]
              simp only [if_true]
              rw [hpl.1, hpl.2]
              rfl
            · rw [show (w != r3) = true by simp [h5]]
              refine G tt_ok pk182 ?_
              refine CW.ret (fin_cells [_, _] ⟨⟨_, _, _, _, 1, rfl, rfl, rfl, rfl⟩, rfl, trivial⟩ (Ent.sel (is := [2]) rfl) ⟨?_, rfl⟩)
              rw [hfind _ rfl (by rw [hh]; rfl)]
              unfold outV
              rw [if_neg h5]
              rfl)
theorem distRw_ok : ∀ r ∈ distRw, rowOk r := by
  have h : (distRw.all fun r => decide (r.1 < r.2.1) && (r.2.2.2.2.2.2 == 1 || (r.2.2.2.2.2.1 == 1 && r.2.2.2.2.2.2 != 0))) = true := by kernel_rfl
  intro r hr
  have := List.all_eq_true.1 h r hr
  simp only [Bool.and_eq_true, Bool.or_eq_true, decide_eq_true_eq, beq_iff_eq, bne_iff_ne] at this
  exact this
theorem dist109 (β : Base) : Tri Tryz.prog β 183 [] [] (fun v L => ∃ b, v = .slice (some ⟨b, 0, none⟩) 12 12 ∧ L = [pt b (distRw.flatMap rwC)]) := by
  refine Tri.intro tt_ok Tryz.func183 rfl rfl Tryz.ntmps183 rfl fun F => ?_
  refine G tt_ok [] ?_
  refine SQ.built tt_ok rfl rfl (fun b => ⟨(by repeat (first | exact trivial | refine ⟨trivial, ?_⟩ | refine ⟨wk (by repeat (first | exact .h | exact .q | apply At.t)) (by rfl), ?_⟩)), ?_⟩)
  refine G tt_ok [] ?_
  refine CW.ret (fin_ret rfl (Ent.refl _) ⟨b, rfl, ?_⟩)
  rfl
theorem regsDist69 (β : Base) (off w : Int) : Tri Tryz.prog β 138 [.int .i64 off, .int .i64 w] [] (fun v L => v = .tuple #[.agg #[.int .i64 (distV off w).1.1, .int .i64 (distV off w).1.2.1, .int .i64 (distV off w).1.2.2], .int .i64 (distV off w).2] ∧ L = []) := by
  refine Tri.intro tt_ok Tryz.func138 rfl rfl Tryz.ntmps138 rfl fun F => ?_
  (refine G tt_ok [] ?_; repeat (refine G1 tt_ok [] ?_; intro _))
  (refine ka rfl rfl (dist109 β) ?_; rintro _ _ ⟨b, rfl, rfl⟩; refine w_ ?_)
  have hB : RdS β (some ⟨b, 0, none⟩) 12 7 (distRw.flatMap rwC) (pt b (distRw.flatMap rwC)) := ⟨rfl, .inr ⟨b, 0, true, _, rfl, rfl, rfl⟩⟩
  refine G tt_ok [] ?_
  refine ke rfl rfl (find108 β hB (by omega) distRw_ok (by omega) (by omega) off w) ?_
  refine G tt_ok [] ?_
  refine CW.ret (fin_cells [_, _] ⟨⟨_, _, _, _, 1, rfl, rfl, rfl, rfl⟩, rfl, trivial⟩ (Ent.dropAll _) ⟨rfl, rfl⟩)
@[reducible] def pk52 : List (Nat × Plan) := [(6, [(0, 0, []), (1, 0, []), (2, 0, []), (3, 0, []), (4, 0, []), (5, 0, []), (6, 0, []), (7, 0, []), (8, 0, []), (9, 0, []), (10, 1, [3, 7, 8])])]
theorem and2_is (v : Nat) (hv : v < 2 ^ 64) : (IntKind.u64.wrap ((BitVec.ofInt IntKind.u64.bits (v : Int) &&& BitVec.ofInt IntKind.u64.bits 2).toNat : Int) == 2) = decide (v / 2 % 2 = 1) := by
 have h := and64 (b := 2) hv (by decide)
 rw [show IntKind.u64.wrap ((BitVec.ofInt IntKind.u64.bits (v : Int) &&& BitVec.ofInt IntKind.u64.bits 2).toNat : Int) = ((v &&& 2 : Nat) : Int) from h, nat_and_two, Bool.eq_iff_iff]
 simp only [beq_iff_eq, decide_eq_true_eq]
 omega
theorem and1_is (v : Nat) (hv : v < 2 ^ 64) : (IntKind.u64.wrap ((BitVec.ofInt IntKind.u64.bits (v : Int) &&& BitVec.ofInt IntKind.u64.bits 1).toNat : Int) == 1) = decide (v % 2 = 1) := by
 have h := and64_1 hv
 rw [show IntKind.u64.wrap ((BitVec.ofInt IntKind.u64.bits (v : Int) &&& BitVec.ofInt IntKind.u64.bits 1).toNat : Int) = ((v % 2 : Nat) : Int) from h, Bool.eq_iff_iff]
 simp only [beq_iff_eq, decide_eq_true_eq]
 omega
def DS.wrOwnV (D : DS) (k r f c : Int) (v : Nat) : DS × Int :=
 if rightV D.xs.length k then (match D.xs[k.toNat]? with
  | some x => (if r = 3 then { D with xs := D.xs.set k.toNat { x with sl := decide (v / 2 % 2 = 1) } } else { D with xs := D.xs.set k.toNat { x with es := (Bn.wrK 0 x.es r f c v (cntV c)).1 } }, 0)
  | none => (D, 0))
 else (D, 130)
set_option maxHeartbeats 4000000 in
theorem wrOwn27 (β : Base) (d : Nat) (D : DS) (k r f c : Int) (v : Nat) (hv : v < 2 ^ 64) : Tri Tryz.prog β 52 [.pointer (some ⟨d, 0, none⟩), .int .i64 k, .agg #[.int .i64 r, .int .i64 f, .int .i64 c], .int .u64 v] (dA d D) (fun u L => u = .int .i64 (D.wrOwnV k r f c v).2 ∧ L = dA d (D.wrOwnV k r f c v).1) := by
 obtain ⟨o0, o1, sb, sq, sc, sh, qc, cc, xs⟩ := D
 refine Tri.intro tt_ok Tryz.func52 rfl rfl Tryz.ntmps52 rfl fun F => ?_
 unfold dA DS.wrOwnV
 simp only
 (refine G tt_ok pk52 ?_; repeat (refine G1 tt_ok pk52 ?_; intro _))
 refine ke rfl rfl (right55 β d _ _ _ rfl rfl rfl qc xs.length cc k) ?_
 cases hr : rightV xs.length k with
 | false =>
  refine G tt_ok pk52 ?_
  exact CW.ret (fin_ret rfl pk_ ⟨rfl, rfl⟩)
 | true =>
  obtain ⟨x, hx, hl, hk⟩ := right_at hr
  rw [if_pos rfl, hx]
  simp only
  refine G tt_ok pk52 ?_
  refine CW.ent (Rm.to (A := rowA qc xs.length (xs.flatMap crC)) (by repeat (first | exact Rm.h | apply Rm.t)) (row_open (by omega))) ?_
  refine CW.open_ fun y => ?_
  obtain ⟨g, rest⟩ := y
  refine CW.pure_ fun hv => ?_
  simp only at hv
  subst hv
  refine CW.ent (Rm.to (A := bksA xs) (by repeat (first | exact Rm.h | apply Rm.t)) (bks_open hx)) ?_
  by_cases h3 : r = 3
  ·subst h3
   refine G tt_ok pk52 ?_
   refine SQ.idx tt_ok rfl rfl k.toNat hk hl (o' := 0 + k.toNat * 2) rfl ?_
   refine G tt_ok pk52 ?_
   refine SQ.stA tt_ok rfl rfl (by repeat (first | apply Up.h | apply Up.t)) (by rfl) (wr_sl hx _ rest) (by repeat (first | exact trivial | refine ⟨trivial, ?_⟩ | refine ⟨wk (by repeat (first | exact .h | exact .q | apply At.t)) (by rfl), ?_⟩)) ?_
   rw [and2_is v hv]
   refine G tt_ok pk52 ?_
   refine CW.ret (fin_ret rfl (A := dA d ⟨o0, o1, sb, sq, sc, sh, some ⟨g, 0, none⟩, cc, xs.set k.toNat { x with sl := decide (v / 2 % 2 = 1) }⟩) ?_ ⟨rfl, rfl⟩)
   unfold dA
   simp only [List.length_set]
   refine Ent.trans (Rm.to (A := pt g ((xs.set k.toNat { x with sl := decide (v / 2 % 2 = 1) }).flatMap crC ++ rest)) (by repeat (first | exact Rm.h | apply Rm.t)) (row_close (n := xs.length))) ?_
   refine Ent.trans (Tk.to (As := CR.bank { x with sl := decide (v / 2 % 2 = 1) } ++ [bksA (xs.eraseIdx k.toNat)]) (by repeat (first | exact .n | exact Rm.h | apply Tk.c | apply Rm.t)) (bks_close _ hl)) ?_
   exact pk_
  ·rw [if_neg h3]
   refine G tt_ok pk52 ?_
   rw [show (r == 3) = false by simp [h3]]
   refine G tt_ok pk52 ?_
   refine SQ.idx tt_ok rfl rfl k.toNat hk hl (o' := 0 + k.toNat * 2) rfl ?_
   refine G tt_ok pk52 ?_
   refine SQ.ldA tt_ok rfl rfl (by repeat (first | exact .h | exact .q | apply At.t)) (rd_own hx rest) ?_
   refine G tt_ok pk52 ?_
   (refine ka rfl rfl (Bn.write13 β x.b x.q x.c (first := 0) (es0 := x.es) (by omega) (by omega) r f c v) ?_; rintro _ _ ⟨rfl, rfl⟩; refine ⟨(by repeat (first | exact trivial | refine ⟨trivial, ?_⟩ | refine ⟨wk (by repeat (first | exact .h | exact .q | apply At.t)) (rd_own hx rest), ?_⟩ | refine ⟨wk (by repeat (first | exact .h | exact .q | apply At.t)) (by rfl), ?_⟩)), ?_⟩)
   refine G tt_ok pk52 ?_
   refine CW.ret (fin_ret rfl (A := dA d ⟨o0, o1, sb, sq, sc, sh, some ⟨g, 0, none⟩, cc, xs.set k.toNat { x with es := (Bn.wrK 0 x.es r f c v (cntV c)).1 }⟩) ?_ ⟨rfl, rfl⟩)
   unfold dA
   simp only [List.length_set]
   rw [flat_set_same (enc := crC) (y := { x with es := (Bn.wrK 0 x.es r f c v (cntV c)).1 }) hx rfl]
   refine Ent.trans (Rm.to (A := pt g (xs.flatMap crC ++ rest)) (by repeat (first | exact Rm.h | apply Rm.t)) (row_close (n := xs.length))) ?_
   refine Ent.trans (Tk.to (As := CR.bank { x with es := (Bn.wrK 0 x.es r f c v (cntV c)).1 } ++ [bksA (xs.eraseIdx k.toNat)]) (by repeat (first | exact .n | exact Rm.h | apply Tk.c | apply Rm.t)) (bks_close _ hl)) ?_
   exact pk_
@[reducible] def pk89 : List (Nat × Plan) := [(9, [(0, 0, []), (1, 0, []), (2, 0, []), (3, 0, []), (4, 0, []), (5, 0, []), (6, 1, [3, 5]), (7, 0, []), (8, 0, []), (9, 0, []), (10, 2, []), (11, 1, []), (12, 0, [])]), (12, [(0, 0, []), (1, 0, []), (2, 0, []), (3, 0, []), (4, 0, []), (5, 0, []), (6, 0, []), (7, 1, [3, 5, 6])]), (5, [(0, 0, []), (1, 0, []), (2, 0, []), (3, 0, []), (4, 0, []), (5, 0, []), (6, 1, [3, 4])])]
theorem and_mod {a k : Nat} (ha : a < 2 ^ 64) (hk : k ≤ 63) : IntKind.u64.wrap ((BitVec.ofInt IntKind.u64.bits (a : Int) &&& BitVec.ofInt IntKind.u64.bits ((2 ^ k - 1 : Nat) : Int)).toNat : Int) = ((a % 2 ^ k : Nat) : Int) := by
  have h1 : (2 : Nat) ^ k ≤ 2 ^ 63 := Nat.pow_le_pow_right (by omega) hk
  have e63 : (2 : Nat) ^ 63 = 9223372036854775808 := rfl
  have e64 : (2 : Nat) ^ 64 = 18446744073709551616 := rfl
  have h2 := and64 ha (b := 2 ^ k - 1) (by omega)
  rw [Nat.and_two_pow_sub_one_eq_mod] at h2
  exact h2
def routeV (v : Nat) : Int × Bool := (((v % 256 : Nat) : Int), decide (v / 2 ^ 31 % 2 = 1))
theorem route70 (β : Base) (v : Nat) (hv : v < 2 ^ 64) : Tri Tryz.prog β 140 [.int .u64 v] [] (fun u L => u = .agg #[.int .i64 (routeV v).1, .bool (routeV v).2] ∧ L = []) := by
  refine Tri.intro tt_ok Tryz.func140 rfl rfl Tryz.ntmps140 rfl fun F => ?_
  (refine G tt_ok [] ?_; repeat (refine G1 tt_ok [] ?_; intro _))
  refine CW.ret (fin_cells [_] ⟨⟨_, _, _, _, 0, rfl, rfl, rfl, rfl⟩, trivial⟩ (Ent.dropAll _) ⟨?_, rfl⟩)
  have h1 : IntKind.i64.wrap (IntKind.u64.wrap ((BitVec.ofInt IntKind.u64.bits (v : Int) &&& BitVec.ofInt IntKind.u64.bits 255).toNat : Int)) = ((v % 256 : Nat) : Int) := by
    have h := and_mod (k := 8) hv (by omega)
    rw [show IntKind.u64.wrap ((BitVec.ofInt IntKind.u64.bits (v : Int) &&& BitVec.ofInt IntKind.u64.bits 255).toNat : Int) = ((v % 256 : Nat) : Int) from h]
    exact wrap_id (by omega) (by omega)
  have h2 := bit64 hv (show 31 < 64 by omega)
  unfold routeV packV
  simp only
  rw [← h1]
  have h3 : decide (v / 2 ^ 31 % 2 = 1) = (IntKind.u64.wrap ((BitVec.ofInt IntKind.u64.bits ((v : Int).fdiv (2 ^ min 31 IntKind.u64.bits)) &&& BitVec.ofInt IntKind.u64.bits 1).toNat : Int) == 1) := by
    rw [h2, Bool.eq_iff_iff]
    simp only [beq_iff_eq, decide_eq_true_eq]
    omega
  rw [h3]
def DS.wrV (D : DS) (off w : Int) (v : Nat) : DS × Int :=
  if (distV off w).2 ≠ 0 then (D, (distV off w).2) else
  (if (distV off w).1.1 = 1 then { D with o0 := decide (v % 2 = 1), o1 := decide (v / 2 % 2 = 1) }
   else if (distV off w).1.1 = 13 then (match Br.atE 32 D.sh (distV off w).1.2.1 with
     | some e => { D with sh := (Br.putV 32 D.sh (distV off w).1.2.1 (e.1, routeV v)).1 }
     | none => D)
   else { D with sh := (Br.wrK 32 D.sh (distV off w).1.1 (distV off w).1.2.1 (distV off w).1.2.2 v (cntV (distV off w).1.2.2)).1 }, 0)
theorem getR_some (β : Base) (b : Nat) (q0 : Option Addr) (c0 : Nat) {first id : Int} {es : List Br.En} {e : Br.En} (h0 : 0 ≤ first) (h1 : first ≤ 16384) (h3 : id < 9223372036854775808) (h : Br.atE first es id = some e) :
    Tri Tryz.prog β 139 [.pointer (some ⟨b, 0, none⟩), .int .i64 id] (Br.bkA b q0 c0 first es) (fun v L => v = .tuple #[.agg #[.bool e.1.1.1, .bool e.1.1.2.1, .bool e.1.1.2.2.1, .bool e.1.1.2.2.2, .bool e.1.2.1, .int .i64 e.1.2.2.1, .int .i64 e.1.2.2.2, .int .i64 e.2.1, .bool e.2.2], .int .i64 0] ∧ L = Br.bkA b q0 c0 first es) := by
  have := getR β b q0 c0 (es := es) h0 h1 h3
  rw [show Br.getV first es id = (e, 0) by unfold Br.getV; rw [h]] at this
  exact this
theorem getR_none (β : Base) (b : Nat) (q0 : Option Addr) (c0 : Nat) {first id : Int} {es : List Br.En} (h0 : 0 ≤ first) (h1 : first ≤ 16384) (h3 : id < 9223372036854775808) (h : Br.atE first es id = none) :
    Tri Tryz.prog β 139 [.pointer (some ⟨b, 0, none⟩), .int .i64 id] (Br.bkA b q0 c0 first es) (fun v L => v = .tuple #[.agg #[.bool false, .bool false, .bool false, .bool false, .bool false, .int .i64 0, .int .i64 0, .int .i64 0, .bool false], .int .i64 90] ∧ L = Br.bkA b q0 c0 first es) := by
  have := getR β b q0 c0 (es := es) h0 h1 h3
  rw [show Br.getV first es id = (Br.zeroE, 90) by unfold Br.getV; rw [h]] at this
  exact this
theorem putR (β : Base) (b : Nat) (q0 : Option Addr) (c0 : Nat) {first id : Int} {es : List Br.En} (l : Ln) (t : Int × Bool) (h0 : 0 ≤ first) (h1 : first ≤ 16384) (h3 : id < 9223372036854775808) :
    Tri Tryz.prog β 141 [.pointer (some ⟨b, 0, none⟩), .int .i64 id, .agg #[.bool l.1.1, .bool l.1.2.1, .bool l.1.2.2.1, .bool l.1.2.2.2, .bool l.2.1, .int .i64 l.2.2.1, .int .i64 l.2.2.2, .int .i64 t.1, .bool t.2]] (Br.bkA b q0 c0 first es) (fun v L => v = .int .i64 (Br.putV first es id (l, t)).2 ∧ L = Br.bkA b q0 c0 first (Br.putV first es id (l, t)).1) := Br.put30 β b q0 c0 (l, t) h0 h1 h3
theorem distV_id (off w : Int) : (distV off w).1.2.1 < 9223372036854775808 := by
  unfold distV findV
  split
  · simp
  · split
    · simp
    · split
      · simp
      · split
        · unfold outV; split
          · exact Bn.wrap_lt _
          · simp
        · simp
set_option maxHeartbeats 8000000 in
theorem write32 (β : Base) (d : Nat) (D : DS) (off w : Int) (v : Nat) (hv : v < 2 ^ 64) : Tri Tryz.prog β 89 [.pointer (some ⟨d, 0, none⟩), .int .i64 off, .int .i64 w, .int .u64 v] (dA d D) (fun u L => u = .int .i64 (D.wrV off w v).2 ∧ L = dA d (D.wrV off w v).1) := by
  obtain ⟨o0, o1, sb, sq, sc, sh, qc, cc, xs⟩ := D
  refine Tri.intro tt_ok Tryz.func89 rfl rfl Tryz.ntmps89 rfl fun F => ?_
  unfold dA DS.wrV
  simp only
  have hD := regsDist69 β off w
  have hpid := distV_id off w
  generalize distV off w = P at hD hpid ⊢
  obtain ⟨⟨pr, pf, pc⟩, e⟩ := P
  simp only at hD hpid ⊢
  refine G tt_ok pk89 ?_
  refine ke rfl rfl (hD) ?_
  (refine G tt_ok pk89 ?_; repeat (refine G1 tt_ok pk89 ?_; intro _))
  by_cases he : e = 0
  · subst he
    rw [if_neg (by simp)]
    refine G tt_ok pk89 ?_
    by_cases h1 : pr = 1
    · subst h1
      rw [if_pos rfl]
      refine G tt_ok pk89 ?_
      refine SQ.bArr tt_ok rfl rfl ?_
      refine G tt_ok pk89 ?_
      rw [and2_is v hv, and1_is v hv]
      exact CW.ret (fin_ret rfl (A := dA d ⟨decide (v % 2 = 1), decide (v / 2 % 2 = 1), sb, sq, sc, sh, qc, cc, xs⟩) pk_ ⟨rfl, rfl⟩)
    · rw [if_neg h1, show (pr == 1) = false by simp [h1]]
      refine G tt_ok pk89 ?_
      by_cases h13 : pr = 13
      · subst h13
        rw [if_pos rfl]
        refine G tt_ok pk89 ?_
        cases ha : Br.atE 32 sh pf with
        | none =>
          refine ke rfl rfl (getR_none β sb sq sc (first := 32) (id := pf) (es := sh) (by omega) (by omega) hpid ha) ?_
          (refine G tt_ok pk89 ?_; repeat (refine G1 tt_ok pk89 ?_; intro _))
          refine ke rfl rfl (route70 β v hv) ?_
          refine G tt_ok pk89 ?_
          exact CW.ret (fin_ret rfl (A := dA d ⟨o0, o1, sb, sq, sc, sh, qc, cc, xs⟩) pk_ ⟨rfl, rfl⟩)
        | some en =>
          refine ke rfl rfl (getR_some β sb sq sc (first := 32) (id := pf) (es := sh) (by omega) (by omega) hpid ha) ?_
          (refine G tt_ok pk89 ?_; repeat (refine G1 tt_ok pk89 ?_; intro _))
          refine ke rfl rfl (route70 β v hv) ?_
          refine G tt_ok pk89 ?_
          refine ke rfl rfl (putR β sb sq sc (first := 32) (id := pf) (es := sh) en.1 (routeV v) (by omega) (by omega) hpid) ?_
          refine G tt_ok pk89 ?_
          exact CW.ret (fin_ret rfl (A := dA d ⟨o0, o1, sb, sq, sc, (Br.putV 32 sh pf (en.1, routeV v)).1, qc, cc, xs⟩) pk_ ⟨rfl, rfl⟩)
      · rw [if_neg h13, show (pr == 13) = false by simp [h13]]
        refine G tt_ok pk89 ?_
        refine ke rfl rfl (Br.write13 β sb sq sc (first := 32) (es0 := sh) (by omega) (by omega) pr pf pc v) ?_
        refine G tt_ok pk89 ?_
        exact CW.ret (fin_ret rfl (A := dA d ⟨o0, o1, sb, sq, sc, (Br.wrK 32 sh pr pf pc v (cntV pc)).1, qc, cc, xs⟩) pk_ ⟨rfl, rfl⟩)
  · rw [if_pos he, show (e != 0) = true by simp [he]]
    refine G tt_ok pk89 ?_
    exact CW.ret (fin_ret rfl pk_ ⟨rfl, rfl⟩)
def ownK : Nat → List Bn.En
 | 0 => List.replicate 32 (Bn.zeroE.1, ())
 | k + 1 => (Bn.doV 0 (ownK k) k 8).1
def newCR (x : CR) : Prop := x.es = ownK 16 ∧ x.sl = false
theorem bks_nil {L : List Atom} : Ent L (bksA [] :: L) := fun h s => ⟨h, ⟨Hp.emp, h, rfl, s, Hp.emp_disj _, (Hp.emp_add _).symm⟩, Hp.le_refl h⟩
theorem bks_snoc {xs : List CR} {x : CR} : Ent (x.bank ++ [bksA xs]) [bksA (xs ++ [x])] := by
 have e1 := Ent.unpack (xs.flatMap CR.bank) []
 rw [List.append_nil] at e1
 have e2 := Ent.pack ((xs ++ [x]).flatMap CR.bank) []
 rw [List.append_nil] at e2
 refine (Ent.append (Ent.refl _) e1).trans (Ent.trans (Ent.perm ?_) e2)
 rw [List.flatMap_append]
 simp only [List.flatMap_cons, List.flatMap_nil, List.append_nil]
 exact List.perm_append_comm
set_option maxHeartbeats 8000000 in
theorem new11 (β : Base) {n s : Int} (hn0 : 1 ≤ n) (hn1 : n ≤ 8) (hs0 : 0 ≤ s) (hs1 : s ≤ 64) : Tri Tryz.prog β 35 [.int .i64 n, .int .i64 s] [] (fun v L => ∃ d D, v = .tuple #[.pointer (some ⟨d, 0, none⟩), .int .i64 0] ∧ L = dA d D ∧ D.o0 = false ∧ D.o1 = false ∧ D.sh = List.replicate s.toNat (Br.zeroE.1, (0, false)) ∧ (D.xs.length : Int) = n ∧ ∀ x ∈ D.xs, newCR x) := by
 refine Tri.intro tt_ok Tryz.func35 rfl rfl Tryz.ntmps35 rfl fun F => ?_
 refine G tt_ok [] ?_
 rw [decide_eq_false (show ¬ n < 1 by omega)]
 refine G tt_ok [] ?_
 rw [decide_eq_false (show ¬ n > 8 by omega)]
 refine G tt_ok [] ?_
 rw [decide_eq_false (show ¬ s < 0 by omega)]
 refine G tt_ok [] ?_
 rw [decide_eq_false (show ¬ s > 64 by omega)]
 refine G tt_ok [] ?_
 (refine ka rfl rfl (Br.bankNew β (first := 32) (n := s) (by omega) hs0 (by omega) (0, false)) ?_; rintro _ _ ⟨sb, sq, sc, rfl, rfl⟩; refine w_ ?_)
 (refine G tt_ok [] ?_; repeat (refine G1 tt_ok [] ?_; intro _))
 rename_i d
 refine CW.loop (α := List CR × Option Addr × Nat) (fun x => (x.1.length : Int) ≤ n ∧ ∀ y ∈ x.1, newCR y) (fun x => [(36, .int .i64 x.1.length), (35, .int .i64 n), (8, .pointer (some ⟨d, 0, none⟩))])
  (fun x => [pt d [.bool false, .bool false, .pointer (some ⟨sb, 0, none⟩), .slice x.2.1 x.1.length x.2.2], own 173 2 (.slice x.2.1 x.1.length x.2.2) x.1.length (x.1.flatMap crC), bksA x.1] ++ Br.bkA sb sq sc 32 (List.replicate s.toNat (Br.zeroE.1, (0, false)))) (fun x => n.toNat - x.1.length) ([], none, 0) ⟨by simp; omega, by simp⟩ ⟨rfl, rfl, rfl, trivial⟩ ?_ ?_
 ·refine Ent.trans ((own_nil 173 2).trans bks_nil) ?_
  exact pk_
 rintro ⟨xs, qc, cc⟩ ⟨hl, hnew⟩
 simp only at hl hnew ⊢
 refine G tt_ok [] ?_
 by_cases hlt : (xs.length : Int) < n
 ·have hw : IntKind.i64.wrap ((xs.length : Int) + 1) = ((xs.length + 1 : Nat) : Int) := by rw [wrap_i64]; split <;> omega
  rw [decide_eq_true hlt]
  refine G tt_ok [] ?_
  (refine ka rfl rfl (Bn.bankNew β (first := 0) (n := 32) (by omega) (by omega) (by omega) ()) ?_; rintro _ _ ⟨b, bq, bc, rfl, rfl⟩; refine w_ ?_)
  refine G tt_ok [] ?_
  refine CW.loop (α := Nat) (fun j => j ≤ 16) (fun j => [(43, .int .i64 j), (9, .pointer (some ⟨b, 0, none⟩)), (36, .int .i64 xs.length), (35, .int .i64 n), (8, .pointer (some ⟨d, 0, none⟩))])
   (fun j => Bn.bkA b bq bc 0 (ownK j) ++ ([pt d [.bool false, .bool false, .pointer (some ⟨sb, 0, none⟩), .slice qc xs.length cc], own 173 2 (.slice qc xs.length cc) xs.length (xs.flatMap crC), bksA xs] ++ Br.bkA sb sq sc 32 (List.replicate s.toNat (Br.zeroE.1, (0, false))))) (fun j => 16 - j) 0 (by omega) ⟨rfl, rfl, rfl, rfl, rfl, trivial⟩ pk_ ?_
  intro j hj
  refine G tt_ok [] ?_
  generalize e1 : decide ((j : Int) < 16) = cc2
  cases cc2
  ·have : j = 16 := by simp at e1; omega
   subst this
   refine G tt_ok [] ?_
   refine CW.exit ?_
   refine G tt_ok [] ?_
   (refine SQ.built tt_ok rfl rfl (fun _ => w_ ?_))
   refine G tt_ok [] ?_
   have hx' : newCR ⟨b, bq, bc, ownK 16, false⟩ := ⟨rfl, rfl⟩
   refine SQ.append tt_ok rfl rfl 4 rfl 0 (q := true) rfl (crC ⟨b, bq, bc, ownK 16, false⟩) rfl rfl rfl (scal_eq rfl) (by omega) (by show (xs.length + 1) * 16 ≤ _; omega) (fun v' => ⟨(by repeat (first | exact trivial | refine ⟨trivial, ?_⟩ | refine ⟨wk (by repeat (first | exact .h | exact .q | apply At.t)) (by rfl), ?_⟩)), ?_⟩)
   refine SQ.ent _ (Ent.head (own_shape _ _ _ _ _)) ?_
   refine SQ.open_ fun z => ?_
   refine SQ.pure_ fun hv => ?_
   subst hv
   refine G tt_ok [] ?_
   refine ⟨(xs ++ [⟨b, bq, bc, ownK 16, false⟩], z.1, z.2), ⟨by simp; omega, fun y hy => ?_⟩, by simp; omega, ⟨by rw [show (xs ++ [(⟨b, bq, bc, ownK 16, false⟩ : CR)]).length = xs.length + 1 by simp, ← hw]; rfl, rfl, rfl, trivial⟩, ?_⟩
   ·rcases List.mem_append.1 hy with h | h
    ·exact hnew y h
    ·rw [List.mem_singleton.1 h]; exact hx'
   ·simp only
    rw [show (xs ++ [(⟨b, bq, bc, ownK 16, false⟩ : CR)]).length = xs.length + 1 by simp, show (xs ++ [(⟨b, bq, bc, ownK 16, false⟩ : CR)]).flatMap crC = xs.flatMap crC ++ crC ⟨b, bq, bc, ownK 16, false⟩ by simp]
    refine Ent.trans (Tk.to (As := CR.bank ⟨b, bq, bc, ownK 16, false⟩ ++ [bksA xs]) (by repeat (first | exact .n | exact Rm.h | apply Tk.c | apply Rm.t)) bks_snoc) ?_
    exact pk_
  ·have hlt2 : j < 16 := by simp at e1; omega
   have hw2 : IntKind.i64.wrap ((j : Int) + 1) = ((j + 1 : Nat) : Int) := by rw [wrap_i64]; split <;> omega
   refine G tt_ok [] ?_
   refine ke rfl rfl (Bn.do35 β b bq bc (first := 0) (id := (j : Int)) (x := 8) (es := ownK j) (by omega) (by omega) (by omega)) ?_
   refine G tt_ok [] ?_
   exact ⟨j + 1, by omega, by omega, ⟨by rw [← hw2]; rfl, rfl, rfl, rfl, rfl, trivial⟩, pk_⟩
 ·rw [decide_eq_false hlt]
  refine G tt_ok [] ?_
  refine CW.exit ?_
  refine G tt_ok [] ?_
  refine CW.ret (fin_ret rfl (A := dA d ⟨false, false, sb, sq, sc, List.replicate s.toNat (Br.zeroE.1, (0, false)), qc, cc, xs⟩) ?_ ?_)
  ·exact Ent.trans (Rm.to (A := own 173 2 (.slice qc xs.length cc) xs.length (xs.flatMap crC)) (by repeat (first | exact Rm.h | apply Rm.t)) own_row) pk_
  ·exact ⟨d, _, rfl, rfl, rfl, rfl, rfl, by simp only; omega, hnew⟩
@[reducible] def pk212 : List (Nat × Plan) := [(2, [(0, 0, []), (1, 0, []), (2, 0, []), (3, 0, []), (4, 0, []), (5, 0, []), (6, 0, []), (7, 0, []), (8, 1, [0, 3, 4, 7])]), (9, [(0, 0, []), (1, 0, []), (3, 0, []), (2, 1, [0, 3]), (4, 0, []), (5, 0, []), (6, 0, []), (7, 0, []), (8, 0, []), (9, 0, []), (10, 1, []), (11, 0, []), (12, 0, [])])]
def seenA (es : List Bn.En) : List (Int × Ln) := (Bn.allV 0 es).map fun p => (p.1, p.2.1)
def seenB (sh : List Br.En) (xs : List CR) (k : Int) (ps : List (Int × Br.En)) : List (Int × Ln) := (ps.filter fun p => targetV sh xs p.1 == k).map fun p => (p.1, p.2.1)
def DS.seenV (D : DS) (k : Int) : List (Int × Ln) := if rightV D.xs.length k then (match D.xs[k.toNat]? with
 | some x => seenA x.es ++ seenB D.sh D.xs k (Br.allV 32 D.sh)
 | none => []) else []
@[reducible] def ilC (x : Int × Ln) : List Value := [.int .i64 x.1, .agg #[.bool x.2.1.1, .bool x.2.1.2.1, .bool x.2.1.2.2.1, .bool x.2.1.2.2.2, .bool x.2.2.1, .int .i64 x.2.2.2.1, .int .i64 x.2.2.2.2]]
theorem seen26 (β : Base) (d : Nat) (k : Int) : Tri Tryz.prog β 196 [.pointer (some ⟨d, 0, none⟩), .int .i64 k] [] (fun v L => ∃ b2 b3, v = .func (.func 212) #[] #[.pointer (some ⟨b2, 0, none⟩), .pointer (some ⟨b3, 0, none⟩)] ∧ L = [pt b2 [.pointer (some ⟨d, 0, none⟩)], pt b3 [.int .i64 k]]) := by
 refine Tri.intro tt_ok Tryz.func196 rfl rfl Tryz.ntmps196 rfl fun F => ?_
 (refine G tt_ok [] ?_; repeat (refine G1 tt_ok [] ?_; intro _))
 rename_i b2 b3
 refine CW.ret (fin_ret rfl (A := [pt b2 [.pointer (some ⟨d, 0, none⟩)], pt b3 [.int .i64 k]]) pk_ ?_)
 exact ⟨b2, b3, rfl, rfl⟩
theorem map_pre {α β : Type} (f : α → β) {l m : List α} (h : l <+: m) : l.map f <+: m.map f := by
 obtain ⟨t, rfl⟩ := h; rw [List.map_append]; exact List.prefix_append _ _
theorem filter_pre {α : Type} (f : α → Bool) {l m : List α} (h : l <+: m) : l.filter f <+: m.filter f := by
 obtain ⟨t, rfl⟩ := h; rw [List.filter_append]; exact List.prefix_append _ _
set_option maxHeartbeats 8000000 in
theorem iter63 (β : Base) (d b2 b3 : Nat) (D : DS) (k : Int) (hn8 : D.xs.length ≤ 8) (hns : D.sh.length ≤ 64) (hes : ∀ x ∈ D.xs, x.es.length = 32) :
  Iter Tryz.prog β 212 [.pointer (some ⟨b2, 0, none⟩), .pointer (some ⟨b3, 0, none⟩)] ([pt b2 [.pointer (some ⟨d, 0, none⟩)], pt b3 [.int .i64 k]] ++ dA d D) ilC (D.seenV k) := by
 intro l J Jx hY
 obtain ⟨o0, o1, sb, sq, sc, sh, qc, cc, xs⟩ := D
 unfold dA DS.seenV at hY ⊢
 simp only at hY hn8 hns hes ⊢
 refine Tri.intro tt_ok Tryz.func212 rfl rfl Tryz.ntmps212 rfl fun F => ?_
 (refine G tt_ok pk212 ?_; repeat (refine G1 tt_ok pk212 ?_; intro _))
 rename_i by_
 refine ke rfl rfl (right55 β d _ _ _ rfl rfl rfl qc xs.length cc k) ?_
 cases hr : rightV xs.length k with
 | false =>
  refine G tt_ok pk212 ?_
  exact CW.ret (fin_ret rfl (A := J [] :: ([pt b2 [.pointer (some ⟨d, 0, none⟩)], pt b3 [.int .i64 k]] ++ ([pt d [.bool o0, .bool o1, .pointer (some ⟨sb, 0, none⟩), .slice qc xs.length cc], rowA qc xs.length (xs.flatMap crC), bksA xs] ++ Br.bkA sb sq sc 32 sh))) pk_ (.inl rfl))
 | true =>
  obtain ⟨x, hx, hl, hk⟩ := right_at hr
  rw [hr, if_pos rfl, hx] at hY
  rw [if_pos rfl, hx]
  simp only at hY ⊢
  have hxl := hes x (List.mem_of_getElem? hx)
  refine G tt_ok pk212 ?_
  refine SQ.ent _ (Rm.to (A := rowA qc xs.length (xs.flatMap crC)) (by repeat (first | exact Rm.h | apply Rm.t)) (row_open (by omega))) ?_
  refine SQ.open_ fun z => ?_
  obtain ⟨g, rest⟩ := z
  refine SQ.pure_ fun hv => ?_
  simp only at hv
  subst hv
  refine SQ.ent _ (Rm.to (A := bksA xs) (by repeat (first | exact Rm.h | apply Rm.t)) (bks_open hx)) ?_
  refine G tt_ok pk212 ?_
  refine SQ.idx tt_ok rfl rfl k.toNat hk hl (o' := 0 + k.toNat * 2) rfl ?_
  refine G tt_ok pk212 ?_
  refine SQ.ldA tt_ok rfl rfl (by repeat (first | exact .h | exact .q | apply At.t)) (rd_own hx rest) ?_
  refine G tt_ok pk212 ?_
  (refine ka rfl rfl (Bn.all21 β x.b x.q x.c 0 x.es (by omega)) ?_; rintro _ _ ⟨c1, c3, q1, n1, rfl, rfl⟩; refine ⟨(by repeat (first | exact trivial | refine ⟨trivial, ?_⟩ | refine ⟨wk (by repeat (first | exact .h | exact .q | apply At.t)) (rd_own hx rest), ?_⟩ | refine ⟨wk (by repeat (first | exact .h | exact .q | apply At.t)) (by rfl), ?_⟩)), ?_⟩)
  refine G tt_ok pk212 ?_
  refine CW.ent (Rm.to (A := pt g (xs.flatMap crC ++ rest)) (by repeat (first | exact Rm.h | apply Rm.t)) (row_close (n := xs.length))) ?_
  generalize (some ⟨g, 0, none⟩ : Option Addr) = qc at hY ⊢
  refine CW.ent (Rm.to (A := rowA q1 x.es.length (x.es.flatMap Bn.enC)) (by repeat (first | exact Rm.h | apply Rm.t)) (row_rd β (sz := 7) (flatE_len (sz := 7) (fun _ => rfl) x.es))) ?_
  refine CW.open_ fun B => CW.pure_ fun hB => ?_
  refine CW.ent (L' := [pt c3 [.slice q1 x.es.length n1], pt c1 [.pointer (some ⟨x.b, 0, none⟩)], pt x.b [.int .i64 0, .slice x.q x.es.length x.c], B, J [], pt by_ [.func (.yield l) #[] #[]], pt b2 [.pointer (some ⟨d, 0, none⟩)], pt b3 [.int .i64 k], pt d [.bool o0, .bool o1, .pointer (some ⟨sb, 0, none⟩), .slice qc xs.length cc], rowA qc xs.length (xs.flatMap crC), rowA x.q x.es.length (x.es.flatMap Bn.enC), bksA (xs.eraseIdx k.toNat)] ++ Br.bkA sb sq sc 32 sh) pk_ ?_
  refine CW.rangeFunc rfl (Bn.iter43 β x.b c1 c3 hB (by omega) (by omega) (by omega) rfl) [0, 0, 0, 0] rfl
   (fun pre => [J (pre.map fun p => (p.1, p.2.1)), pt by_ [.func (.yield l) #[] #[]], pt b2 [.pointer (some ⟨d, 0, none⟩)], pt b3 [.int .i64 k], pt d [.bool o0, .bool o1, .pointer (some ⟨sb, 0, none⟩), .slice qc xs.length cc], rowA qc xs.length (xs.flatMap crC), rowA x.q x.es.length (x.es.flatMap Bn.enC), bksA (xs.eraseIdx k.toNat)] ++ Br.bkA sb sq sc 32 sh)
   (fun c M => c = .ret ∧ ∃ pre, M = [Jx pre, pt by_ [.func (.yield l) #[] #[]], pt b2 [.pointer (some ⟨d, 0, none⟩)], pt b3 [.int .i64 k], pt d [.bool o0, .bool o1, .pointer (some ⟨sb, 0, none⟩), .slice qc xs.length cc], rowA qc xs.length (xs.flatMap crC), rowA x.q x.es.length (x.es.flatMap Bn.enC), bksA (xs.eraseIdx k.toNat)] ++ Br.bkA sb sq sc 32 sh) (Ent.refl _) (fun _ => rfl) (by decide) ?_ ?_ ?_
  ·intro pre p hpre lp fm rec1
   obtain ⟨e, he, rfl⟩ := Bn.allV_pre hpre
   have hp2 : (pre.map fun p => (p.1, p.2.1)) ++ [((0 : Int) + pre.length, e.1)] <+: seenA x.es ++ seenB sh xs k (Br.allV 32 sh) := by
    have := map_pre (fun p : Int × Bn.En => (p.1, p.2.1)) hpre
    rw [List.map_append] at this
    exact this.trans (List.prefix_append _ _)
   have hmap : ((pre ++ [((0 : Int) + pre.length, e)]).map fun p : Int × Bn.En => (p.1, p.2.1)) = (pre.map fun p => (p.1, p.2.1)) ++ [((0 : Int) + pre.length, e.1)] := by rw [List.map_append]; rfl
   rw [hmap]
   (refine G tt_ok pk212 ?_; repeat (refine G1 tt_ok pk212 ?_; intro _))
   intro fm2 rec2
   refine CW.ent (Tk.to (As := x.bank ++ [bksA (xs.eraseIdx k.toNat)]) (by repeat (first | exact .n | exact Rm.h | apply Tk.c | apply Rm.t)) (bks_shut hx)) ?_
   refine G tt_ok pk212 ?_
   (refine SQ.yieldA rfl rfl (hY (pre.map fun p => (p.1, p.2.1)) ((0 : Int) + pre.length, e.1) hp2) (by repeat (first | exact .n | exact Rm.h | exact Rm.of own_row | exact Rm.of row_close0 | apply Tk.c | apply Rm.t)) ?_; rintro _ _ (⟨rfl, rfl⟩ | ⟨rfl, rfl⟩) <;> refine w_ ?_)
   ·refine G tt_ok pk212 ?_
    refine Ent.trans (Rm.to (A := bksA xs) (by repeat (first | exact Rm.h | apply Rm.t)) (bks_open hx)) ?_
    exact Tk.ent (by repeat (first | exact .n | exact Rm.h | apply Tk.c | apply Rm.t))
   ·refine G tt_ok pk212 ?_
    refine CW.ret ?_
    refine ⟨_, ⟨rfl, (pre.map fun p => (p.1, p.2.1)) ++ [((0 : Int) + pre.length, e.1)], rfl⟩, ?_⟩
    refine Ent.trans (Rm.to (A := bksA xs) (by repeat (first | exact Rm.h | apply Rm.t)) (bks_open hx)) ?_
    exact Tk.ent (by repeat (first | exact .n | exact Rm.h | apply Tk.c | apply Rm.t))
  ·refine CW.ent (Tk.to (As := x.bank ++ [bksA (xs.eraseIdx k.toNat)]) (by repeat (first | exact .n | exact Rm.h | apply Tk.c | apply Rm.t)) (bks_shut hx)) ?_
   rw [show ((Bn.allV 0 x.es).map fun p => (p.1, p.2.1)) = seenA x.es from rfl]
   refine G tt_ok pk212 ?_
   (refine ka rfl rfl (Br.all21 β sb sq sc 32 sh (by omega)) ?_; rintro _ _ ⟨e1, e3, q2, n2, rfl, rfl⟩; refine w_ ?_)
   refine G tt_ok pk212 ?_
   refine CW.ent (Rm.to (A := rowA q2 sh.length (sh.flatMap Br.enC)) (by repeat (first | exact Rm.h | apply Rm.t)) (row_rd β (sz := 9) (flatE_len (sz := 9) (fun _ => rfl) sh))) ?_
   refine CW.open_ fun B2 => CW.pure_ fun hB2 => ?_
   refine CW.ent (L' := [pt e3 [.slice q2 sh.length n2], pt e1 [.pointer (some ⟨sb, 0, none⟩)], pt sb [.int .i64 32, .slice sq sh.length sc], B2, J (seenA x.es), pt by_ [.func (.yield l) #[] #[]], pt b2 [.pointer (some ⟨d, 0, none⟩)], pt b3 [.int .i64 k], pt d [.bool o0, .bool o1, .pointer (some ⟨sb, 0, none⟩), .slice qc xs.length cc], rowA qc xs.length (xs.flatMap crC), bksA xs, rowA sq sh.length (sh.flatMap Br.enC)]) (Tk.ent (by repeat (first | exact .n | exact Rm.h | apply Tk.c | apply Rm.t))) ?_
   refine CW.rangeFunc rfl (Br.iter43 β sb e1 e3 hB2 (by omega) (by omega) (by omega) rfl) [0, 0, 0, 0] rfl
    (fun pre => [J (seenA x.es ++ seenB sh xs k pre), pt by_ [.func (.yield l) #[] #[]], pt b2 [.pointer (some ⟨d, 0, none⟩)], pt b3 [.int .i64 k], pt d [.bool o0, .bool o1, .pointer (some ⟨sb, 0, none⟩), .slice qc xs.length cc], rowA qc xs.length (xs.flatMap crC), bksA xs, rowA sq sh.length (sh.flatMap Br.enC)])
    (fun c M => c = .ret ∧ ∃ pre, M = [Jx pre, pt by_ [.func (.yield l) #[] #[]], pt b2 [.pointer (some ⟨d, 0, none⟩)], pt b3 [.int .i64 k], pt d [.bool o0, .bool o1, .pointer (some ⟨sb, 0, none⟩), .slice qc xs.length cc], rowA qc xs.length (xs.flatMap crC), bksA xs, rowA sq sh.length (sh.flatMap Br.enC)]) ?_ (fun _ => rfl) (by decide) ?_ ?_ ?_
   ·rw [show seenB sh xs k [] = [] from rfl, List.append_nil]
    exact Ent.refl _
   ·intro pre p hpre lp fm rec1
    obtain ⟨e, he, rfl⟩ := Br.allV_pre hpre
    have hplt : pre.length < sh.length := (List.getElem?_eq_some_iff.1 he).1
    have hsb : seenB sh xs k (pre ++ [((32 : Int) + pre.length, e)]) = seenB sh xs k pre ++ if (targetV sh xs (32 + pre.length) == k) = true then [((32 : Int) + pre.length, e.1)] else [] := by
     unfold seenB
     rw [List.filter_append, List.map_append]
     congr 1
     simp only [List.filter_cons, List.filter_nil]
     split <;> rfl
    have hp2 : seenA x.es ++ seenB sh xs k (pre ++ [((32 : Int) + pre.length, e)]) <+: seenA x.es ++ seenB sh xs k (Br.allV 32 sh) := List.prefix_append_right_inj _ |>.2 (map_pre _ (filter_pre _ hpre))
    rw [hsb] at hp2 ⊢
    (refine G tt_ok pk212 ?_; repeat (refine G1 tt_ok pk212 ?_; intro _))
    intro fm2 rec2
    refine G tt_ok pk212 ?_
    refine ke rfl rfl (target19 β d o0 o1 sb sq sc sh qc cc xs (by omega) (32 + pre.length) (by omega)) ?_
    refine G tt_ok pk212 ?_
    cases ht : (targetV sh xs (32 + pre.length) == k) with
    | false =>
     simp only [ht, Bool.false_eq_true, if_false, List.append_nil] at hp2 ⊢
     refine G tt_ok pk212 ?_
     exact Tk.ent (by repeat (first | exact .n | exact Rm.h | apply Tk.c | apply Rm.t))
    | true =>
     simp only [ht, if_true] at hp2 ⊢
     rw [← List.append_assoc] at hp2 ⊢
     refine G tt_ok pk212 ?_
     (refine SQ.yieldA rfl rfl (hY (seenA x.es ++ seenB sh xs k pre) ((32 : Int) + pre.length, e.1) hp2) (by repeat (first | exact .n | exact Rm.h | exact Rm.of own_row | exact Rm.of row_close0 | apply Tk.c | apply Rm.t)) ?_; rintro _ _ (⟨rfl, rfl⟩ | ⟨rfl, rfl⟩) <;> refine w_ ?_)
     ·refine G tt_ok pk212 ?_
      exact Tk.ent (by repeat (first | exact .n | exact Rm.h | apply Tk.c | apply Rm.t))
     ·refine G tt_ok pk212 ?_
      refine CW.ret ?_
      refine ⟨_, ⟨rfl, (seenA x.es ++ seenB sh xs k pre) ++ [((32 : Int) + pre.length, e.1)], rfl⟩, ?_⟩
      exact Tk.ent (by repeat (first | exact .n | exact Rm.h | apply Tk.c | apply Rm.t))
   ·refine fin_normal (vs := []) rfl (A := J (seenA x.es ++ seenB sh xs k (Br.allV 32 sh)) :: ([pt b2 [.pointer (some ⟨d, 0, none⟩)], pt b3 [.int .i64 k]] ++ ([pt d [.bool o0, .bool o1, .pointer (some ⟨sb, 0, none⟩), .slice qc xs.length cc], rowA qc xs.length (xs.flatMap crC), bksA xs] ++ Br.bkA sb sq sc 32 sh))) (Tk.ent (by repeat (first | exact .n | exact Rm.h | apply Tk.c | apply Rm.t))) (.inl rfl)
   ·rintro c M ⟨rfl, pre, rfl⟩
    refine CW.ret ?_
    exact fin_ret rfl (A := Jx pre :: ([pt b2 [.pointer (some ⟨d, 0, none⟩)], pt b3 [.int .i64 k]] ++ ([pt d [.bool o0, .bool o1, .pointer (some ⟨sb, 0, none⟩), .slice qc xs.length cc], rowA qc xs.length (xs.flatMap crC), bksA xs] ++ Br.bkA sb sq sc 32 sh))) (Tk.ent (by repeat (first | exact .n | exact Rm.h | apply Tk.c | apply Rm.t))) (.inr ⟨pre, rfl⟩)
  ·rintro c M ⟨rfl, pre, rfl⟩
   refine CW.ret ?_
   refine fin_ret rfl (A := Jx pre :: ([pt b2 [.pointer (some ⟨d, 0, none⟩)], pt b3 [.int .i64 k]] ++ ([pt d [.bool o0, .bool o1, .pointer (some ⟨sb, 0, none⟩), .slice qc xs.length cc], rowA qc xs.length (xs.flatMap crC), bksA xs] ++ Br.bkA sb sq sc 32 sh))) ?_ (.inr ⟨pre, rfl⟩)
   refine Ent.trans (Tk.to (As := x.bank ++ [bksA (xs.eraseIdx k.toNat)]) (by repeat (first | exact .n | exact Rm.h | apply Tk.c | apply Rm.t)) (bks_shut hx)) ?_
   exact Tk.ent (by repeat (first | exact .n | exact Rm.h | apply Tk.c | apply Rm.t))
@[reducible] def pk195 : List (Nat × Plan) := [(5, [(0, 0, []), (1, 0, []), (2, 0, []), (3, 0, []), (4, 0, []), (5, 0, []), (6, 0, []), (7, 0, []), (8, 0, []), (9, 0, []), (10, 0, []), (11, 0, []), (12, 0, []), (13, 0, []), (14, 1, [1, 3, 5, 9, 13]), (15, 0, []), (16, 0, []), (17, 0, []), (18, 0, []), (19, 0, []), (20, 1, []), (21, 0, []), (22, 0, [])])]
def takeP (o0 o1 : Bool) (p : Int × Ln) : Bool := p.2.2.1 && ((if p.2.2.2.1 = 0 then o0 else o1) && readyI p.2.1)
def DS.readyV (D : DS) (k : Int) : List (Int × Ln) := if asleepV D.xs k then [] else (D.seenV k).filter (takeP D.o0 D.o1)
theorem ready17 (β : Base) (d : Nat) (k : Int) : Tri Tryz.prog β 163 [.pointer (some ⟨d, 0, none⟩), .int .i64 k] [] (fun v L => ∃ b2 b3, v = .func (.func 195) #[] #[.pointer (some ⟨b2, 0, none⟩), .pointer (some ⟨b3, 0, none⟩)] ∧ L = [pt b2 [.pointer (some ⟨d, 0, none⟩)], pt b3 [.int .i64 k]]) := by
 refine Tri.intro tt_ok Tryz.func163 rfl rfl Tryz.ntmps163 rfl fun F => ?_
 (refine G tt_ok [] ?_; repeat (refine G1 tt_ok [] ?_; intro _))
 rename_i b2 b3
 refine CW.ret (fin_ret rfl (A := [pt b2 [.pointer (some ⟨d, 0, none⟩)], pt b3 [.int .i64 k]]) pk_ ?_)
 exact ⟨b2, b3, rfl, rfl⟩
theorem readyIs (β : Base) (i : Iq) : Tri Tryz.prog β 180 [.agg #[.bool i.1, .bool i.2.1, .bool i.2.2.1, .bool i.2.2.2]] [] (fun v L => v = .bool (readyI i) ∧ L = []) := ready60 β _ _ _ _
theorem rd_on {o0 o1 : Bool} {u w : Value} {g : Int} (h0 : 0 ≤ g) (h1 : g ≤ 1) : rdv ti4 [.bool o0, .bool o1, u, w] (0 + g.toNat * 1) = some (.bool (if g = 0 then o0 else o1)) := by
 have : g = 0 ∨ g = 1 := by omega
 rcases this with rfl | rfl <;> rfl
set_option maxHeartbeats 8000000 in
theorem iter51 (β : Base) (d b2 b3 : Nat) (D : DS) (k : Int) (hn8 : D.xs.length ≤ 8) (hns : D.sh.length ≤ 64) (hes : ∀ x ∈ D.xs, x.es.length = 32) (hgr : ∀ p ∈ D.seenV k, 0 ≤ p.2.2.2.1 ∧ p.2.2.2.1 ≤ 1) :
  Iter Tryz.prog β 195 [.pointer (some ⟨b2, 0, none⟩), .pointer (some ⟨b3, 0, none⟩)] ([pt b2 [.pointer (some ⟨d, 0, none⟩)], pt b3 [.int .i64 k]] ++ dA d D) ilC (D.readyV k) := by
 intro l J Jx hY
 refine Tri.intro tt_ok Tryz.func195 rfl rfl Tryz.ntmps195 rfl fun F => ?_
 unfold DS.readyV at hY ⊢
 (refine G tt_ok pk195 ?_; repeat (refine G1 tt_ok pk195 ?_; intro _))
 rename_i by_
 refine ke rfl rfl (asleep22 β d D k) ?_
 cases hs : asleepV D.xs k with
 | true =>
  refine G tt_ok pk195 ?_
  exact CW.ret (fin_ret rfl (A := J [] :: ([pt b2 [.pointer (some ⟨d, 0, none⟩)], pt b3 [.int .i64 k]] ++ dA d D)) pk_ (.inl rfl))
 | false =>
  rw [hs] at hY
  simp only [Bool.false_eq_true, if_false] at hY ⊢
  refine G tt_ok pk195 ?_
  (refine ka rfl rfl (seen26 β d k) ?_; rintro _ _ ⟨s2, s3, rfl, rfl⟩; refine w_ ?_)
  refine G tt_ok pk195 ?_
  refine CW.ent (L' := ([pt s2 [.pointer (some ⟨d, 0, none⟩)], pt s3 [.int .i64 k]] ++ dA d D) ++ [J [], pt by_ [.func (.yield l) #[] #[]], pt b2 [.pointer (some ⟨d, 0, none⟩)], pt b3 [.int .i64 k]]) pk_ ?_
  refine CW.rangeFunc rfl (iter63 β d s2 s3 D k hn8 hns hes) [0, 0, 0, 0, 0, 0, 0] rfl
   (fun pre => [J (pre.filter (takeP D.o0 D.o1)), pt by_ [.func (.yield l) #[] #[]], pt b2 [.pointer (some ⟨d, 0, none⟩)], pt b3 [.int .i64 k]])
   (fun c M => c = .ret ∧ ∃ pre, M = [Jx pre, pt by_ [.func (.yield l) #[] #[]], pt b2 [.pointer (some ⟨d, 0, none⟩)], pt b3 [.int .i64 k]]) (Ent.refl _) (fun _ => rfl) (by decide) ?_ ?_ ?_
  ·intro pre p hpre lp fm rec1
   obtain ⟨hg0, hg1⟩ := hgr p (hpre.subset (by simp : p ∈ pre ++ [p]))
   have hfl : (pre ++ [p]).filter (takeP D.o0 D.o1) = pre.filter (takeP D.o0 D.o1) ++ if takeP D.o0 D.o1 p = true then [p] else [] := by
    rw [List.filter_append]
    congr 1
    rw [List.filter_cons, List.filter_nil]
   have hp2 := filter_pre (takeP D.o0 D.o1) hpre
   rw [hfl] at hp2 ⊢
   (refine G tt_ok pk195 ?_; repeat (refine G1 tt_ok pk195 ?_; intro _))
   intro fm2 rec2
   refine G tt_ok pk195 ?_
   obtain ⟨id, iq, en, g, pr⟩ := p
   rw [show takeP D.o0 D.o1 (id, iq, en, g, pr) = (en && ((if g = 0 then D.o0 else D.o1) && readyI iq)) from rfl] at hp2 ⊢
   simp only at hg0 hg1 hp2 ⊢
   cases en with
   | false =>
    simp only [Bool.false_and, Bool.false_eq_true, if_false, List.append_nil] at hp2 ⊢
    refine G tt_ok pk195 ?_
    exact pk_
   | true =>
    simp only [Bool.true_and] at hp2 ⊢
    refine G tt_ok pk195 ?_
    refine SQ.idx tt_ok rfl rfl g.toNat (by omega) (by omega) (o' := 0 + g.toNat * 1) rfl ?_
    refine SQ.ldA tt_ok rfl rfl (by repeat (first | exact .h | exact .q | apply At.t)) (rd_on hg0 hg1) ?_
    refine G tt_ok pk195 ?_
    have hon := fun u w => rd_on (o0 := D.o0) (o1 := D.o1) (u := u) (w := w) hg0 hg1
    generalize (if g = 0 then D.o0 else D.o1) = on at hp2 hon ⊢
    cases on with
    | false =>
     simp only [Bool.false_and, Bool.false_eq_true, if_false, List.append_nil] at hp2 ⊢
     refine G tt_ok pk195 ?_
     exact pk_
    | true =>
     simp only [Bool.true_and] at hp2 ⊢
     refine G tt_ok pk195 ?_
     (refine ka rfl rfl (readyIs β iq) ?_; rintro _ _ ⟨rfl, rfl⟩; refine ⟨(by repeat (first | exact trivial | refine ⟨trivial, ?_⟩ | refine ⟨wk (by repeat (first | exact .h | exact .q | apply At.t)) (hon _ _), ?_⟩ | refine ⟨wk (by repeat (first | exact .h | exact .q | apply At.t)) (by rfl), ?_⟩)), ?_⟩)
     generalize readyI iq = rd at hp2 ⊢
     cases rd with
     | false =>
      simp only [Bool.false_eq_true, if_false, List.append_nil] at hp2 ⊢
      refine G tt_ok pk195 ?_
      exact pk_
     | true =>
      simp only [if_true] at hp2 ⊢
      refine G tt_ok pk195 ?_
      (refine SQ.yieldA rfl rfl (hY (pre.filter (takeP D.o0 D.o1)) (id, iq, true, g, pr) hp2) (by repeat (first | exact .n | exact Rm.h | exact Rm.of own_row | exact Rm.of row_close0 | apply Tk.c | apply Rm.t)) ?_; rintro _ _ (⟨rfl, rfl⟩ | ⟨rfl, rfl⟩) <;> refine w_ ?_)
      ·refine G tt_ok pk195 ?_
       exact pk_
      ·refine G tt_ok pk195 ?_
       refine CW.ret ?_
       refine ⟨_, ⟨rfl, pre.filter (takeP D.o0 D.o1) ++ [(id, iq, true, g, pr)], rfl⟩, ?_⟩
       exact pk_
  ·exact fin_normal (vs := []) rfl (A := J ((D.seenV k).filter (takeP D.o0 D.o1)) :: ([pt b2 [.pointer (some ⟨d, 0, none⟩)], pt b3 [.int .i64 k]] ++ dA d D)) pk_ (.inl rfl)
  ·rintro c M ⟨rfl, pre, rfl⟩
   refine CW.ret ?_
   exact fin_ret rfl (A := Jx pre :: ([pt b2 [.pointer (some ⟨d, 0, none⟩)], pt b3 [.int .i64 k]] ++ dA d D)) pk_ (.inr ⟨pre, rfl⟩)
theorem before56 (β : Base) (p i q j : Int) : Tri Tryz.prog β 114 [.int .i64 p, .int .i64 i, .int .i64 q, .int .i64 j] [] (fun v L => v = .bool (decide (p < q) || (p == q && decide (i < j))) ∧ L = []) := by
 refine Tri.intro tt_ok Tryz.func114 rfl rfl Tryz.ntmps114 rfl fun F => ?_
 (repeat' (first | refine CW.seq ?_ | refine CW.region tt_ok rfl ?_ | refine CW.block ?_ | refine CW.skip ?_ | refine SQ.nil ?_ | refine SQ.pures1 tt_ok rfl ?_ | refine SQ.pure1 tt_ok rfl ?_ | refine SQ.new _ _ rfl rfl (fun _ => ?_) | refine SQ.ldA tt_ok rfl rfl (by repeat (first | exact .h | exact .q | apply At.t)) (by rfl) ?_ | refine SQ.stA tt_ok rfl rfl (by repeat (first | apply Up.h | apply Up.t)) (by rfl) (by rfl) (by exact trivial) ?_ | refine CW.cond_tt rfl ?_ | refine CW.cond_ff rfl ?_ | ((first | refine CW.cond rfl (fun hc => ?_) (fun hc => ?_) | refine SQ.gsplit rfl (fun hc => ?_) (fun hc => ?_)) <;> try (exfalso; simp_all; done))))
 all_goals (refine CW.ret (fin_ret rfl (Ent.refl _) ⟨?_, rfl⟩); simp_all [packV])
abbrev Cd := Int × Int × Int × Bool
def beforeV (p i q j : Int) : Bool := decide (p < q) || (p == q && decide (i < j))
def bestS (c : Cd) (p : Int × Ln) : Cd := if (!c.2.2.2 || beforeV p.2.2.2.2 p.1 c.2.1 c.1) = true then (p.1, p.2.2.2.2, p.2.2.2.1, true) else c
def bestL (ps : List (Int × Ln)) : Cd := ps.foldl bestS (0, 0, 0, false)
theorem before56' (β : Base) (p i q j : Int) : Tri Tryz.prog β 114 [.int .i64 p, .int .i64 i, .int .i64 q, .int .i64 j] [] (fun v L => v = .bool (beforeV p i q j) ∧ L = []) := before56 β p i q j
set_option maxHeartbeats 4000000 in
theorem best20 (β : Base) (d : Nat) (D : DS) (k : Int) (hn8 : D.xs.length ≤ 8) (hns : D.sh.length ≤ 64) (hes : ∀ x ∈ D.xs, x.es.length = 32) (hgr : ∀ p ∈ D.seenV k, 0 ≤ p.2.2.2.1 ∧ p.2.2.2.1 ≤ 1) :
  Tri Tryz.prog β 112 [.pointer (some ⟨d, 0, none⟩), .int .i64 k] (dA d D) (fun v L => v = .agg #[.int .i64 (bestL (D.readyV k)).1, .int .i64 (bestL (D.readyV k)).2.1, .int .i64 (bestL (D.readyV k)).2.2.1, .bool (bestL (D.readyV k)).2.2.2] ∧ L = dA d D) := by
 refine Tri.intro tt_ok Tryz.func112 rfl rfl Tryz.ntmps112 rfl fun F => ?_
 (refine G tt_ok [] ?_; repeat (refine G1 tt_ok [] ?_; intro _))
 rename_i b4 b5
 (refine ka rfl rfl (ready17 β d k) ?_; rintro _ _ ⟨s2, s3, rfl, rfl⟩; refine w_ ?_)
 refine G tt_ok [] ?_
 refine CW.ent (L' := ([pt s2 [.pointer (some ⟨d, 0, none⟩)], pt s3 [.int .i64 k]] ++ dA d D) ++ [pt b5 [.int .i64 0, .int .i64 0, .int .i64 0, .bool false], pt b4 [.int .i64 0, .int .i64 0, .int .i64 0, .bool false]]) pk_ ?_
 refine CW.rangeFunc rfl (iter51 β d s2 s3 D k hn8 hns hes hgr) [0, 0, 0, 0, 0, 0, 0] rfl
  (fun pre => [pt b5 [.int .i64 (bestL pre).1, .int .i64 (bestL pre).2.1, .int .i64 (bestL pre).2.2.1, .bool (bestL pre).2.2.2], pt b4 [.int .i64 0, .int .i64 0, .int .i64 0, .bool false]])
  (fun _ _ => False) (Ent.refl _) (fun _ => rfl) (by decide) ?_ ?_ (fun _ _ h => h.elim)
 ·intro pre p hpre lp fm rec1
  have hst : bestL (pre ++ [p]) = bestS (bestL pre) p := by unfold bestL; rw [List.foldl_append]; rfl
  rw [hst]
  generalize bestL pre = c
  obtain ⟨ci, cp, cg, cis⟩ := c
  obtain ⟨id, iq, en, g, pr⟩ := p
  unfold bestS
  simp only
  (refine G tt_ok [] ?_; repeat (refine G1 tt_ok [] ?_; intro _))
  intro fm2 rec2
  refine G tt_ok [] ?_
  cases cis with
  | false =>
   refine G tt_ok [] ?_
   exact pk_
  | true =>
   refine G tt_ok [] ?_
   refine ke rfl rfl (before56' β pr id cp ci) ?_
   cases hb : beforeV pr id cp ci with
   | true =>
    refine G tt_ok [] ?_
    exact pk_
   | false =>
    refine G tt_ok [] ?_
    exact pk_
 ·refine G tt_ok [] ?_
  refine CW.ret (fin_cells [_] ⟨⟨_, _, _, _, 1, rfl, rfl, rfl, rfl⟩, trivial⟩ (A := dA d D) pk_ ⟨rfl, rfl⟩)
-- part Gj
@[reducible] def pk143 : List (Nat × Plan) := []
@[reducible] def pk160 : List (Nat × Plan) := []
@[reducible] def pk161 : List (Nat × Plan) := []
@[reducible] def pk162 : List (Nat × Plan) := []
def andI (a b : Int) : Int := IntKind.i64.wrap ((BitVec.ofInt IntKind.i64.bits a &&& BitVec.ofInt IntKind.i64.bits b).toNat : Int)
theorem ofInt_nat (n : Nat) (h : n < 2 ^ 64) : (BitVec.ofInt 64 (n : Int)).toNat = n := by
 rw [BitVec.toNat_ofInt]
 have : ((2 : Int) ^ 64) = ((2 ^ 64 : Nat) : Int) := by norm_cast
 rw [show ((2 ^ 64 : Nat) : Int) = (18446744073709551616 : Int) from rfl]
 omega
theorem andI_nat {a b : Nat} (ha : a < 2 ^ 63) (hb : b < 2 ^ 63) : andI a b = ((a &&& b : Nat) : Int) := by
 unfold andI
 show IntKind.i64.wrap (((BitVec.ofInt 64 (a : Int) &&& BitVec.ofInt 64 (b : Int)).toNat : Nat) : Int) = _
 rw [BitVec.toNat_and, ofInt_nat a (by omega), ofInt_nat b (by omega)]
 have h := Nat.and_lt_two_pow a hb
 exact wrap_id (by omega) (by omega)
theorem real48 (β : Base) (p : Int) : Tri Tryz.prog β 143 [.int .i64 p] [] (fun v L => v = .int .i64 (andI p 248) ∧ L = []) := by
 refine Tri.intro tt_ok Tryz.func143 rfl rfl Tryz.ntmps143 rfl fun F => ?_
 refine G tt_ok pk143 ?_
 exact CW.ret (fin_ret rfl (Ent.refl _) ⟨rfl, rfl⟩)
theorem passes74 (β : Base) (p m : Int) : Tri Tryz.prog β 160 [.int .i64 p, .int .i64 m] [] (fun v L => v = .bool (decide (p < m)) ∧ L = []) := by
 refine Tri.intro tt_ok Tryz.func160 rfl rfl Tryz.ntmps160 rfl fun F => ?_
 refine G tt_ok pk160 ?_
 exact CW.ret (fin_ret rfl (Ent.refl _) ⟨rfl, rfl⟩)
theorem preempts75 (β : Base) (p r m : Int) : Tri Tryz.prog β 161 [.int .i64 p, .int .i64 r, .int .i64 m] [] (fun v L => v = .bool (decide (andI p m < r)) ∧ L = []) := by
 refine Tri.intro tt_ok Tryz.func161 rfl rfl Tryz.ntmps161 rfl fun F => ?_
 refine G tt_ok pk161 ?_
 exact CW.ret (fin_ret rfl (Ent.refl _) ⟨rfl, rfl⟩)
def maskN (g p : Nat) : Nat := if g = 0 then (if p = 7 then 0 else 256 - 2 ^ (p + 1)) else 256 - 2 ^ (if p = 0 then 1 else p)
theorem mask136 (β : Base) {g p : Nat} (hg : g ≤ 1) (hp : p ≤ 7) : Tri Tryz.prog β 162 [.int .i64 g, .int .i64 p] [] (fun v L => v = .int .i64 (maskN g p) ∧ L = []) := by
 refine Tri.intro tt_ok Tryz.func162 rfl rfl Tryz.ntmps162 rfl fun F => ?_
 have h1 : g = 0 ∨ g = 1 := by omega
 have h2 : p = 0 ∨ p = 1 ∨ p = 2 ∨ p = 3 ∨ p = 4 ∨ p = 5 ∨ p = 6 ∨ p = 7 := by omega
 rcases h1 with rfl | rfl <;> rcases h2 with rfl | rfl | rfl | rfl | rfl | rfl | rfl | rfl <;> (
  refine G tt_ok pk162 ?_
  exact CW.ret (fin_ret rfl (Ent.refl _) ⟨rfl, rfl⟩))
def lad1 (b0 b1 k : Nat) : List (Int × Int) := (if b0 / 2 ^ k % 2 = 1 then [(((8 * k : Nat) : Int), 0)] else []) ++ (if b1 / 2 ^ k % 2 = 1 then [(((8 * k : Nat) : Int), 1)] else [])
def ladN (b0 b1 : Nat) : Nat → List (Int × Int)
 | 0 => []
 | n + 1 => lad1 b0 b1 (32 - (n + 1)) ++ ladN b0 b1 n
def laddL (b0 b1 : Nat) : List (Int × Int) := ladN b0 b1 32
@[reducible] def ppC (x : Int × Int) : List Value := [.int .i64 x.1, .int .i64 x.2]
def ldC (b0 b1 : Nat) : List Value := [.int .u32 b0, .int .u32 b1]
end Go.Proofs.YtakkogdmlbkdaaaGreatDoor.Sl
namespace Go.Proofs.YtakkogdmlbkdaaaGreatDoor.Sl.It
attribute [local irreducible] CW Tri OW
@[reducible] def pk133 : List (Nat × Plan) := []
@[reducible] def pk80 : List (Nat × Plan) := [(2, [(0, 0, []), (1, 0, []), (2, 0, []), (3, 0, []), (5, 0, []), (6, 0, []), (7, 0, []), (8, 0, []), (4, 1, [3, 8]), (9, 1, [3, 8]), (10, 0, []), (11, 1, []), (12, 0, []), (13, 1, [])])]
@[reducible] def pk164 : List (Nat × Plan) := [(4, [(0, 0, []), (1, 0, []), (2, 0, []), (3, 0, []), (4, 0, []), (5, 0, []), (6, 0, []), (7, 0, []), (8, 0, []), (9, 0, []), (10, 0, []), (11, 0, []), (12, 0, []), (13, 0, []), (14, 0, []), (15, 0, []), (16, 0, []), (17, 1, [3, 6, 12, 15]), (18, 0, []), (19, 0, [])])]
@[reducible] def pk113 : List (Nat × Plan) := []
theorem setcopy133 (β : Base) (S : Nat) (q : Option Addr) (c : Nat) {U : List Nat} (hU : setOk U) :
  Tri Tryz.prog β 133 [.pointer (some ⟨S, 0, none⟩)] (setL S q c U) (fun v L => ∃ S' q' c', v = .pointer (some ⟨S', 0, none⟩) ∧ L = setL S q c U ++ setL S' q' c' U) := by
 refine Tri.intro tt_ok Tryz.func133 rfl rfl Tryz.ntmps133 rfl fun F => ?_
 unfold setL
 refine G tt_ok pk133 ?_
 (refine ka rfl rfl (clone175 β q c hU) ?_; rintro _ _ ⟨q', c', rfl, rfl⟩; refine w_ ?_)
 (refine G tt_ok pk133 ?_; repeat (refine G1 tt_ok pk133 ?_; intro _))
 rename_i S'
 exact CW.ret (fin_ret rfl (A := setL S q c U ++ setL S' q' c' U) (by unfold setL; exact pk_) ⟨S', q', c', rfl, rfl⟩)
set_option maxHeartbeats 4000000 in
theorem lcopy80 (β : Base) (x : Lp) (hU : setOk x.U) (hC : x.C.length = 512) :
  Tri Tryz.prog β 80 [.pointer (some ⟨x.p, 0, none⟩)] (colF x) (fun v L => ∃ y : Lp, v = .pointer (some ⟨y.p, 0, none⟩) ∧ y.k = x.k ∧ y.pc = x.pc ∧ L = colF x ++ colF y) := by
 obtain ⟨p, r, S, k, q, c, on, U, C⟩ := x
 simp only at hU hC ⊢
 refine Tri.intro tt_ok Tryz.func80 rfl rfl Tryz.ntmps80 rfl fun F => ?_
 have hcl := clone64 β r.1 0 (512 + r.2.length) (bys C ++ r.2) C (by omega) (by omega) (by rw [List.drop_zero, ← bys_len C]; exact List.take_left)
 rw [hC] at hcl
 unfold colF colA
 (refine G tt_ok pk80 ?_; repeat (refine G1 tt_ok pk80 ?_; intro _))
 (refine ka rfl rfl (hcl) ?_; rintro _ _ ⟨b, X, rfl, rfl⟩; refine w_ ?_)
 refine G tt_ok pk80 ?_
 (refine ka rfl rfl (setcopy133 β S q c hU) ?_; rintro _ _ ⟨S', q', c', rfl, rfl⟩; refine w_ ?_)
 refine G tt_ok pk80 ?_
 rename_i p'
 refine CW.ret (fin_ret rfl (A := colF ⟨p, r, S, k, q, c, on, U, C⟩ ++ colF ⟨p', (b, X), S', k, q', c', on, U, C⟩) ?_ ⟨⟨p', (b, X), S', k, q', c', on, U, C⟩, rfl, rfl, rfl, rfl⟩)
 unfold colF colA setL
 exact pk_
def supI (C : List Nat) (i : Nat) : Bool := decide (C.getD i 0 % 2 = 1)
def supP (C : List Nat) (i : Nat) : Int := andI ((C.getD i 0 : Nat) : Int) 248
theorem and1_u8 {y : Nat} (hy : y < 256) : (IntKind.u8.wrap ((BitVec.ofInt IntKind.u8.bits (y : Int) &&& BitVec.ofInt IntKind.u8.bits 1).toNat : Int) == 1) = decide (y % 2 = 1) := by
 have h : ∀ z : Fin 256, (IntKind.u8.wrap ((BitVec.ofInt IntKind.u8.bits (z.1 : Int) &&& BitVec.ofInt IntKind.u8.bits 1).toNat : Int) == 1) = decide (z.1 % 2 = 1) := by decide +kernel
 exact h ⟨y, hy⟩
set_option maxHeartbeats 4000000 in
theorem setup164 (β : Base) (p : Nat) (r : Gr) (S k : Nat) (on : Bool) {C : List Nat} (hC : C.length = 512) (hb : byOk C) {i : Nat} (hi : i < 512) :
  Tri Tryz.prog β 164 [.pointer (some ⟨p, 0, none⟩), .int .i64 ((8192 + i : Nat) : Int)] [pt p (lpC k on r S), pt r.1 (bys C ++ r.2)]
   (fun v L => v = .tuple #[.bool (supI C i), .int .i64 (supP C i)] ∧ L = [pt p (lpC k on r S), pt r.1 (bys C ++ r.2)]) := by
 refine Tri.intro tt_ok Tryz.func164 rfl rfl Tryz.ntmps164 rfl fun F => ?_
 have hc : C[i]? = some (C.getD i 0) := by rw [List.getD_eq_getElem?_getD, List.getElem?_eq_getElem (by omega)]; rfl
 have hy := hb _ (List.mem_of_getElem? hc)
 unfold supI supP
 generalize C.getD i 0 = y at hc hy ⊢
 refine G tt_ok pk164 ?_
 refine ke rfl rfl (index45 β p k on r S ((8192 + i : Nat) : Int)) ?_
 rw [show idxV ((8192 + i : Nat) : Int) = true by unfold idxV; rw [wrap_id (by omega) (by omega)]; simp; omega, show IntKind.i64.wrap (((8192 + i : Nat) : Int) - 8192) = (i : Int) by rw [wrap_id (by omega) (by omega)]; omega]
 refine G tt_ok pk164 ?_
 refine SQ.idx tt_ok rfl rfl i rfl hi (o' := 0 + i * 1) rfl ?_
 (refine SQ.ldA tt_ok rfl rfl (by repeat (first | exact .h | exact .q | apply At.t)) (bys_at hc) ?_)
 refine G tt_ok pk164 ?_
 refine SQ.idx tt_ok rfl rfl i rfl hi (o' := 0 + i * 1) rfl ?_
 (refine SQ.ldA tt_ok rfl rfl (by repeat (first | exact .h | exact .q | apply At.t)) (bys_at hc) ?_)
 refine G tt_ok pk164 ?_
 rw [show IntKind.i64.wrap (y : Int) = (y : Int) by rw [wrap_id (by omega) (by omega)]]
 (refine ka rfl rfl (real48 β (y : Int)) ?_; rintro _ _ ⟨rfl, rfl⟩; refine ⟨(by repeat (first | exact trivial | refine ⟨trivial, ?_⟩ | refine ⟨wk (by repeat (first | exact .h | exact .q | apply At.t)) (bys_at hc), ?_⟩ | refine ⟨wk (by repeat (first | exact .h | exact .q | apply At.t)) (bys_at hc), ?_⟩ | refine ⟨wk (by repeat (first | exact .h | exact .q | apply At.t)) (by rfl), ?_⟩)), ?_⟩)
 rw [and1_u8 hy]
 refine G tt_ok pk164 ?_
 exact CW.ret (fin_ret rfl (A := [pt p (lpC k on r S), pt r.1 (bys C ++ r.2)]) pk_ ⟨rfl, rfl⟩)
def stepC (C : List Nat) (c : Cd) (x : Int) : Cd := if supI C x.toNat && (!c.2.2.2 || beforeV (supP C x.toNat) (8192 + x) c.2.1 c.1) then (8192 + x, supP C x.toNat, 1, true) else c
def bestC (C U : List Nat) : Cd := (bitsU U).foldl (stepC C) (0, 0, 0, false)
@[reducible] def cdL (c : Cd) : List Value := [.int .i64 c.1, .int .i64 c.2.1, .int .i64 c.2.2.1, .bool c.2.2.2]
set_option maxHeartbeats 8000000 in
theorem best113 (β : Base) (hG : TabOk β) (p : Nat) (r : Gr) (S k : Nat) (q : Option Addr) (cc : Nat) (on : Bool) {U : List Nat} (hU : setOk U) {C : List Nat} (hC : C.length = 512) (hb : byOk C) :
  Tri Tryz.prog β 113 [.pointer (some ⟨p, 0, none⟩)] (colA p r S q cc k on U ++ [pt r.1 (bys C ++ r.2)])
   (fun v L => v = .agg (cdL (bestC C U)).toArray ∧ L = colA p r S q cc k on U ++ [pt r.1 (bys C ++ r.2)]) := by
 refine Tri.intro tt_ok Tryz.func113 rfl rfl Tryz.ntmps113 rfl fun F => ?_
 have e0 : colA p r S q cc k on U = pt p (lpC k on r S) :: setL S q cc U := rfl
 rw [e0]
 (refine G tt_ok pk113 ?_; repeat (refine G1 tt_ok pk113 ?_; intro _))
 rename_i c1 c2 c3
 (refine ka rfl rfl (all126 β S q cc hU) ?_; rintro _ _ ⟨b1, b2, q1, n1, rfl, rfl⟩; refine w_ ?_)
 refine G tt_ok pk113 ?_
 have hI := iter176 β hG b1 b2 q1 n1 hU.2 (by have := hU.1; omega)
 refine CW.rangeA rfl hI (by repeat (first | exact .n | exact Rm.h | apply Tk.c | apply Rm.t)) (fun pre => [pt c3 (cdL (pre.foldl (stepC C) (0, 0, 0, false))), pt c2 (cdL (0, 0, 0, false)), pt c1 [.pointer (some ⟨p, 0, none⟩)], pt p (lpC k on r S), pt r.1 (bys C ++ r.2)] ++ setL S q cc U)
  (fun _ _ => False) (by unfold setL; exact pk_) (fun _ => rfl) (by decide) ?_ ?_ (fun _ _ h => h.elim)
 ·intro pre x hpre lp fm rec1
  obtain ⟨i, hi, rfl⟩ := bitsU_lt hU x (hpre.subset (by simp))
  have e1 : (pre ++ [(i : Int)]).foldl (stepC C) (0, 0, 0, false) = stepC C (pre.foldl (stepC C) (0, 0, 0, false)) i := by rw [List.foldl_append]; rfl
  simp only [e1]
  generalize pre.foldl (stepC C) (0, 0, 0, false) = c
  obtain ⟨ci, cp, cg, cis⟩ := c
  unfold stepC setL
  rw [Int.toNat_natCast]
  simp only
  refine G tt_ok pk113 ?_
  intro fm2 rec2
  refine G tt_ok pk113 ?_
  have w1 : IntKind.i64.wrap (8192 + (i : Int)) = ((8192 + i : Nat) : Int) := by rw [wrap_id (by omega) (by omega)]; omega
  rw [w1, show (8192 + (i : Int)) = ((8192 + i : Nat) : Int) by omega]
  refine G tt_ok pk113 ?_
  refine ke rfl rfl (setup164 β p r S k on hC hb hi) ?_
  generalize supP C i = pr
  cases hs : supI C i with
  | false =>
   refine G tt_ok pk113 ?_
   exact pk_
  | true =>
   cases cis with
   | false =>
    refine G tt_ok pk113 ?_
    exact pk_
   | true =>
    refine G tt_ok pk113 ?_
    refine ke rfl rfl (before56' β pr ((8192 + i : Nat) : Int) cp ci) ?_
    cases hbf : beforeV pr ((8192 + i : Nat) : Int) cp ci with
    | true =>
     refine G tt_ok pk113 ?_
     exact pk_
    | false =>
     refine G tt_ok pk113 ?_
     exact pk_
 ·rw [show (memU 0 U).foldl (stepC C) (0, 0, 0, false) = bestC C U from rfl]
  generalize bestC C U = c
  obtain ⟨ci, cp, cg, cis⟩ := c
  unfold setL
  refine G tt_ok pk113 ?_
  refine CW.ret (fin_cells [_] ⟨cl_, trivial⟩ (A := colA p r S q cc k on U ++ [pt r.1 (bys C ++ r.2)]) (by rw [e0]; unfold setL; exact pk_) ⟨rfl, rfl⟩)
@[reducible] def pk74 : List (Nat × Plan) := [(1, [(0, 0, []), (1, 0, []), (2, 0, []), (3, 0, []), (4, 0, []), (5, 0, []), (6, 0, []), (7, 0, []), (8, 0, []), (9, 1, [7, 8]), (10, 0, [])]), (4, [(0, 0, []), (1, 0, []), (2, 0, []), (3, 0, []), (4, 0, []), (5, 0, []), (6, 0, []), (7, 0, []), (8, 0, []), (9, 0, []), (10, 0, []), (11, 1, [6, 10]), (12, 0, []), (13, 0, []), (14, 0, []), (15, 0, []), (16, 0, [])])]
attribute [local irreducible] invK enK enV waitL
variable {T nc : Nat}
def cmdV (j : Nat) (x : IW) (c : Cm) : IW × Nat × Int :=
 if (putV x.w.B x.i j c).2.2 ≠ 0 then (⟨⟨(putV x.w.B x.i j c).1, x.w.cs⟩, x.st, x.i⟩, (putV x.w.B x.i j c).2.1, (putV x.w.B x.i j c).2.2)
 else if (runV 64 true (putV x.w.B x.i j c).2.1 1 0 ⟨⟨(putV x.w.B x.i j c).1, x.w.cs⟩, x.st, x.i⟩).2.2 ≠ 0 then
  (⟨(runV 64 true (putV x.w.B x.i j c).2.1 1 0 ⟨⟨(putV x.w.B x.i j c).1, x.w.cs⟩, x.st, x.i⟩).1.w, false,
   resI (runV 64 true (putV x.w.B x.i j c).2.1 1 0 ⟨⟨(putV x.w.B x.i j c).1, x.w.cs⟩, x.st, x.i⟩).1.st (runV 64 true (putV x.w.B x.i j c).2.1 1 0 ⟨⟨(putV x.w.B x.i j c).1, x.w.cs⟩, x.st, x.i⟩).1.i (putV x.w.B x.i j c).2.1 true⟩,
   (putV x.w.B x.i j c).2.1, (runV 64 true (putV x.w.B x.i j c).2.1 1 0 ⟨⟨(putV x.w.B x.i j c).1, x.w.cs⟩, x.st, x.i⟩).2.2)
 else ((runV 64 true (putV x.w.B x.i j c).2.1 1 0 ⟨⟨(putV x.w.B x.i j c).1, x.w.cs⟩, x.st, x.i⟩).1, (putV x.w.B x.i j c).2.1, 0)
theorem runV1_ok {j : Nat} {x : IW} (h : x.ok T nc) : (runV 64 true j 1 0 x).1.ok T nc := by
 have h1 := stepV_ok (p := 64) (on := true) (j := j) h
 rw [runV_s]
 split
 ·exact h1
 ·split
  ·exact h1
  ·exact h1
theorem cmdV_ok {j : Nat} {x : IW} (hx : x.ok T nc) (hj : j < 32) (c : Cm) : (cmdV j x c).1.ok T nc ∧ (cmdV j x c).2.1 < 32 := by
 obtain ⟨⟨hB, hb, hc⟩, hi⟩ := hx
 obtain ⟨h1, h2, h3⟩ := putV_in (i := x.i) (c := c) hB hb hj
 have hx1 : (⟨⟨(putV x.w.B x.i j c).1, x.w.cs⟩, x.st, x.i⟩ : IW).ok T nc := ⟨⟨h1, h2, hc⟩, hi⟩
 have hr := runV1_ok (j := (putV x.w.B x.i j c).2.1) hx1
 unfold cmdV
 split
 ·exact ⟨hx1, h3⟩
 ·split
  ·refine ⟨⟨hr.1, ?_⟩, h3⟩
   unfold resI
   split
   ·exact nxI_lt _ hr.2
   ·exact hr.2
  ·exact ⟨hr, h3⟩
set_option maxHeartbeats 4000000 in
theorem command74 (β : Base) (h m : Nat) (g : Gr) {ps : List Nat} {A : Atom} {q : Option Addr} (cp : Nat) (hS : TsOk β A q ps nc) (dv fv sv : Value) {x : IW} (hx : x.ok T nc) {j : Nat} (hj : j < 32) (c : Cm) :
  Tri Tryz.prog β 74 [.pointer (some ⟨h, 0, none⟩), .agg (cmC c).toArray] (pt h (itH (.pointer (some ⟨m, 0, none⟩), dv, fv, .slice q nc cp, sv) true x.st x.i j 64) :: A :: swA m g ps x.w)
   (fun u L => u = .int .i64 (cmdV j x c).2.2 ∧ L = pt h (itH (.pointer (some ⟨m, 0, none⟩), dv, fv, .slice q nc cp, sv) true (cmdV j x c).1.st (cmdV j x c).1.i (cmdV j x c).2.1 64) :: A :: swA m g ps (cmdV j x c).1.w) := by
 obtain ⟨⟨hB, hb, hc⟩, hi⟩ := hx
 obtain ⟨h1, h2, h3⟩ := putV_in (i := x.i) (c := c) hB hb hj
 have hx1 : (⟨⟨(putV x.w.B x.i j c).1, x.w.cs⟩, x.st, x.i⟩ : IW).ok T nc := ⟨⟨h1, h2, hc⟩, hi⟩
 have hr := runV1_ok (j := (putV x.w.B x.i j c).2.1) hx1
 have hput := put51 β m g (h, (.pointer (some ⟨m, 0, none⟩), dv, fv, .slice q nc cp, sv)) x.w.B hB true x.st 64 hi hj c
 have hrun := run21 β (h, (.pointer (some ⟨m, 0, none⟩), dv, fv, .slice q nc cp, sv)) m g cp hS (.inr rfl : (64 : Int) = 0 ∨ (64 : Int) = 64) hx1 true h3 (N := 1) (by omega)
 simp only at hput hrun
 unfold cmdV
 refine Tri.intro tt_ok Tryz.func74 rfl rfl Tryz.ntmps74 rfl fun F => ?_
 unfold swA
 unfold swA at hrun
 generalize putV x.w.B x.i j c = pv at hput hrun h1 h2 h3 hx1 hr ⊢
 obtain ⟨B1, j1, e1⟩ := pv
 simp only at hput hrun h1 h2 h3 hx1 hr ⊢
 (refine G tt_ok pk74 ?_; repeat (refine G1 tt_ok pk74 ?_; intro _))
 refine ke rfl rfl (hput) ?_
 by_cases he : e1 = 0
 ·subst he
  rw [if_neg (by simp)]
  generalize runV 64 true j1 1 0 ⟨⟨B1, x.w.cs⟩, x.st, x.i⟩ = rv at hrun hr ⊢
  obtain ⟨⟨w2, st2, i2⟩, n2, e2⟩ := rv
  simp only at hrun hr ⊢
  refine G tt_ok pk74 ?_
  refine ke rfl rfl (hrun) ?_
  by_cases he2 : e2 = 0
  ·subst he2
   rw [if_neg (by simp)]
   refine G tt_ok pk74 ?_
   exact CW.ret (fin_ret rfl (A := pt h (itH (.pointer (some ⟨m, 0, none⟩), dv, fv, .slice q nc cp, sv) true st2 i2 j1 64) :: A :: (colsA ps w2.cs :: memA m g w2.B)) pk_ ⟨rfl, rfl⟩)
  ·rw [if_pos he2]
   refine G tt_ok pk74 ?_
   rw [show (e2 != 0) = true by simp [he2]]
   refine G tt_ok pk74 ?_
   have hres := resume64 β (h, (.pointer (some ⟨m, 0, none⟩), dv, fv, .slice q nc cp, sv)) true st2 64 hr.2 h3 true
   simp only at hres
   refine ke rfl rfl (hres) ?_
   refine G tt_ok pk74 ?_
   exact CW.ret (fin_ret rfl (A := pt h (itH (.pointer (some ⟨m, 0, none⟩), dv, fv, .slice q nc cp, sv) true false (resI st2 i2 j1 true) j1 64) :: A :: (colsA ps w2.cs :: memA m g w2.B)) pk_ ⟨rfl, rfl⟩)
 ·rw [if_pos he]
  refine G tt_ok pk74 ?_
  rw [show (e1 != 0) = true by simp [he]]
  refine G tt_ok pk74 ?_
  exact CW.ret (fin_ret rfl (A := pt h (itH (.pointer (some ⟨m, 0, none⟩), dv, fv, .slice q nc cp, sv) true x.st x.i j1 64) :: A :: (colsA ps x.w.cs :: memA m g B1)) pk_ ⟨rfl, rfl⟩)
end Go.Proofs.YtakkogdmlbkdaaaGreatDoor.Sl.It
namespace Go.Proofs.YtakkogdmlbkdaaaGreatDoor.Sl
attribute [local irreducible] CW Tri OW
structure OB where
 b : Nat
 q : Option Addr
 c : Nat
 q2 : Option Addr
 c2 : Nat
structure RS where
 s : OB
 qk : Option Addr
 ck : Nat
 qa : Option Addr
 ca : Nat
 qo : Option Addr
 co : Nat
 qs : Option Addr
 cs : Nat
 os : List OB
structure OkD (R : RS) (D : DS) : Prop where
 one : 1 ≤ D.xs.length
 x8 : D.xs.length ≤ 8
 es : ∀ x ∈ D.xs, x.es.length = 32 ∧ Bn.okL x.es
 sh : D.sh.length ≤ 64
 ok : Br.okL D.sh
 os : R.os.length = D.xs.length
 rt : ∀ e ∈ D.sh, 0 ≤ e.2.1 ∧ e.2.1 ≤ 255
theorem allN_mem {f : Int} {es : List Bn.En} {q : Int × Bn.En} (h : q ∈ Bn.allV f es) : ∃ (i : Nat) (e : Bn.En), es[i]? = some e ∧ q = (f + i, e) := by
 obtain ⟨i, hi, e⟩ := List.getElem_of_mem h
 rw [Bn.allV_len] at hi
 have h2 := Bn.allV_at (first := f) (List.getElem?_eq_getElem hi)
 refine ⟨i, _, List.getElem?_eq_getElem hi, ?_⟩
 rw [List.getElem?_eq_getElem (by rw [Bn.allV_len]; exact hi), e] at h2
 exact Option.some.inj h2
theorem allR_mem {f : Int} {es : List Br.En} {q : Int × Br.En} (h : q ∈ Br.allV f es) : ∃ (i : Nat) (e : Br.En), es[i]? = some e ∧ q = (f + i, e) := by
 obtain ⟨i, hi, e⟩ := List.getElem_of_mem h
 rw [Br.allV_len] at hi
 have h2 := Br.allV_at (first := f) (List.getElem?_eq_getElem hi)
 refine ⟨i, _, List.getElem?_eq_getElem hi, ?_⟩
 rw [List.getElem?_eq_getElem (by rw [Br.allV_len]; exact hi), e] at h2
 exact Option.some.inj h2
theorem seenV_get {D : DS} {k : Int} (hes : ∀ x ∈ D.xs, x.es.length = 32 ∧ Bn.okL x.es) (hok : Br.okL D.sh) {p : Int × Ln} (h : p ∈ D.seenV k) : D.getV k p.1 = (p.2, 0) ∧ 0 ≤ p.2.2.2.1 ∧ p.2.2.2.1 ≤ 1 := by
 unfold DS.seenV at h
 cases hr : rightV D.xs.length k with
 | false => rw [hr] at h; simp at h
 | true =>
  obtain ⟨x, hx, hl, hk⟩ := right_at hr
  have hx32 := hes x (List.mem_of_getElem? hx)
  rw [if_pos hr, hx] at h
  simp only [List.mem_append] at h
  unfold DS.getV
  rw [if_pos hr, hx]
  rcases h with h | h
  ·unfold seenA at h
   obtain ⟨q, hq, rfl⟩ := List.mem_map.1 h
   obtain ⟨i, e, he, rfl⟩ := allN_mem hq
   have hi := (List.getElem?_eq_some_iff.1 he).1
   simp only
   rw [if_pos (by omega), show Bn.getV 0 x.es (0 + (i : Int)) = (e, 0) by unfold Bn.getV; rw [Bn.atE_iff.2 ⟨i, rfl, he⟩]]
   obtain ⟨g1, g2, _⟩ := Bn.okL_at hx32.2 he
   exact ⟨rfl, g1, g2⟩
  ·unfold seenB at h
   obtain ⟨q, hq, rfl⟩ := List.mem_map.1 h
   obtain ⟨i, e, he, rfl⟩ := allR_mem (List.mem_filter.1 hq).1
   simp only
   rw [if_neg (by omega), show Br.getV 32 D.sh (32 + (i : Int)) = (e, 0) by unfold Br.getV; rw [Br.atE_iff.2 ⟨i, rfl, he⟩]]
   obtain ⟨g1, g2, _⟩ := Br.okL_at hok he
   exact ⟨rfl, g1, g2⟩
def plX (x : CR) : List Bn.En × Bool := (x.es, x.sl)
def x0 : CR := ⟨0, none, 0, ownK 16, false⟩
theorem ownK_len : ∀ k, (ownK k).length = 32
 | 0 => by simp [ownK]
 | k + 1 => by unfold ownK; rw [Bn.doV_len]; exact ownK_len k
end Go.Proofs.YtakkogdmlbkdaaaGreatDoor.Sl
namespace Go.Proofs.YtakkogdmlbkdaaaGreatDoor.Sl.Bn
attribute [local irreducible] CW Tri OW
@[reducible] def pk131 : List (Nat × Plan) := [(1, [(0, 0, []), (1, 0, []), (2, 0, []), (3, 0, []), (4, 0, []), (5, 0, []), (6, 0, []), (7, 0, []), (8, 1, [3, 7]), (9, 0, []), (10, 1, [3, 7]), (11, 0, [])])]
theorem copy40 (β : Base) (b : Nat) (q0 : Option Addr) (c0 : Nat) (first : Int) (es : List En) (hn : es.length ≤ 16384) :
  Tri Tryz.prog β 131 [.pointer (some ⟨b, 0, none⟩)] (bkA b q0 c0 first es) (fun v L => ∃ b2 q1 c1, v = .pointer (some ⟨b2, 0, none⟩) ∧ L = bkA b2 q1 c1 first es ++ bkA b q0 c0 first es) := by
 refine Tri.intro tt_ok Tryz.func131 rfl rfl Tryz.ntmps131 rfl fun F => ?_
 refine G tt_ok pk131 ?_
 (refine ka rfl rfl (clone42 β q0 c0 es hn) ?_; rintro _ _ ⟨q1, c1, rfl, rfl⟩; refine w_ ?_)
 (refine G tt_ok pk131 ?_; repeat (refine G1 tt_ok pk131 ?_; intro _))
 rename_i b2
 refine CW.ret (fin_ret rfl (A := bkA b2 q1 c1 first es ++ bkA b q0 c0 first es) pk_ ?_)
 exact ⟨b2, q1, c1, rfl, rfl⟩
end Go.Proofs.YtakkogdmlbkdaaaGreatDoor.Sl.Bn
namespace Go.Proofs.YtakkogdmlbkdaaaGreatDoor.Sl.Br
attribute [local irreducible] CW Tri OW
@[reducible] def pk130 : List (Nat × Plan) := [(1, [(0, 0, []), (1, 0, []), (2, 0, []), (3, 0, []), (4, 0, []), (5, 0, []), (6, 0, []), (7, 0, []), (8, 1, [3, 7]), (9, 0, []), (10, 1, [3, 7]), (11, 0, [])])]
theorem copy40 (β : Base) (b : Nat) (q0 : Option Addr) (c0 : Nat) (first : Int) (es : List En) (hn : es.length ≤ 16384) :
  Tri Tryz.prog β 130 [.pointer (some ⟨b, 0, none⟩)] (bkA b q0 c0 first es) (fun v L => ∃ b2 q1 c1, v = .pointer (some ⟨b2, 0, none⟩) ∧ L = bkA b2 q1 c1 first es ++ bkA b q0 c0 first es) := by
 refine Tri.intro tt_ok Tryz.func130 rfl rfl Tryz.ntmps130 rfl fun F => ?_
 refine G tt_ok pk130 ?_
 (refine ka rfl rfl (clone42 β q0 c0 es hn) ?_; rintro _ _ ⟨q1, c1, rfl, rfl⟩; refine w_ ?_)
 (refine G tt_ok pk130 ?_; repeat (refine G1 tt_ok pk130 ?_; intro _))
 rename_i b2
 refine CW.ret (fin_ret rfl (A := bkA b2 q1 c1 first es ++ bkA b q0 c0 first es) pk_ ?_)
 exact ⟨b2, q1, c1, rfl, rfl⟩
end Go.Proofs.YtakkogdmlbkdaaaGreatDoor.Sl.Br
namespace Go.Proofs.YtakkogdmlbkdaaaGreatDoor.Sl
attribute [local irreducible] CW Tri OW
@[reducible] def pk78 : List (Nat × Plan) := [(1, [(0, 0, []), (1, 0, []), (2, 0, []), (3, 0, []), (4, 0, []), (5, 0, []), (6, 0, []), (7, 0, []), (8, 1, [3, 7]), (9, 0, []), (10, 1, [3, 7]), (11, 0, [])]), (5, [(0, 0, []), (1, 0, []), (2, 0, []), (3, 0, []), (4, 0, []), (5, 0, []), (6, 0, []), (8, 0, []), (9, 0, []), (7, 1, [4, 6, 9]), (10, 0, []), (11, 1, [4, 6, 9]), (12, 1, []), (13, 0, []), (14, 0, []), (15, 1, [])])]
def DS.like (D E : DS) : Prop := D.o0 = E.o0 ∧ D.o1 = E.o1 ∧ D.sh = E.sh ∧ D.xs.map plX = E.xs.map plX
set_option maxHeartbeats 8000000 in
theorem copy24 (β : Base) (d : Nat) (D : DS) (h8 : D.xs.length ≤ 8) (hsh : D.sh.length ≤ 64) (hes : ∀ x ∈ D.xs, x.es.length = 32) : Tri Tryz.prog β 78 [.pointer (some ⟨d, 0, none⟩)] (dA d D) (fun v L => ∃ c E, v = .pointer (some ⟨c, 0, none⟩) ∧ L = dA c E ++ dA d D ∧ E.like D) := by
 obtain ⟨o0, o1, sb, sq, sc, sh, qc, cc, xs⟩ := D
 simp only at h8 hsh hes
 refine Tri.intro tt_ok Tryz.func78 rfl rfl Tryz.ntmps78 rfl fun F => ?_
 unfold dA
 simp only
 refine G tt_ok pk78 ?_
 (refine ka rfl rfl (Br.copy40 β sb sq sc 32 sh (by omega)) ?_; rintro _ _ ⟨sb2, sq2, sc2, rfl, rfl⟩; refine w_ ?_)
 (refine G tt_ok pk78 ?_; repeat (refine G1 tt_ok pk78 ?_; intro _))
 rename_i c
 refine CW.loop (α := List CR × Option Addr × Nat) (fun y => y.1.length ≤ xs.length ∧ y.1.map plX = (xs.take y.1.length).map plX) (fun y => [(22, .int .i64 y.1.length), (21, .int .i64 xs.length), (20, .slice qc xs.length cc), (3, .pointer (some ⟨c, 0, none⟩))])
  (fun y => [pt c [.bool o0, .bool o1, .pointer (some ⟨sb2, 0, none⟩), .slice y.2.1 y.1.length y.2.2], own 173 2 (.slice y.2.1 y.1.length y.2.2) y.1.length (y.1.flatMap crC), bksA y.1] ++ Br.bkA sb2 sq2 sc2 32 sh ++ ([pt d [.bool o0, .bool o1, .pointer (some ⟨sb, 0, none⟩), .slice qc xs.length cc], rowA qc xs.length (xs.flatMap crC), bksA xs] ++ Br.bkA sb sq sc 32 sh)) (fun y => xs.length - y.1.length) ([], none, 0) ⟨by simp, by simp⟩ ⟨rfl, rfl, rfl, rfl, trivial⟩ ?_ ?_
 ·refine Ent.trans ((own_nil 173 2).trans bks_nil) ?_
  exact pk_
 rintro ⟨ys, q, cap⟩ ⟨hl, hys⟩
 simp only at hl hys ⊢
 refine G tt_ok pk78 ?_
 by_cases hlt : ys.length < xs.length
 ·have hw : IntKind.i64.wrap ((ys.length : Int) + 1) = ((ys.length + 1 : Nat) : Int) := by rw [wrap_i64]; split <;> omega
  obtain ⟨x, hx⟩ : ∃ x, xs[ys.length]? = some x := ⟨_, List.getElem?_eq_getElem hlt⟩
  rw [decide_eq_true (show (ys.length : Int) < xs.length by omega)]
  (refine CW.ent (Rm.to (A := rowA qc (xs.length) (xs.flatMap crC)) (by repeat (first | exact Rm.h | apply Rm.t)) (row_open (by omega))) ?_; refine CW.open_ fun y => ?_; obtain ⟨g, rest⟩ := y; refine CW.pure_ fun hv => ?_; simp only at hv; subst hv)
  refine G tt_ok pk78 ?_
  refine SQ.idx tt_ok rfl rfl ys.length rfl hlt (o' := 0 + ys.length * 2) rfl ?_
  (refine SQ.ldA tt_ok rfl rfl (by repeat (first | exact .h | exact .q | apply At.t)) (rd_core hx rest) ?_)
  (refine G tt_ok pk78 ?_; repeat (refine G1 tt_ok pk78 ?_; intro _))
  refine SQ.ent _ (rm_ (A := pt g (xs.flatMap crC ++ rest)) (row_close (n := xs.length))) ?_
  generalize (some ⟨g, 0, none⟩ : Option Addr) = qc
  refine SQ.ent _ (rm_ (A := bksA xs) (bks_open hx)) ?_
  refine G tt_ok pk78 ?_
  (refine ka rfl rfl (Bn.copy40 β x.b x.q x.c 0 x.es (by have := hes x (List.mem_of_getElem? hx); omega)) ?_; rintro _ _ ⟨b, bq, bc, rfl, rfl⟩; refine w_ ?_)
  refine SQ.ent _ (tk_ (As := x.bank ++ [bksA (xs.eraseIdx ys.length)]) (bks_shut hx)) ?_
  refine G tt_ok pk78 ?_
  (refine SQ.built tt_ok rfl rfl (fun _ => w_ ?_))
  refine G tt_ok pk78 ?_
  (refine SQ.appA tt_ok rfl rfl (by repeat (first | exact Rm.h | apply Rm.t)) (by repeat (first | exact .h | exact .q | apply At.t)) (crC ⟨b, bq, bc, x.es, x.sl⟩) rfl rfl rfl (scal_eq rfl) (by omega) (by show (ys.length + 1) * 16 ≤ _; omega) (fun q' c' => w_ ?_))
  refine G tt_ok pk78 ?_
  have hlen : (ys ++ [(⟨b, bq, bc, x.es, x.sl⟩ : CR)]).length = ys.length + 1 := by simp
  refine ⟨(ys ++ [⟨b, bq, bc, x.es, x.sl⟩], q', c'), ⟨by simp; omega, ?_⟩, by simp; omega, ⟨by rw [hlen, ← hw]; rfl, rfl, rfl, rfl, trivial⟩, ?_⟩
  ·simp only
   rw [hlen, List.map_append, hys, List.take_add_one, hx, List.map_append]; rfl
  ·simp only
   rw [hlen, show (ys ++ [(⟨b, bq, bc, x.es, x.sl⟩ : CR)]).flatMap crC = ys.flatMap crC ++ crC ⟨b, bq, bc, x.es, x.sl⟩ by simp]
   refine Ent.trans (Tk.to (As := CR.bank ⟨b, bq, bc, x.es, x.sl⟩ ++ [bksA ys]) (by repeat (first | exact .n | exact Rm.h | apply Tk.c | apply Rm.t)) bks_snoc) ?_
   exact pk_
 ·rw [decide_eq_false (show ¬ (ys.length : Int) < xs.length by omega)]
  refine G tt_ok pk78 ?_
  refine CW.exit ?_
  refine G tt_ok pk78 ?_
  have hl2 : ys.length = xs.length := by omega
  refine CW.ret (fin_ret rfl (A := dA c ⟨o0, o1, sb2, sq2, sc2, sh, q, cap, ys⟩ ++ dA d ⟨o0, o1, sb, sq, sc, sh, qc, cc, xs⟩) pk_ ⟨c, ⟨o0, o1, sb2, sq2, sc2, sh, q, cap, ys⟩, rfl, rfl, rfl, rfl, rfl, ?_⟩)
  simp only
  rw [hys, hl2, List.take_length]
section
variable {R : RS} {D : DS}
end
end Go.Proofs.YtakkogdmlbkdaaaGreatDoor.Sl
namespace Go.Proofs.YtakkogdmlbkdaaaGreatDoor.Sl
attribute [local irreducible] CW Tri OW
@[reducible] def pk45 : List (Nat × Plan) := [(6, [(0, 0, []), (1, 0, []), (2, 0, []), (3, 0, []), (4, 0, []), (5, 0, []), (6, 0, []), (7, 0, []), (8, 0, [])])]
def newD (D : DS) (n s : Nat) : Prop := D.o0 = false ∧ D.o1 = false ∧ D.sh = List.replicate s (Br.zeroE.1, (0, false)) ∧ D.xs.length = n ∧ ∀ x ∈ D.xs, newCR x
theorem ownK_ok : ∀ k, Bn.okL (ownK k)
 | 0 => Bn.okL_new 32 ()
 | k + 1 => by unfold ownK; exact Bn.doV_ok (ownK_ok k)
theorem new11' (β : Base) {n s : Nat} (hn0 : 1 ≤ n) (hn1 : n ≤ 8) (hs1 : s ≤ 64) : Tri Tryz.prog β 35 [.int .i64 n, .int .i64 s] [] (fun v L => ∃ d D, v = .tuple #[.pointer (some ⟨d, 0, none⟩), .int .i64 0] ∧ L = dA d D ∧ newD D n s) :=
 (new11 β (n := n) (s := s) (by omega) (by omega) (by omega) (by omega)).mono fun v L h => by
  obtain ⟨d, D, h1, h2, h3, h4, h5, h6, h7⟩ := h
  exact ⟨d, D, h1, h2, h3, h4, by simpa using h5, by omega, h7⟩
theorem seen_gr {R : RS} {D : DS} (ok : OkD R D) (k : Int) : ∀ p ∈ D.seenV k, 0 ≤ p.2.2.2.1 ∧ p.2.2.2.1 ≤ 1 := fun p hp => (seenV_get ok.es ok.ok hp).2
theorem bestIs (β : Base) (d : Nat) (R : RS) (D : DS) (ok : OkD R D) (k : Int) : Tri Tryz.prog β 112 [.pointer (some ⟨d, 0, none⟩), .int .i64 k] (dA d D) (fun v L => v = .agg #[.int .i64 (bestL (D.readyV k)).1, .int .i64 (bestL (D.readyV k)).2.1, .int .i64 (bestL (D.readyV k)).2.2.1, .bool (bestL (D.readyV k)).2.2.2] ∧ L = dA d D) :=
 best20 β d D k ok.x8 ok.sh (fun x hx => (ok.es x hx).1) (seen_gr ok k)
end Go.Proofs.YtakkogdmlbkdaaaGreatDoor.Sl
namespace Go.Proofs.YtakkogdmlbkdaaaGreatDoor.Sl
theorem oNw {w a : Nat} (h : a < 2 ^ w) : (BitVec.ofInt w (a : Int)).toNat = a := by
 rw [show BitVec.ofInt w (a : Int) = BitVec.ofNat w a by apply BitVec.eq_of_toNat_eq; rw [BitVec.toNat_ofInt, BitVec.toNat_ofNat]; simp [Int.emod_emod_of_dvd]; norm_cast]
 rw [BitVec.toNat_ofNat, Nat.mod_eq_of_lt h]
theorem wN64 {x : Nat} (h : x < 2 ^ 64) : IntKind.u64.wrap (x : Int) = (x : Int) := by rw [wrap_u64]; have : (2 : Nat) ^ 64 = 18446744073709551616 := rfl; omega
theorem wN32 {x : Nat} (h : x < 2 ^ 32) : IntKind.u32.wrap (x : Int) = (x : Int) := by rw [wrap_u32]; have : (2 : Nat) ^ 32 = 4294967296 := rfl; omega
theorem and32 {a b : Nat} (ha : a < 2 ^ 32) (hb : b < 2 ^ 32) : IntKind.u32.wrap ((BitVec.ofInt IntKind.u32.bits (a : Int) &&& BitVec.ofInt IntKind.u32.bits (b : Int)).toNat : Int) = ((a &&& b : Nat) : Int) := by
 show IntKind.u32.wrap ((BitVec.ofInt 32 (a : Int) &&& BitVec.ofInt 32 (b : Int)).toNat : Int) = _
 rw [BitVec.toNat_and, oNw ha, oNw hb, wN32 (Nat.and_lt_two_pow _ hb)]
theorem or32 {a b : Nat} (ha : a < 2 ^ 32) (hb : b < 2 ^ 32) : IntKind.u32.wrap ((BitVec.ofInt IntKind.u32.bits (a : Int) ||| BitVec.ofInt IntKind.u32.bits (b : Int)).toNat : Int) = ((a ||| b : Nat) : Int) := by
 show IntKind.u32.wrap ((BitVec.ofInt 32 (a : Int) ||| BitVec.ofInt 32 (b : Int)).toNat : Int) = _
 rw [BitVec.toNat_or, oNw ha, oNw hb, wN32 (Nat.or_lt_two_pow ha hb)]
theorem oNi (w a : Nat) : BitVec.ofInt w (a : Int) = BitVec.ofNat w a := by
 apply BitVec.eq_of_toNat_eq
 rw [BitVec.toNat_ofInt, BitVec.toNat_ofNat]
 norm_cast
def clrN (w a b : Nat) : Nat := (BitVec.ofNat w a &&& ~~~BitVec.ofNat w b).toNat
theorem clrN_lt (w a b : Nat) : clrN w a b < 2 ^ w := BitVec.isLt _
theorem clr32 (a b : Nat) : IntKind.u32.wrap ((BitVec.ofInt IntKind.u32.bits (a : Int) &&& ~~~BitVec.ofInt IntKind.u32.bits (b : Int)).toNat : Int) = ((clrN 32 a b : Nat) : Int) := by
 show IntKind.u32.wrap ((BitVec.ofInt 32 (a : Int) &&& ~~~BitVec.ofInt 32 (b : Int)).toNat : Int) = _
 rw [oNi, oNi]
 exact wN32 (clrN_lt 32 a b)
theorem shl32 {r : Nat} (h : r < 32) : IntKind.u32.wrap (1 * 2 ^ min r IntKind.u32.bits) = ((2 ^ r : Nat) : Int) := by
 rw [show min r IntKind.u32.bits = r from Nat.min_eq_left (by show r ≤ 32; omega), Int.one_mul, show (2 : Int) ^ r = ((2 ^ r : Nat) : Int) by simp]
 exact wN32 (Nat.pow_lt_pow_right (by omega) h)
theorem shr64 (a k : Nat) (hk : k ≤ 64) : (a : Int).fdiv (2 ^ min k IntKind.u64.bits) = ((a / 2 ^ k : Nat) : Int) := by
 rw [show min k IntKind.u64.bits = k from Nat.min_eq_left hk, Int.fdiv_eq_ediv_of_nonneg _ (by exact Int.le_of_lt (Int.pow_pos (by omega)))]
 simp
theorem shr32 (a k : Nat) (hk : k ≤ 32) : (a : Int).fdiv (2 ^ min k IntKind.u32.bits) = ((a / 2 ^ k : Nat) : Int) := by
 rw [show min k IntKind.u32.bits = k from Nat.min_eq_left hk, Int.fdiv_eq_ediv_of_nonneg _ (by exact Int.le_of_lt (Int.pow_pos (by omega)))]
 simp
theorem and1_32 {a : Nat} (ha : a < 2 ^ 32) : IntKind.u32.wrap ((BitVec.ofInt IntKind.u32.bits (a : Int) &&& BitVec.ofInt IntKind.u32.bits 1).toNat : Int) = ((a % 2 : Nat) : Int) := by
 have := and32 ha (b := 1) (by decide)
 rw [Nat.and_one_is_mod] at this
 exact this
theorem beq1 (x : Nat) : ((x : Int) == 1) = (x == 1) := by rw [Bool.eq_iff_iff]; simp; omega
theorem test_div (a k : Nat) : (a / 2 ^ k % 2 == 1) = a.testBit k := by rw [Nat.testBit_eq_decide_div_mod_eq]; rfl
end Go.Proofs.YtakkogdmlbkdaaaGreatDoor.Sl
namespace Go.Proofs.YtakkogdmlbkdaaaGreatDoor.Sl
attribute [local irreducible] CW Tri OW
@[reducible] def pk197 : List (Nat × Plan) := []
theorem ladN_succ (b0 b1 k : Nat) (h : k < 32) : ladN b0 b1 (32 - k) = lad1 b0 b1 k ++ ladN b0 b1 (32 - (k + 1)) := by
 rw [show 32 - k = (32 - (k + 1)) + 1 by omega]
 show lad1 b0 b1 (32 - (32 - (k + 1) + 1)) ++ _ = _
 rw [show 32 - (32 - (k + 1) + 1) = k by omega]
def ladR (b0 b1 k g : Nat) : List (Int × Int) := match g with
 | 0 => lad1 b0 b1 k
 | 1 => if b1 / 2 ^ k % 2 = 1 then [(((8 * k : Nat) : Int), 1)] else []
 | _ => []
theorem div_lt32 {b k : Nat} (h : b < 2 ^ 32) : b / 2 ^ k < 2 ^ 32 := Nat.lt_of_le_of_lt (Nat.div_le_self _ _) h
set_option maxHeartbeats 8000000 in
theorem iter205 (β : Base) (b : Nat) {b0 b1 : Nat} (h0 : b0 < 2 ^ 32) (h1 : b1 < 2 ^ 32) :
  Iter Tryz.prog β 197 [.pointer (some ⟨b, 0, none⟩)] [pt b (ldC b0 b1)] ppC (laddL b0 b1) := by
 intro l J Jx hY
 unfold ldC at hY ⊢
 refine Tri.intro tt_ok Tryz.func197 rfl rfl Tryz.ntmps197 rfl fun F => ?_
 refine G tt_ok pk197 ?_
 refine CW.loop (α := Nat × List (Int × Int)) (fun x => x.1 ≤ 32 ∧ x.2 ++ ladN b0 b1 (32 - x.1) = laddL b0 b1) (fun x => [(5, .int .i64 x.1), (0, .func (.yield l) #[] #[]), (1, .pointer (some ⟨b, 0, none⟩))])
  (fun x => [J x.2, pt b [.int .u32 b0, .int .u32 b1]]) (fun x => 32 - x.1) (0, []) ⟨by simp, rfl⟩ ⟨rfl, rfl, rfl, trivial⟩ pk_ ?_
 rintro ⟨k, pre⟩ ⟨hk, hE⟩
 simp only at hk hE ⊢
 refine G tt_ok pk197 ?_
 by_cases hlt : k < 32
 ·rw [decide_eq_true (show (k : Int) < 32 by omega)]
  rw [ladN_succ b0 b1 k hlt] at hE
  have w8 : IntKind.i64.wrap (8 * (k : Int)) = ((8 * k : Nat) : Int) := by rw [wrap_id (by omega) (by omega)]; simp
  refine G tt_ok pk197 ?_
  refine CW.loop (α := Nat × List (Int × Int)) (fun x => x.1 ≤ 2 ∧ x.2 ++ (ladR b0 b1 k x.1 ++ ladN b0 b1 (32 - (k + 1))) = laddL b0 b1) (fun x => [(8, .int .i64 x.1), (3, .int .i64 k), (5, .int .i64 k), (0, .func (.yield l) #[] #[]), (1, .pointer (some ⟨b, 0, none⟩))])
   (fun x => [J x.2, pt b [.int .u32 b0, .int .u32 b1]]) (fun x => 2 - x.1) (0, pre) ⟨by simp, hE⟩ ⟨rfl, rfl, rfl, rfl, rfl, trivial⟩ pk_ ?_
  rintro ⟨g, pr2⟩ ⟨hg, hE2⟩
  simp only at hg hE2 ⊢
  have hcase : g = 0 ∨ g = 1 ∨ g = 2 := by omega
  rcases hcase with rfl | rfl | rfl
  ·rw [show ((0 : Nat) : Int) = 0 from rfl]
   refine G tt_ok pk197 ?_
   refine SQ.idx tt_ok rfl rfl 0 rfl (by decide) (o' := 0) rfl ?_
   refine G tt_ok pk197 ?_
   rw [shr32 b0 k (by omega), and1_32 (div_lt32 h0), beq1]
   have hR : ladR b0 b1 k 0 = (if b0 / 2 ^ k % 2 = 1 then [(((8 * k : Nat) : Int), 0)] else []) ++ ladR b0 b1 k 1 := rfl
   rw [hR] at hE2
   by_cases hb : b0 / 2 ^ k % 2 = 1
   ·rw [if_pos hb] at hE2
    rw [hb]
    refine G tt_ok pk197 ?_
    rw [w8]
    have hpre : (pr2 ++ [(((8 * k : Nat) : Int), 0)]) <+: laddL b0 b1 := ⟨ladR b0 b1 k 1 ++ ladN b0 b1 (32 - (k + 1)), by rw [← hE2]; simp⟩
    (refine SQ.yieldA rfl rfl (hY pr2 _ hpre) (by repeat (first | exact .n | exact Rm.h | exact Rm.of own_row | exact Rm.of row_close0 | apply Tk.c | apply Rm.t)) ?_; rintro _ _ (⟨rfl, rfl⟩ | ⟨rfl, rfl⟩) <;> refine w_ ?_)
    ·refine G tt_ok pk197 ?_
     exact ⟨(1, pr2 ++ [(((8 * k : Nat) : Int), 0)]), ⟨by simp, by rw [← hE2]; simp⟩, by simp, ⟨rfl, rfl, rfl, rfl, rfl, trivial⟩, pk_⟩
    ·refine G tt_ok pk197 ?_
     exact CW.ret (fin_ret (vs := []) rfl (A := [Jx (pr2 ++ [(((8 * k : Nat) : Int), 0)]), pt b [.int .u32 b0, .int .u32 b1]]) pk_ (.inr ⟨_, rfl⟩))
   ·rw [if_neg hb, List.nil_append] at hE2
    rw [show (b0 / 2 ^ k % 2 == 1) = false by simpa using hb]
    refine G tt_ok pk197 ?_
    exact ⟨(1, pr2), ⟨by simp, hE2⟩, by simp, ⟨rfl, rfl, rfl, rfl, rfl, trivial⟩, pk_⟩
  ·rw [show ((1 : Nat) : Int) = 1 from rfl]
   refine G tt_ok pk197 ?_
   refine SQ.idx tt_ok rfl rfl 1 rfl (by decide) (o' := 1) rfl ?_
   refine G tt_ok pk197 ?_
   rw [shr32 b1 k (by omega), and1_32 (div_lt32 h1), beq1]
   have hR : ladR b0 b1 k 1 = (if b1 / 2 ^ k % 2 = 1 then [(((8 * k : Nat) : Int), 1)] else []) := rfl
   rw [hR] at hE2
   by_cases hb : b1 / 2 ^ k % 2 = 1
   ·rw [if_pos hb] at hE2
    rw [hb]
    refine G tt_ok pk197 ?_
    rw [w8]
    have hpre : (pr2 ++ [(((8 * k : Nat) : Int), 1)]) <+: laddL b0 b1 := ⟨ladN b0 b1 (32 - (k + 1)), by rw [← hE2]; simp⟩
    (refine SQ.yieldA rfl rfl (hY pr2 _ hpre) (by repeat (first | exact .n | exact Rm.h | exact Rm.of own_row | exact Rm.of row_close0 | apply Tk.c | apply Rm.t)) ?_; rintro _ _ (⟨rfl, rfl⟩ | ⟨rfl, rfl⟩) <;> refine w_ ?_)
    ·refine G tt_ok pk197 ?_
     exact ⟨(2, pr2 ++ [(((8 * k : Nat) : Int), 1)]), ⟨by simp, by rw [← hE2]; simp [ladR]⟩, by simp, ⟨rfl, rfl, rfl, rfl, rfl, trivial⟩, pk_⟩
    ·refine G tt_ok pk197 ?_
     exact CW.ret (fin_ret (vs := []) rfl (A := [Jx (pr2 ++ [(((8 * k : Nat) : Int), 1)]), pt b [.int .u32 b0, .int .u32 b1]]) pk_ (.inr ⟨_, rfl⟩))
   ·rw [if_neg hb, List.nil_append] at hE2
    rw [show (b1 / 2 ^ k % 2 == 1) = false by simpa using hb]
    refine G tt_ok pk197 ?_
    exact ⟨(2, pr2), ⟨by simp, by simpa [ladR] using hE2⟩, by simp, ⟨rfl, rfl, rfl, rfl, rfl, trivial⟩, pk_⟩
  ·rw [show ((2 : Nat) : Int) = 2 from rfl]
   refine G tt_ok pk197 ?_
   refine CW.exit ?_
   refine G tt_ok pk197 ?_
   have hwr : IntKind.i64.wrap ((k : Int) + 1) = ((k + 1 : Nat) : Int) := by rw [wrap_id (by omega) (by omega)]; simp
   exact ⟨(k + 1, pr2), ⟨by simp; omega, by simpa [ladR] using hE2⟩, by simp; omega, ⟨by rw [← hwr]; rfl, rfl, rfl, trivial⟩, pk_⟩
 ·rw [decide_eq_false (show ¬ (k : Int) < 32 by omega)]
  refine G tt_ok pk197 ?_
  refine CW.exit ?_
  refine G tt_ok pk197 ?_
  obtain rfl : k = 32 := by omega
  have hE3 : pre = laddL b0 b1 := by simpa [ladN] using hE
  exact fin_normal (vs := []) rfl (A := [J pre, pt b [.int .u32 b0, .int .u32 b1]]) pk_ (.inl (by rw [hE3]))
@[reducible] def pk166 : List (Nat × Plan) := []
@[reducible] def pk165 : List (Nat × Plan) := []
theorem ladAll137 (β : Base) (b0 b1 : Nat) : Tri Tryz.prog β 166 [.agg #[.int .u32 b0, .int .u32 b1]] [] (fun v L => ∃ b, v = .func (.func 197) #[] #[.pointer (some ⟨b, 0, none⟩)] ∧ L = [pt b (ldC b0 b1)]) := by
 refine Tri.intro tt_ok Tryz.func166 rfl rfl Tryz.ntmps166 rfl fun F => ?_
 (refine G tt_ok pk166 ?_; repeat (refine G1 tt_ok pk166 ?_; intro _))
 rename_i b
 exact CW.ret (fin_ret rfl (A := [pt b (ldC b0 b1)]) pk_ ⟨b, rfl, rfl⟩)
def runV (b0 b1 : Nat) : Int × Int := match laddL b0 b1 with
 | [] => (255, 0)
 | x :: _ => x
theorem run_head {b0 b1 : Nat} {x : Int × Int} (h : [x] <+: laddL b0 b1) : runV b0 b1 = x := by
 obtain ⟨t, ht⟩ := h
 unfold runV
 rw [← ht]; rfl
theorem run_nil {b0 b1 : Nat} (h : laddL b0 b1 = []) : runV b0 b1 = (255, 0) := by unfold runV; rw [h]
set_option maxHeartbeats 4000000 in
theorem running77 (β : Base) {b0 b1 : Nat} (h0 : b0 < 2 ^ 32) (h1 : b1 < 2 ^ 32) : Tri Tryz.prog β 165 [.agg #[.int .u32 b0, .int .u32 b1]] [] (fun v L => v = .tuple #[.int .i64 (runV b0 b1).1, .int .i64 (runV b0 b1).2] ∧ L = []) := by
 refine Tri.intro tt_ok Tryz.func165 rfl rfl Tryz.ntmps165 rfl fun F => ?_
 (refine G tt_ok pk165 ?_; repeat (refine G1 tt_ok pk165 ?_; intro _))
 rename_i c1 c2 c3
 (refine ka rfl rfl (ladAll137 β b0 b1) ?_; rintro _ _ ⟨bl, rfl, rfl⟩; refine w_ ?_)
 refine G tt_ok pk165 ?_
 refine CW.rangeA rfl (iter205 β bl h0 h1) (by repeat (first | exact .n | exact Rm.h | apply Tk.c | apply Rm.t)) (fun pre => [pureA (pre = []), pt c2 [.int .i64 0], pt c3 [.int .i64 0]])
  (fun c M => c = .ret ∧ M = [pt c2 [.int .i64 (runV b0 b1).1], pt c3 [.int .i64 (runV b0 b1).2]]) ?_ (fun _ => rfl) (by decide) ?_ ?_ ?_
 ·exact (Ent.pureA rfl).trans pk_
 ·intro pre x hpre lp fm rec1
  refine CW.pure_ fun hp => ?_
  subst hp
  rw [run_head hpre]
  refine G tt_ok pk165 ?_
  intro fm2 rec2
  refine G tt_ok pk165 ?_
  exact CW.ret ⟨_, ⟨rfl, rfl⟩, pk_⟩
 ·refine CW.pure_ fun hp => ?_
  rw [run_nil hp]
  refine G tt_ok pk165 ?_
  exact CW.ret (fin_cells [_, _] ⟨cl_, cl_, trivial⟩ (A := []) (Ent.dropAll _) ⟨rfl, rfl⟩)
 ·rintro c M ⟨rfl, rfl⟩
  exact CW.ret (fin_cells [_, _] ⟨cl_, cl_, trivial⟩ (A := []) (Ent.dropAll _) ⟨rfl, rfl⟩)
@[reducible] def pk110 : List (Nat × Plan) := []
@[reducible] def pk116 : List (Nat × Plan) := []
theorem lad1_mem {b0 b1 k : Nat} {x : Int × Int} (h : x ∈ lad1 b0 b1 k) : x.1 = ((8 * k : Nat) : Int) ∧ ((x.2 = 0 ∧ b0.testBit k = true) ∨ (x.2 = 1 ∧ b1.testBit k = true)) := by
 unfold lad1 at h
 rw [List.mem_append] at h
 rcases h with h | h <;> split at h <;> simp only [List.mem_singleton, List.not_mem_nil] at h <;> subst h <;> rename_i hb
 ·exact ⟨rfl, .inl ⟨rfl, by rw [← test_div, hb]; rfl⟩⟩
 ·exact ⟨rfl, .inr ⟨rfl, by rw [← test_div, hb]; rfl⟩⟩
theorem ladN_mem {b0 b1 : Nat} {x : Int × Int} : ∀ {n : Nat}, n ≤ 32 → x ∈ ladN b0 b1 n → ∃ k, k < 32 ∧ x ∈ lad1 b0 b1 k
 | 0, _, h => by simp [ladN] at h
 | n + 1, hn, h => by
  unfold ladN at h
  rcases List.mem_append.1 h with h | h
  ·exact ⟨_, by omega, h⟩
  ·exact ladN_mem (by omega) h
theorem ladL_mem {b0 b1 : Nat} {x : Int × Int} (h : x ∈ laddL b0 b1) : ∃ k, k < 32 ∧ x.1 = ((8 * k : Nat) : Int) ∧ ((x.2 = 0 ∧ b0.testBit k = true) ∨ (x.2 = 1 ∧ b1.testBit k = true)) := by
 obtain ⟨k, hk, h⟩ := ladN_mem (by omega) h
 exact ⟨k, hk, lad1_mem h⟩
def dropV (b0 b1 : Nat) : Nat × Nat := match laddL b0 b1 with
 | [] => (b0, b1)
 | x :: _ => if x.2 = 0 then (clrN 32 b0 (2 ^ (x.1.toNat / 8)), b1) else (b0, clrN 32 b1 (2 ^ (x.1.toNat / 8)))
def pushV (b0 b1 g p : Nat) : Nat × Nat := if g = 0 then (b0 ||| 2 ^ (p / 8), b1) else (b0, b1 ||| 2 ^ (p / 8))
theorem drop_head {b0 b1 : Nat} {x : Int × Int} (h : [x] <+: laddL b0 b1) : dropV b0 b1 = if x.2 = 0 then (clrN 32 b0 (2 ^ (x.1.toNat / 8)), b1) else (b0, clrN 32 b1 (2 ^ (x.1.toNat / 8))) := by
 obtain ⟨t, ht⟩ := h
 unfold dropV
 rw [← ht]; rfl
theorem push_lt {b0 b1 g p : Nat} (h0 : b0 < 2 ^ 32) (h1 : b1 < 2 ^ 32) (hp : p ≤ 255) : (pushV b0 b1 g p).1 < 2 ^ 32 ∧ (pushV b0 b1 g p).2 < 2 ^ 32 := by
 have h : 2 ^ (p / 8) < 2 ^ 32 := Nat.pow_lt_pow_right (by omega) (by omega)
 unfold pushV
 split
 ·exact ⟨Nat.or_lt_two_pow h0 h, h1⟩
 ·exact ⟨h0, Nat.or_lt_two_pow h1 h⟩
theorem u255 {p : Nat} (hp : p ≤ 255) : (IntKind.u64.wrap ((BitVec.ofInt IntKind.u64.bits (IntKind.u64.wrap (p : Int)) &&& BitVec.ofInt IntKind.u64.bits 255).toNat : Int)).fdiv (2 ^ min 3 IntKind.u64.bits) = ((p / 8 : Nat) : Int) := by
 have hlt : p < 2 ^ 64 := by omega
 rw [wN64 hlt, show (255 : Int) = ((255 : Nat) : Int) from rfl, and64 hlt (by decide), shr64 _ 3 (by omega)]
 rw [show p &&& 255 = p from by have := Nat.and_two_pow_sub_one_eq_mod p 8; rw [show (2 : Nat) ^ 8 - 1 = 255 from rfl] at this; rw [this]; omega]
set_option maxHeartbeats 4000000 in
theorem push128 (β : Base) {b0 b1 g p : Nat} (h0 : b0 < 2 ^ 32) (h1 : b1 < 2 ^ 32) (hg : g ≤ 1) (hp : p ≤ 255) : Tri Tryz.prog β 110 [.agg #[.int .u32 b0, .int .u32 b1], .int .i64 g, .int .i64 p] [] (fun v L => v = .agg #[.int .u32 (pushV b0 b1 g p).1, .int .u32 (pushV b0 b1 g p).2] ∧ L = []) := by
 refine Tri.intro tt_ok Tryz.func110 rfl rfl Tryz.ntmps110 rfl fun F => ?_
 have hpw : 2 ^ (p / 8) < 2 ^ 32 := Nat.pow_lt_pow_right (by omega) (by omega)
 have hg2 : g = 0 ∨ g = 1 := by omega
 rcases hg2 with rfl | rfl
 ·rw [show ((0 : Nat) : Int) = 0 from rfl]
  (refine G tt_ok pk110 ?_; repeat (refine G1 tt_ok pk110 ?_; intro _))
  refine SQ.idx tt_ok rfl rfl 0 rfl (by decide) (o' := 0) rfl ?_
  refine G tt_ok pk110 ?_
  rw [u255 hp]
  refine SQ.shift tt_ok rfl rfl (p / 8) rfl (v := ((2 ^ (p / 8) : Nat) : Int)) (shl32 (by omega)) ?_
  refine G tt_ok pk110 ?_
  rw [or32 h0 hpw]
  refine SQ.idx tt_ok rfl rfl 0 rfl (by decide) (o' := 0) rfl ?_
  refine G tt_ok pk110 ?_
  exact CW.ret (fin_cells [_] ⟨cl_, trivial⟩ (A := []) (Ent.dropAll _) ⟨rfl, rfl⟩)
 ·rw [show ((1 : Nat) : Int) = 1 from rfl]
  (refine G tt_ok pk110 ?_; repeat (refine G1 tt_ok pk110 ?_; intro _))
  refine SQ.idx tt_ok rfl rfl 1 rfl (by decide) (o' := 1) rfl ?_
  refine G tt_ok pk110 ?_
  rw [u255 hp]
  refine SQ.shift tt_ok rfl rfl (p / 8) rfl (v := ((2 ^ (p / 8) : Nat) : Int)) (shl32 (by omega)) ?_
  refine G tt_ok pk110 ?_
  rw [or32 h1 hpw]
  refine SQ.idx tt_ok rfl rfl 1 rfl (by decide) (o' := 1) rfl ?_
  refine G tt_ok pk110 ?_
  exact CW.ret (fin_cells [_] ⟨cl_, trivial⟩ (A := []) (Ent.dropAll _) ⟨rfl, rfl⟩)
theorem u3 {k : Nat} (hk : k < 32) : (IntKind.u64.wrap (((8 * k : Nat) : Int))).fdiv (2 ^ min 3 IntKind.u64.bits) = (k : Int) := by
 rw [wN64 (show 8 * k < 2 ^ 64 by omega), shr64 _ 3 (by omega)]
 rw [show 8 * k / 2 ^ 3 = k by omega]
set_option maxHeartbeats 4000000 in
theorem ldrop130 (β : Base) {b0 b1 : Nat} (h0 : b0 < 2 ^ 32) (h1 : b1 < 2 ^ 32) : Tri Tryz.prog β 116 [.agg #[.int .u32 b0, .int .u32 b1]] [] (fun v L => ∃ t, v = .tuple #[.agg #[.int .u32 (dropV b0 b1).1, .int .u32 (dropV b0 b1).2], .bool t] ∧ L = []) := by
 refine Tri.intro tt_ok Tryz.func116 rfl rfl Tryz.ntmps116 rfl fun F => ?_
 (refine G tt_ok pk116 ?_; repeat (refine G1 tt_ok pk116 ?_; intro _))
 rename_i c1 c2 c3
 (refine ka rfl rfl (ladAll137 β b0 b1) ?_; rintro _ _ ⟨bl, rfl, rfl⟩; refine w_ ?_)
 refine G tt_ok pk116 ?_
 refine CW.rangeA rfl (iter205 β bl h0 h1) (by repeat (first | exact .n | exact Rm.h | apply Tk.c | apply Rm.t)) (fun pre => [pureA (pre = []), pt c1 [.int .u32 b0, .int .u32 b1], pt c2 [.int .u32 0, .int .u32 0], pt c3 [.bool false]])
  (fun c M => c = .ret ∧ M = [pt c1 [.int .u32 (dropV b0 b1).1, .int .u32 (dropV b0 b1).2], pt c2 [.int .u32 (dropV b0 b1).1, .int .u32 (dropV b0 b1).2], pt c3 [.bool true]]) ?_ (fun _ => rfl) (by decide) ?_ ?_ ?_
 ·exact (Ent.pureA rfl).trans pk_
 ·intro pre x hpre lp fm rec1
  refine CW.pure_ fun hp => ?_
  subst hp
  rw [drop_head hpre]
  obtain ⟨p, g⟩ := x
  obtain ⟨k, hk, e1, e2⟩ := ladL_mem (x := (p, g)) (hpre.mem (by simp))
  simp only at e1 e2 ⊢
  subst e1
  have hk8 : ((((8 * k : Nat) : Int)).toNat / 8) = k := by omega
  rw [hk8]
  rcases e2 with ⟨rfl, _⟩ | ⟨rfl, _⟩
  ·refine G tt_ok pk116 ?_
   intro fm2 rec2
   refine G tt_ok pk116 ?_
   refine SQ.idx tt_ok rfl rfl 0 rfl (by decide) (o' := 0) rfl ?_
   refine G tt_ok pk116 ?_
   rw [u3 hk]
   refine SQ.shift tt_ok rfl rfl k rfl (v := ((2 ^ k : Nat) : Int)) (shl32 (by omega)) ?_
   refine G tt_ok pk116 ?_
   rw [clr32]
   refine SQ.idx tt_ok rfl rfl 0 rfl (by decide) (o' := 0) rfl ?_
   refine G tt_ok pk116 ?_
   exact CW.ret ⟨_, ⟨rfl, rfl⟩, pk_⟩
  ·refine G tt_ok pk116 ?_
   intro fm2 rec2
   refine G tt_ok pk116 ?_
   refine SQ.idx tt_ok rfl rfl 1 rfl (by decide) (o' := 1) rfl ?_
   refine G tt_ok pk116 ?_
   rw [u3 hk]
   refine SQ.shift tt_ok rfl rfl k rfl (v := ((2 ^ k : Nat) : Int)) (shl32 (by omega)) ?_
   refine G tt_ok pk116 ?_
   rw [clr32]
   refine SQ.idx tt_ok rfl rfl 1 rfl (by decide) (o' := 1) rfl ?_
   refine G tt_ok pk116 ?_
   exact CW.ret ⟨_, ⟨rfl, rfl⟩, pk_⟩
 ·refine CW.pure_ fun hp => ?_
  have hd : dropV b0 b1 = (b0, b1) := by unfold dropV; rw [hp]
  rw [hd]
  refine G tt_ok pk116 ?_
  exact CW.ret (fin_cells [_, _] ⟨cl_, cl_, trivial⟩ (A := []) (Ent.dropAll _) ⟨_, rfl, rfl⟩)
 ·rintro c M ⟨rfl, rfl⟩
  exact CW.ret (fin_cells [_, _] ⟨cl_, cl_, trivial⟩ (A := []) (Ent.dropAll _) ⟨_, rfl, rfl⟩)
@[reducible] def pk115 : List (Nat × Plan) := []
@[reducible] def pk111 : List (Nat × Plan) := []
@[reducible] def pk109 : List (Nat × Plan) := [(2, [(0, 0, []), (1, 0, []), (2, 0, []), (3, 0, []), (4, 0, []), (5, 0, []), (6, 0, []), (7, 0, []), (8, 0, []), (9, 0, []), (10, 0, []), (11, 0, []), (12, 0, []), (13, 0, []), (14, 0, []), (15, 1, [1, 4, 8, 12, 14]), (16, 0, []), (17, 0, []), (18, 0, []), (19, 0, []), (20, 0, []), (21, 0, []), (22, 0, []), (23, 0, []), (24, 1, [1, 4, 8, 12, 14, 19, 21, 23]), (25, 1, [1, 4, 8, 12, 14, 19, 21, 23]), (26, 0, []), (27, 0, [])])]
@[reducible] def pk38 : List (Nat × Plan) := []
structure Fc where
 m : Nat
 p0 : Nat
 p1 : Nat
 on0 : Bool
 on1 : Bool
 sp : Bool
 b0 : Nat
 b1 : Nat
@[reducible] def fcC (f : Fc) : List Value := [.int .i64 f.m, .int .i64 f.p0, .int .i64 f.p1, .bool f.on0, .bool f.on1, .bool f.sp, .int .u32 f.b0, .int .u32 f.b1]
@[reducible] def fcV (f : Fc) : Value := .agg #[.int .i64 f.m, .int .i64 f.p0, .int .i64 f.p1, .bool f.on0, .bool f.on1, .bool f.sp, .int .u32 f.b0, .int .u32 f.b1]
structure FcOk (f : Fc) : Prop where
 m : f.m ≤ 255
 p0 : f.p0 ≤ 7
 p1 : f.p1 ≤ 7
 b0 : f.b0 < 2 ^ 32
 b1 : f.b1 < 2 ^ 32
def Fc.run (f : Fc) : Int × Int := runV f.b0 f.b1
def Fc.on (f : Fc) (g : Nat) : Bool := if g = 0 then f.on0 else f.on1
def Fc.msk (f : Fc) (g : Nat) : Nat := maskN g (if g = 0 then f.p0 else f.p1)
theorem running27 (β : Base) {f : Fc} (ok : FcOk f) : Tri Tryz.prog β 115 [fcV f] [] (fun v L => v = .tuple #[.int .i64 f.run.1, .int .i64 f.run.2] ∧ L = []) := by
 refine Tri.intro tt_ok Tryz.func115 rfl rfl Tryz.ntmps115 rfl fun F => ?_
 (refine G tt_ok pk115 ?_; repeat (refine G1 tt_ok pk115 ?_; intro _))
 refine ke rfl rfl (running77 β ok.b0 ok.b1) ?_
 refine G tt_ok pk115 ?_
 exact CW.ret (fin_ret rfl (A := []) (Ent.dropAll _) ⟨rfl, rfl⟩)
theorem fmask76 (β : Base) {f : Fc} (ok : FcOk f) {g : Nat} (hg : g ≤ 1) : Tri Tryz.prog β 111 [fcV f, .int .i64 g] [] (fun v L => v = .int .i64 (f.msk g) ∧ L = []) := by
 refine Tri.intro tt_ok Tryz.func111 rfl rfl Tryz.ntmps111 rfl fun F => ?_
 have hg2 : g = 0 ∨ g = 1 := by omega
 rcases hg2 with rfl | rfl
 ·have h := mask136 β (g := 0) (p := f.p0) (by omega) ok.p0
  rw [show ((0 : Nat) : Int) = 0 from rfl] at h ⊢
  (refine G tt_ok pk111 ?_; repeat (refine G1 tt_ok pk111 ?_; intro _))
  refine SQ.idx tt_ok rfl rfl 0 rfl (by decide) (o' := 1) rfl ?_
  refine G tt_ok pk111 ?_
  refine ke rfl rfl (h) ?_
  refine G tt_ok pk111 ?_
  exact CW.ret (fin_ret rfl (A := []) (Ent.dropAll _) ⟨rfl, rfl⟩)
 ·have h := mask136 β (g := 1) (p := f.p1) (by omega) ok.p1
  rw [show ((1 : Nat) : Int) = 1 from rfl] at h ⊢
  (refine G tt_ok pk111 ?_; repeat (refine G1 tt_ok pk111 ?_; intro _))
  refine SQ.idx tt_ok rfl rfl 1 rfl (by decide) (o' := 2) rfl ?_
  refine G tt_ok pk111 ?_
  refine ke rfl rfl (h) ?_
  refine G tt_ok pk111 ?_
  exact CW.ret (fin_ret rfl (A := []) (Ent.dropAll _) ⟨rfl, rfl⟩)
def Fc.may (f : Fc) (p : Int) (g : Nat) (is : Bool) : Bool := is && (f.on g && (decide (p < f.m) && decide (andI p (f.msk g) < f.run.1)))
set_option maxHeartbeats 4000000 in
theorem may26 (β : Base) {f : Fc} (ok : FcOk f) (id p : Int) {g : Nat} (hg : g ≤ 1) (is : Bool) : Tri Tryz.prog β 109 [fcV f, .agg #[.int .i64 id, .int .i64 p, .int .i64 g, .bool is]] [] (fun v L => v = .bool (f.may p g is) ∧ L = []) := by
 refine Tri.intro tt_ok Tryz.func109 rfl rfl Tryz.ntmps109 rfl fun F => ?_
 obtain ⟨m, p0, p1, on0, on1, sp, b0, b1⟩ := f
 have hm := fmask76 β ok hg
 unfold Fc.may
 cases is with
 | false =>
  (refine G tt_ok pk109 ?_; repeat (refine G1 tt_ok pk109 ?_; intro _))
  refine ke rfl rfl (running27 β ok) ?_
  refine G tt_ok pk109 ?_
  exact CW.ret (fin_ret rfl (A := []) (Ent.dropAll _) ⟨rfl, rfl⟩)
 | true =>
  have hg2 : g = 0 ∨ g = 1 := by omega
  rcases hg2 with rfl | rfl
  ·rw [show ((0 : Nat) : Int) = 0 from rfl] at hm ⊢
   (refine G tt_ok pk109 ?_; repeat (refine G1 tt_ok pk109 ?_; intro _))
   refine ke rfl rfl (running27 β ok) ?_
   refine G tt_ok pk109 ?_
   refine SQ.idx tt_ok rfl rfl 0 rfl (by decide) (o' := 3) rfl ?_
   refine G tt_ok pk109 ?_
   have e : (⟨m, p0, p1, on0, on1, sp, b0, b1⟩ : Fc).on 0 = on0 := rfl
   rw [e]
   clear e
   cases on0 with
   | false =>
    refine G tt_ok pk109 ?_
    exact CW.ret (fin_ret rfl (A := []) (Ent.dropAll _) ⟨rfl, rfl⟩)
   | true =>
    refine G tt_ok pk109 ?_
    refine ke rfl rfl (passes74 β p m) ?_
    refine G tt_ok pk109 ?_
    cases decide (p < (m : Int)) with
    | false =>
     refine G tt_ok pk109 ?_
     exact CW.ret (fin_ret rfl (A := []) (Ent.dropAll _) ⟨rfl, rfl⟩)
    | true =>
     refine G tt_ok pk109 ?_
     refine ke rfl rfl (hm) ?_
     refine G tt_ok pk109 ?_
     refine ke rfl rfl (preempts75 β p _ _) ?_
     refine G tt_ok pk109 ?_
     exact CW.ret (fin_ret rfl (A := []) (Ent.dropAll _) ⟨rfl, rfl⟩)
  ·rw [show ((1 : Nat) : Int) = 1 from rfl] at hm ⊢
   (refine G tt_ok pk109 ?_; repeat (refine G1 tt_ok pk109 ?_; intro _))
   refine ke rfl rfl (running27 β ok) ?_
   refine G tt_ok pk109 ?_
   refine SQ.idx tt_ok rfl rfl 1 rfl (by decide) (o' := 4) rfl ?_
   refine G tt_ok pk109 ?_
   have e : (⟨m, p0, p1, on0, on1, sp, b0, b1⟩ : Fc).on 1 = on1 := rfl
   rw [e]
   clear e
   cases on1 with
   | false =>
    refine G tt_ok pk109 ?_
    exact CW.ret (fin_ret rfl (A := []) (Ent.dropAll _) ⟨rfl, rfl⟩)
   | true =>
    refine G tt_ok pk109 ?_
    refine ke rfl rfl (passes74 β p m) ?_
    refine G tt_ok pk109 ?_
    cases decide (p < (m : Int)) with
    | false =>
     refine G tt_ok pk109 ?_
     exact CW.ret (fin_ret rfl (A := []) (Ent.dropAll _) ⟨rfl, rfl⟩)
    | true =>
     refine G tt_ok pk109 ?_
     refine ke rfl rfl (hm) ?_
     refine G tt_ok pk109 ?_
     refine ke rfl rfl (preempts75 β p _ _) ?_
     refine G tt_ok pk109 ?_
     exact CW.ret (fin_ret rfl (A := []) (Ent.dropAll _) ⟨rfl, rfl⟩)
def fc0 : Fc := ⟨0, 0, 0, false, false, false, 0, 0⟩
theorem fnew73 (β : Base) : Tri Tryz.prog β 38 [] [] (fun v L => v = fcV fc0 ∧ L = []) := by
 refine Tri.intro tt_ok Tryz.func38 rfl rfl Tryz.ntmps38 rfl fun F => ?_
 (refine G tt_ok pk38 ?_; repeat (refine G1 tt_ok pk38 ?_; intro _))
 exact CW.ret (fin_cells [_] ⟨cl_, trivial⟩ (A := []) (Ent.dropAll _) ⟨rfl, rfl⟩)
@[reducible] def pk58 : List (Nat × Plan) := [(1, [(0, 0, []), (1, 0, []), (2, 0, []), (3, 0, []), (4, 1, [2, 3]), (5, 0, []), (6, 0, []), (7, 0, []), (8, 0, []), (9, 0, []), (10, 0, []), (11, 0, [])]), (3, [(0, 0, []), (1, 0, []), (2, 0, []), (3, 0, []), (4, 0, []), (5, 0, []), (6, 0, []), (7, 0, []), (8, 0, []), (9, 0, []), (10, 0, []), (11, 0, []), (12, 1, [4, 7, 10]), (13, 0, []), (14, 1, [4, 7, 10]), (15, 0, []), (16, 0, []), (17, 1, [])])]
theorem rd_sdf {ss : List Fc} {k : Nat} {s : Fc} (h : ss[k]? = some s) (X : List Value) : rdv ti100 (ss.flatMap fcC ++ X) (0 + k * 8) = some (fcV s) :=
 rd_partR (enc := fcC) (sz := 8) (fun _ => rfl) h 0 (i := ti100) rfl (by decide) (by omega) (by decide) X
theorem rd_sdl {ss : List Fc} {k : Nat} {s : Fc} (h : ss[k]? = some s) (X : List Value) : rdv ti98 (ss.flatMap fcC ++ X) (bif Nat.beq (0 + k * 8) 0 then 6 else 0 + k * 8 + 6) = some (.agg #[.int .u32 s.b0, .int .u32 s.b1]) :=
 rd_partR (enc := fcC) (sz := 8) (fun _ => rfl) h 6 (i := ti98) rfl (by decide) (by rw [off_add]; omega) (by decide) X
theorem wr_sdl {ss : List Fc} {k : Nat} {s : Fc} (h : ss[k]? = some s) (b0 b1 : Nat) (X : List Value) : wrv ti98 (ss.flatMap fcC ++ X) (bif Nat.beq (0 + k * 8) 0 then 6 else 0 + k * 8 + 6) (.agg #[.int .u32 b0, .int .u32 b1]) = some ((ss.set k { s with b0 := b0, b1 := b1 }).flatMap fcC ++ X) :=
 wr_encR (enc := fcC) (sz := 8) (fun _ => rfl) h 6 (i := ti98) (by decide) rfl rfl (by rw [off_add]; omega) X
theorem maskN_le {g p : Nat} (hp : p ≤ 7) : maskN g p ≤ 255 := by
 have h2 : p = 0 ∨ p = 1 ∨ p = 2 ∨ p = 3 ∨ p = 4 ∨ p = 5 ∨ p = 6 ∨ p = 7 := by omega
 unfold maskN
 rcases h2 with rfl | rfl | rfl | rfl | rfl | rfl | rfl | rfl <;> split <;> simp
theorem msk_le {f : Fc} (ok : FcOk f) (g : Nat) : f.msk g ≤ 255 := by
 unfold Fc.msk
 split
 ·exact maskN_le ok.p0
 ·exact maskN_le ok.p1
def Fc.push (f : Fc) (k p : Nat) : Fc := { f with b0 := (pushV f.b0 f.b1 k (p &&& f.msk k)).1, b1 := (pushV f.b0 f.b1 k (p &&& f.msk k)).2 }
def Fc.takes (f : Fc) (p g : Nat) (is : Bool) (k : Nat) : Bool := f.may p g is && (g == k)
def Fc.takeF (f : Fc) (p g : Nat) (is : Bool) (k : Nat) : Fc := if f.takes p g is k then f.push k p else f
theorem and_le255 {p m : Nat} (hp : p ≤ 255) : p &&& m ≤ 255 := Nat.le_trans Nat.and_le_left hp
theorem push_ok {f : Fc} (ok : FcOk f) {k p : Nat} (hp : p ≤ 255) : FcOk (f.push k p) :=
 have h := push_lt (g := k) ok.b0 ok.b1 (and_le255 (m := f.msk k) hp)
 ⟨ok.m, ok.p0, ok.p1, h.1, h.2⟩
theorem takeF_ok {f : Fc} (ok : FcOk f) {p : Nat} (hp : p ≤ 255) (g : Nat) (is : Bool) (k : Nat) : FcOk (f.takeF p g is k) := by
 unfold Fc.takeF; split
 ·exact push_ok ok hp
 ·exact ok
set_option maxHeartbeats 8000000 in
theorem take64 (β : Base) {q : Option Addr} {ss : List Fc} {j : Nat} {s : Fc} (hx : ss[j]? = some s) (ok : FcOk s) (id : Int) {p g k : Nat} (hp : p ≤ 255) (hg : g ≤ 1) (is : Bool) (hk : k ≤ 1) :
  Tri Tryz.prog β 58 [.pointer (some ⟨gb q, 0 + j * 8, none⟩), .agg #[.int .i64 id, .int .i64 p, .int .i64 g, .bool is], .int .i64 k] [rowA q ss.length (ss.flatMap fcC)]
  (fun v L => v = .tuple #[.int .i64 (if s.takes p g is k then id else 1023), .bool (s.takes p g is k)] ∧ L = [rowA q ss.length ((ss.set j (s.takeF p g is k)).flatMap fcC)]) := by
 have hl : j < ss.length := (List.getElem?_eq_some_iff.1 hx).1
 have hn0 : 0 < ss.length := by omega
 refine Tri.intro tt_ok Tryz.func58 rfl rfl Tryz.ntmps58 rfl fun F => ?_
 unfold Fc.takeF Fc.takes
 have hmay := may26 β ok id p hg is
 (refine G tt_ok pk58 ?_; repeat (refine G1 tt_ok pk58 ?_; intro _))
 refine lr_ tt_ok rfl rfl (rd_sdf hx) ?_ (hn := hn0)
 refine G tt_ok pk58 ?_
 (refine ka rfl rfl (hmay) ?_; rintro _ _ ⟨rfl, rfl⟩; refine ⟨(by repeat (first | exact trivial | refine ⟨trivial, ?_⟩ | refine ⟨rr_ (rd_sdf hx), ?_⟩ | refine ⟨wk (by repeat (first | exact .h | exact .q | apply At.t)) (by rfl), ?_⟩)), ?_⟩)
 cases hm : s.may p g is with
 | false =>
  have hs : ss.set j s = ss := set_same_ hx
  simp only [Bool.false_and, Bool.false_eq_true, if_false]
  rw [hs]
  refine G tt_ok pk58 ?_
  exact CW.ret (fin_ret rfl (A := [rowA q ss.length (ss.flatMap fcC)]) pk_ ⟨rfl, rfl⟩)
 | true =>
  simp only [Bool.true_and]
  by_cases hgk : g = k
  ·subst hgk
   rw [show (g == g) = true by simp]
   simp only [if_true]
   refine G tt_ok pk58 ?_
   rw [show ((g : Int) != (g : Int)) = false by simp]
   refine G tt_ok pk58 ?_
   refine lr_ tt_ok rfl rfl (rd_sdl hx) ?_ (hn := hn0)
   refine G tt_ok pk58 ?_
   refine lr_ tt_ok rfl rfl (rd_sdf hx) ?_ (hn := hn0)
   refine G tt_ok pk58 ?_
   (refine ka rfl rfl (fmask76 β ok hg) ?_; rintro _ _ ⟨rfl, rfl⟩; refine ⟨(by repeat (first | exact trivial | refine ⟨trivial, ?_⟩ | refine ⟨rr_ (rd_sdl hx), ?_⟩ | refine ⟨rr_ (rd_sdf hx), ?_⟩ | refine ⟨wk (by repeat (first | exact .h | exact .q | apply At.t)) (by rfl), ?_⟩)), ?_⟩)
   refine G tt_ok pk58 ?_
   rw [show IntKind.i64.wrap ((BitVec.ofInt IntKind.i64.bits (p : Int) &&& BitVec.ofInt IntKind.i64.bits ((s.msk g : Nat) : Int)).toNat : Int) = ((p &&& s.msk g : Nat) : Int) from andI_nat (by omega) (by have := msk_le ok g; omega)]
   (refine ka rfl rfl (push128 β ok.b0 ok.b1 hg (and_le255 (m := s.msk g) hp)) ?_; rintro _ _ ⟨rfl, rfl⟩; refine ⟨(by repeat (first | exact trivial | refine ⟨trivial, ?_⟩ | refine ⟨rr_ (rd_sdl hx), ?_⟩ | refine ⟨rr_ (rd_sdf hx), ?_⟩ | refine ⟨wk (by repeat (first | exact .h | exact .q | apply At.t)) (by rfl), ?_⟩)), ?_⟩)
   refine G tt_ok pk58 ?_
   refine sr_ tt_ok rfl rfl (wr_sdl hx _ _) ?_ (hn := hn0)
   refine G tt_ok pk58 ?_
   exact CW.ret (fin_ret rfl (A := [rowA q ss.length ((ss.set j (s.push g p)).flatMap fcC)]) pk_ ⟨rfl, rfl⟩)
  ·have hs : ss.set j s = ss := set_same_ hx
   rw [show (g == k) = false by simpa using hgk]
   simp only [Bool.false_eq_true, if_false]
   rw [hs]
   refine G tt_ok pk58 ?_
   rw [show ((g : Int) != (k : Int)) = true by simp; omega]
   refine G tt_ok pk58 ?_
   exact CW.ret (fin_ret rfl (A := [rowA q ss.length (ss.flatMap fcC)]) pk_ ⟨rfl, rfl⟩)
@[reducible] def pk60 : List (Nat × Plan) := []
@[reducible] def pk90 : List (Nat × Plan) := []
def Fc.drops (f : Fc) (k : Nat) : Bool := !(f.run.1 == 255 || f.run.2 != k)
def Fc.dropF (f : Fc) (k : Nat) : Fc := if f.drops k then { f with b0 := (dropV f.b0 f.b1).1, b1 := (dropV f.b0 f.b1).2 } else f
set_option maxHeartbeats 8000000 in
theorem drop69 (β : Base) {q : Option Addr} {ss : List Fc} {j : Nat} {s : Fc} (hx : ss[j]? = some s) (ok : FcOk s) {k : Nat} (hk : k ≤ 1) :
  Tri Tryz.prog β 60 [.pointer (some ⟨gb q, 0 + j * 8, none⟩), .int .i64 k] [rowA q ss.length (ss.flatMap fcC)]
  (fun v L => v = .bool (s.drops k) ∧ L = [rowA q ss.length ((ss.set j (s.dropF k)).flatMap fcC)]) := by
 have hl : j < ss.length := (List.getElem?_eq_some_iff.1 hx).1
 have hn0 : 0 < ss.length := by omega
 have hs : ss.set j s = ss := set_same_ hx
 refine Tri.intro tt_ok Tryz.func60 rfl rfl Tryz.ntmps60 rfl fun F => ?_
 unfold Fc.dropF Fc.drops
 refine G tt_ok pk60 ?_
 refine lr_ tt_ok rfl rfl (rd_sdf hx) ?_ (hn := hn0)
 refine G tt_ok pk60 ?_
 refine ke rfl rfl (running27 β ok) ?_
 refine G tt_ok pk60 ?_
 cases h1 : (s.run.1 == 255) with
 | true =>
  simp only [Bool.true_or, Bool.not_true, Bool.false_eq_true, if_false]
  rw [hs]
  refine G tt_ok pk60 ?_
  exact CW.ret (fin_ret rfl (A := [rowA q ss.length (ss.flatMap fcC)]) pk_ ⟨rfl, rfl⟩)
 | false =>
  simp only [Bool.false_or]
  refine G tt_ok pk60 ?_
  cases h2 : (s.run.2 != (k : Int)) with
  | true =>
   simp only [Bool.not_true, Bool.false_eq_true, if_false]
   rw [hs]
   refine G tt_ok pk60 ?_
   exact CW.ret (fin_ret rfl (A := [rowA q ss.length (ss.flatMap fcC)]) pk_ ⟨rfl, rfl⟩)
  | false =>
   simp only [Bool.not_false, if_true]
   refine G tt_ok pk60 ?_
   refine lr_ tt_ok rfl rfl (rd_sdl hx) ?_ (hn := hn0)
   refine G tt_ok pk60 ?_
   (refine ka rfl rfl (ldrop130 β ok.b0 ok.b1) ?_; rintro _ _ ⟨t, rfl, rfl⟩; refine w_ ?_)
   refine G tt_ok pk60 ?_
   refine sr_ tt_ok rfl rfl (wr_sdl hx _ _) ?_ (hn := hn0)
   refine G tt_ok pk60 ?_
   exact CW.ret (fin_ret rfl (A := [rowA q ss.length ((ss.set j { s with b0 := (dropV s.b0 s.b1).1, b1 := (dropV s.b0 s.b1).2 }).flatMap fcC)]) pk_ ⟨rfl, rfl⟩)
def Fc.writeF (f : Fc) (r : Int) (v : Nat) : Fc × Bool :=
 if r = 6 then ({ f with m := v % 256 &&& 248 }, true)
 else if r = 7 then ({ f with p0 := v % 8 }, true)
 else if r = 8 then ({ f with p1 := max 1 (v % 8) }, true)
 else if r = 9 then ({ f with sp := decide (v / 2 % 2 = 1) }, true)
 else if r = 10 then ({ f with on0 := decide (v % 2 = 1) }, true)
 else if r = 11 then ({ f with on1 := decide (v % 2 = 1) }, true)
 else (f, false)
theorem writeF_ok {f : Fc} (ok : FcOk f) (r : Int) (v : Nat) : FcOk (f.writeF r v).1 := by
 unfold Fc.writeF
 repeat' split
 ·exact ⟨Nat.le_trans Nat.and_le_left (by omega), ok.p0, ok.p1, ok.b0, ok.b1⟩
 ·exact ⟨ok.m, by simp only; omega, ok.p1, ok.b0, ok.b1⟩
 ·exact ⟨ok.m, ok.p0, by simp only; omega, ok.b0, ok.b1⟩
 all_goals exact ⟨ok.m, ok.p0, ok.p1, ok.b0, ok.b1⟩
theorem wr_sdm {ss : List Fc} {k : Nat} {s : Fc} (h : ss[k]? = some s) (a : Nat) (X : List Value) : wrv ti3 (ss.flatMap fcC ++ X) (0 + k * 8) (.int .i64 a) = some ((ss.set k { s with m := a }).flatMap fcC ++ X) :=
 wr_encR (enc := fcC) (sz := 8) (fun _ => rfl) h 0 (i := ti3) (by decide) rfl rfl (by omega) X
theorem wr_sp0 {ss : List Fc} {k : Nat} {s : Fc} (h : ss[k]? = some s) (a : Nat) (X : List Value) : wrv ti3 (ss.flatMap fcC ++ X) (bif Nat.beq (0 + k * 8) 0 then 1 else 0 + k * 8 + 1) (.int .i64 a) = some ((ss.set k { s with p0 := a }).flatMap fcC ++ X) :=
 wr_encR (enc := fcC) (sz := 8) (fun _ => rfl) h 1 (i := ti3) (by decide) rfl rfl (by rw [off_add]; omega) X
theorem wr_sp1 {ss : List Fc} {k : Nat} {s : Fc} (h : ss[k]? = some s) (a : Nat) (X : List Value) : wrv ti3 (ss.flatMap fcC ++ X) ((bif Nat.beq (0 + k * 8) 0 then 1 else 0 + k * 8 + 1) + 1 * 1) (.int .i64 a) = some ((ss.set k { s with p1 := a }).flatMap fcC ++ X) :=
 wr_encR (enc := fcC) (sz := 8) (fun _ => rfl) h 2 (i := ti3) (by decide) rfl rfl (by rw [off_add]; omega) X
theorem wr_so0 {ss : List Fc} {k : Nat} {s : Fc} (h : ss[k]? = some s) (a : Bool) (X : List Value) : wrv ti4 (ss.flatMap fcC ++ X) (bif Nat.beq (0 + k * 8) 0 then 3 else 0 + k * 8 + 3) (.bool a) = some ((ss.set k { s with on0 := a }).flatMap fcC ++ X) :=
 wr_encR (enc := fcC) (sz := 8) (fun _ => rfl) h 3 (i := ti4) (by decide) rfl rfl (by rw [off_add]; omega) X
theorem wr_so1 {ss : List Fc} {k : Nat} {s : Fc} (h : ss[k]? = some s) (a : Bool) (X : List Value) : wrv ti4 (ss.flatMap fcC ++ X) ((bif Nat.beq (0 + k * 8) 0 then 3 else 0 + k * 8 + 3) + 1 * 1) (.bool a) = some ((ss.set k { s with on1 := a }).flatMap fcC ++ X) :=
 wr_encR (enc := fcC) (sz := 8) (fun _ => rfl) h 4 (i := ti4) (by decide) rfl rfl (by rw [off_add]; omega) X
theorem wr_ssp {ss : List Fc} {k : Nat} {s : Fc} (h : ss[k]? = some s) (a : Bool) (X : List Value) : wrv ti4 (ss.flatMap fcC ++ X) (bif Nat.beq (0 + k * 8) 0 then 5 else 0 + k * 8 + 5) (.bool a) = some ((ss.set k { s with sp := a }).flatMap fcC ++ X) :=
 wr_encR (enc := fcC) (sz := 8) (fun _ => rfl) h 5 (i := ti4) (by decide) rfl rfl (by rw [off_add]; omega) X
theorem v255 {v : Nat} (hv : v < 2 ^ 64) : IntKind.i64.wrap (IntKind.u64.wrap ((BitVec.ofInt IntKind.u64.bits (v : Int) &&& BitVec.ofInt IntKind.u64.bits 255).toNat : Int)) = ((v % 256 : Nat) : Int) := by
 rw [show IntKind.u64.wrap ((BitVec.ofInt IntKind.u64.bits (v : Int) &&& BitVec.ofInt IntKind.u64.bits 255).toNat : Int) = ((v % 256 : Nat) : Int) from and_mod (k := 8) hv (by omega)]
 exact wrap_id (by omega) (by omega)
theorem v7 {v : Nat} (hv : v < 2 ^ 64) : IntKind.i64.wrap (IntKind.u64.wrap ((BitVec.ofInt IntKind.u64.bits (v : Int) &&& BitVec.ofInt IntKind.u64.bits 7).toNat : Int)) = ((v % 8 : Nat) : Int) := by
 rw [show IntKind.u64.wrap ((BitVec.ofInt IntKind.u64.bits (v : Int) &&& BitVec.ofInt IntKind.u64.bits 7).toNat : Int) = ((v % 8 : Nat) : Int) from and_mod (k := 3) hv (by omega)]
 exact wrap_id (by omega) (by omega)
set_option maxHeartbeats 8000000 in
theorem write71 (β : Base) {q : Option Addr} {ss : List Fc} {j : Nat} {s : Fc} (hx : ss[j]? = some s) (r : Int) {v : Nat} (hv : v < 2 ^ 64) :
  Tri Tryz.prog β 90 [.pointer (some ⟨gb q, 0 + j * 8, none⟩), .int .i64 r, .int .u64 v] [rowA q ss.length (ss.flatMap fcC)]
  (fun u L => u = .bool (s.writeF r v).2 ∧ L = [rowA q ss.length ((ss.set j ((s.writeF r v).1)).flatMap fcC)]) := by
 have hl : j < ss.length := (List.getElem?_eq_some_iff.1 hx).1
 have hn0 : 0 < ss.length := by omega
 have hs : ss.set j s = ss := set_same_ hx
 refine Tri.intro tt_ok Tryz.func90 rfl rfl Tryz.ntmps90 rfl fun F => ?_
 unfold Fc.writeF
 refine G tt_ok pk90 ?_
 by_cases h6 : r = 6
 ·subst h6
  refine G tt_ok pk90 ?_
  rw [v255 hv]
  refine ke rfl rfl (real48 β ((v % 256 : Nat) : Int)) ?_
  refine G tt_ok pk90 ?_
  rw [show andI ((v % 256 : Nat) : Int) 248 = ((v % 256 &&& 248 : Nat) : Int) from andI_nat (b := 248) (by omega) (by decide)]
  refine sr_ tt_ok rfl rfl (wr_sdm hx _) ?_ (hn := hn0)
  refine G tt_ok pk90 ?_
  exact CW.ret (fin_ret rfl (A := [rowA q ss.length ((ss.set j { s with m := v % 256 &&& 248 }).flatMap fcC)]) pk_ ⟨rfl, rfl⟩)
 rw [if_neg h6, show (r == 6) = false by simp [h6]]
 refine G tt_ok pk90 ?_
 by_cases h7 : r = 7
 ·subst h7
  refine G tt_ok pk90 ?_
  rw [v7 hv]
  refine SQ.idx tt_ok rfl rfl 0 rfl (by decide) rfl ?_
  refine G tt_ok pk90 ?_
  refine sr_ tt_ok rfl rfl (wr_sp0 hx _) ?_ (hn := hn0)
  refine G tt_ok pk90 ?_
  exact CW.ret (fin_ret rfl (A := [rowA q ss.length ((ss.set j { s with p0 := v % 8 }).flatMap fcC)]) pk_ ⟨rfl, rfl⟩)
 rw [if_neg h7, show (r == 7) = false by simp [h7]]
 refine G tt_ok pk90 ?_
 by_cases h8 : r = 8
 ·subst h8
  refine G tt_ok pk90 ?_
  rw [v7 hv, show (if (1 : Int) < ((v % 8 : Nat) : Int) then ((v % 8 : Nat) : Int) else 1) = ((max 1 (v % 8) : Nat) : Int) by split <;> omega]
  refine SQ.idx tt_ok rfl rfl 1 rfl (by decide) rfl ?_
  refine G tt_ok pk90 ?_
  refine sr_ tt_ok rfl rfl (wr_sp1 hx _) ?_ (hn := hn0)
  refine G tt_ok pk90 ?_
  exact CW.ret (fin_ret rfl (A := [rowA q ss.length ((ss.set j { s with p1 := max 1 (v % 8) }).flatMap fcC)]) pk_ ⟨rfl, rfl⟩)
 rw [if_neg h8, show (r == 8) = false by simp [h8]]
 refine G tt_ok pk90 ?_
 by_cases h9 : r = 9
 ·subst h9
  refine G tt_ok pk90 ?_
  rw [and2_is v hv]
  refine sr_ tt_ok rfl rfl (wr_ssp hx _) ?_ (hn := hn0)
  refine G tt_ok pk90 ?_
  exact CW.ret (fin_ret rfl (A := [rowA q ss.length ((ss.set j { s with sp := decide (v / 2 % 2 = 1) }).flatMap fcC)]) pk_ ⟨rfl, rfl⟩)
 rw [if_neg h9, show (r == 9) = false by simp [h9]]
 refine G tt_ok pk90 ?_
 by_cases h10 : r = 10
 ·subst h10
  refine G tt_ok pk90 ?_
  rw [and1_is v hv]
  refine SQ.idx tt_ok rfl rfl 0 rfl (by decide) rfl ?_
  refine G tt_ok pk90 ?_
  refine sr_ tt_ok rfl rfl (wr_so0 hx _) ?_ (hn := hn0)
  refine G tt_ok pk90 ?_
  exact CW.ret (fin_ret rfl (A := [rowA q ss.length ((ss.set j { s with on0 := decide (v % 2 = 1) }).flatMap fcC)]) pk_ ⟨rfl, rfl⟩)
 rw [if_neg h10, show (r == 10) = false by simp [h10]]
 refine G tt_ok pk90 ?_
 by_cases h11 : r = 11
 ·subst h11
  refine G tt_ok pk90 ?_
  rw [and1_is v hv]
  refine SQ.idx tt_ok rfl rfl 1 rfl (by decide) rfl ?_
  refine G tt_ok pk90 ?_
  refine sr_ tt_ok rfl rfl (wr_so1 hx _) ?_ (hn := hn0)
  refine G tt_ok pk90 ?_
  exact CW.ret (fin_ret rfl (A := [rowA q ss.length ((ss.set j { s with on1 := decide (v % 2 = 1) }).flatMap fcC)]) pk_ ⟨rfl, rfl⟩)
 rw [if_neg h11, show (r == 11) = false by simp [h11]]
 refine G tt_ok pk90 ?_
 rw [hs]
 exact CW.ret (fin_ret rfl (A := [rowA q ss.length (ss.flatMap fcC)]) pk_ ⟨rfl, rfl⟩)
end Go.Proofs.YtakkogdmlbkdaaaGreatDoor.Sl
namespace Go.Proofs.YtakkogdmlbkdaaaGreatDoor.Sl
theorem Tri.pk1 {P : Program} {β : Base} {g : FuncId} {args : List Value} {A B : List Atom} {V : Value} (h : Tri P β g args A (fun v L => v = V ∧ L = B)) : Tri P β g args [packA A] (fun v L => v = V ∧ L = [packA B]) := by
 have h1 : Tri P β g args [packA A] (fun v L => v = V ∧ L = B) := Tri.ent (by have := Ent.unpack A []; simpa using this) h
 refine Tri.post h1 ?_
 rintro v L ⟨rfl, rfl⟩
 exact ⟨_, by have := Ent.pack (L := L) (M := []); simpa using this, rfl, rfl⟩
end Go.Proofs.YtakkogdmlbkdaaaGreatDoor.Sl
namespace Go.Proofs.YtakkogdmlbkdaaaGreatDoor.Sl.It
attribute [local irreducible] CW Tri OW
@[reducible] def pk41 : List (Nat × Plan) := []
@[reducible] def pk32 : List (Nat × Plan) := []
variable {T nc : Nat}
structure Ha where
 m : Nat
 dd : Nat
 sp : Nat
 g : Gr
 fq : Option Addr
 fc : Nat
 lq : Option Addr
 lc : Nat
 ps : List Nat
structure Hx where
 iw : IW
 j : Nat
 D : DS
 S : Sh
 fs : List Fc
structure Hx.ok (T nc : Nat) (x : Hx) : Prop where
 iw : x.iw.ok T nc
 j : x.j < 32
 cb : ∀ k, k < nc → byOk (x.iw.w.at_ k).C
 S : x.S.ok
 sv : ∀ k n, getB x.S.ns k = some n → 0 ≤ n ∧ n < 512
 fl : x.fs.length = nc
 fs : ∀ f ∈ x.fs, FcOk f
 D : ∃ R, OkD R x.D
 dl : x.D.xs.length = nc
 n1 : 1 ≤ nc
 n8 : nc ≤ 8
@[reducible] def hH (a : Ha) (nc : Nat) : Hc := (.pointer (some ⟨a.m, 0, none⟩), .pointer (some ⟨a.dd, 0, none⟩), .slice a.fq nc a.fc, .slice a.lq nc a.lc, .pointer (some ⟨a.sp, 0, none⟩))
def hRow (h : Nat) (a : Ha) (nc : Nat) (x : Hx) : Atom := pt h (itH (hH a nc) true x.iw.st x.iw.i x.j 64)
def dpA (dd : Nat) (D : DS) : Atom := packA (dA dd D)
def fA (a : Ha) (nc : Nat) (fs : List Fc) : Atom := rowA a.fq nc (fs.flatMap fcC)
def lA (a : Ha) (nc : Nat) : Atom := rowA a.lq nc (a.ps.flatMap ptC)
structure Ha.ok (a : Ha) (nc : Nat) : Prop where
 l : a.ps.length = nc
 n : a.ps.Nodup
def hL (h : Nat) (a : Ha) (nc : Nat) (x : Hx) : List Atom := [hRow h a nc x, lA a nc, colsA a.ps x.iw.w.cs, pt a.m [.slice (some ⟨a.g.1, 0, none⟩) x.iw.w.B.length (x.iw.w.B.length + a.g.2.length)], pt a.g.1 (bys x.iw.w.B ++ a.g.2), shA a.sp x.S, fA a nc x.fs, dpA a.dd x.D]
def hoA (h nc : Nat) (x : Hx) : Atom := exA fun a : Ha => pureA (a.ok nc) :: hL h a nc x
theorem ho_shut {h nc : Nat} {a : Ha} {x : Hx} (ha : a.ok nc) : Ent (hL h a nc x) [hoA h nc x] :=
 (Ent.pureA (p := a.ok nc) (L := hL h a nc x) ha).trans (Ent.exA (f := fun a : Ha => pureA (a.ok nc) :: hL h a nc x) a)
theorem Tri.ho {P : Program} {β : Base} {g : FuncId} {args : List Value} {h nc : Nat} {x : Hx} {A : List Atom} {R : Value → List Atom → Prop} (hE : Enters P g) (hh : ∀ a : Ha, a.ok nc → Tri P β g args (hL h a nc x ++ A) R) : Tri P β g args (hoA h nc x :: A) R :=
 Tri.exI hE fun a => Tri.pure_ (fun h1 => hh a h1) hE
theorem lA_ts {β : Base} {a : Ha} (ha : a.ok nc) : TsOk β (lA a nc) a.lq a.ps nc := ⟨slr_row (by rw [flatE_len (sz := 1) (fun _ => rfl), ha.l]), ha.l, ha.n⟩
-- a host's atoms, put together again
theorem ho_pick {L : List Atom} {h nc : Nat} {a : Ha} {x : Hx} (ha : a.ok nc) (e : Ent L (hL h a nc x)) : Ent L [hoA h nc x] := e.trans (ho_shut ha)
theorem cores41 (β : Base) (h : Nat) (a : Ha) (x : Hx) : Tri Tryz.prog β 41 [.pointer (some ⟨h, 0, none⟩)] [hRow h a nc x] (fun v L => v = .int .i64 nc ∧ L = [hRow h a nc x]) := by
 refine Tri.intro tt_ok Tryz.func41 rfl rfl Tryz.ntmps41 rfl fun F => ?_
 unfold hRow
 refine G tt_ok pk41 ?_
 exact CW.ret (fin_ret rfl (A := [hRow h a nc x]) (by unfold hRow; exact pk_) ⟨rfl, rfl⟩)
theorem hawake32 (β : Base) (h : Nat) (x : Hx) (k : Int) : Tri Tryz.prog β 32 [.pointer (some ⟨h, 0, none⟩), .int .i64 k] [hoA h nc x] (fun v L => v = .bool (!asleepV x.D.xs k) ∧ L = [hoA h nc x]) := by
 refine Tri.ho (enters_of Tryz.func32 (by kernel_rfl) rfl) fun a ha => ?_
 refine Tri.intro tt_ok Tryz.func32 rfl rfl Tryz.ntmps32 rfl fun F => ?_
 have hd := asleep22 β a.dd x.D k
 have hd2 := (Tri.frame hd ([bksA x.D.xs] ++ Br.bkA x.D.sb x.D.sq x.D.sc 32 x.D.sh))
 have hd3 : Tri Tryz.prog β 81 [.pointer (some ⟨a.dd, 0, none⟩), .int .i64 k] [dpA a.dd x.D] (fun v L => v = .bool (asleepV x.D.xs k) ∧ L = [dpA a.dd x.D]) := by
  unfold dpA
  refine Tri.pk1 (Tri.post (Tri.ent (by unfold dA; exact pk_) hd2) ?_)
  rintro v L ⟨A', rfl, rfl, rfl⟩
  exact ⟨dA a.dd x.D, by unfold dA; exact pk_, rfl, rfl⟩
 unfold hL hRow
 refine G tt_ok pk32 ?_
 refine ke rfl rfl (hd3) ?_
 refine G tt_ok pk32 ?_
 exact CW.ret (fin_ret rfl (A := [hoA h nc x]) (ho_pick ha (by unfold hL hRow; exact pk_)) ⟨rfl, rfl⟩)
end Go.Proofs.YtakkogdmlbkdaaaGreatDoor.Sl.It
namespace Go.Proofs.YtakkogdmlbkdaaaGreatDoor.Sl.It
attribute [local irreducible] CW Tri OW
@[reducible] def pk18 : List (Nat × Plan) := []
@[reducible] def pk19 : List (Nat × Plan) := []
@[reducible] def pk24 : List (Nat × Plan) := []
@[reducible] def pk17 : List (Nat × Plan) := [(6, [(0, 0, []), (1, 0, []), (2, 0, []), (3, 0, []), (4, 0, []), (5, 0, []), (6, 0, []), (7, 0, []), (8, 0, []), (9, 0, []), (10, 0, []), (11, 1, [3, 6, 10])]), (7, [(0, 0, []), (1, 0, []), (2, 0, []), (3, 0, []), (4, 0, []), (5, 0, []), (6, 0, []), (7, 0, []), (8, 0, []), (9, 0, []), (10, 0, []), (11, 1, [3, 6, 10])])]
attribute [local irreducible] invK enK enV waitL
variable {T nc : Nat}
def Hx.setD (x : Hx) (D : DS) : Hx := { x with D := D }
def Hx.setW (x : Hx) (w : SW) : Hx := { x with iw := { x.iw with w := w } }
theorem hend18 (β : Base) (h : Nat) (x : Hx) (id : Int) (hid : id < 9223372036854775808) : Tri Tryz.prog β 18 [.pointer (some ⟨h, 0, none⟩), .int .i64 id] [hoA h nc x]
  (fun v L => v = .int .i64 (if id < 32 then 90 else (x.D.doV 0 id 6).2) ∧ L = [hoA h nc (if id < 32 then x else x.setD (x.D.doV 0 id 6).1)]) := by
 refine Tri.ho (enters_of Tryz.func18 (by kernel_rfl) rfl) fun a ha => ?_
 refine Tri.intro tt_ok Tryz.func18 rfl rfl Tryz.ntmps18 rfl fun F => ?_
 have hd := Tri.pk1 (do23 β a.dd x.D 0 id 6 hid)
 unfold hL hRow
 by_cases h32 : id < 32
 ·rw [if_pos h32, if_pos h32]
  refine G tt_ok pk18 ?_
  rw [decide_eq_true h32]
  refine G tt_ok pk18 ?_
  exact CW.ret (fin_ret rfl (A := [hoA h nc x]) (ho_pick ha (by unfold hL hRow; exact pk_)) ⟨rfl, rfl⟩)
 ·rw [if_neg h32, if_neg h32]
  refine G tt_ok pk18 ?_
  rw [decide_eq_false h32]
  unfold dpA
  refine G tt_ok pk18 ?_
  refine ke rfl rfl (hd) ?_
  refine G tt_ok pk18 ?_
  exact CW.ret (fin_ret rfl (A := [hoA h nc (x.setD (x.D.doV 0 id 6).1)]) (ho_pick (a := a) ha (by unfold hL hRow dpA Hx.setD; exact pk_)) ⟨rfl, rfl⟩)
theorem hwire19 (β : Base) (h : Nat) (x : Hx) (id : Int) (hi : Bool) (hid : id < 9223372036854775808) : Tri Tryz.prog β 19 [.pointer (some ⟨h, 0, none⟩), .int .i64 id, .bool hi] [hoA h nc x]
  (fun v L => v = .int .i64 (if id < 32 then 90 else (x.D.doV 0 id (if hi then 1 else 2)).2) ∧ L = [hoA h nc (if id < 32 then x else x.setD (x.D.doV 0 id (if hi then 1 else 2)).1)]) := by
 refine Tri.ho (enters_of Tryz.func19 (by kernel_rfl) rfl) fun a ha => ?_
 refine Tri.intro tt_ok Tryz.func19 rfl rfl Tryz.ntmps19 rfl fun F => ?_
 have hd := Tri.pk1 (wire35 β a.dd x.D 0 id hi hid)
 unfold hL hRow
 by_cases h32 : id < 32
 ·rw [if_pos h32, if_pos h32]
  refine G tt_ok pk19 ?_
  rw [decide_eq_true h32]
  refine G tt_ok pk19 ?_
  exact CW.ret (fin_ret rfl (A := [hoA h nc x]) (ho_pick ha (by unfold hL hRow; exact pk_)) ⟨rfl, rfl⟩)
 ·rw [if_neg h32, if_neg h32]
  rw [if_neg (show ¬ id < 16 by omega), if_neg (show ¬ id < 16 by omega)] at hd
  refine G tt_ok pk19 ?_
  rw [decide_eq_false h32]
  unfold dpA
  refine G tt_ok pk19 ?_
  refine ke rfl rfl (hd) ?_
  refine G tt_ok pk19 ?_
  exact CW.ret (fin_ret rfl (A := [hoA h nc (x.setD (x.D.doV 0 id (if hi then 1 else 2)).1)]) (ho_pick (a := a) ha (by unfold hL hRow dpA Hx.setD; exact pk_)) ⟨rfl, rfl⟩)
def Sh.evT (S : Sh) (n : Int) : (Int × Int) × Int := match getB S.ks n with
 | none => ((0, 0), 250)
 | some k => (unkV k, 0)
theorem ev_T (S : Sh) (n : Int) : S.ev n = .tuple #[evX (S.evT n).1.1 (S.evT n).1.2, .int .i64 (S.evT n).2] := by
 unfold Sh.ev Sh.evT
 cases getB S.ks n <;> rfl
theorem hevent24 (β : Base) (h : Nat) (x : Hx) (hx : x.ok T nc) (id : Int) : Tri Tryz.prog β 24 [.pointer (some ⟨h, 0, none⟩), .int .i64 id] [hoA h nc x]
  (fun v L => v = .tuple #[evX (x.S.evT (IntKind.i64.wrap (id - 8192))).1.1 (x.S.evT (IntKind.i64.wrap (id - 8192))).1.2, .int .i64 (x.S.evT (IntKind.i64.wrap (id - 8192))).2] ∧ L = [hoA h nc x]) := by
 refine Tri.ho (enters_of Tryz.func24 (by kernel_rfl) rfl) fun a ha => ?_
 refine Tri.intro tt_ok Tryz.func24 rfl rfl Tryz.ntmps24 rfl fun F => ?_
 have he := sevent62 β a.sp hx.S (IntKind.i64.wrap (id - 8192))
 rw [ev_T] at he
 unfold hL hRow
 (refine G tt_ok pk24 ?_; repeat (refine G1 tt_ok pk24 ?_; intro _))
 refine ke rfl rfl (he) ?_
 refine G tt_ok pk24 ?_
 exact CW.ret (fin_cells [_, _] ⟨cl_, rfl, trivial⟩ (A := [hoA h nc x]) (ho_pick ha (by unfold hL hRow; exact pk_)) ⟨rfl, rfl⟩)
theorem pt_row {ps : List Nat} {k : Nat} (hk : k < ps.length) (X : List Value) : rdv ti90 (ps.flatMap ptC ++ X) (0 + k * 1) = some (.pointer (some ⟨ps.getD k 0, 0, none⟩)) := by
 have h : ps[k]? = some (ps.getD k 0) := by rw [List.getD_eq_getElem?_getD, List.getElem?_eq_getElem hk]; rfl
 exact rd_partR (enc := ptC) (sz := 1) (fun _ => rfl) h 0 (i := ti90) rfl (by decide) (by omega) (by decide) X
def Hx.pow (x : Hx) (k : Nat) (on : Bool) : Hx := { x with iw := { x.iw with w := if on then x.iw.w.en k else x.iw.w.dis k }, D := (x.D.wrOwnV k 3 0 0 (if on then 0 else 2)).1 }
set_option maxHeartbeats 4000000 in
theorem hpower17 (β : Base) (hG : TabOk β) (h : Nat) (x : Hx) (hx : x.ok T nc) (k : Int) (on : Bool) : Tri Tryz.prog β 17 [.pointer (some ⟨h, 0, none⟩), .int .i64 k, .bool on] [hoA h nc x]
  (fun v L => v = .int .i64 (if rightV nc k then 0 else 130) ∧ L = [hoA h nc (if rightV nc k then x.pow k.toNat on else x)]) := by
 refine Tri.ho (enters_of Tryz.func17 (by kernel_rfl) rfl) fun a ha => ?_
 refine Tri.intro tt_ok Tryz.func17 rfl rfl Tryz.ntmps17 rfl fun F => ?_
 have hc := cores41 (nc := nc) β h a x
 unfold hL
 by_cases h0 : k < 0
 ·have hr : rightV nc k = false := by simp [rightV]; omega
  rw [hr]
  refine G tt_ok pk17 ?_
  rw [decide_eq_true h0]
  refine G tt_ok pk17 ?_
  exact CW.ret (fin_ret rfl (A := [hoA h nc x]) (ho_pick ha (by unfold hL; exact pk_)) ⟨rfl, rfl⟩)
 ·by_cases hn : k ≥ nc
  ·have hr : rightV nc k = false := by simp [rightV]; omega
   rw [hr]
   refine G tt_ok pk17 ?_
   rw [decide_eq_false h0]
   refine G tt_ok pk17 ?_
   refine ke rfl rfl (hc) ?_
   refine G tt_ok pk17 ?_
   rw [decide_eq_true hn]
   refine G tt_ok pk17 ?_
   exact CW.ret (fin_ret rfl (A := [hoA h nc x]) (ho_pick ha (by unfold hL; exact pk_)) ⟨rfl, rfl⟩)
  ·obtain ⟨n, rfl⟩ : ∃ n : Nat, k = n := ⟨k.toNat, by omega⟩
   have hlt : n < nc := by omega
   have hr : rightV nc (n : Int) = true := by simp [rightV]; omega
   have hps : n < a.ps.length := by rw [ha.l]; exact hlt
   have hen := enable59C β a.m a.g a.ps hx.iw.1 hlt
   have hdi := disable70C β hG a.m a.g a.ps hx.iw.1 hlt
   unfold swA memA at hen hdi
   have hw2 := Tri.pk1 (wrOwn27 β a.dd x.D n 3 0 0 (if on then 0 else 2) (by cases on <;> simp))
   have hwe : (x.D.wrOwnV n 3 0 0 (if on then 0 else 2)).2 = 0 := by
    unfold DS.wrOwnV
    rw [hx.dl, hr, if_pos rfl]
    split <;> rfl
   rw [hwe] at hw2
   rw [hr]
   refine G tt_ok pk17 ?_
   rw [decide_eq_false h0]
   refine G tt_ok pk17 ?_
   refine ke rfl rfl (hc) ?_
   refine G tt_ok pk17 ?_
   rw [decide_eq_false hn]
   unfold hRow lA dpA
   cases on with
   | true =>
    refine G tt_ok pk17 ?_
    refine ir_ tt_ok rfl rfl (n) (rfl) rfl ?_ (hlt := hlt)
    refine G tt_ok pk17 ?_
    refine lr_ tt_ok rfl rfl (pt_row hps) ?_
    refine G tt_ok pk17 ?_
    (refine ka rfl rfl (hen) ?_; rintro _ _ ⟨rfl, rfl⟩; refine ⟨(by repeat (first | exact trivial | refine ⟨trivial, ?_⟩ | refine ⟨rr_ (pt_row hps), ?_⟩ | refine ⟨wk (by repeat (first | exact .h | exact .q | apply At.t)) (by rfl), ?_⟩)), ?_⟩)
    refine G tt_ok pk17 ?_
    refine ke rfl rfl (hw2) ?_
    refine G tt_ok pk17 ?_
    exact CW.ret (fin_ret rfl (A := [hoA h nc (x.pow n true)]) (ho_pick (a := a) ha (by unfold hL hRow lA dpA Hx.pow; exact pk_)) ⟨rfl, rfl⟩)
   | false =>
    refine G tt_ok pk17 ?_
    refine ir_ tt_ok rfl rfl (n) (rfl) rfl ?_ (hlt := hlt)
    refine G tt_ok pk17 ?_
    refine lr_ tt_ok rfl rfl (pt_row hps) ?_
    refine G tt_ok pk17 ?_
    (refine ka rfl rfl (hdi) ?_; rintro _ _ ⟨rfl, rfl⟩; refine ⟨(by repeat (first | exact trivial | refine ⟨trivial, ?_⟩ | refine ⟨rr_ (pt_row hps), ?_⟩ | refine ⟨wk (by repeat (first | exact .h | exact .q | apply At.t)) (by rfl), ?_⟩)), ?_⟩)
    refine G tt_ok pk17 ?_
    refine ke rfl rfl (hw2) ?_
    refine G tt_ok pk17 ?_
    exact CW.ret (fin_ret rfl (A := [hoA h nc (x.pow n false)]) (ho_pick (a := a) ha (by unfold hL hRow lA dpA Hx.pow; exact pk_)) ⟨rfl, rfl⟩)
end Go.Proofs.YtakkogdmlbkdaaaGreatDoor.Sl.It
