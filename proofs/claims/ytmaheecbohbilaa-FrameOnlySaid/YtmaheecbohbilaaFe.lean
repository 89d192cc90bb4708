import Derived.Test.YtmaheecbohbilaaFc
import Derived.Test.YtmaheecbohbilaaL4
namespace Go.Proofs.Ytmaheecbohbilaa.Sl
open Go Go.RowKit Go.Proofs
set_option linter.unusedVariables false
set_option linter.unusedSimpArgs false
attribute [local irreducible] CW Tri OW
set_option maxRecDepth 10000
@[reducible] def pl11_0 : Plan := [(0, 0, []), (1, 0, []), (2, 0, []), (3, 0, []), (4, 0, []), (5, 0, []), (6, 0, []), (7, 0, []), (8, 0, []), (9, 0, []), (10, 0, []), (11, 0, []), (12, 0, []), (13, 0, []), (14, 0, []), (15, 0, []), (16, 0, []), (17, 0, []), (18, 0, []), (19, 0, []), (20, 0, [])]
@[reducible] def pl14_0 : Plan := [(0, 0, []), (1, 0, []), (2, 0, []), (3, 0, []), (4, 0, []), (5, 0, []), (6, 0, []), (7, 0, []), (8, 0, []), (9, 0, []), (10, 0, []), (11, 0, []), (12, 1, []), (13, 0, [])]
@[reducible] def pl35_0 : Plan := [(0, 0, []), (1, 0, []), (2, 0, []), (3, 0, []), (4, 0, []), (5, 0, []), (6, 0, []), (7, 0, []), (8, 0, []), (9, 0, []), (10, 0, []), (11, 0, [])]
/-- An interrupt in a bank, and the text besides. -/
abbrev En := Ln × ByteArray
@[reducible] def enC (x : En) : List Value := [.bool x.1.1.1, .bool x.1.1.2.1, .bool x.1.1.2.2.1, .bool x.1.1.2.2.2, .bool x.1.2.1, .int .i64 x.1.2.2.1, .int .i64 x.1.2.2.2, .string x.2]
def atE (first : Int) (es : List En) (id : Int) : Option En := if id ≥ first then es[(id - first).toNat]? else none
/-- A bank, in two rows. -/
def bkA (b : Nat) (q0 : Option Addr) (c0 : Nat) (first : Int) (es : List En) : List Atom := [pt b [.int .i64 first, .slice q0 es.length c0], rowA q0 es.length (es.flatMap enC)]
theorem wrap_sub {id first : Int} (h0 : 0 ≤ first) (h1 : first ≤ 16384) (h2 : id ≥ first) (h3 : id < 9223372036854775808) : IntKind.i64.wrap (id - first) = id - first := by
  rw [wrap_i64]; split <;> omega
theorem has11 (β : Base) (b : Nat) (q0 : Option Addr) (c0 : Nat) (first id : Int) (n : Nat) (h0 : 0 ≤ first) (h1 : first ≤ 16384) (h3 : id < 9223372036854775808) :
    Tri Try.prog β 11 [.pointer (some ⟨b, 0, none⟩), .int .i64 id] [pt b [.int .i64 first, .slice q0 n c0]] (fun v L => v = .bool (decide (id ≥ first) && decide (id - first < n)) ∧ L = [pt b [.int .i64 first, .slice q0 n c0]]) := by
  refine Tri.intro tt_ok Try.func11 rfl rfl Try.ntmps11 rfl fun F => ?_
  by_cases h2 : id ≥ first
  · have hw := wrap_sub h0 h1 h2 h3
    (repeat' (first | refine CW.seq ?_ | refine CW.region tt_ok rfl ?_ | refine CW.regionD tt_ok (by kernel_rfl) pl11_0 (by decide +kernel) ?_ | refine CW.block ?_ | refine CW.skip ?_ | refine SQ.nil ?_ | refine SQ.pures1 tt_ok rfl ?_ | refine SQ.pure1 tt_ok rfl ?_ | refine SQ.new _ _ rfl rfl (fun _ => ?_) | refine SQ.ldA tt_ok rfl rfl (by repeat (first | exact .h | exact .q | apply At.t)) (by rfl) ?_ | refine SQ.stA tt_ok rfl rfl (by repeat (first | apply Up.h | apply Up.t)) (by rfl) (by rfl) (by repeat (first | exact trivial | refine ⟨trivial, ?_⟩ | refine ⟨wk (by repeat (first | exact .h | exact .q | apply At.t)) (by rfl), ?_⟩)) ?_ | refine CW.cond_tt rfl ?_ | refine CW.cond_ff rfl ?_ | ((first | refine CW.cond rfl (fun hc => ?_) (fun hc => ?_) | refine SQ.gsplit rfl (fun hc => ?_) (fun hc => ?_)) <;> try (exfalso; simp_all; done))))
    all_goals (refine CW.ret (fin_ret rfl (Ent.refl _) ⟨?_, rfl⟩); simp_all [packV])
  · (repeat' (first | refine CW.seq ?_ | refine CW.region tt_ok rfl ?_ | refine CW.regionD tt_ok (by kernel_rfl) pl11_0 (by decide +kernel) ?_ | refine CW.block ?_ | refine CW.skip ?_ | refine SQ.nil ?_ | refine SQ.pures1 tt_ok rfl ?_ | refine SQ.pure1 tt_ok rfl ?_ | refine SQ.new _ _ rfl rfl (fun _ => ?_) | refine SQ.ldA tt_ok rfl rfl (by repeat (first | exact .h | exact .q | apply At.t)) (by rfl) ?_ | refine SQ.stA tt_ok rfl rfl (by repeat (first | apply Up.h | apply Up.t)) (by rfl) (by rfl) (by repeat (first | exact trivial | refine ⟨trivial, ?_⟩ | refine ⟨wk (by repeat (first | exact .h | exact .q | apply At.t)) (by rfl), ?_⟩)) ?_ | refine CW.cond_tt rfl ?_ | refine CW.cond_ff rfl ?_ | ((first | refine CW.cond rfl (fun hc => ?_) (fun hc => ?_) | refine SQ.gsplit rfl (fun hc => ?_) (fun hc => ?_)) <;> try (exfalso; simp_all; done))))
    all_goals (refine CW.ret (fin_ret rfl (Ent.refl _) ⟨?_, rfl⟩); simp_all [packV])
    all_goals (first | omega | (exfalso; omega))
theorem atE_some {first : Int} {es : List En} {id : Int} {e : En} (h : atE first es id = some e) : id ≥ first ∧ (id - first).toNat < es.length ∧ es[(id - first).toNat]? = some e ∧ ((id - first).toNat : Int) = id - first ∧ (decide (id ≥ first) && decide (id - first < es.length)) = true := by
  unfold atE at h
  split at h
  · rename_i h1
    have h2 := (List.getElem?_eq_some_iff.1 h).1
    refine ⟨h1, h2, h, by omega, ?_⟩
    simp; omega
  · cases h
theorem atE_none {first : Int} {es : List En} {id : Int} (h : atE first es id = none) : (decide (id ≥ first) && decide (id - first < es.length)) = false := by
  unfold atE at h
  split at h
  · rename_i h1
    have h2 := List.getElem?_eq_none_iff.1 h
    simp; omega
  · rename_i h1
    simp; omega
theorem hasIs (β : Base) (b : Nat) (q0 : Option Addr) (c0 : Nat) {first id : Int} {es : List En} (h0 : 0 ≤ first) (h1 : first ≤ 16384) (h3 : id < 9223372036854775808) {c : Bool} (h : (decide (id ≥ first) && decide (id - first < es.length)) = c) :
    Tri Try.prog β 11 [.pointer (some ⟨b, 0, none⟩), .int .i64 id] [pt b [.int .i64 first, .slice q0 es.length c0]] (fun v L => v = .bool c ∧ L = [pt b [.int .i64 first, .slice q0 es.length c0]]) := by
  rw [← h]; exact has11 β b q0 c0 first id es.length h0 h1 h3
theorem enC_len (x : En) : (enC x).length = 8 := rfl
theorem rd_en {es : List En} {k : Nat} {e : En} (h : es[k]? = some e) (X : List Value) : rdv ti40 (es.flatMap enC ++ X) (0 + k * 8) = some (.agg (enC e).toArray) :=
  rd_partR (enc := enC) (sz := 8) (fun _ => rfl) h 0 (i := ti40) rfl (by decide) (by omega) (by decide) X
theorem bk_open {b : Nat} {q0 : Option Addr} {c0 : Nat} {first : Int} {es : List En} (h : 0 < es.length) : Ent (bkA b q0 c0 first es) [exA fun x : Nat × List Value => [pureA (q0 = some ⟨x.1, 0, none⟩), pt x.1 (es.flatMap enC ++ x.2), pt b [.int .i64 first, .slice q0 es.length c0]]] := by
  intro hp s
  obtain ⟨h1, h2, a, st, d, rfl⟩ := s
  obtain ⟨k, ⟨k1, k2, ⟨x, sx⟩, e0, d2, rfl⟩, le⟩ := row_open (q := q0) (cs := es.flatMap enC) h h2 st
  obtain rfl : k2 = Hp.emp := e0
  rw [Hp.add_emp] at le
  have hd : Hp.disj h1 k1 := Hp.disj_le (Hp.le_refl _) le d
  have hs : star ([pureA (q0 = some ⟨x.1, 0, none⟩), pt x.1 (es.flatMap enC ++ x.2)] ++ [pt b [.int .i64 first, .slice q0 es.length c0]]) (Hp.add k1 h1) :=
    star_append.2 ⟨k1, h1, sx, ⟨h1, Hp.emp, a, rfl, Hp.disj_emp _, (Hp.add_emp _).symm⟩, Hp.disj_comm hd, rfl⟩
  refine ⟨Hp.add k1 h1, ⟨_, Hp.emp, ⟨x, hs⟩, rfl, Hp.disj_emp _, (Hp.add_emp _).symm⟩, ?_⟩
  rw [Hp.add_comm (Hp.disj_comm hd)]
  exact Hp.add_le_add (Hp.le_refl _) le d
theorem bk_close {b g n : Nat} {first : Int} {cs rest : List Value} {v : Value} : Ent [pt g (cs ++ rest), pt b [.int .i64 first, v]] [pt b [.int .i64 first, v], rowA (some ⟨g, 0, none⟩) n cs] :=
  Ent.trans (Ent.sel (is := [1, 0]) rfl) (Ent.cons _ row_close)
def zeroE : En := (((false, false, false, false), false, 0, 0), ByteArray.empty)
def getV (first : Int) (es : List En) (id : Int) : En × Int := match atE first es id with
  | some e => (e, 0)
  | none => (zeroE, 90)
theorem get14 (β : Base) (b : Nat) (q0 : Option Addr) (c0 : Nat) {first id : Int} {es : List En} (h0 : 0 ≤ first) (h1 : first ≤ 16384) (h3 : id < 9223372036854775808) :
    Tri Try.prog β 14 [.pointer (some ⟨b, 0, none⟩), .int .i64 id] (bkA b q0 c0 first es) (fun v L => v = .tuple #[.agg (enC (getV first es id).1).toArray, .int .i64 (getV first es id).2] ∧ L = bkA b q0 c0 first es) := by
  refine Tri.intro tt_ok Try.func14 rfl rfl Try.ntmps14 rfl fun F => ?_
  cases h : atE first es id with
  | none =>
    (repeat (first | refine CW.seq ?_ | refine CW.region tt_ok rfl ?_ | refine CW.regionD tt_ok (by kernel_rfl) pl14_0 (by decide +kernel) ?_ | refine CW.block ?_ | refine CW.skip ?_ | refine SQ.nil ?_ | refine SQ.pures1 tt_ok rfl ?_ | refine SQ.pure1 tt_ok rfl ?_ | refine SQ.new _ _ rfl rfl (fun _ => ?_) | refine SQ.ldA tt_ok rfl rfl (by repeat (first | exact .h | exact .q | apply At.t)) (by rfl) ?_ | refine SQ.stA tt_ok rfl rfl (by repeat (first | apply Up.h | apply Up.t)) (by rfl) (by rfl) (by repeat (first | exact trivial | refine ⟨trivial, ?_⟩ | refine ⟨wk (by repeat (first | exact .h | exact .q | apply At.t)) (by rfl), ?_⟩)) ?_ | refine CW.cond_tt rfl ?_ | refine CW.cond_ff rfl ?_))
    (refine SQ.callA rfl rfl (hasIs β b q0 c0 h0 h1 h3 (atE_none h)) (by repeat (first | exact .n | exact Rm.h | apply Tk.c | apply Rm.t)) ?_; rintro _ _ ⟨rfl, rfl⟩; refine ⟨(by repeat (first | exact trivial | refine ⟨trivial, ?_⟩ | refine ⟨wk (by repeat (first | exact .h | exact .q | apply At.t)) (by rfl), ?_⟩)), ?_⟩)
    (repeat (first | refine CW.seq ?_ | refine CW.region tt_ok rfl ?_ | refine CW.regionD tt_ok (by kernel_rfl) pl14_0 (by decide +kernel) ?_ | refine CW.block ?_ | refine CW.skip ?_ | refine SQ.nil ?_ | refine SQ.pures1 tt_ok rfl ?_ | refine SQ.pure1 tt_ok rfl ?_ | refine SQ.new _ _ rfl rfl (fun _ => ?_) | refine SQ.ldA tt_ok rfl rfl (by repeat (first | exact .h | exact .q | apply At.t)) (by rfl) ?_ | refine SQ.stA tt_ok rfl rfl (by repeat (first | apply Up.h | apply Up.t)) (by rfl) (by rfl) (by repeat (first | exact trivial | refine ⟨trivial, ?_⟩ | refine ⟨wk (by repeat (first | exact .h | exact .q | apply At.t)) (by rfl), ?_⟩)) ?_ | refine CW.cond_tt rfl ?_ | refine CW.cond_ff rfl ?_))
    refine CW.ret (fin_cells [_, _] ⟨⟨_, _, _, _, 1, rfl, rfl, rfl, rfl⟩, rfl, trivial⟩ (Tk.ent (by repeat (first | exact .n | exact Rm.h | apply Tk.c | apply Rm.t))) ⟨?_, rfl⟩)
    simp [packV, getV, h, zeroE, enC]
  | some e =>
    obtain ⟨g1, g2, g3, g4, g5⟩ := atE_some h
    have hw := wrap_sub h0 h1 g1 h3
    refine CW.ent (bk_open (by omega)) (CW.open_ fun y => ?_)
    obtain ⟨g, rest⟩ := y
    refine CW.pure_ fun hv => ?_
    simp only at hv
    subst hv
    (repeat (first | refine CW.seq ?_ | refine CW.region tt_ok rfl ?_ | refine CW.regionD tt_ok (by kernel_rfl) pl14_0 (by decide +kernel) ?_ | refine CW.block ?_ | refine CW.skip ?_ | refine SQ.nil ?_ | refine SQ.pures1 tt_ok rfl ?_ | refine SQ.pure1 tt_ok rfl ?_ | refine SQ.new _ _ rfl rfl (fun _ => ?_) | refine SQ.ldA tt_ok rfl rfl (by repeat (first | exact .h | exact .q | apply At.t)) (by rfl) ?_ | refine SQ.stA tt_ok rfl rfl (by repeat (first | apply Up.h | apply Up.t)) (by rfl) (by rfl) (by repeat (first | exact trivial | refine ⟨trivial, ?_⟩ | refine ⟨wk (by repeat (first | exact .h | exact .q | apply At.t)) (by rfl), ?_⟩)) ?_ | refine CW.cond_tt rfl ?_ | refine CW.cond_ff rfl ?_))
    (refine SQ.callA rfl rfl (hasIs β b _ c0 h0 h1 h3 g5) (by repeat (first | exact .n | exact Rm.h | apply Tk.c | apply Rm.t)) ?_; rintro _ _ ⟨rfl, rfl⟩; refine ⟨(by repeat (first | exact trivial | refine ⟨trivial, ?_⟩ | refine ⟨wk (by repeat (first | exact .h | exact .q | apply At.t)) (by rfl), ?_⟩)), ?_⟩)
    (repeat (first | refine CW.seq ?_ | refine CW.region tt_ok rfl ?_ | refine CW.regionD tt_ok (by kernel_rfl) pl14_0 (by decide +kernel) ?_ | refine CW.block ?_ | refine CW.skip ?_ | refine SQ.nil ?_ | refine SQ.pures1 tt_ok rfl ?_ | refine SQ.pure1 tt_ok rfl ?_ | refine SQ.new _ _ rfl rfl (fun _ => ?_) | refine SQ.ldA tt_ok rfl rfl (by repeat (first | exact .h | exact .q | apply At.t)) (by rfl) ?_ | refine SQ.stA tt_ok rfl rfl (by repeat (first | apply Up.h | apply Up.t)) (by rfl) (by rfl) (by repeat (first | exact trivial | refine ⟨trivial, ?_⟩ | refine ⟨wk (by repeat (first | exact .h | exact .q | apply At.t)) (by rfl), ?_⟩)) ?_ | refine CW.cond_tt rfl ?_ | refine CW.cond_ff rfl ?_))
    refine SQ.idx tt_ok rfl rfl (id - first).toNat (by rw [hw, g4]) g2 (o' := 0 + (id - first).toNat * 8) rfl ?_
    refine SQ.load tt_ok rfl rfl 2 rfl (rd_en g3 rest) ?_
    (repeat (first | refine CW.seq ?_ | refine CW.region tt_ok rfl ?_ | refine CW.regionD tt_ok (by kernel_rfl) pl14_0 (by decide +kernel) ?_ | refine CW.block ?_ | refine CW.skip ?_ | refine SQ.nil ?_ | refine SQ.pures1 tt_ok rfl ?_ | refine SQ.pure1 tt_ok rfl ?_ | refine SQ.new _ _ rfl rfl (fun _ => ?_) | refine SQ.ldA tt_ok rfl rfl (by repeat (first | exact .h | exact .q | apply At.t)) (by rfl) ?_ | refine SQ.stA tt_ok rfl rfl (by repeat (first | apply Up.h | apply Up.t)) (by rfl) (by rfl) (by repeat (first | exact trivial | refine ⟨trivial, ?_⟩ | refine ⟨wk (by repeat (first | exact .h | exact .q | apply At.t)) (by rfl), ?_⟩)) ?_ | refine CW.cond_tt rfl ?_ | refine CW.cond_ff rfl ?_))
    refine CW.ret (fin_cells [_, _] ⟨⟨_, _, _, _, 1, rfl, rfl, rfl, rfl⟩, rfl, trivial⟩ (Ent.trans (Tk.ent (by repeat (first | exact .n | exact Rm.h | apply Tk.c | apply Rm.t))) (bk_close)) ⟨?_, rfl⟩)
    simp [packV, getV, h, zeroE, enC]
theorem rd_iq {es : List En} {k : Nat} {e : En} (h : es[k]? = some e) (X : List Value) : rdv ti36 (es.flatMap enC ++ X) (0 + k * 8) = some (.agg #[.bool e.1.1.1, .bool e.1.1.2.1, .bool e.1.1.2.2.1, .bool e.1.1.2.2.2]) :=
  rd_partR (enc := enC) (sz := 8) (fun _ => rfl) h 0 (i := ti36) rfl (by decide) (by omega) (by decide) X
theorem wr_iq {es : List En} {k : Nat} {e : En} (h : es[k]? = some e) (q : Iq) (X : List Value) : wrv ti36 (es.flatMap enC ++ X) (0 + k * 8) (.agg #[.bool q.1, .bool q.2.1, .bool q.2.2.1, .bool q.2.2.2]) = some ((es.set k ((q, e.1.2), e.2)).flatMap enC ++ X) :=
  wr_encR (enc := enC) (sz := 8) (fun _ => rfl) h 0 (i := ti36) (by decide) rfl rfl (by omega) X
/-- What befalls an interrupt of a bank. -/
def doV (first : Int) (es : List En) (id x : Int) : List En × Int := match atE first es id with
  | some e => (es.set (id - first).toNat ((stepI e.1.1 x, e.1.2), e.2), 0)
  | none => (es, 90)
theorem doV_len (first : Int) (es : List En) (id x : Int) : (doV first es id x).1.length = es.length := by
  unfold doV; split <;> simp
theorem do35 (β : Base) (b : Nat) (q0 : Option Addr) (c0 : Nat) {first id x : Int} {es : List En} (h0 : 0 ≤ first) (h1 : first ≤ 16384) (h3 : id < 9223372036854775808) :
    Tri Try.prog β 35 [.pointer (some ⟨b, 0, none⟩), .int .i64 id, .int .i64 x] (bkA b q0 c0 first es) (fun v L => v = .int .i64 (doV first es id x).2 ∧ L = bkA b q0 c0 first (doV first es id x).1) := by
  refine Tri.intro tt_ok Try.func35 rfl rfl Try.ntmps35 rfl fun F => ?_
  unfold bkA
  rw [doV_len]
  cases h : atE first es id with
  | none =>
    rw [show doV first es id x = (es, 90) by simp [doV, h]]
    (repeat (first | refine CW.seq ?_ | refine CW.region tt_ok rfl ?_ | refine CW.regionD tt_ok (by kernel_rfl) pl35_0 (by decide +kernel) ?_ | refine CW.block ?_ | refine CW.skip ?_ | refine SQ.nil ?_ | refine SQ.pures1 tt_ok rfl ?_ | refine SQ.pure1 tt_ok rfl ?_ | refine SQ.new _ _ rfl rfl (fun _ => ?_) | refine SQ.ldA tt_ok rfl rfl (by repeat (first | exact .h | exact .q | apply At.t)) (by rfl) ?_ | refine SQ.stA tt_ok rfl rfl (by repeat (first | apply Up.h | apply Up.t)) (by rfl) (by rfl) (by repeat (first | exact trivial | refine ⟨trivial, ?_⟩ | refine ⟨wk (by repeat (first | exact .h | exact .q | apply At.t)) (by rfl), ?_⟩)) ?_ | refine CW.cond_tt rfl ?_ | refine CW.cond_ff rfl ?_))
    (refine SQ.callA rfl rfl (hasIs β b q0 c0 h0 h1 h3 (atE_none h)) (by repeat (first | exact .n | exact Rm.h | apply Tk.c | apply Rm.t)) ?_; rintro _ _ ⟨rfl, rfl⟩; refine ⟨(by repeat (first | exact trivial | refine ⟨trivial, ?_⟩ | refine ⟨wk (by repeat (first | exact .h | exact .q | apply At.t)) (by rfl), ?_⟩)), ?_⟩)
    (repeat (first | refine CW.seq ?_ | refine CW.region tt_ok rfl ?_ | refine CW.regionD tt_ok (by kernel_rfl) pl35_0 (by decide +kernel) ?_ | refine CW.block ?_ | refine CW.skip ?_ | refine SQ.nil ?_ | refine SQ.pures1 tt_ok rfl ?_ | refine SQ.pure1 tt_ok rfl ?_ | refine SQ.new _ _ rfl rfl (fun _ => ?_) | refine SQ.ldA tt_ok rfl rfl (by repeat (first | exact .h | exact .q | apply At.t)) (by rfl) ?_ | refine SQ.stA tt_ok rfl rfl (by repeat (first | apply Up.h | apply Up.t)) (by rfl) (by rfl) (by repeat (first | exact trivial | refine ⟨trivial, ?_⟩ | refine ⟨wk (by repeat (first | exact .h | exact .q | apply At.t)) (by rfl), ?_⟩)) ?_ | refine CW.cond_tt rfl ?_ | refine CW.cond_ff rfl ?_))
    exact CW.ret (fin_ret rfl (Tk.ent (by repeat (first | exact .n | exact Rm.h | apply Tk.c | apply Rm.t))) ⟨rfl, rfl⟩)
  | some e =>
    obtain ⟨g1, g2, g3, g4, g5⟩ := atE_some h
    have hw := wrap_sub h0 h1 g1 h3
    rw [show doV first es id x = (es.set (id - first).toNat ((stepI e.1.1 x, e.1.2), e.2), 0) by simp [doV, h]]
    refine CW.ent (bk_open (by omega)) (CW.open_ fun y => ?_)
    obtain ⟨g, rest⟩ := y
    refine CW.pure_ fun hv => ?_
    simp only at hv
    subst hv
    (repeat (first | refine CW.seq ?_ | refine CW.region tt_ok rfl ?_ | refine CW.regionD tt_ok (by kernel_rfl) pl35_0 (by decide +kernel) ?_ | refine CW.block ?_ | refine CW.skip ?_ | refine SQ.nil ?_ | refine SQ.pures1 tt_ok rfl ?_ | refine SQ.pure1 tt_ok rfl ?_ | refine SQ.new _ _ rfl rfl (fun _ => ?_) | refine SQ.ldA tt_ok rfl rfl (by repeat (first | exact .h | exact .q | apply At.t)) (by rfl) ?_ | refine SQ.stA tt_ok rfl rfl (by repeat (first | apply Up.h | apply Up.t)) (by rfl) (by rfl) (by repeat (first | exact trivial | refine ⟨trivial, ?_⟩ | refine ⟨wk (by repeat (first | exact .h | exact .q | apply At.t)) (by rfl), ?_⟩)) ?_ | refine CW.cond_tt rfl ?_ | refine CW.cond_ff rfl ?_))
    (refine SQ.callA rfl rfl (hasIs β b _ c0 h0 h1 h3 g5) (by repeat (first | exact .n | exact Rm.h | apply Tk.c | apply Rm.t)) ?_; rintro _ _ ⟨rfl, rfl⟩; refine ⟨(by repeat (first | exact trivial | refine ⟨trivial, ?_⟩ | refine ⟨wk (by repeat (first | exact .h | exact .q | apply At.t)) (by rfl), ?_⟩)), ?_⟩)
    (repeat (first | refine CW.seq ?_ | refine CW.region tt_ok rfl ?_ | refine CW.regionD tt_ok (by kernel_rfl) pl35_0 (by decide +kernel) ?_ | refine CW.block ?_ | refine CW.skip ?_ | refine SQ.nil ?_ | refine SQ.pures1 tt_ok rfl ?_ | refine SQ.pure1 tt_ok rfl ?_ | refine SQ.new _ _ rfl rfl (fun _ => ?_) | refine SQ.ldA tt_ok rfl rfl (by repeat (first | exact .h | exact .q | apply At.t)) (by rfl) ?_ | refine SQ.stA tt_ok rfl rfl (by repeat (first | apply Up.h | apply Up.t)) (by rfl) (by rfl) (by repeat (first | exact trivial | refine ⟨trivial, ?_⟩ | refine ⟨wk (by repeat (first | exact .h | exact .q | apply At.t)) (by rfl), ?_⟩)) ?_ | refine CW.cond_tt rfl ?_ | refine CW.cond_ff rfl ?_))
    refine SQ.idx tt_ok rfl rfl (id - first).toNat (by rw [hw, g4]) g2 (o' := 0 + (id - first).toNat * 8) rfl ?_
    (repeat (first | refine CW.seq ?_ | refine CW.region tt_ok rfl ?_ | refine CW.regionD tt_ok (by kernel_rfl) pl35_0 (by decide +kernel) ?_ | refine CW.block ?_ | refine CW.skip ?_ | refine SQ.nil ?_ | refine SQ.pures1 tt_ok rfl ?_ | refine SQ.pure1 tt_ok rfl ?_ | refine SQ.new _ _ rfl rfl (fun _ => ?_) | refine SQ.ldA tt_ok rfl rfl (by repeat (first | exact .h | exact .q | apply At.t)) (by rfl) ?_ | refine SQ.stA tt_ok rfl rfl (by repeat (first | apply Up.h | apply Up.t)) (by rfl) (by rfl) (by repeat (first | exact trivial | refine ⟨trivial, ?_⟩ | refine ⟨wk (by repeat (first | exact .h | exact .q | apply At.t)) (by rfl), ?_⟩)) ?_ | refine CW.cond_tt rfl ?_ | refine CW.cond_ff rfl ?_))
    refine SQ.load tt_ok rfl rfl 1 rfl (rd_iq g3 rest) ?_
    (repeat (first | refine CW.seq ?_ | refine CW.region tt_ok rfl ?_ | refine CW.regionD tt_ok (by kernel_rfl) pl35_0 (by decide +kernel) ?_ | refine CW.block ?_ | refine CW.skip ?_ | refine SQ.nil ?_ | refine SQ.pures1 tt_ok rfl ?_ | refine SQ.pure1 tt_ok rfl ?_ | refine SQ.new _ _ rfl rfl (fun _ => ?_) | refine SQ.ldA tt_ok rfl rfl (by repeat (first | exact .h | exact .q | apply At.t)) (by rfl) ?_ | refine SQ.stA tt_ok rfl rfl (by repeat (first | apply Up.h | apply Up.t)) (by rfl) (by rfl) (by repeat (first | exact trivial | refine ⟨trivial, ?_⟩ | refine ⟨wk (by repeat (first | exact .h | exact .q | apply At.t)) (by rfl), ?_⟩)) ?_ | refine CW.cond_tt rfl ?_ | refine CW.cond_ff rfl ?_))
    (refine SQ.callA rfl rfl (step48' β _ _ _ _ _) (by repeat (first | exact .n | exact Rm.h | apply Tk.c | apply Rm.t)) ?_; rintro _ _ ⟨rfl, rfl⟩; refine ⟨(by repeat (first | exact trivial | refine ⟨trivial, ?_⟩ | refine ⟨wk (by repeat (first | exact .h | exact .q | apply At.t)) (by rfl), ?_⟩)), ?_⟩)
    (repeat (first | refine CW.seq ?_ | refine CW.region tt_ok rfl ?_ | refine CW.regionD tt_ok (by kernel_rfl) pl35_0 (by decide +kernel) ?_ | refine CW.block ?_ | refine CW.skip ?_ | refine SQ.nil ?_ | refine SQ.pures1 tt_ok rfl ?_ | refine SQ.pure1 tt_ok rfl ?_ | refine SQ.new _ _ rfl rfl (fun _ => ?_) | refine SQ.ldA tt_ok rfl rfl (by repeat (first | exact .h | exact .q | apply At.t)) (by rfl) ?_ | refine SQ.stA tt_ok rfl rfl (by repeat (first | apply Up.h | apply Up.t)) (by rfl) (by rfl) (by repeat (first | exact trivial | refine ⟨trivial, ?_⟩ | refine ⟨wk (by repeat (first | exact .h | exact .q | apply At.t)) (by rfl), ?_⟩)) ?_ | refine CW.cond_tt rfl ?_ | refine CW.cond_ff rfl ?_))
    refine SQ.store tt_ok rfl rfl 1 rfl rfl (wr_iq g3 (stepI e.1.1 x) rest) rfl (by repeat (first | exact trivial | refine ⟨trivial, ?_⟩ | refine ⟨wk (by repeat (first | exact .h | exact .q | apply At.t)) (by rfl), ?_⟩)) ?_
    (repeat (first | refine CW.seq ?_ | refine CW.region tt_ok rfl ?_ | refine CW.regionD tt_ok (by kernel_rfl) pl35_0 (by decide +kernel) ?_ | refine CW.block ?_ | refine CW.skip ?_ | refine SQ.nil ?_ | refine SQ.pures1 tt_ok rfl ?_ | refine SQ.pure1 tt_ok rfl ?_ | refine SQ.new _ _ rfl rfl (fun _ => ?_) | refine SQ.ldA tt_ok rfl rfl (by repeat (first | exact .h | exact .q | apply At.t)) (by rfl) ?_ | refine SQ.stA tt_ok rfl rfl (by repeat (first | apply Up.h | apply Up.t)) (by rfl) (by rfl) (by repeat (first | exact trivial | refine ⟨trivial, ?_⟩ | refine ⟨wk (by repeat (first | exact .h | exact .q | apply At.t)) (by rfl), ?_⟩)) ?_ | refine CW.cond_tt rfl ?_ | refine CW.cond_ff rfl ?_))
    exact CW.ret (fin_ret rfl (Ent.trans (Tk.ent (by repeat (first | exact .n | exact Rm.h | apply Tk.c | apply Rm.t))) (bk_close)) ⟨rfl, rfl⟩)
end Go.Proofs.Ytmaheecbohbilaa.Sl
