import Derived.Test.YtmaheecbohbilaaFb
namespace Go.Proofs.Ytmaheecbohbilaa.Sl
open Go Go.RowKit Go.Proofs
set_option linter.unusedVariables false
set_option linter.unusedSimpArgs false
attribute [local irreducible] CW Tri OW
set_option maxRecDepth 10000
@[reducible] def pl28_0 : Plan := [(0, 0, []), (1, 0, []), (2, 0, []), (3, 1, [1]), (4, 1, [1]), (5, 0, []), (6, 1, [])]
def realV (p : Int) : Int := IntKind.i64.wrap (BitVec.ofInt 64 p &&& BitVec.ofInt 64 248).toNat
def edgeV (x : Int) : Int := if IntKind.u64.wrap (BitVec.ofInt IntKind.u64.bits x &&& BitVec.ofInt IntKind.u64.bits 2).toNat = 2 then 8 else 9
def writtenV (id : Int) (l : Ln) (r x : Int) : Ln :=
  if r = 4 then (l.1, l.2.1, IntKind.i64.wrap x, l.2.2.2) else if r = 5 then (l.1, l.2.1 || x == 1, l.2.2) else if r = 6 then (l.1, l.2.1 && x == 0, l.2.2)
  else if r = 7 ∨ r = 8 ∨ r = 9 ∨ r = 10 then (if x = 1 then (stepI l.1 (actsV r), l.2) else l)
  else if r = 11 then (l.1, l.2.1, l.2.2.1, realV (IntKind.i64.wrap x)) else if r = 12 then (if id ≥ 16 then (stepI l.1 (edgeV x), l.2) else l) else l
theorem step48' (β : Base) (e l t a : Bool) (x : Int) : Tri Try.prog β 48 [.agg #[.bool e, .bool l, .bool t, .bool a], .int .i64 x] [] (fun v L => v = .agg #[.bool (stepI (e, l, t, a) x).1, .bool (stepI (e, l, t, a) x).2.1, .bool (stepI (e, l, t, a) x).2.2.1, .bool (stepI (e, l, t, a) x).2.2.2] ∧ L = []) := step48 β e l t a x
theorem edge51' (β : Base) (x : Int) : Tri Try.prog β 51 [.int .u64 x] [] (fun v L => v = .int .i64 (edgeV x) ∧ L = []) := edge51 β x
theorem real50' (β : Base) (x : Int) : Tri Try.prog β 50 [.int .i64 x] [] (fun v L => v = .int .i64 (realV x) ∧ L = []) := real50 β x
set_option maxHeartbeats 4000000 in
theorem written28 (β : Base) (id : Int) (e l t a en : Bool) (g p r x : Int) : Tri Try.prog β 28 [.int .i64 id, .agg #[.bool e, .bool l, .bool t, .bool a, .bool en, .int .i64 g, .int .i64 p], .int .i64 r, .int .u64 x] []
    (fun v L => v = .agg (lnC (writtenV id ((e, l, t, a), en, g, p) r x)).toArray ∧ L = []) := by
  refine Tri.intro tt_ok Try.func28 rfl rfl Try.ntmps28 rfl fun F => ?_
  (repeat' (first | refine CW.seq ?_ | refine CW.region tt_ok rfl ?_ | refine CW.regionD tt_ok (by kernel_rfl) pl28_0 (by decide +kernel) ?_ | refine CW.block ?_ | refine CW.skip ?_ | refine SQ.nil ?_ | refine SQ.pures1 tt_ok rfl ?_ | refine SQ.pure1 tt_ok rfl ?_ | refine SQ.new _ _ rfl rfl (fun _ => ?_) | refine SQ.ldA tt_ok rfl rfl (by repeat (first | exact .h | exact .q | apply At.t)) (by rfl) ?_ | refine SQ.stA tt_ok rfl rfl (by repeat (first | apply Up.h | apply Up.t)) (by rfl) (by rfl) (by repeat (first | exact trivial | refine ⟨trivial, ?_⟩ | refine ⟨wk (by repeat (first | exact .h | exact .q | apply At.t)) (by rfl), ?_⟩)) ?_ | refine CW.cond_tt rfl ?_ | refine CW.cond_ff rfl ?_ | (refine SQ.callA rfl rfl (acts49 β _) (by repeat (first | exact .n | exact Rm.h | apply Tk.c | apply Rm.t)) ?_; rintro _ _ ⟨rfl, rfl⟩; refine ⟨(by repeat (first | exact trivial | refine ⟨trivial, ?_⟩ | refine ⟨wk (by repeat (first | exact .h | exact .q | apply At.t)) (by rfl), ?_⟩)), ?_⟩) | (refine SQ.callA rfl rfl (step48' β _ _ _ _ _) (by repeat (first | exact .n | exact Rm.h | apply Tk.c | apply Rm.t)) ?_; rintro _ _ ⟨rfl, rfl⟩; refine ⟨(by repeat (first | exact trivial | refine ⟨trivial, ?_⟩ | refine ⟨wk (by repeat (first | exact .h | exact .q | apply At.t)) (by rfl), ?_⟩)), ?_⟩) | (refine SQ.callA rfl rfl (edge51' β _) (by repeat (first | exact .n | exact Rm.h | apply Tk.c | apply Rm.t)) ?_; rintro _ _ ⟨rfl, rfl⟩; refine ⟨(by repeat (first | exact trivial | refine ⟨trivial, ?_⟩ | refine ⟨wk (by repeat (first | exact .h | exact .q | apply At.t)) (by rfl), ?_⟩)), ?_⟩) | (refine SQ.callA rfl rfl (real50' β _) (by repeat (first | exact .n | exact Rm.h | apply Tk.c | apply Rm.t)) ?_; rintro _ _ ⟨rfl, rfl⟩; refine ⟨(by repeat (first | exact trivial | refine ⟨trivial, ?_⟩ | refine ⟨wk (by repeat (first | exact .h | exact .q | apply At.t)) (by rfl), ?_⟩)), ?_⟩) | ((first | refine CW.cond rfl (fun hc => ?_) (fun hc => ?_) | refine SQ.gsplit rfl (fun hc => ?_) (fun hc => ?_)) <;> try (exfalso; simp_all; done))))
  all_goals (refine CW.ret (fin_cells [_] ⟨⟨_, _, _, _, 0, rfl, rfl, rfl, rfl⟩, trivial⟩ (Ent.dropAll _) ⟨?_, rfl⟩); simp_all [packV, writtenV, lnC])
  all_goals (have h6 : ¬ (16 : Int) ≤ id := by omega
             simp [h6])
end Go.Proofs.Ytmaheecbohbilaa.Sl
