import Derived.Test.YtmaheecbohbilaaFa
namespace Go.Proofs.Ytmaheecbohbilaa.Sl
open Go Go.RowKit Go.Proofs
set_option linter.unusedVariables false
set_option linter.unusedSimpArgs false
attribute [local irreducible] CW Tri OW
set_option maxRecDepth 10000
def actsV (r : Int) : Int := if r = 7 then 3 else if r = 8 then 4 else if r = 9 then 7 else if r = 10 then 6 else 0
theorem acts49 (β : Base) (r : Int) : Tri Try.prog β 49 [.int .i64 r] [] (fun v L => v = .int .i64 (actsV r) ∧ L = []) := by
  refine Tri.intro tt_ok Try.func49 rfl rfl Try.ntmps49 rfl fun F => ?_
  (repeat' (first | refine CW.seq ?_ | refine CW.region tt_ok rfl ?_ | refine CW.block ?_ | refine CW.skip ?_ | refine SQ.nil ?_ | refine SQ.pures1 tt_ok rfl ?_ | refine SQ.pure1 tt_ok rfl ?_ | refine SQ.new _ _ rfl rfl (fun _ => ?_) | refine SQ.ldA tt_ok rfl rfl (by repeat (first | exact .h | exact .q | apply At.t)) (by rfl) ?_ | refine SQ.stA tt_ok rfl rfl (by repeat (first | apply Up.h | apply Up.t)) (by rfl) (by rfl) (by exact trivial) ?_ | refine CW.cond_tt rfl ?_ | refine CW.cond_ff rfl ?_ | ((first | refine CW.cond rfl (fun hc => ?_) (fun hc => ?_) | refine SQ.gsplit rfl (fun hc => ?_) (fun hc => ?_)) <;> try (exfalso; simp_all; done))))
  all_goals (refine CW.ret (fin_ret rfl (Ent.dropAll _) ⟨?_, rfl⟩); simp_all [packV, actsV])
theorem edge51 (β : Base) (x : Int) : Tri Try.prog β 51 [.int .u64 x] [] (fun v L => v = .int .i64 (if IntKind.u64.wrap (BitVec.ofInt IntKind.u64.bits x &&& BitVec.ofInt IntKind.u64.bits 2).toNat = 2 then 8 else 9) ∧ L = []) := by
  refine Tri.intro tt_ok Try.func51 rfl rfl Try.ntmps51 rfl fun F => ?_
  (repeat' (first | refine CW.seq ?_ | refine CW.region tt_ok rfl ?_ | refine CW.block ?_ | refine CW.skip ?_ | refine SQ.nil ?_ | refine SQ.pures1 tt_ok rfl ?_ | refine SQ.pure1 tt_ok rfl ?_ | refine SQ.new _ _ rfl rfl (fun _ => ?_) | refine SQ.ldA tt_ok rfl rfl (by repeat (first | exact .h | exact .q | apply At.t)) (by rfl) ?_ | refine SQ.stA tt_ok rfl rfl (by repeat (first | apply Up.h | apply Up.t)) (by rfl) (by rfl) (by exact trivial) ?_ | refine CW.cond_tt rfl ?_ | refine CW.cond_ff rfl ?_ | ((first | refine CW.cond rfl (fun hc => ?_) (fun hc => ?_) | refine SQ.gsplit rfl (fun hc => ?_) (fun hc => ?_)) <;> try (exfalso; simp_all; done))))
  all_goals (refine CW.ret (fin_ret rfl (Ent.dropAll _) ⟨?_, rfl⟩))
  · simp only [beq_iff_eq] at hc; simp only [packV]; rw [if_pos hc]
  · simp only [beq_eq_false_iff_ne, ne_eq] at hc; simp only [packV]; rw [if_neg hc]
def bitsV (r : Int) : Int := if r = 11 then 8 else if r = 12 then 2 else if r = 13 then 63 else 1
theorem bits45 (β : Base) (r f c : Int) : Tri Try.prog β 45 [.agg #[.int .i64 r, .int .i64 f, .int .i64 c]] [] (fun v L => v = .int .i64 (bitsV r) ∧ L = []) := by
  refine Tri.intro tt_ok Try.func45 rfl rfl Try.ntmps45 rfl fun F => ?_
  (repeat' (first | refine CW.seq ?_ | refine CW.region tt_ok rfl ?_ | refine CW.block ?_ | refine CW.skip ?_ | refine SQ.nil ?_ | refine SQ.pures1 tt_ok rfl ?_ | refine SQ.pure1 tt_ok rfl ?_ | refine SQ.new _ _ rfl rfl (fun _ => ?_) | refine SQ.ldA tt_ok rfl rfl (by repeat (first | exact .h | exact .q | apply At.t)) (by rfl) ?_ | refine SQ.stA tt_ok rfl rfl (by repeat (first | apply Up.h | apply Up.t)) (by rfl) (by rfl) (by exact trivial) ?_ | refine CW.cond_tt rfl ?_ | refine CW.cond_ff rfl ?_ | ((first | refine CW.cond rfl (fun hc => ?_) (fun hc => ?_) | refine SQ.gsplit rfl (fun hc => ?_) (fun hc => ?_)) <;> try (exfalso; simp_all; done))))
  all_goals (refine CW.ret (fin_ret rfl (Ent.dropAll _) ⟨?_, rfl⟩); simp_all [packV, bitsV])
theorem wide56 (β : Base) (r : Int) : Tri Try.prog β 56 [.int .i64 r] [] (fun v L => v = .int .i64 (bitsV r) ∧ L = []) := by
  refine Tri.intro tt_ok Try.func56 rfl rfl Try.ntmps56 rfl fun F => ?_
  (repeat' (first | refine CW.seq ?_ | refine CW.region tt_ok rfl ?_ | refine CW.block ?_ | refine CW.skip ?_ | refine SQ.nil ?_ | refine SQ.pures1 tt_ok rfl ?_ | refine SQ.pure1 tt_ok rfl ?_ | refine SQ.new _ _ rfl rfl (fun _ => ?_) | refine SQ.ldA tt_ok rfl rfl (by repeat (first | exact .h | exact .q | apply At.t)) (by rfl) ?_ | refine SQ.stA tt_ok rfl rfl (by repeat (first | apply Up.h | apply Up.t)) (by rfl) (by rfl) (by exact trivial) ?_ | refine CW.cond_tt rfl ?_ | refine CW.cond_ff rfl ?_ | ((first | refine CW.cond rfl (fun hc => ?_) (fun hc => ?_) | refine SQ.gsplit rfl (fun hc => ?_) (fun hc => ?_)) <;> try (exfalso; simp_all; done))))
  all_goals (refine CW.ret (fin_ret rfl (Ent.dropAll _) ⟨?_, rfl⟩); simp_all [packV, bitsV])
/-- An interrupt: its state, Enabled, Group, Priority. -/
abbrev Ln := Iq × Bool × Int × Int
@[reducible] def lnC (l : Ln) : List Value := [.bool l.1.1, .bool l.1.2.1, .bool l.1.2.2.1, .bool l.1.2.2.2, .bool l.2.1, .int .i64 l.2.2.1, .int .i64 l.2.2.2]
def b2 (b : Bool) : Int := if b then 1 else 0
def showsV (l : Ln) (r : Int) : Int :=
  if r = 4 then IntKind.u64.wrap l.2.2.1 else if r = 5 ∨ r = 6 then b2 l.2.1 else if r = 7 ∨ r = 8 then b2 (pendI l.1) else if r = 9 ∨ r = 10 then b2 l.1.2.2.2
  else if r = 11 then IntKind.u64.wrap l.2.2.2 else if r = 12 then IntKind.u64.wrap (2 * b2 l.1.1) else 0
theorem shows27 (β : Base) (e l t a en : Bool) (g p r : Int) : Tri Try.prog β 27 [.agg #[.bool e, .bool l, .bool t, .bool a, .bool en, .int .i64 g, .int .i64 p], .int .i64 r] [] (fun v L => v = .int .u64 (showsV ((e, l, t, a), en, g, p) r) ∧ L = []) := by
  refine Tri.intro tt_ok Try.func27 rfl rfl Try.ntmps27 rfl fun F => ?_
  (repeat' (first | refine CW.seq ?_ | refine CW.region tt_ok rfl ?_ | refine CW.block ?_ | refine CW.skip ?_ | refine SQ.nil ?_ | refine SQ.pures1 tt_ok rfl ?_ | refine SQ.pure1 tt_ok rfl ?_ | refine SQ.new _ _ rfl rfl (fun _ => ?_) | refine SQ.ldA tt_ok rfl rfl (by repeat (first | exact .h | exact .q | apply At.t)) (by rfl) ?_ | refine SQ.stA tt_ok rfl rfl (by repeat (first | apply Up.h | apply Up.t)) (by rfl) (by rfl) (by exact trivial) ?_ | refine CW.cond_tt rfl ?_ | refine CW.cond_ff rfl ?_ | (refine SQ.callA rfl rfl (bit46 β _) (by repeat (first | exact .n | exact Rm.h | apply Tk.c | apply Rm.t)) ?_; rintro _ _ ⟨rfl, rfl⟩; refine ⟨(by exact trivial), ?_⟩) | (refine SQ.callA rfl rfl (pending47 β _ _ _ _) (by repeat (first | exact .n | exact Rm.h | apply Tk.c | apply Rm.t)) ?_; rintro _ _ ⟨rfl, rfl⟩; refine ⟨(by exact trivial), ?_⟩) | ((first | refine CW.cond rfl (fun hc => ?_) (fun hc => ?_) | refine SQ.gsplit rfl (fun hc => ?_) (fun hc => ?_)) <;> try (exfalso; simp_all; done))))
  all_goals (refine CW.ret (fin_ret rfl (Ent.dropAll _) ⟨?_, rfl⟩); simp_all [packV, showsV, b2])
end Go.Proofs.Ytmaheecbohbilaa.Sl
