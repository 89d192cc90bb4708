import Derived.Test.YtmaheecbohbilaaFe
namespace Go.Proofs.Ytmaheecbohbilaa.Sl
open Go Go.RowKit Go.Proofs
set_option linter.unusedVariables false
set_option linter.unusedSimpArgs false
attribute [local irreducible] CW Tri OW
set_option maxRecDepth 10000
@[reducible] def pl30_0 : Plan := [(0, 0, []), (1, 0, []), (2, 0, []), (3, 0, []), (4, 0, []), (5, 0, []), (6, 0, []), (7, 0, []), (8, 0, []), (9, 0, []), (10, 0, []), (11, 0, []), (12, 1, [])]
theorem wr_en {es : List En} {k : Nat} {e : En} (h : es[k]? = some e) (q : En) (X : List Value) : wrv ti40 (es.flatMap enC ++ X) (0 + k * 8) (.agg (enC q).toArray) = some ((es.set k q).flatMap enC ++ X) :=
  wr_encR (enc := enC) (sz := 8) (fun _ => rfl) h 0 (i := ti40) (by decide) rfl rfl (by omega) X
def putV (first : Int) (es : List En) (id : Int) (q : En) : List En × Int := match atE first es id with
  | some e => if q.1.2.2.1 < 0 ∨ q.1.2.2.1 > 1 ∨ q.1.2.2.2 < 0 ∨ q.1.2.2.2 > 255 then (es, 1) else (es.set (id - first).toNat ((q.1.1, q.1.2.1, q.1.2.2.1, realV q.1.2.2.2), q.2), 0)
  | none => (es, 90)
theorem putV_len (first : Int) (es : List En) (id : Int) (q : En) : (putV first es id q).1.length = es.length := by
  unfold putV; split
  · split <;> simp
  · rfl
set_option maxHeartbeats 4000000 in
theorem put30 (β : Base) (b : Nat) (q0 : Option Addr) (c0 : Nat) {first id : Int} {es : List En} (q : En) (h0 : 0 ≤ first) (h1 : first ≤ 16384) (h3 : id < 9223372036854775808) :
    Tri Try.prog β 30 [.pointer (some ⟨b, 0, none⟩), .int .i64 id, .agg (enC q).toArray] (bkA b q0 c0 first es) (fun v L => v = .int .i64 (putV first es id q).2 ∧ L = bkA b q0 c0 first (putV first es id q).1) := by
  refine Tri.intro tt_ok Try.func30 rfl rfl Try.ntmps30 rfl fun F => ?_
  unfold bkA
  rw [putV_len]
  cases h : atE first es id with
  | none =>
    rw [show putV first es id q = (es, 90) by simp [putV, h]]
    (repeat (first | refine CW.seq ?_ | refine CW.region tt_ok rfl ?_ | refine CW.regionD tt_ok (by kernel_rfl) pl30_0 (by decide +kernel) ?_ | refine CW.block ?_ | refine CW.skip ?_ | refine SQ.nil ?_ | refine SQ.pures1 tt_ok rfl ?_ | refine SQ.pure1 tt_ok rfl ?_ | refine SQ.new _ _ rfl rfl (fun _ => ?_) | refine SQ.ldA tt_ok rfl rfl (by repeat (first | exact .h | exact .q | apply At.t)) (by rfl) ?_ | refine SQ.stA tt_ok rfl rfl (by repeat (first | apply Up.h | apply Up.t)) (by rfl) (by rfl) (by repeat (first | exact trivial | refine ⟨trivial, ?_⟩ | refine ⟨wk (by repeat (first | exact .h | exact .q | apply At.t)) (by rfl), ?_⟩)) ?_ | refine CW.cond_tt rfl ?_ | refine CW.cond_ff rfl ?_))
    (refine SQ.callA rfl rfl (hasIs β b q0 c0 h0 h1 h3 (atE_none h)) (by repeat (first | exact .n | exact Rm.h | apply Tk.c | apply Rm.t)) ?_; rintro _ _ ⟨rfl, rfl⟩; refine ⟨(by repeat (first | exact trivial | refine ⟨trivial, ?_⟩ | refine ⟨wk (by repeat (first | exact .h | exact .q | apply At.t)) (by rfl), ?_⟩)), ?_⟩)
    (repeat (first | refine CW.seq ?_ | refine CW.region tt_ok rfl ?_ | refine CW.regionD tt_ok (by kernel_rfl) pl30_0 (by decide +kernel) ?_ | refine CW.block ?_ | refine CW.skip ?_ | refine SQ.nil ?_ | refine SQ.pures1 tt_ok rfl ?_ | refine SQ.pure1 tt_ok rfl ?_ | refine SQ.new _ _ rfl rfl (fun _ => ?_) | refine SQ.ldA tt_ok rfl rfl (by repeat (first | exact .h | exact .q | apply At.t)) (by rfl) ?_ | refine SQ.stA tt_ok rfl rfl (by repeat (first | apply Up.h | apply Up.t)) (by rfl) (by rfl) (by repeat (first | exact trivial | refine ⟨trivial, ?_⟩ | refine ⟨wk (by repeat (first | exact .h | exact .q | apply At.t)) (by rfl), ?_⟩)) ?_ | refine CW.cond_tt rfl ?_ | refine CW.cond_ff rfl ?_))
    exact CW.ret (fin_ret rfl (Tk.ent (by repeat (first | exact .n | exact Rm.h | apply Tk.c | apply Rm.t))) ⟨rfl, rfl⟩)
  | some e =>
    obtain ⟨g1, g2, g3, g4, g5⟩ := atE_some h
    have hw := wrap_sub h0 h1 g1 h3
    refine CW.ent (bk_open (by omega)) (CW.open_ fun y => ?_)
    obtain ⟨g, rest⟩ := y
    refine CW.pure_ fun hv => ?_
    simp only at hv
    subst hv
    (repeat (first | refine CW.seq ?_ | refine CW.region tt_ok rfl ?_ | refine CW.regionD tt_ok (by kernel_rfl) pl30_0 (by decide +kernel) ?_ | refine CW.block ?_ | refine CW.skip ?_ | refine SQ.nil ?_ | refine SQ.pures1 tt_ok rfl ?_ | refine SQ.pure1 tt_ok rfl ?_ | refine SQ.new _ _ rfl rfl (fun _ => ?_) | refine SQ.ldA tt_ok rfl rfl (by repeat (first | exact .h | exact .q | apply At.t)) (by rfl) ?_ | refine SQ.stA tt_ok rfl rfl (by repeat (first | apply Up.h | apply Up.t)) (by rfl) (by rfl) (by repeat (first | exact trivial | refine ⟨trivial, ?_⟩ | refine ⟨wk (by repeat (first | exact .h | exact .q | apply At.t)) (by rfl), ?_⟩)) ?_ | refine CW.cond_tt rfl ?_ | refine CW.cond_ff rfl ?_))
    (refine SQ.callA rfl rfl (hasIs β b _ c0 h0 h1 h3 g5) (by repeat (first | exact .n | exact Rm.h | apply Tk.c | apply Rm.t)) ?_; rintro _ _ ⟨rfl, rfl⟩; refine ⟨(by repeat (first | exact trivial | refine ⟨trivial, ?_⟩ | refine ⟨wk (by repeat (first | exact .h | exact .q | apply At.t)) (by rfl), ?_⟩)), ?_⟩)
    (repeat' (first | refine CW.seq ?_ | refine CW.region tt_ok rfl ?_ | refine CW.regionD tt_ok (by kernel_rfl) pl30_0 (by decide +kernel) ?_ | refine CW.block ?_ | refine CW.skip ?_ | refine SQ.nil ?_ | refine SQ.pures1 tt_ok rfl ?_ | refine SQ.pure1 tt_ok rfl ?_ | refine SQ.new _ _ rfl rfl (fun _ => ?_) | refine SQ.ldA tt_ok rfl rfl (by repeat (first | exact .h | exact .q | apply At.t)) (by rfl) ?_ | refine SQ.stA tt_ok rfl rfl (by repeat (first | apply Up.h | apply Up.t)) (by rfl) (by rfl) (by repeat (first | exact trivial | refine ⟨trivial, ?_⟩ | refine ⟨wk (by repeat (first | exact .h | exact .q | apply At.t)) (by rfl), ?_⟩)) ?_ | refine CW.cond_tt rfl ?_ | refine CW.cond_ff rfl ?_ | (refine SQ.callA rfl rfl (real50' β _) (by repeat (first | exact .n | exact Rm.h | apply Tk.c | apply Rm.t)) ?_; rintro _ _ ⟨rfl, rfl⟩; refine ⟨(by repeat (first | exact trivial | refine ⟨trivial, ?_⟩ | refine ⟨wk (by repeat (first | exact .h | exact .q | apply At.t)) (by rfl), ?_⟩)), ?_⟩) | ((first | refine CW.cond rfl (fun hc => ?_) (fun hc => ?_) | refine SQ.gsplit rfl (fun hc => ?_) (fun hc => ?_)) <;> try (exfalso; simp_all; done))))
    all_goals (first
      | (refine CW.ret (fin_ret rfl (Ent.trans (Tk.ent (by repeat (first | exact .n | exact Rm.h | apply Tk.c | apply Rm.t))) (bk_close (b := b) (g := g) (n := es.length) (first := first) (rest := rest) (v := .slice (some ⟨g, 0, none⟩) es.length c0) (cs := es.flatMap enC))) ⟨?_, ?_⟩)
         · simp_all [packV, putV]
         · simp_all [putV])
      | (refine SQ.idx tt_ok rfl rfl (id - first).toNat (by rw [hw, g4]) g2 (o' := 0 + (id - first).toNat * 8) rfl ?_
         refine SQ.stA tt_ok rfl rfl (by repeat (first | apply Up.h | apply Up.t)) (by rfl) (wr_en g3 ((q.1.1, q.1.2.1, q.1.2.2.1, realV q.1.2.2.2), q.2) rest) (by repeat (first | exact trivial | refine ⟨trivial, ?_⟩ | refine ⟨wk (by repeat (first | exact .h | exact .q | apply At.t)) (by rfl), ?_⟩)) ?_
         (repeat (first | refine CW.seq ?_ | refine CW.region tt_ok rfl ?_ | refine CW.regionD tt_ok (by kernel_rfl) pl30_0 (by decide +kernel) ?_ | refine CW.block ?_ | refine CW.skip ?_ | refine SQ.nil ?_ | refine SQ.pures1 tt_ok rfl ?_ | refine SQ.pure1 tt_ok rfl ?_ | refine SQ.new _ _ rfl rfl (fun _ => ?_) | refine SQ.ldA tt_ok rfl rfl (by repeat (first | exact .h | exact .q | apply At.t)) (by rfl) ?_ | refine SQ.stA tt_ok rfl rfl (by repeat (first | apply Up.h | apply Up.t)) (by rfl) (by rfl) (by repeat (first | exact trivial | refine ⟨trivial, ?_⟩ | refine ⟨wk (by repeat (first | exact .h | exact .q | apply At.t)) (by rfl), ?_⟩)) ?_ | refine CW.cond_tt rfl ?_ | refine CW.cond_ff rfl ?_))
         refine CW.ret (fin_ret rfl (Ent.trans (Tk.ent (by repeat (first | exact .n | exact Rm.h | apply Tk.c | apply Rm.t))) (bk_close (b := b) (g := g) (n := es.length) (first := first) (rest := rest) (v := .slice (some ⟨g, 0, none⟩) es.length c0) (cs := (es.set (id - first).toNat ((q.1.1, q.1.2.1, q.1.2.2.1, realV q.1.2.2.2), q.2)).flatMap enC))) ⟨?_, ?_⟩)
         · simp_all [packV, putV]; rw [if_neg (by omega)]
         · simp_all [putV]; rw [if_neg (by omega)]))
end Go.Proofs.Ytmaheecbohbilaa.Sl
