import Derived.Test.YtmaheecbohbilaaFk
namespace Go.Proofs.Ytmaheecbohbilaa.Sl
open Go Go.RowKit Go.Proofs
set_option linter.unusedVariables false
set_option linter.unusedSimpArgs false
attribute [local irreducible] CW Tri OW
set_option maxRecDepth 10000
theorem wrIs (β : Base) (b : Nat) (q0 : Option Addr) (c0 : Nat) (es es' : List En) (r f c v : Int) (n m : Nat) (hn : cntV c = n) (hm : (wrK 32 es r f c v n).2 = m) (he : (wrK 32 es r f c v n).1 = es') :
    Tri Try.prog β 13 [.pointer (some ⟨b, 0, none⟩), .agg #[.int .i64 r, .int .i64 f, .int .i64 c], .int .u64 v] [pt b [.int .i64 32, .slice q0 es.length c0], rowA q0 es.length (es.flatMap enC)]
      (fun u L => u = .int .i64 m ∧ L = [pt b [.int .i64 32, .slice q0 es'.length c0], rowA q0 es'.length (es'.flatMap enC)]) := by
  have := write13 β b q0 c0 (first := 32) (es0 := es) (by omega) (by omega) r f c v
  rw [hn, hm, he] at this
  exact this
theorem rdIs (β : Base) (b : Nat) (q0 : Option Addr) (c0 : Nat) (es : List En) (r f c : Int) (n : Nat) (m : Int) (hn : cntV c = n) (hm : rdK 32 es r f c n = m) :
    Tri Try.prog β 12 [.pointer (some ⟨b, 0, none⟩), .agg #[.int .i64 r, .int .i64 f, .int .i64 c]] [pt b [.int .i64 32, .slice q0 es.length c0], rowA q0 es.length (es.flatMap enC)]
      (fun u L => u = .int .u64 m ∧ L = [pt b [.int .i64 32, .slice q0 es.length c0], rowA q0 es.length (es.flatMap enC)]) := by
  have := read12 β b q0 c0 (first := 32) (es := es) (by omega) (by omega) r f c
  rw [hn, hm] at this
  exact this
theorem newIs (β : Base) (tx : ByteArray) : Tri Try.prog β 24 [.int .i64 32, .int .i64 64, .string tx] [] (fun v L => ∃ b q0 c0, v = .tuple #[.pointer (some ⟨b, 0, none⟩), .int .i64 0] ∧ L = [pt b [.int .i64 32, .slice q0 (aw0 tx).length c0], rowA q0 (aw0 tx).length ((aw0 tx).flatMap enC)]) :=
  new24 β (first := 32) (n := 64) (by omega) (by omega) (by omega) tx
set_option maxHeartbeats 2000000 in
theorem awake9 (β : Base) : Tri Try.prog β 9 [] [] (fun v L => v = .bool true ∧ L = []) := by
  refine Tri.intro tt_ok Try.func9 rfl rfl Try.ntmps9 rfl fun F => ?_
  (repeat (first | refine CW.seq ?_ | refine CW.region tt_ok rfl ?_ | refine CW.block ?_ | refine CW.skip ?_ | refine SQ.nil ?_ | refine SQ.pures1 tt_ok rfl ?_ | refine SQ.pure1 tt_ok rfl ?_ | refine SQ.new _ _ rfl rfl (fun _ => ?_) | refine SQ.ldA tt_ok rfl rfl (by repeat (first | exact .h | exact .q | apply At.t)) (by rfl) ?_ | refine SQ.stA tt_ok rfl rfl (by repeat (first | apply Up.h | apply Up.t)) (by rfl) (by rfl) (by exact trivial) ?_ | refine CW.cond_tt rfl ?_ | refine CW.cond_ff rfl ?_))
  (refine SQ.call rfl rfl (newIs β _) [] rfl ?_; rintro _ _ ⟨b, q0, c0, rfl, rfl⟩; refine ⟨(by exact trivial), ?_⟩)
  (repeat (first | refine CW.seq ?_ | refine CW.region tt_ok rfl ?_ | refine CW.block ?_ | refine CW.skip ?_ | refine SQ.nil ?_ | refine SQ.pures1 tt_ok rfl ?_ | refine SQ.pure1 tt_ok rfl ?_ | refine SQ.new _ _ rfl rfl (fun _ => ?_) | refine SQ.ldA tt_ok rfl rfl (by repeat (first | exact .h | exact .q | apply At.t)) (by rfl) ?_ | refine SQ.stA tt_ok rfl rfl (by repeat (first | apply Up.h | apply Up.t)) (by rfl) (by rfl) (by exact trivial) ?_ | refine CW.cond_tt rfl ?_ | refine CW.cond_ff rfl ?_))
  (refine SQ.call rfl rfl (wrIs β b q0 c0 (aw0 _) (aw1 _) 5 32 32 5 32 2 rfl (aw_a _) rfl) [1, 1] rfl ?_; rintro _ _ ⟨rfl, rfl⟩; refine ⟨(by exact trivial), ?_⟩)
  (repeat (first | refine CW.seq ?_ | refine CW.region tt_ok rfl ?_ | refine CW.block ?_ | refine CW.skip ?_ | refine SQ.nil ?_ | refine SQ.pures1 tt_ok rfl ?_ | refine SQ.pure1 tt_ok rfl ?_ | refine SQ.new _ _ rfl rfl (fun _ => ?_) | refine SQ.ldA tt_ok rfl rfl (by repeat (first | exact .h | exact .q | apply At.t)) (by rfl) ?_ | refine SQ.stA tt_ok rfl rfl (by repeat (first | apply Up.h | apply Up.t)) (by rfl) (by rfl) (by exact trivial) ?_ | refine CW.cond_tt rfl ?_ | refine CW.cond_ff rfl ?_))
  (refine SQ.call rfl rfl (rdIs β b q0 c0 (aw1 _) 5 32 32 32 5 rfl (aw_b _)) [0, 0] rfl ?_; rintro _ _ ⟨rfl, rfl⟩; refine ⟨(by exact trivial), ?_⟩)
  (repeat (first | refine CW.seq ?_ | refine CW.region tt_ok rfl ?_ | refine CW.block ?_ | refine CW.skip ?_ | refine SQ.nil ?_ | refine SQ.pures1 tt_ok rfl ?_ | refine SQ.pure1 tt_ok rfl ?_ | refine SQ.new _ _ rfl rfl (fun _ => ?_) | refine SQ.ldA tt_ok rfl rfl (by repeat (first | exact .h | exact .q | apply At.t)) (by rfl) ?_ | refine SQ.stA tt_ok rfl rfl (by repeat (first | apply Up.h | apply Up.t)) (by rfl) (by rfl) (by exact trivial) ?_ | refine CW.cond_tt rfl ?_ | refine CW.cond_ff rfl ?_))
  (refine SQ.call rfl rfl (wrIs β b q0 c0 (aw1 _) (aw2 _) 6 32 32 4 32 1 rfl (aw_c _) rfl) [0, 0] rfl ?_; rintro _ _ ⟨rfl, rfl⟩; refine ⟨(by exact trivial), ?_⟩)
  (repeat (first | refine CW.seq ?_ | refine CW.region tt_ok rfl ?_ | refine CW.block ?_ | refine CW.skip ?_ | refine SQ.nil ?_ | refine SQ.pures1 tt_ok rfl ?_ | refine SQ.pure1 tt_ok rfl ?_ | refine SQ.new _ _ rfl rfl (fun _ => ?_) | refine SQ.ldA tt_ok rfl rfl (by repeat (first | exact .h | exact .q | apply At.t)) (by rfl) ?_ | refine SQ.stA tt_ok rfl rfl (by repeat (first | apply Up.h | apply Up.t)) (by rfl) (by rfl) (by exact trivial) ?_ | refine CW.cond_tt rfl ?_ | refine CW.cond_ff rfl ?_))
  (refine SQ.call rfl rfl (rdIs β b q0 c0 (aw2 _) 6 32 32 32 1 rfl (aw_d _)) [0, 0] rfl ?_; rintro _ _ ⟨rfl, rfl⟩; refine ⟨(by exact trivial), ?_⟩)
  (repeat (first | refine CW.seq ?_ | refine CW.region tt_ok rfl ?_ | refine CW.block ?_ | refine CW.skip ?_ | refine SQ.nil ?_ | refine SQ.pures1 tt_ok rfl ?_ | refine SQ.pure1 tt_ok rfl ?_ | refine SQ.new _ _ rfl rfl (fun _ => ?_) | refine SQ.ldA tt_ok rfl rfl (by repeat (first | exact .h | exact .q | apply At.t)) (by rfl) ?_ | refine SQ.stA tt_ok rfl rfl (by repeat (first | apply Up.h | apply Up.t)) (by rfl) (by rfl) (by exact trivial) ?_ | refine CW.cond_tt rfl ?_ | refine CW.cond_ff rfl ?_))
  (refine SQ.call rfl rfl (wrIs β b q0 c0 (aw2 _) (aw3 _) 11 36 4 255 4 1 rfl (aw_e _) rfl) [1, 1] rfl ?_; rintro _ _ ⟨rfl, rfl⟩; refine ⟨(by exact trivial), ?_⟩)
  (repeat (first | refine CW.seq ?_ | refine CW.region tt_ok rfl ?_ | refine CW.block ?_ | refine CW.skip ?_ | refine SQ.nil ?_ | refine SQ.pures1 tt_ok rfl ?_ | refine SQ.pure1 tt_ok rfl ?_ | refine SQ.new _ _ rfl rfl (fun _ => ?_) | refine SQ.ldA tt_ok rfl rfl (by repeat (first | exact .h | exact .q | apply At.t)) (by rfl) ?_ | refine SQ.stA tt_ok rfl rfl (by repeat (first | apply Up.h | apply Up.t)) (by rfl) (by rfl) (by exact trivial) ?_ | refine CW.cond_tt rfl ?_ | refine CW.cond_ff rfl ?_))
  (refine SQ.call rfl rfl (rdIs β b q0 c0 (aw3 _) 11 36 4 4 248 rfl (aw_f _)) [0, 0] rfl ?_; rintro _ _ ⟨rfl, rfl⟩; refine ⟨(by exact trivial), ?_⟩)
  (repeat (first | refine CW.seq ?_ | refine CW.region tt_ok rfl ?_ | refine CW.block ?_ | refine CW.skip ?_ | refine SQ.nil ?_ | refine SQ.pures1 tt_ok rfl ?_ | refine SQ.pure1 tt_ok rfl ?_ | refine SQ.new _ _ rfl rfl (fun _ => ?_) | refine SQ.ldA tt_ok rfl rfl (by repeat (first | exact .h | exact .q | apply At.t)) (by rfl) ?_ | refine SQ.stA tt_ok rfl rfl (by repeat (first | apply Up.h | apply Up.t)) (by rfl) (by rfl) (by exact trivial) ?_ | refine CW.cond_tt rfl ?_ | refine CW.cond_ff rfl ?_))
  exact CW.ret (fin_ret rfl (Ent.dropAll _) ⟨rfl, rfl⟩)
end Go.Proofs.Ytmaheecbohbilaa.Sl
