import Derived.Test.YtmaheecbohbilaaGg
namespace Go.Proofs.Ytmaheecbohbilaa.Sl
open Go Go.RowKit Go.Proofs
set_option linter.unusedVariables false
set_option linter.unusedSimpArgs false
attribute [local irreducible] CW Tri OW
set_option maxRecDepth 10000
@[reducible] def pl18_0 : Plan := [(0, 0, []), (1, 0, []), (2, 0, []), (3, 0, []), (4, 0, []), (5, 0, []), (6, 0, []), (7, 0, []), (8, 0, []), (9, 0, []), (10, 0, []), (11, 0, []), (12, 0, []), (13, 0, []), (14, 0, []), (15, 0, []), (16, 0, []), (17, 0, []), (18, 0, []), (19, 0, []), (20, 0, []), (21, 0, []), (22, 0, []), (23, 0, []), (24, 0, []), (25, 0, []), (26, 0, []), (27, 0, []), (28, 0, []), (29, 0, []), (30, 0, []), (31, 0, []), (32, 0, []), (33, 0, []), (34, 0, []), (35, 0, []), (36, 0, []), (37, 0, []), (38, 0, []), (39, 0, []), (40, 0, [])]
@[reducible] def pl18_1 : Plan := [(0, 0, []), (1, 0, []), (2, 0, []), (3, 0, []), (4, 0, []), (5, 0, []), (6, 0, []), (7, 1, [])]
def txV (es : List En) : List ByteArray := es.map (·.2)
theorem txV_len (es : List En) : (txV es).length = es.length := by simp [txV]
@[reducible] def txC (t : ByteArray) : List Value := [.string t]
theorem rd_tx {es : List ByteArray} {k : Nat} {e : ByteArray} (h : es[k]? = some e) (X : List Value) : rdv ti9 (es.flatMap txC ++ X) (0 + k * 1) = some (.string e) :=
  rd_partR (enc := txC) (sz := 1) (fun _ => rfl) h 0 (i := ti9) rfl (by decide) (by omega) (by decide) X
/-- The document's bank, that has what the program's bank has. -/
def rbX (r : Nat) (first : Int) (q : Option Addr) (c : Nat) (q2 : Option Addr) (c2 : Nat) (es : List En) : List Atom := rbA r first q c (.slice q2 es.length c2) (lsV es) ++ [rowA q2 es.length ((txV es).flatMap txC)]
theorem rbX_eq (r : Nat) (first : Int) (q : Option Addr) (c : Nat) (q2 : Option Addr) (c2 : Nat) (es : List En) : rbX r first q c q2 c2 es = [pt r [.int .i64 first, .slice q es.length c, .slice q2 es.length c2], rowA q es.length ((lsV es).flatMap lnC), rowA q2 es.length ((txV es).flatMap txC)] := by
  unfold rbX rbA; rw [lsV_len]; rfl
set_option maxHeartbeats 4000000 in
theorem alike18 (β : Base) (b r : Nat) (q0 : Option Addr) (c0 : Nat) {first : Int} (es : List En) (q : Option Addr) (c : Nat) (q2 : Option Addr) (c2 : Nat) (hf0 : 0 ≤ first) (hf1 : first ≤ 16384) (hn : es.length ≤ 16384) :
    Tri Try.prog β 18 [.pointer (some ⟨b, 0, none⟩), .pointer (some ⟨r, 0, none⟩)] (bkA b q0 c0 first es ++ rbX r first q c q2 c2 es) (fun v L => v = .bool true ∧ L = bkA b q0 c0 first es ++ rbX r first q c q2 c2 es) := by
  refine Tri.intro tt_ok Try.func18 rfl rfl Try.ntmps18 rfl fun F => ?_
  rw [rbX_eq]
  (repeat (first | refine CW.seq ?_ | refine CW.region tt_ok rfl ?_ | refine CW.regionD tt_ok (by kernel_rfl) pl18_0 (by decide +kernel) ?_ | refine CW.regionD tt_ok (by kernel_rfl) pl18_1 (by decide +kernel) ?_ | refine CW.block ?_ | refine CW.skip ?_ | refine SQ.nil ?_ | refine SQ.pures1 tt_ok rfl ?_ | refine SQ.pure1 tt_ok rfl ?_ | refine SQ.new _ _ rfl rfl (fun _ => ?_) | refine SQ.ldA tt_ok rfl rfl (by repeat (first | exact .h | exact .q | apply At.t)) (by rfl) ?_ | refine SQ.stA tt_ok rfl rfl (by repeat (first | apply Up.h | apply Up.t)) (by rfl) (by rfl) (by repeat (first | exact trivial | refine ⟨trivial, ?_⟩ | refine ⟨wk (by repeat (first | exact .h | exact .q | apply At.t)) (by rfl), ?_⟩)) ?_ | refine CW.cond_tt rfl ?_ | refine CW.cond_ff rfl ?_))
  rename_i b3 b4 b5
  (refine SQ.callA rfl rfl (all21 β b q0 c0 first es hn) (by repeat (first | exact .n | exact Rm.h | apply Tk.c | apply Rm.t)) ?_; rintro _ _ ⟨b1, b33, q1, c1, rfl, rfl⟩; refine ⟨(by repeat (first | exact trivial | refine ⟨trivial, ?_⟩ | refine ⟨wk (by repeat (first | exact .h | exact .q | apply At.t)) (by rfl), ?_⟩)), ?_⟩)
  refine SQ.ent _ (Rm.to (A := rowA q1 es.length (es.flatMap enC)) (by repeat (first | exact Rm.h | apply Rm.t)) (row_rd β (sz := 8) (flatE_len (sz := 8) (fun _ => rfl) es))) ?_
  refine SQ.open_ fun B => ?_
  refine SQ.pure_ fun hB => ?_
  (repeat (first | refine CW.seq ?_ | refine CW.region tt_ok rfl ?_ | refine CW.regionD tt_ok (by kernel_rfl) pl18_0 (by decide +kernel) ?_ | refine CW.regionD tt_ok (by kernel_rfl) pl18_1 (by decide +kernel) ?_ | refine CW.block ?_ | refine CW.skip ?_ | refine SQ.nil ?_ | refine SQ.pures1 tt_ok rfl ?_ | refine SQ.pure1 tt_ok rfl ?_ | refine SQ.new _ _ rfl rfl (fun _ => ?_) | refine SQ.ldA tt_ok rfl rfl (by repeat (first | exact .h | exact .q | apply At.t)) (by rfl) ?_ | refine SQ.stA tt_ok rfl rfl (by repeat (first | apply Up.h | apply Up.t)) (by rfl) (by rfl) (by repeat (first | exact trivial | refine ⟨trivial, ?_⟩ | refine ⟨wk (by repeat (first | exact .h | exact .q | apply At.t)) (by rfl), ?_⟩)) ?_ | refine CW.cond_tt rfl ?_ | refine CW.cond_ff rfl ?_))
  refine CW.ent (L' := [pt b33 [.slice q1 es.length c1], pt b1 [.pointer (some ⟨b, 0, none⟩)], pt b [.int .i64 first, .slice q0 es.length c0], B, pt b5 [.int .i64 0], pt b4 [.bool false], pt b3 [.pointer (some ⟨r, 0, none⟩)], rowA q0 es.length (es.flatMap enC), pt r [.int .i64 first, .slice q es.length c, .slice q2 es.length c2], rowA q es.length ((lsV es).flatMap lnC), rowA q2 es.length ((txV es).flatMap txC)]) (Tk.ent (by repeat (first | exact .n | exact Rm.h | apply Tk.c | apply Rm.t))) ?_
  refine CW.rangeFunc rfl (iter43 β b b1 b33 hB hf0 hf1 hn rfl) [0, 0, 0, 0] rfl
    (fun pre => [pt b5 [.int .i64 pre.length], pt b4 [.bool false], pt b3 [.pointer (some ⟨r, 0, none⟩)], rowA q0 es.length (es.flatMap enC), pt r [.int .i64 first, .slice q es.length c, .slice q2 es.length c2], rowA q es.length ((lsV es).flatMap lnC), rowA q2 es.length ((txV es).flatMap txC)])
    (fun _ _ => False) (Ent.refl _) (fun _ => rfl) (by decide) ?_ ?_ (fun _ _ h => h.elim)
  · intro pre x hpre l fm rec1
    obtain ⟨e, he, rfl⟩ := allV_pre hpre
    have hlt : pre.length < es.length := (List.getElem?_eq_some_iff.1 he).1
    have hw : IntKind.i64.wrap ((pre.length : Int) + 1) = (((pre ++ [(first + pre.length, e)]).length : Nat) : Int) := by rw [wrap_i64]; simp; split <;> omega
    have hwf : IntKind.i64.wrap (first + (pre.length : Int)) = first + pre.length := by rw [wrap_i64]; split <;> omega
    have hl : (lsV es)[pre.length]? = some e.1 := by simp [lsV, he]
    have ht : (txV es)[pre.length]? = some e.2 := by simp [txV, he]
    refine CW.ent (Rm.to (A := rowA q es.length ((lsV es).flatMap lnC)) (by repeat (first | exact Rm.h | apply Rm.t)) (row_open (by omega))) ?_
    refine CW.open_ fun y => ?_
    obtain ⟨g, rest⟩ := y
    refine CW.pure_ fun hv => ?_
    simp only at hv
    subst hv
    refine CW.ent (Rm.to (A := rowA q2 es.length ((txV es).flatMap txC)) (by repeat (first | exact Rm.h | apply Rm.t)) (row_open (by omega))) ?_
    refine CW.open_ fun y => ?_
    obtain ⟨g2, rest2⟩ := y
    refine CW.pure_ fun hv => ?_
    simp only at hv
    subst hv
    (repeat (first | refine CW.seq ?_ | refine CW.region tt_ok rfl ?_ | refine CW.regionD tt_ok (by kernel_rfl) pl18_0 (by decide +kernel) ?_ | refine CW.regionD tt_ok (by kernel_rfl) pl18_1 (by decide +kernel) ?_ | refine CW.block ?_ | refine CW.skip ?_ | refine SQ.nil ?_ | refine SQ.pures1 tt_ok rfl ?_ | refine SQ.pure1 tt_ok rfl ?_ | refine SQ.new _ _ rfl rfl (fun _ => ?_) | refine SQ.ldA tt_ok rfl rfl (by repeat (first | exact .h | exact .q | apply At.t)) (by rfl) ?_ | refine SQ.stA tt_ok rfl rfl (by repeat (first | apply Up.h | apply Up.t)) (by rfl) (by rfl) (by repeat (first | exact trivial | refine ⟨trivial, ?_⟩ | refine ⟨wk (by repeat (first | exact .h | exact .q | apply At.t)) (by rfl), ?_⟩)) ?_ | refine CW.cond_tt rfl ?_ | refine CW.cond_ff rfl ?_))
    intro fm2 rec2
    (repeat (first | refine CW.seq ?_ | refine CW.region tt_ok rfl ?_ | refine CW.regionD tt_ok (by kernel_rfl) pl18_0 (by decide +kernel) ?_ | refine CW.regionD tt_ok (by kernel_rfl) pl18_1 (by decide +kernel) ?_ | refine CW.block ?_ | refine CW.skip ?_ | refine SQ.nil ?_ | refine SQ.pures1 tt_ok rfl ?_ | refine SQ.pure1 tt_ok rfl ?_ | refine SQ.new _ _ rfl rfl (fun _ => ?_) | refine SQ.ldA tt_ok rfl rfl (by repeat (first | exact .h | exact .q | apply At.t)) (by rfl) ?_ | refine SQ.stA tt_ok rfl rfl (by repeat (first | apply Up.h | apply Up.t)) (by rfl) (by rfl) (by repeat (first | exact trivial | refine ⟨trivial, ?_⟩ | refine ⟨wk (by repeat (first | exact .h | exact .q | apply At.t)) (by rfl), ?_⟩)) ?_ | refine CW.cond_tt rfl ?_ | refine CW.cond_ff rfl ?_))
    rw [decide_eq_false (show ¬ ((pre.length : Int) ≥ (es.length : Int)) by omega)]
    (repeat (first | refine CW.seq ?_ | refine CW.region tt_ok rfl ?_ | refine CW.regionD tt_ok (by kernel_rfl) pl18_0 (by decide +kernel) ?_ | refine CW.regionD tt_ok (by kernel_rfl) pl18_1 (by decide +kernel) ?_ | refine CW.block ?_ | refine CW.skip ?_ | refine SQ.nil ?_ | refine SQ.pures1 tt_ok rfl ?_ | refine SQ.pure1 tt_ok rfl ?_ | refine SQ.new _ _ rfl rfl (fun _ => ?_) | refine SQ.ldA tt_ok rfl rfl (by repeat (first | exact .h | exact .q | apply At.t)) (by rfl) ?_ | refine SQ.stA tt_ok rfl rfl (by repeat (first | apply Up.h | apply Up.t)) (by rfl) (by rfl) (by repeat (first | exact trivial | refine ⟨trivial, ?_⟩ | refine ⟨wk (by repeat (first | exact .h | exact .q | apply At.t)) (by rfl), ?_⟩)) ?_ | refine CW.cond_tt rfl ?_ | refine CW.cond_ff rfl ?_))
    rw [hwf, show ((first + (pre.length : Int)) != (first + (pre.length : Int))) = false by simp]
    (repeat (first | refine CW.seq ?_ | refine CW.region tt_ok rfl ?_ | refine CW.regionD tt_ok (by kernel_rfl) pl18_0 (by decide +kernel) ?_ | refine CW.regionD tt_ok (by kernel_rfl) pl18_1 (by decide +kernel) ?_ | refine CW.block ?_ | refine CW.skip ?_ | refine SQ.nil ?_ | refine SQ.pures1 tt_ok rfl ?_ | refine SQ.pure1 tt_ok rfl ?_ | refine SQ.new _ _ rfl rfl (fun _ => ?_) | refine SQ.ldA tt_ok rfl rfl (by repeat (first | exact .h | exact .q | apply At.t)) (by rfl) ?_ | refine SQ.stA tt_ok rfl rfl (by repeat (first | apply Up.h | apply Up.t)) (by rfl) (by rfl) (by repeat (first | exact trivial | refine ⟨trivial, ?_⟩ | refine ⟨wk (by repeat (first | exact .h | exact .q | apply At.t)) (by rfl), ?_⟩)) ?_ | refine CW.cond_tt rfl ?_ | refine CW.cond_ff rfl ?_))
    refine SQ.idx tt_ok rfl rfl pre.length rfl hlt (o' := 0 + pre.length * 7) rfl ?_
    refine SQ.ldA tt_ok rfl rfl (by repeat (first | exact .h | exact .q | apply At.t)) (rd_ln hl rest) ?_
    refine SQ.eqn tt_ok [38, 36] ⟨by kernel_rfl, by kernel_rfl, trivial⟩ rfl rfl (by kernel_rfl) false (by simp) ?_
    (repeat (first | refine CW.seq ?_ | refine CW.region tt_ok rfl ?_ | refine CW.regionD tt_ok (by kernel_rfl) pl18_0 (by decide +kernel) ?_ | refine CW.regionD tt_ok (by kernel_rfl) pl18_1 (by decide +kernel) ?_ | refine CW.block ?_ | refine CW.skip ?_ | refine SQ.nil ?_ | refine SQ.pures1 tt_ok rfl ?_ | refine SQ.pure1 tt_ok rfl ?_ | refine SQ.new _ _ rfl rfl (fun _ => ?_) | refine SQ.ldA tt_ok rfl rfl (by repeat (first | exact .h | exact .q | apply At.t)) (by rfl) ?_ | refine SQ.stA tt_ok rfl rfl (by repeat (first | apply Up.h | apply Up.t)) (by rfl) (by rfl) (by repeat (first | exact trivial | refine ⟨trivial, ?_⟩ | refine ⟨wk (by repeat (first | exact .h | exact .q | apply At.t)) (by rfl), ?_⟩)) ?_ | refine CW.cond_tt rfl ?_ | refine CW.cond_ff rfl ?_))
    refine SQ.idx tt_ok rfl rfl pre.length rfl hlt (o' := 0 + pre.length * 1) rfl ?_
    refine SQ.ldA tt_ok rfl rfl (by repeat (first | exact .h | exact .q | apply At.t)) (rd_tx ht rest2) ?_
    (repeat (first | refine CW.seq ?_ | refine CW.region tt_ok rfl ?_ | refine CW.regionD tt_ok (by kernel_rfl) pl18_0 (by decide +kernel) ?_ | refine CW.regionD tt_ok (by kernel_rfl) pl18_1 (by decide +kernel) ?_ | refine CW.block ?_ | refine CW.skip ?_ | refine SQ.nil ?_ | refine SQ.pures1 tt_ok rfl ?_ | refine SQ.pure1 tt_ok rfl ?_ | refine SQ.new _ _ rfl rfl (fun _ => ?_) | refine SQ.ldA tt_ok rfl rfl (by repeat (first | exact .h | exact .q | apply At.t)) (by rfl) ?_ | refine SQ.stA tt_ok rfl rfl (by repeat (first | apply Up.h | apply Up.t)) (by rfl) (by rfl) (by repeat (first | exact trivial | refine ⟨trivial, ?_⟩ | refine ⟨wk (by repeat (first | exact .h | exact .q | apply At.t)) (by rfl), ?_⟩)) ?_ | refine CW.cond_tt rfl ?_ | refine CW.cond_ff rfl ?_))
    rw [show (!(e.2.toList == e.2.toList)) = false by simp]
    (repeat (first | refine CW.seq ?_ | refine CW.region tt_ok rfl ?_ | refine CW.regionD tt_ok (by kernel_rfl) pl18_0 (by decide +kernel) ?_ | refine CW.regionD tt_ok (by kernel_rfl) pl18_1 (by decide +kernel) ?_ | refine CW.block ?_ | refine CW.skip ?_ | refine SQ.nil ?_ | refine SQ.pures1 tt_ok rfl ?_ | refine SQ.pure1 tt_ok rfl ?_ | refine SQ.new _ _ rfl rfl (fun _ => ?_) | refine SQ.ldA tt_ok rfl rfl (by repeat (first | exact .h | exact .q | apply At.t)) (by rfl) ?_ | refine SQ.stA tt_ok rfl rfl (by repeat (first | apply Up.h | apply Up.t)) (by rfl) (by rfl) (by repeat (first | exact trivial | refine ⟨trivial, ?_⟩ | refine ⟨wk (by repeat (first | exact .h | exact .q | apply At.t)) (by rfl), ?_⟩)) ?_ | refine CW.cond_tt rfl ?_ | refine CW.cond_ff rfl ?_))
    rw [← hw]
    refine Ent.trans (Rm.to (A := pt g ((lsV es).flatMap lnC ++ rest)) (by repeat (first | exact Rm.h | apply Rm.t)) (row_close (n := es.length))) ?_
    refine Ent.trans (Rm.to (A := pt g2 ((txV es).flatMap txC ++ rest2)) (by repeat (first | exact Rm.h | apply Rm.t)) (row_close (n := es.length))) ?_
    exact (Tk.ent (by repeat (first | exact .n | exact Rm.h | apply Tk.c | apply Rm.t)))
  · (repeat (first | refine CW.seq ?_ | refine CW.region tt_ok rfl ?_ | refine CW.regionD tt_ok (by kernel_rfl) pl18_0 (by decide +kernel) ?_ | refine CW.regionD tt_ok (by kernel_rfl) pl18_1 (by decide +kernel) ?_ | refine CW.block ?_ | refine CW.skip ?_ | refine SQ.nil ?_ | refine SQ.pures1 tt_ok rfl ?_ | refine SQ.pure1 tt_ok rfl ?_ | refine SQ.new _ _ rfl rfl (fun _ => ?_) | refine SQ.ldA tt_ok rfl rfl (by repeat (first | exact .h | exact .q | apply At.t)) (by rfl) ?_ | refine SQ.stA tt_ok rfl rfl (by repeat (first | apply Up.h | apply Up.t)) (by rfl) (by rfl) (by repeat (first | exact trivial | refine ⟨trivial, ?_⟩ | refine ⟨wk (by repeat (first | exact .h | exact .q | apply At.t)) (by rfl), ?_⟩)) ?_ | refine CW.cond_tt rfl ?_ | refine CW.cond_ff rfl ?_))
    rw [allV_len, show ((es.length : Int) == (es.length : Int)) = true by simp]
    (repeat (first | refine CW.seq ?_ | refine CW.region tt_ok rfl ?_ | refine CW.regionD tt_ok (by kernel_rfl) pl18_0 (by decide +kernel) ?_ | refine CW.regionD tt_ok (by kernel_rfl) pl18_1 (by decide +kernel) ?_ | refine CW.block ?_ | refine CW.skip ?_ | refine SQ.nil ?_ | refine SQ.pures1 tt_ok rfl ?_ | refine SQ.pure1 tt_ok rfl ?_ | refine SQ.new _ _ rfl rfl (fun _ => ?_) | refine SQ.ldA tt_ok rfl rfl (by repeat (first | exact .h | exact .q | apply At.t)) (by rfl) ?_ | refine SQ.stA tt_ok rfl rfl (by repeat (first | apply Up.h | apply Up.t)) (by rfl) (by rfl) (by repeat (first | exact trivial | refine ⟨trivial, ?_⟩ | refine ⟨wk (by repeat (first | exact .h | exact .q | apply At.t)) (by rfl), ?_⟩)) ?_ | refine CW.cond_tt rfl ?_ | refine CW.cond_ff rfl ?_))
    refine CW.ret (fin_cells [_] ⟨⟨_, _, _, _, 1, rfl, rfl, rfl, rfl⟩, trivial⟩ (A := [pt b [.int .i64 first, .slice q0 es.length c0], rowA q0 es.length (es.flatMap enC), pt r [.int .i64 first, .slice q es.length c, .slice q2 es.length c2], rowA q es.length ((lsV es).flatMap lnC), rowA q2 es.length ((txV es).flatMap txC)]) (Tk.ent (by repeat (first | exact .n | exact Rm.h | apply Tk.c | apply Rm.t))) ⟨rfl, rfl⟩)
end Go.Proofs.Ytmaheecbohbilaa.Sl
