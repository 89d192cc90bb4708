import Derived.Test.YtmaheecbohbilaaFr
import Derived.Test.YtmaheecbohbilaaFp
import Derived.Test.YtmaheecbohbilaaFo
namespace Go.Proofs.Ytmaheecbohbilaa.Sl
open Go Go.RowKit Go.Proofs
set_option linter.unusedVariables false
set_option linter.unusedSimpArgs false
attribute [local irreducible] CW Tri OW
set_option maxRecDepth 10000
@[reducible] def pl36_0 : Plan := [(0, 0, []), (1, 0, []), (2, 0, []), (3, 0, []), (4, 0, []), (5, 0, []), (6, 0, []), (7, 0, []), (8, 0, []), (9, 0, []), (10, 0, []), (11, 0, []), (12, 0, []), (13, 0, []), (14, 1, [3, 8, 12]), (15, 0, []), (16, 0, []), (17, 1, [])]
/-- Where an interrupt stands in the document's bank. -/
def atD (first : Int) (n : Nat) (id : Int) : Int := if first ≤ id ∧ id - first < n then id - first else -1
theorem at37d (β : Base) (b : Nat) {first : Int} (id : Int) (p : Option Addr) {n : Nat} (c : Nat) (S2 : Value) (hf0 : 0 ≤ first) (hf1 : first ≤ 16384) (hn : n ≤ 16384) (h2 : vcells S2 = [S2]) :
    Tri Try.prog β 37 [.pointer (some ⟨b, 0, none⟩), .int .i64 id] [pt b [.int .i64 first, .slice p n c, S2]] (fun v L => v = .int .i64 (atD first n id) ∧ L = [pt b [.int .i64 first, .slice p n c, S2]]) := by
  refine Tri.intro tt_ok Try.func37 rfl rfl Try.ntmps37 rfl fun F => ?_
  (repeat (first | refine CW.seq ?_ | refine CW.region tt_ok rfl ?_ | refine CW.block ?_ | refine CW.skip ?_ | refine SQ.nil ?_ | refine SQ.pures1 tt_ok rfl ?_ | refine SQ.pure1 tt_ok rfl ?_ | refine SQ.new _ _ rfl rfl (fun _ => ?_) | refine SQ.ldA tt_ok rfl rfl (by repeat (first | exact .h | exact .q | apply At.t)) (by rfl) ?_ | refine SQ.stA tt_ok rfl rfl (by repeat (first | apply Up.h | apply Up.t)) (by rfl) (by rfl) (by exact trivial) ?_ | refine CW.cond_tt rfl ?_ | refine CW.cond_ff rfl ?_))
  refine CW.loop (α := Nat) (fun k => k ≤ n ∧ ¬ (first ≤ id ∧ id - first < k)) (fun k => [(5, .int .i64 k), (0, .pointer (some ⟨b, 0, none⟩)), (1, .int .i64 id)]) (fun _ => [pt b [.int .i64 first, .slice p n c, S2]]) (fun k => n - k) 0 ⟨by omega, by omega⟩ ⟨rfl, rfl, rfl, trivial⟩ (Ent.refl _) ?_
  rintro k ⟨hk, hb⟩
  (repeat (first | refine CW.seq ?_ | refine CW.region tt_ok rfl ?_ | refine CW.block ?_ | refine CW.skip ?_ | refine SQ.nil ?_ | refine SQ.pures1 tt_ok rfl ?_ | refine SQ.pure1 tt_ok rfl ?_ | refine SQ.new _ _ rfl rfl (fun _ => ?_) | refine SQ.ldA tt_ok rfl rfl (by repeat (first | exact .h | exact .q | apply At.t)) (by rfl) ?_ | refine SQ.stA tt_ok rfl rfl (by repeat (first | apply Up.h | apply Up.t)) (by rfl) (by rfl) (by exact trivial) ?_ | refine CW.cond_tt rfl ?_ | refine CW.cond_ff rfl ?_))
  generalize e1 : decide ((k : Int) < (n : Int)) = cc
  cases cc
  · have : k = n := by simp at e1; omega
    subst this
    (repeat (first | refine CW.seq ?_ | refine CW.region tt_ok rfl ?_ | refine CW.block ?_ | refine CW.skip ?_ | refine SQ.nil ?_ | refine SQ.pures1 tt_ok rfl ?_ | refine SQ.pure1 tt_ok rfl ?_ | refine SQ.new _ _ rfl rfl (fun _ => ?_) | refine SQ.ldA tt_ok rfl rfl (by repeat (first | exact .h | exact .q | apply At.t)) (by rfl) ?_ | refine SQ.stA tt_ok rfl rfl (by repeat (first | apply Up.h | apply Up.t)) (by rfl) (by rfl) (by exact trivial) ?_ | refine CW.cond_tt rfl ?_ | refine CW.cond_ff rfl ?_))
    refine CW.exit ?_
    (repeat (first | refine CW.seq ?_ | refine CW.region tt_ok rfl ?_ | refine CW.block ?_ | refine CW.skip ?_ | refine SQ.nil ?_ | refine SQ.pures1 tt_ok rfl ?_ | refine SQ.pure1 tt_ok rfl ?_ | refine SQ.new _ _ rfl rfl (fun _ => ?_) | refine SQ.ldA tt_ok rfl rfl (by repeat (first | exact .h | exact .q | apply At.t)) (by rfl) ?_ | refine SQ.stA tt_ok rfl rfl (by repeat (first | apply Up.h | apply Up.t)) (by rfl) (by rfl) (by exact trivial) ?_ | refine CW.cond_tt rfl ?_ | refine CW.cond_ff rfl ?_))
    refine CW.ret (fin_ret rfl (Ent.refl _) ⟨?_, rfl⟩)
    unfold atD
    rw [if_neg hb]; rfl
  · have hlt : k < n := by simp at e1; omega
    have hw : IntKind.i64.wrap ((k : Int) + 1) = ((k + 1 : Nat) : Int) := by rw [wrap_i64]; split <;> omega
    have hwf : IntKind.i64.wrap (first + (k : Int)) = first + (k : Int) := by rw [wrap_i64]; split <;> omega
    (repeat (first | refine CW.seq ?_ | refine CW.region tt_ok rfl ?_ | refine CW.block ?_ | refine CW.skip ?_ | refine SQ.nil ?_ | refine SQ.pures1 tt_ok rfl ?_ | refine SQ.pure1 tt_ok rfl ?_ | refine SQ.new _ _ rfl rfl (fun _ => ?_) | refine SQ.ldA tt_ok rfl rfl (by repeat (first | exact .h | exact .q | apply At.t)) (by rfl) ?_ | refine SQ.stA tt_ok rfl rfl (by repeat (first | apply Up.h | apply Up.t)) (by rfl) (by rfl) (by exact trivial) ?_ | refine CW.cond_tt rfl ?_ | refine CW.cond_ff rfl ?_))
    rw [hwf]
    by_cases hid : first + (k : Int) = id
    · rw [show (first + (k : Int) == id) = true by simp [hid]]
      (repeat (first | refine CW.seq ?_ | refine CW.region tt_ok rfl ?_ | refine CW.block ?_ | refine CW.skip ?_ | refine SQ.nil ?_ | refine SQ.pures1 tt_ok rfl ?_ | refine SQ.pure1 tt_ok rfl ?_ | refine SQ.new _ _ rfl rfl (fun _ => ?_) | refine SQ.ldA tt_ok rfl rfl (by repeat (first | exact .h | exact .q | apply At.t)) (by rfl) ?_ | refine SQ.stA tt_ok rfl rfl (by repeat (first | apply Up.h | apply Up.t)) (by rfl) (by rfl) (by exact trivial) ?_ | refine CW.cond_tt rfl ?_ | refine CW.cond_ff rfl ?_))
      refine CW.ret (fin_ret rfl (Ent.refl _) ⟨?_, rfl⟩)
      unfold atD
      rw [if_pos (by omega)]
      show Value.int .i64 (k : Int) = _
      congr 1; omega
    · rw [show (first + (k : Int) == id) = false by simp [hid]]
      (repeat (first | refine CW.seq ?_ | refine CW.region tt_ok rfl ?_ | refine CW.block ?_ | refine CW.skip ?_ | refine SQ.nil ?_ | refine SQ.pures1 tt_ok rfl ?_ | refine SQ.pure1 tt_ok rfl ?_ | refine SQ.new _ _ rfl rfl (fun _ => ?_) | refine SQ.ldA tt_ok rfl rfl (by repeat (first | exact .h | exact .q | apply At.t)) (by rfl) ?_ | refine SQ.stA tt_ok rfl rfl (by repeat (first | apply Up.h | apply Up.t)) (by rfl) (by rfl) (by exact trivial) ?_ | refine CW.cond_tt rfl ?_ | refine CW.cond_ff rfl ?_))
      exact ⟨k + 1, ⟨by omega, by omega⟩, by omega, ⟨by rw [← hw]; rfl, rfl, rfl, trivial⟩, Ent.refl _⟩
theorem lnC_len (x : Ln) : (lnC x).length = 7 := rfl
theorem rd_ln {es : List Ln} {k : Nat} {e : Ln} (h : es[k]? = some e) (X : List Value) : rdv ti38 (es.flatMap lnC ++ X) (0 + k * 7) = some (.agg #[.bool e.1.1, .bool e.1.2.1, .bool e.1.2.2.1, .bool e.1.2.2.2, .bool e.2.1, .int .i64 e.2.2.1, .int .i64 e.2.2.2]) :=
  rd_partR (enc := lnC) (sz := 7) (fun _ => rfl) h 0 (i := ti38) rfl (by decide) (by omega) (by decide) X
theorem rd_lnq {es : List Ln} {k : Nat} {e : Ln} (h : es[k]? = some e) (X : List Value) : rdv ti36 (es.flatMap lnC ++ X) (0 + k * 7) = some (.agg #[.bool e.1.1, .bool e.1.2.1, .bool e.1.2.2.1, .bool e.1.2.2.2]) :=
  rd_partR (enc := lnC) (sz := 7) (fun _ => rfl) h 0 (i := ti36) rfl (by decide) (by omega) (by decide) X
theorem wr_lnq {es : List Ln} {k : Nat} {e : Ln} (h : es[k]? = some e) (q : Iq) (X : List Value) : wrv ti36 (es.flatMap lnC ++ X) (0 + k * 7) (.agg #[.bool q.1, .bool q.2.1, .bool q.2.2.1, .bool q.2.2.2]) = some ((es.set k (q, e.2)).flatMap lnC ++ X) :=
  wr_encR (enc := lnC) (sz := 7) (fun _ => rfl) h 0 (i := ti36) (by decide) rfl rfl (by omega) X
theorem wr_ln {es : List Ln} {k : Nat} {e : Ln} (h : es[k]? = some e) (q : Ln) (X : List Value) : wrv ti38 (es.flatMap lnC ++ X) (0 + k * 7) (.agg #[.bool q.1.1, .bool q.1.2.1, .bool q.1.2.2.1, .bool q.1.2.2.2, .bool q.2.1, .int .i64 q.2.2.1, .int .i64 q.2.2.2]) = some ((es.set k q).flatMap lnC ++ X) :=
  wr_encR (enc := lnC) (sz := 7) (fun _ => rfl) h 0 (i := ti38) (by decide) rfl rfl (by omega) X
/-- What befalls an interrupt of the document's bank. -/
def doD (first : Int) (ls : List Ln) (id x : Int) : List Ln × Int := if first ≤ id ∧ id - first < ls.length then
  (match ls[(id - first).toNat]? with
  | some l => (ls.set (id - first).toNat (stepI l.1 x, l.2), 0)
  | none => (ls, 0)) else (ls, 90)
theorem doD_len (first : Int) (ls : List Ln) (id x : Int) : (doD first ls id x).1.length = ls.length := by
  unfold doD; split
  · split <;> simp
  · rfl
set_option maxHeartbeats 2000000 in
theorem do36 (β : Base) (b : Nat) {first : Int} (id x : Int) (q : Option Addr) (c : Nat) (S2 : Value) (ls : List Ln) (hf0 : 0 ≤ first) (hf1 : first ≤ 16384) (hn : ls.length ≤ 16384) (h2 : vcells S2 = [S2]) :
    Tri Try.prog β 36 [.pointer (some ⟨b, 0, none⟩), .int .i64 id, .int .i64 x] (rbA b first q c S2 ls) (fun v L => v = .int .i64 (doD first ls id x).2 ∧ L = rbA b first q c S2 (doD first ls id x).1) := by
  refine Tri.intro tt_ok Try.func36 rfl rfl Try.ntmps36 rfl fun F => ?_
  unfold rbA
  rw [doD_len]
  (repeat (first | refine CW.seq ?_ | refine CW.region tt_ok rfl ?_ | refine CW.regionD tt_ok (by kernel_rfl) pl36_0 (by decide +kernel) ?_ | refine CW.block ?_ | refine CW.skip ?_ | refine SQ.nil ?_ | refine SQ.pures1 tt_ok rfl ?_ | refine SQ.pure1 tt_ok rfl ?_ | refine SQ.new _ _ rfl rfl (fun _ => ?_) | refine SQ.ldA tt_ok rfl rfl (by repeat (first | exact .h | exact .q | apply At.t)) (by rfl) ?_ | refine SQ.stA tt_ok rfl rfl (by repeat (first | apply Up.h | apply Up.t)) (by rfl) (by rfl) (by repeat (first | exact trivial | refine ⟨trivial, ?_⟩ | refine ⟨wk (by repeat (first | exact .h | exact .q | apply At.t)) (by rfl), ?_⟩)) ?_ | refine CW.cond_tt rfl ?_ | refine CW.cond_ff rfl ?_))
  (refine SQ.call rfl rfl (at37d β b id q c S2 hf0 hf1 hn h2) [0] rfl ?_; rintro _ _ ⟨rfl, rfl⟩; refine ⟨(by repeat (first | exact trivial | refine ⟨trivial, ?_⟩ | refine ⟨wk (by repeat (first | exact .h | exact .q | apply At.t)) (by rfl), ?_⟩)), ?_⟩)
  (repeat (first | refine CW.seq ?_ | refine CW.region tt_ok rfl ?_ | refine CW.regionD tt_ok (by kernel_rfl) pl36_0 (by decide +kernel) ?_ | refine CW.block ?_ | refine CW.skip ?_ | refine SQ.nil ?_ | refine SQ.pures1 tt_ok rfl ?_ | refine SQ.pure1 tt_ok rfl ?_ | refine SQ.new _ _ rfl rfl (fun _ => ?_) | refine SQ.ldA tt_ok rfl rfl (by repeat (first | exact .h | exact .q | apply At.t)) (by rfl) ?_ | refine SQ.stA tt_ok rfl rfl (by repeat (first | apply Up.h | apply Up.t)) (by rfl) (by rfl) (by repeat (first | exact trivial | refine ⟨trivial, ?_⟩ | refine ⟨wk (by repeat (first | exact .h | exact .q | apply At.t)) (by rfl), ?_⟩)) ?_ | refine CW.cond_tt rfl ?_ | refine CW.cond_ff rfl ?_))
  by_cases hin : first ≤ id ∧ id - first < ls.length
  · have hat : atD first ls.length id = id - first := by unfold atD; rw [if_pos hin]
    have hkl : (id - first).toNat < ls.length := by omega
    obtain ⟨l, hl⟩ : ∃ l, ls[(id - first).toNat]? = some l := ⟨_, List.getElem?_eq_getElem hkl⟩
    have hd : doD first ls id x = (ls.set (id - first).toNat (stepI l.1 x, l.2), 0) := by unfold doD; rw [if_pos hin, hl]
    rw [hat, decide_eq_false (show ¬ id - first < 0 by omega), hd]
    refine CW.ent (Ent.append (L := [_]) (L' := [_]) (Ent.refl _) (row_open (show 0 < ls.length by omega))) ?_
    refine CW.ent (Ent.sel (is := [1, 0]) rfl) ?_
    refine CW.open_ fun y => ?_
    obtain ⟨g, rest⟩ := y
    refine CW.pure_ fun hv => ?_
    simp only at hv
    subst hv
    (repeat (first | refine CW.seq ?_ | refine CW.region tt_ok rfl ?_ | refine CW.regionD tt_ok (by kernel_rfl) pl36_0 (by decide +kernel) ?_ | refine CW.block ?_ | refine CW.skip ?_ | refine SQ.nil ?_ | refine SQ.pures1 tt_ok rfl ?_ | refine SQ.pure1 tt_ok rfl ?_ | refine SQ.new _ _ rfl rfl (fun _ => ?_) | refine SQ.ldA tt_ok rfl rfl (by repeat (first | exact .h | exact .q | apply At.t)) (by rfl) ?_ | refine SQ.stA tt_ok rfl rfl (by repeat (first | apply Up.h | apply Up.t)) (by rfl) (by rfl) (by repeat (first | exact trivial | refine ⟨trivial, ?_⟩ | refine ⟨wk (by repeat (first | exact .h | exact .q | apply At.t)) (by rfl), ?_⟩)) ?_ | refine CW.cond_tt rfl ?_ | refine CW.cond_ff rfl ?_))
    refine SQ.idx tt_ok rfl rfl (id - first).toNat (by omega) hkl (o' := 0 + (id - first).toNat * 7) rfl ?_
    (repeat (first | refine CW.seq ?_ | refine CW.region tt_ok rfl ?_ | refine CW.regionD tt_ok (by kernel_rfl) pl36_0 (by decide +kernel) ?_ | refine CW.block ?_ | refine CW.skip ?_ | refine SQ.nil ?_ | refine SQ.pures1 tt_ok rfl ?_ | refine SQ.pure1 tt_ok rfl ?_ | refine SQ.new _ _ rfl rfl (fun _ => ?_) | refine SQ.ldA tt_ok rfl rfl (by repeat (first | exact .h | exact .q | apply At.t)) (by rfl) ?_ | refine SQ.stA tt_ok rfl rfl (by repeat (first | apply Up.h | apply Up.t)) (by rfl) (by rfl) (by repeat (first | exact trivial | refine ⟨trivial, ?_⟩ | refine ⟨wk (by repeat (first | exact .h | exact .q | apply At.t)) (by rfl), ?_⟩)) ?_ | refine CW.cond_tt rfl ?_ | refine CW.cond_ff rfl ?_))
    refine SQ.load tt_ok rfl rfl 0 rfl (rd_lnq hl rest) ?_
    (repeat (first | refine CW.seq ?_ | refine CW.region tt_ok rfl ?_ | refine CW.regionD tt_ok (by kernel_rfl) pl36_0 (by decide +kernel) ?_ | refine CW.block ?_ | refine CW.skip ?_ | refine SQ.nil ?_ | refine SQ.pures1 tt_ok rfl ?_ | refine SQ.pure1 tt_ok rfl ?_ | refine SQ.new _ _ rfl rfl (fun _ => ?_) | refine SQ.ldA tt_ok rfl rfl (by repeat (first | exact .h | exact .q | apply At.t)) (by rfl) ?_ | refine SQ.stA tt_ok rfl rfl (by repeat (first | apply Up.h | apply Up.t)) (by rfl) (by rfl) (by repeat (first | exact trivial | refine ⟨trivial, ?_⟩ | refine ⟨wk (by repeat (first | exact .h | exact .q | apply At.t)) (by rfl), ?_⟩)) ?_ | refine CW.cond_tt rfl ?_ | refine CW.cond_ff rfl ?_))
    (refine SQ.call rfl rfl (step55' β _ _ _ _ _) [] rfl ?_; rintro _ _ ⟨rfl, rfl⟩; refine ⟨(by repeat (first | exact trivial | refine ⟨trivial, ?_⟩ | refine ⟨⟨0, true, _, rfl, rd_lnq hl rest⟩, ?_⟩ | refine ⟨wk (by repeat (first | exact .h | exact .q | apply At.t)) (by rfl), ?_⟩)), ?_⟩)
    (repeat (first | refine CW.seq ?_ | refine CW.region tt_ok rfl ?_ | refine CW.regionD tt_ok (by kernel_rfl) pl36_0 (by decide +kernel) ?_ | refine CW.block ?_ | refine CW.skip ?_ | refine SQ.nil ?_ | refine SQ.pures1 tt_ok rfl ?_ | refine SQ.pure1 tt_ok rfl ?_ | refine SQ.new _ _ rfl rfl (fun _ => ?_) | refine SQ.ldA tt_ok rfl rfl (by repeat (first | exact .h | exact .q | apply At.t)) (by rfl) ?_ | refine SQ.stA tt_ok rfl rfl (by repeat (first | apply Up.h | apply Up.t)) (by rfl) (by rfl) (by repeat (first | exact trivial | refine ⟨trivial, ?_⟩ | refine ⟨wk (by repeat (first | exact .h | exact .q | apply At.t)) (by rfl), ?_⟩)) ?_ | refine CW.cond_tt rfl ?_ | refine CW.cond_ff rfl ?_))
    refine SQ.idx tt_ok rfl rfl (id - first).toNat (by omega) hkl (o' := 0 + (id - first).toNat * 7) rfl ?_
    (repeat (first | refine CW.seq ?_ | refine CW.region tt_ok rfl ?_ | refine CW.regionD tt_ok (by kernel_rfl) pl36_0 (by decide +kernel) ?_ | refine CW.block ?_ | refine CW.skip ?_ | refine SQ.nil ?_ | refine SQ.pures1 tt_ok rfl ?_ | refine SQ.pure1 tt_ok rfl ?_ | refine SQ.new _ _ rfl rfl (fun _ => ?_) | refine SQ.ldA tt_ok rfl rfl (by repeat (first | exact .h | exact .q | apply At.t)) (by rfl) ?_ | refine SQ.stA tt_ok rfl rfl (by repeat (first | apply Up.h | apply Up.t)) (by rfl) (by rfl) (by repeat (first | exact trivial | refine ⟨trivial, ?_⟩ | refine ⟨wk (by repeat (first | exact .h | exact .q | apply At.t)) (by rfl), ?_⟩)) ?_ | refine CW.cond_tt rfl ?_ | refine CW.cond_ff rfl ?_))
    refine SQ.store tt_ok rfl rfl 0 rfl rfl (wr_lnq hl (stepI l.1 x) rest) rfl (by repeat (first | exact trivial | refine ⟨trivial, ?_⟩ | refine ⟨wk (by repeat (first | exact .h | exact .q | apply At.t)) (by rfl), ?_⟩)) ?_
    (repeat (first | refine CW.seq ?_ | refine CW.region tt_ok rfl ?_ | refine CW.regionD tt_ok (by kernel_rfl) pl36_0 (by decide +kernel) ?_ | refine CW.block ?_ | refine CW.skip ?_ | refine SQ.nil ?_ | refine SQ.pures1 tt_ok rfl ?_ | refine SQ.pure1 tt_ok rfl ?_ | refine SQ.new _ _ rfl rfl (fun _ => ?_) | refine SQ.ldA tt_ok rfl rfl (by repeat (first | exact .h | exact .q | apply At.t)) (by rfl) ?_ | refine SQ.stA tt_ok rfl rfl (by repeat (first | apply Up.h | apply Up.t)) (by rfl) (by rfl) (by repeat (first | exact trivial | refine ⟨trivial, ?_⟩ | refine ⟨wk (by repeat (first | exact .h | exact .q | apply At.t)) (by rfl), ?_⟩)) ?_ | refine CW.cond_tt rfl ?_ | refine CW.cond_ff rfl ?_))
    refine CW.ret (fin_ret rfl (Ent.trans (Ent.append (L := [_]) (L' := [_]) row_close (Ent.refl _)) (Ent.sel (is := [1, 0]) rfl)) ⟨rfl, rfl⟩)
  · have hat : atD first ls.length id = -1 := by unfold atD; rw [if_neg hin]
    have hd : doD first ls id x = (ls, 90) := by unfold doD; rw [if_neg hin]
    rw [hat, hd]
    (repeat (first | refine CW.seq ?_ | refine CW.region tt_ok rfl ?_ | refine CW.regionD tt_ok (by kernel_rfl) pl36_0 (by decide +kernel) ?_ | refine CW.block ?_ | refine CW.skip ?_ | refine SQ.nil ?_ | refine SQ.pures1 tt_ok rfl ?_ | refine SQ.pure1 tt_ok rfl ?_ | refine SQ.new _ _ rfl rfl (fun _ => ?_) | refine SQ.ldA tt_ok rfl rfl (by repeat (first | exact .h | exact .q | apply At.t)) (by rfl) ?_ | refine SQ.stA tt_ok rfl rfl (by repeat (first | apply Up.h | apply Up.t)) (by rfl) (by rfl) (by repeat (first | exact trivial | refine ⟨trivial, ?_⟩ | refine ⟨wk (by repeat (first | exact .h | exact .q | apply At.t)) (by rfl), ?_⟩)) ?_ | refine CW.cond_tt rfl ?_ | refine CW.cond_ff rfl ?_))
    refine CW.ret (fin_ret rfl (Ent.refl _) ⟨rfl, rfl⟩)
end Go.Proofs.Ytmaheecbohbilaa.Sl
