import Derived.Test.YtmaheecbohbilaaFs
namespace Go.Proofs.Ytmaheecbohbilaa.Sl
open Go Go.RowKit Go.Proofs
set_option linter.unusedVariables false
set_option linter.unusedSimpArgs false
attribute [local irreducible] CW Tri OW
set_option maxRecDepth 10000
@[reducible] def pl34_0 : Plan := [(0, 0, []), (1, 0, []), (2, 0, []), (3, 0, []), (4, 0, []), (5, 0, []), (6, 0, []), (7, 0, []), (8, 0, []), (9, 0, []), (10, 0, []), (11, 0, []), (12, 0, []), (13, 0, []), (14, 0, []), (15, 0, []), (16, 1, [1, 7, 10, 12, 14]), (17, 1, [1, 7, 10, 12, 14]), (18, 2, []), (19, 1, [])]
@[reducible] def pl34_1 : Plan := [(0, 0, []), (1, 0, []), (2, 0, []), (3, 0, []), (4, 0, []), (5, 0, []), (6, 0, []), (7, 0, []), (8, 0, [])]
@[reducible] def pl34_2 : Plan := [(0, 0, []), (1, 0, []), (2, 0, []), (3, 0, []), (4, 0, []), (5, 0, []), (6, 0, []), (7, 1, [])]
/-- The lines of a bank. -/
def lsV (es : List En) : List Ln := es.map (·.1)
theorem lsV_len (es : List En) : (lsV es).length = es.length := by simp [lsV]
theorem lsV_set (es : List En) (k : Nat) (e : En) : lsV (es.set k e) = (lsV es).set k e.1 := by simp [lsV, List.map_set]
theorem field_bit6 {v : Nat} (hv : v < 2 ^ 64) {r c k : Int} (hr : r = 4 ∨ r = 6) : fieldV v r c k = 0 ∨ fieldV v r c k = 1 := by
  by_cases h : k < 0 ∨ k ≥ c ∨ k > 64
  · exact .inl (fieldV_out h)
  · rw [fieldV_nat (n := 1) hv (by rcases hr with rfl | rfl <;> rfl) (by omega) (by omega) (by omega) (by omega)]
    omega
theorem changed53' (β : Base) (id : Int) (l : Ln) (r x : Int) (hx : r = 6 → x = 0 ∨ x = 1) : Tri Try.prog β 53 [.int .i64 id, .agg #[.bool l.1.1, .bool l.1.2.1, .bool l.1.2.2.1, .bool l.1.2.2.2, .bool l.2.1, .int .i64 l.2.2.1, .int .i64 l.2.2.2], .int .i64 r, .int .u64 x] []
    (fun v L => v = .agg #[.bool (writtenV id l r x).1.1, .bool (writtenV id l r x).1.2.1, .bool (writtenV id l r x).1.2.2.1, .bool (writtenV id l r x).1.2.2.2, .bool (writtenV id l r x).2.1, .int .i64 (writtenV id l r x).2.2.1, .int .i64 (writtenV id l r x).2.2.2] ∧ L = []) :=
  changed53 β id _ _ _ _ _ _ _ r x hx
theorem wr1_out {first : Int} {es : List En} {r f c v : Int} {k : Nat} (h : atE first es (IntKind.i64.wrap (f + k)) = none) : wrK first es r f c v (k + 1) = wrK first es r f c v (k + 1) := rfl
theorem lineq (a b : Ln) : (a.1.1 == b.1.1 && (a.1.2.1 == b.1.2.1 && (a.1.2.2.1 == b.1.2.2.1 && (a.1.2.2.2 == b.1.2.2.2 && true))) && (a.2.1 == b.2.1 && (a.2.2.1 == b.2.2.1 && (a.2.2.2 == b.2.2.2 && true)))) = decide (a = b) := by
  obtain ⟨⟨a1, a2, a3, a4⟩, a5, a6, a7⟩ := a
  obtain ⟨⟨b1, b2, b3, b4⟩, b5, b6, b7⟩ := b
  rw [Bool.eq_iff_iff]
  simp [and_assoc]
set_option maxHeartbeats 8000000 in
/-- The document's write: it does to its lines what the program does to the bank. -/
theorem write34 (β : Base) (b : Nat) {first : Int} (q : Option Addr) (c : Nat) (S2 : Value) (es : List En) (hf0 : 0 ≤ first) (hf1 : first ≤ 16384) (hn : es.length ≤ 16384) (h2 : vcells S2 = [S2]) (hok : okL es) (r f cnt : Int) {v : Nat} (hv : v < 2 ^ 64) (hc : cnt ≤ 16384) :
    Tri Try.prog β 34 [.pointer (some ⟨b, 0, none⟩), .agg #[.int .i64 r, .int .i64 f, .int .i64 cnt], .int .u64 v] (rbA b first q c S2 (lsV es)) (fun u L => u = .int .i64 (wrK first es r f cnt v (cntV cnt)).2 ∧ L = rbA b first q c S2 (lsV (wrK first es r f cnt v (cntV cnt)).1)) := by
  refine Tri.intro tt_ok Try.func34 rfl rfl Try.ntmps34 rfl fun F => ?_
  unfold rbA
  rw [lsV_len, lsV_len, wrK_len]
  (repeat (first | refine CW.seq ?_ | refine CW.region tt_ok rfl ?_ | refine CW.regionD tt_ok (by kernel_rfl) pl34_0 (by decide +kernel) ?_ | refine CW.regionD tt_ok (by kernel_rfl) pl34_1 (by decide +kernel) ?_ | refine CW.regionD tt_ok (by kernel_rfl) pl34_2 (by decide +kernel) ?_ | refine CW.block ?_ | refine CW.skip ?_ | refine SQ.nil ?_ | refine SQ.pures1 tt_ok rfl ?_ | refine SQ.pure1 tt_ok rfl ?_ | refine SQ.new _ _ rfl rfl (fun _ => ?_) | refine SQ.ldA tt_ok rfl rfl (by repeat (first | exact .h | exact .q | apply At.t)) (by rfl) ?_ | refine SQ.stA tt_ok rfl rfl (by repeat (first | apply Up.h | apply Up.t)) (by rfl) (by rfl) (by repeat (first | exact trivial | refine ⟨trivial, ?_⟩ | refine ⟨wk (by repeat (first | exact .h | exact .q | apply At.t)) (by rfl), ?_⟩)) ?_ | refine CW.cond_tt rfl ?_ | refine CW.cond_ff rfl ?_))
  rename_i b4
  refine CW.loop (α := Nat) (fun k => (k : Int) ≤ max cnt 0) (fun k => [(8, .int .i64 k), (7, .int .i64 ((wrK first es r f cnt v k).2 : Int)), (4, .pointer (some ⟨b4, 0, none⟩)), (0, .pointer (some ⟨b, 0, none⟩)), (2, .int .u64 v)])
    (fun k => [pt b4 [.int .i64 r, .int .i64 f, .int .i64 cnt], pt b [.int .i64 first, .slice q es.length c, S2], rowA q es.length ((lsV (wrK first es r f cnt v k).1).flatMap lnC)]) (fun k => cnt.toNat - k) 0 (by omega) ⟨rfl, rfl, rfl, rfl, rfl, trivial⟩ (Ent.refl _) ?_
  intro k hk
  (repeat (first | refine CW.seq ?_ | refine CW.region tt_ok rfl ?_ | refine CW.regionD tt_ok (by kernel_rfl) pl34_0 (by decide +kernel) ?_ | refine CW.regionD tt_ok (by kernel_rfl) pl34_1 (by decide +kernel) ?_ | refine CW.regionD tt_ok (by kernel_rfl) pl34_2 (by decide +kernel) ?_ | refine CW.block ?_ | refine CW.skip ?_ | refine SQ.nil ?_ | refine SQ.pures1 tt_ok rfl ?_ | refine SQ.pure1 tt_ok rfl ?_ | refine SQ.new _ _ rfl rfl (fun _ => ?_) | refine SQ.ldA tt_ok rfl rfl (by repeat (first | exact .h | exact .q | apply At.t)) (by rfl) ?_ | refine SQ.stA tt_ok rfl rfl (by repeat (first | apply Up.h | apply Up.t)) (by rfl) (by rfl) (by repeat (first | exact trivial | refine ⟨trivial, ?_⟩ | refine ⟨wk (by repeat (first | exact .h | exact .q | apply At.t)) (by rfl), ?_⟩)) ?_ | refine CW.cond_tt rfl ?_ | refine CW.cond_ff rfl ?_))
  generalize e1 : decide ((k : Int) < cnt) = cc
  cases cc
  · (repeat (first | refine CW.seq ?_ | refine CW.region tt_ok rfl ?_ | refine CW.regionD tt_ok (by kernel_rfl) pl34_0 (by decide +kernel) ?_ | refine CW.regionD tt_ok (by kernel_rfl) pl34_1 (by decide +kernel) ?_ | refine CW.regionD tt_ok (by kernel_rfl) pl34_2 (by decide +kernel) ?_ | refine CW.block ?_ | refine CW.skip ?_ | refine SQ.nil ?_ | refine SQ.pures1 tt_ok rfl ?_ | refine SQ.pure1 tt_ok rfl ?_ | refine SQ.new _ _ rfl rfl (fun _ => ?_) | refine SQ.ldA tt_ok rfl rfl (by repeat (first | exact .h | exact .q | apply At.t)) (by rfl) ?_ | refine SQ.stA tt_ok rfl rfl (by repeat (first | apply Up.h | apply Up.t)) (by rfl) (by rfl) (by repeat (first | exact trivial | refine ⟨trivial, ?_⟩ | refine ⟨wk (by repeat (first | exact .h | exact .q | apply At.t)) (by rfl), ?_⟩)) ?_ | refine CW.cond_tt rfl ?_ | refine CW.cond_ff rfl ?_))
    refine CW.exit ?_
    (repeat (first | refine CW.seq ?_ | refine CW.region tt_ok rfl ?_ | refine CW.regionD tt_ok (by kernel_rfl) pl34_0 (by decide +kernel) ?_ | refine CW.regionD tt_ok (by kernel_rfl) pl34_1 (by decide +kernel) ?_ | refine CW.regionD tt_ok (by kernel_rfl) pl34_2 (by decide +kernel) ?_ | refine CW.block ?_ | refine CW.skip ?_ | refine SQ.nil ?_ | refine SQ.pures1 tt_ok rfl ?_ | refine SQ.pure1 tt_ok rfl ?_ | refine SQ.new _ _ rfl rfl (fun _ => ?_) | refine SQ.ldA tt_ok rfl rfl (by repeat (first | exact .h | exact .q | apply At.t)) (by rfl) ?_ | refine SQ.stA tt_ok rfl rfl (by repeat (first | apply Up.h | apply Up.t)) (by rfl) (by rfl) (by repeat (first | exact trivial | refine ⟨trivial, ?_⟩ | refine ⟨wk (by repeat (first | exact .h | exact .q | apply At.t)) (by rfl), ?_⟩)) ?_ | refine CW.cond_tt rfl ?_ | refine CW.cond_ff rfl ?_))
    have : k = cntV cnt := by unfold cntV; simp at e1; omega
    subst this
    exact CW.ret (fin_ret rfl (Tk.ent (by repeat (first | exact .n | exact Rm.h | apply Tk.c | apply Rm.t))) ⟨rfl, rfl⟩)
  · simp only [decide_eq_true_eq] at e1
    have hw : IntKind.i64.wrap ((k : Int) + 1) = ((k + 1 : Nat) : Int) := by rw [wrap_i64]; split <;> omega
    have hcn := wrK_cnt first es r f cnt v k
    have hokk := wrK_ok (first := first) (r := r) (f := f) (c := cnt) (v := (v : Int)) hok k
    have hlen := wrK_len first es r f cnt v k
    have hstep : wrK first es r f cnt v (k + 1) = ((wr1 first (wrK first es r f cnt v k).1 r f cnt v k).1, (wrK first es r f cnt v k).2 + if (wr1 first (wrK first es r f cnt v k).1 r f cnt v k).2 then 1 else 0) := rfl
    rw [wr1_upd] at hstep
    generalize wrK first es r f cnt v k = z at hcn hokk hlen hstep ⊢
    obtain ⟨ek, m⟩ := z
    simp only at hcn hokk hlen hstep ⊢
    have hwm : IntKind.i64.wrap ((m : Int) + 1) = ((m + 1 : Nat) : Int) := by rw [wrap_i64]; split <;> omega
    (repeat (first | refine CW.seq ?_ | refine CW.region tt_ok rfl ?_ | refine CW.regionD tt_ok (by kernel_rfl) pl34_0 (by decide +kernel) ?_ | refine CW.regionD tt_ok (by kernel_rfl) pl34_1 (by decide +kernel) ?_ | refine CW.regionD tt_ok (by kernel_rfl) pl34_2 (by decide +kernel) ?_ | refine CW.block ?_ | refine CW.skip ?_ | refine SQ.nil ?_ | refine SQ.pures1 tt_ok rfl ?_ | refine SQ.pure1 tt_ok rfl ?_ | refine SQ.new _ _ rfl rfl (fun _ => ?_) | refine SQ.ldA tt_ok rfl rfl (by repeat (first | exact .h | exact .q | apply At.t)) (by rfl) ?_ | refine SQ.stA tt_ok rfl rfl (by repeat (first | apply Up.h | apply Up.t)) (by rfl) (by rfl) (by repeat (first | exact trivial | refine ⟨trivial, ?_⟩ | refine ⟨wk (by repeat (first | exact .h | exact .q | apply At.t)) (by rfl), ?_⟩)) ?_ | refine CW.cond_tt rfl ?_ | refine CW.cond_ff rfl ?_))
    generalize hid : IntKind.i64.wrap (f + (k : Int)) = id at hstep ⊢
    (refine SQ.callA rfl rfl (at37d β b id q c S2 hf0 hf1 hn h2) (by repeat (first | exact .n | exact Rm.h | apply Tk.c | apply Rm.t)) ?_; rintro _ _ ⟨rfl, rfl⟩; refine ⟨(by repeat (first | exact trivial | refine ⟨trivial, ?_⟩ | refine ⟨wk (by repeat (first | exact .h | exact .q | apply At.t)) (by rfl), ?_⟩)), ?_⟩)
    (repeat (first | refine CW.seq ?_ | refine CW.region tt_ok rfl ?_ | refine CW.regionD tt_ok (by kernel_rfl) pl34_0 (by decide +kernel) ?_ | refine CW.regionD tt_ok (by kernel_rfl) pl34_1 (by decide +kernel) ?_ | refine CW.regionD tt_ok (by kernel_rfl) pl34_2 (by decide +kernel) ?_ | refine CW.block ?_ | refine CW.skip ?_ | refine SQ.nil ?_ | refine SQ.pures1 tt_ok rfl ?_ | refine SQ.pure1 tt_ok rfl ?_ | refine SQ.new _ _ rfl rfl (fun _ => ?_) | refine SQ.ldA tt_ok rfl rfl (by repeat (first | exact .h | exact .q | apply At.t)) (by rfl) ?_ | refine SQ.stA tt_ok rfl rfl (by repeat (first | apply Up.h | apply Up.t)) (by rfl) (by rfl) (by repeat (first | exact trivial | refine ⟨trivial, ?_⟩ | refine ⟨wk (by repeat (first | exact .h | exact .q | apply At.t)) (by rfl), ?_⟩)) ?_ | refine CW.cond_tt rfl ?_ | refine CW.cond_ff rfl ?_))
    by_cases hin : first ≤ id ∧ id - first < es.length
    · have hat : atD first es.length id = id - first := by unfold atD; rw [if_pos hin]
      have hkl : (id - first).toNat < es.length := by omega
      obtain ⟨e, he⟩ : ∃ e, ek[(id - first).toNat]? = some e := ⟨_, List.getElem?_eq_getElem (by omega)⟩
      have hae : atE first ek id = some e := atE_iff.2 ⟨(id - first).toNat, by omega, he⟩
      have hl : (lsV ek)[(id - first).toNat]? = some e.1 := by simp [lsV, he]
      have hup := upd_line (id := id) (r := r) (x := fieldV v r cnt k) (okL_at hokk he) (fun h => field_bit6 hv (.inl h))
      rw [hae] at hstep
      simp only [hup.1, hup.2] at hstep
      have hls : lsV (wrK first es r f cnt v (k + 1)).1 = (lsV ek).set (id - first).toNat (writtenV id e.1 r (fieldV v r cnt k)) := by rw [hstep]; exact lsV_set _ _ _
      rw [hat, decide_eq_false (show ¬ id - first < 0 by omega)]
      refine CW.ent (L' := [rowA q es.length ((lsV ek).flatMap lnC), pt b [.int .i64 first, .slice q es.length c, S2], pt b4 [.int .i64 r, .int .i64 f, .int .i64 cnt]]) (Tk.ent (by repeat (first | exact .n | exact Rm.h | apply Tk.c | apply Rm.t))) ?_
      refine CW.ent (Ent.append (L := [_]) (Ent.trans (row_open (show 0 < es.length by omega)) (Ent.refl _)) (Ent.refl _)) ?_
      refine CW.open_ fun y => ?_
      obtain ⟨g, rest⟩ := y
      refine CW.pure_ fun hv => ?_
      simp only at hv
      subst hv
      (repeat (first | refine CW.seq ?_ | refine CW.region tt_ok rfl ?_ | refine CW.regionD tt_ok (by kernel_rfl) pl34_0 (by decide +kernel) ?_ | refine CW.regionD tt_ok (by kernel_rfl) pl34_1 (by decide +kernel) ?_ | refine CW.regionD tt_ok (by kernel_rfl) pl34_2 (by decide +kernel) ?_ | refine CW.block ?_ | refine CW.skip ?_ | refine SQ.nil ?_ | refine SQ.pures1 tt_ok rfl ?_ | refine SQ.pure1 tt_ok rfl ?_ | refine SQ.new _ _ rfl rfl (fun _ => ?_) | refine SQ.ldA tt_ok rfl rfl (by repeat (first | exact .h | exact .q | apply At.t)) (by rfl) ?_ | refine SQ.stA tt_ok rfl rfl (by repeat (first | apply Up.h | apply Up.t)) (by rfl) (by rfl) (by repeat (first | exact trivial | refine ⟨trivial, ?_⟩ | refine ⟨wk (by repeat (first | exact .h | exact .q | apply At.t)) (by rfl), ?_⟩)) ?_ | refine CW.cond_tt rfl ?_ | refine CW.cond_ff rfl ?_))
      rw [hid]
      refine SQ.idx tt_ok rfl rfl (id - first).toNat (by omega) hkl (o' := 0 + (id - first).toNat * 7) rfl ?_
      refine SQ.load tt_ok rfl rfl 0 rfl (rd_ln hl rest) ?_
      (repeat (first | refine CW.seq ?_ | refine CW.region tt_ok rfl ?_ | refine CW.regionD tt_ok (by kernel_rfl) pl34_0 (by decide +kernel) ?_ | refine CW.regionD tt_ok (by kernel_rfl) pl34_1 (by decide +kernel) ?_ | refine CW.regionD tt_ok (by kernel_rfl) pl34_2 (by decide +kernel) ?_ | refine CW.block ?_ | refine CW.skip ?_ | refine SQ.nil ?_ | refine SQ.pures1 tt_ok rfl ?_ | refine SQ.pure1 tt_ok rfl ?_ | refine SQ.new _ _ rfl rfl (fun _ => ?_) | refine SQ.ldA tt_ok rfl rfl (by repeat (first | exact .h | exact .q | apply At.t)) (by rfl) ?_ | refine SQ.stA tt_ok rfl rfl (by repeat (first | apply Up.h | apply Up.t)) (by rfl) (by rfl) (by repeat (first | exact trivial | refine ⟨trivial, ?_⟩ | refine ⟨wk (by repeat (first | exact .h | exact .q | apply At.t)) (by rfl), ?_⟩)) ?_ | refine CW.cond_tt rfl ?_ | refine CW.cond_ff rfl ?_))
      (refine SQ.callA rfl rfl (field54 β hv r f cnt k) (by repeat (first | exact .n | exact Rm.h | apply Tk.c | apply Rm.t)) ?_; rintro _ _ ⟨rfl, rfl⟩; refine ⟨(by repeat (first | exact trivial | refine ⟨trivial, ?_⟩ | refine ⟨wk .h (rd_ln hl rest), ?_⟩ | refine ⟨wk (by repeat (first | exact .h | exact .q | apply At.t)) (by rfl), ?_⟩)), ?_⟩)
      (repeat (first | refine CW.seq ?_ | refine CW.region tt_ok rfl ?_ | refine CW.regionD tt_ok (by kernel_rfl) pl34_0 (by decide +kernel) ?_ | refine CW.regionD tt_ok (by kernel_rfl) pl34_1 (by decide +kernel) ?_ | refine CW.regionD tt_ok (by kernel_rfl) pl34_2 (by decide +kernel) ?_ | refine CW.block ?_ | refine CW.skip ?_ | refine SQ.nil ?_ | refine SQ.pures1 tt_ok rfl ?_ | refine SQ.pure1 tt_ok rfl ?_ | refine SQ.new _ _ rfl rfl (fun _ => ?_) | refine SQ.ldA tt_ok rfl rfl (by repeat (first | exact .h | exact .q | apply At.t)) (by rfl) ?_ | refine SQ.stA tt_ok rfl rfl (by repeat (first | apply Up.h | apply Up.t)) (by rfl) (by rfl) (by repeat (first | exact trivial | refine ⟨trivial, ?_⟩ | refine ⟨wk (by repeat (first | exact .h | exact .q | apply At.t)) (by rfl), ?_⟩)) ?_ | refine CW.cond_tt rfl ?_ | refine CW.cond_ff rfl ?_))
      (refine SQ.callA rfl rfl (changed53' β id e.1 r (fieldV v r cnt k) (fun h => field_bit6 hv (.inr h))) (by repeat (first | exact .n | exact Rm.h | apply Tk.c | apply Rm.t)) ?_; rintro _ _ ⟨rfl, rfl⟩; refine ⟨(by repeat (first | exact trivial | refine ⟨trivial, ?_⟩ | refine ⟨wk .h (rd_ln hl rest), ?_⟩ | refine ⟨wk (by repeat (first | exact .h | exact .q | apply At.t)) (by rfl), ?_⟩)), ?_⟩)
      generalize writtenV id e.1 r (fieldV v r cnt k) = l' at hstep hls ⊢
      (repeat (first | refine CW.seq ?_ | refine CW.region tt_ok rfl ?_ | refine CW.regionD tt_ok (by kernel_rfl) pl34_0 (by decide +kernel) ?_ | refine CW.regionD tt_ok (by kernel_rfl) pl34_1 (by decide +kernel) ?_ | refine CW.regionD tt_ok (by kernel_rfl) pl34_2 (by decide +kernel) ?_ | refine CW.block ?_ | refine CW.skip ?_ | refine SQ.nil ?_ | refine SQ.pures1 tt_ok rfl ?_ | refine SQ.pure1 tt_ok rfl ?_ | refine SQ.new _ _ rfl rfl (fun _ => ?_) | refine SQ.ldA tt_ok rfl rfl (by repeat (first | exact .h | exact .q | apply At.t)) (by rfl) ?_ | refine SQ.stA tt_ok rfl rfl (by repeat (first | apply Up.h | apply Up.t)) (by rfl) (by rfl) (by repeat (first | exact trivial | refine ⟨trivial, ?_⟩ | refine ⟨wk (by repeat (first | exact .h | exact .q | apply At.t)) (by rfl), ?_⟩)) ?_ | refine CW.cond_tt rfl ?_ | refine CW.cond_ff rfl ?_))
      refine SQ.idx tt_ok rfl rfl (id - first).toNat (by omega) hkl (o' := 0 + (id - first).toNat * 7) rfl ?_
      refine SQ.load tt_ok rfl rfl 1 rfl (rd_ln hl rest) ?_
      by_cases hne : l' = e.1
      · refine SQ.eqn tt_ok [38, 36] ⟨by kernel_rfl, by kernel_rfl, trivial⟩ rfl rfl (by kernel_rfl) false (by simp [hne]) ?_
        (repeat (first | refine CW.seq ?_ | refine CW.region tt_ok rfl ?_ | refine CW.regionD tt_ok (by kernel_rfl) pl34_0 (by decide +kernel) ?_ | refine CW.regionD tt_ok (by kernel_rfl) pl34_1 (by decide +kernel) ?_ | refine CW.regionD tt_ok (by kernel_rfl) pl34_2 (by decide +kernel) ?_ | refine CW.block ?_ | refine CW.skip ?_ | refine SQ.nil ?_ | refine SQ.pures1 tt_ok rfl ?_ | refine SQ.pure1 tt_ok rfl ?_ | refine SQ.new _ _ rfl rfl (fun _ => ?_) | refine SQ.ldA tt_ok rfl rfl (by repeat (first | exact .h | exact .q | apply At.t)) (by rfl) ?_ | refine SQ.stA tt_ok rfl rfl (by repeat (first | apply Up.h | apply Up.t)) (by rfl) (by rfl) (by repeat (first | exact trivial | refine ⟨trivial, ?_⟩ | refine ⟨wk (by repeat (first | exact .h | exact .q | apply At.t)) (by rfl), ?_⟩)) ?_ | refine CW.cond_tt rfl ?_ | refine CW.cond_ff rfl ?_))
        refine SQ.idx tt_ok rfl rfl (id - first).toNat (by omega) hkl (o' := 0 + (id - first).toNat * 7) rfl ?_
        refine SQ.store tt_ok rfl rfl 1 rfl rfl (wr_ln hl l' rest) rfl (by repeat (first | exact trivial | refine ⟨trivial, ?_⟩ | refine ⟨wk (by repeat (first | exact .h | exact .q | apply At.t)) (by rfl), ?_⟩)) ?_
        (repeat (first | refine CW.seq ?_ | refine CW.region tt_ok rfl ?_ | refine CW.regionD tt_ok (by kernel_rfl) pl34_0 (by decide +kernel) ?_ | refine CW.regionD tt_ok (by kernel_rfl) pl34_1 (by decide +kernel) ?_ | refine CW.regionD tt_ok (by kernel_rfl) pl34_2 (by decide +kernel) ?_ | refine CW.block ?_ | refine CW.skip ?_ | refine SQ.nil ?_ | refine SQ.pures1 tt_ok rfl ?_ | refine SQ.pure1 tt_ok rfl ?_ | refine SQ.new _ _ rfl rfl (fun _ => ?_) | refine SQ.ldA tt_ok rfl rfl (by repeat (first | exact .h | exact .q | apply At.t)) (by rfl) ?_ | refine SQ.stA tt_ok rfl rfl (by repeat (first | apply Up.h | apply Up.t)) (by rfl) (by rfl) (by repeat (first | exact trivial | refine ⟨trivial, ?_⟩ | refine ⟨wk (by repeat (first | exact .h | exact .q | apply At.t)) (by rfl), ?_⟩)) ?_ | refine CW.cond_tt rfl ?_ | refine CW.cond_ff rfl ?_))
        refine ⟨k + 1, by omega, by omega, ⟨by rw [← hw]; rfl, by rw [hstep]; simp [hne]; rfl, rfl, rfl, rfl, trivial⟩, ?_⟩
        rw [hls]
        exact Ent.trans (Ent.sel (is := [1, 1, 1]) rfl) (Ent.trans (Ent.append (L := [_]) row_close (Ent.refl _)) (Ent.sel (is := [2, 1, 0]) rfl))
      · refine SQ.eqn tt_ok [38, 36] ⟨by kernel_rfl, by kernel_rfl, trivial⟩ rfl rfl (by kernel_rfl) true (by
          apply Decidable.byContradiction
          intro hc
          apply hne
          simp at hc
          obtain ⟨⟨a1, a2, a3, a4⟩, a5, a6, a7⟩ := l'
          obtain ⟨⟨⟨b1, b2, b3, b4⟩, b5, b6, b7⟩, b8⟩ := e
          simp_all) ?_
        (repeat (first | refine CW.seq ?_ | refine CW.region tt_ok rfl ?_ | refine CW.regionD tt_ok (by kernel_rfl) pl34_0 (by decide +kernel) ?_ | refine CW.regionD tt_ok (by kernel_rfl) pl34_1 (by decide +kernel) ?_ | refine CW.regionD tt_ok (by kernel_rfl) pl34_2 (by decide +kernel) ?_ | refine CW.block ?_ | refine CW.skip ?_ | refine SQ.nil ?_ | refine SQ.pures1 tt_ok rfl ?_ | refine SQ.pure1 tt_ok rfl ?_ | refine SQ.new _ _ rfl rfl (fun _ => ?_) | refine SQ.ldA tt_ok rfl rfl (by repeat (first | exact .h | exact .q | apply At.t)) (by rfl) ?_ | refine SQ.stA tt_ok rfl rfl (by repeat (first | apply Up.h | apply Up.t)) (by rfl) (by rfl) (by repeat (first | exact trivial | refine ⟨trivial, ?_⟩ | refine ⟨wk (by repeat (first | exact .h | exact .q | apply At.t)) (by rfl), ?_⟩)) ?_ | refine CW.cond_tt rfl ?_ | refine CW.cond_ff rfl ?_))
        rw [hwm]
        refine SQ.idx tt_ok rfl rfl (id - first).toNat (by omega) hkl (o' := 0 + (id - first).toNat * 7) rfl ?_
        refine SQ.store tt_ok rfl rfl 1 rfl rfl (wr_ln hl l' rest) rfl (by repeat (first | exact trivial | refine ⟨trivial, ?_⟩ | refine ⟨wk (by repeat (first | exact .h | exact .q | apply At.t)) (by rfl), ?_⟩)) ?_
        (repeat (first | refine CW.seq ?_ | refine CW.region tt_ok rfl ?_ | refine CW.regionD tt_ok (by kernel_rfl) pl34_0 (by decide +kernel) ?_ | refine CW.regionD tt_ok (by kernel_rfl) pl34_1 (by decide +kernel) ?_ | refine CW.regionD tt_ok (by kernel_rfl) pl34_2 (by decide +kernel) ?_ | refine CW.block ?_ | refine CW.skip ?_ | refine SQ.nil ?_ | refine SQ.pures1 tt_ok rfl ?_ | refine SQ.pure1 tt_ok rfl ?_ | refine SQ.new _ _ rfl rfl (fun _ => ?_) | refine SQ.ldA tt_ok rfl rfl (by repeat (first | exact .h | exact .q | apply At.t)) (by rfl) ?_ | refine SQ.stA tt_ok rfl rfl (by repeat (first | apply Up.h | apply Up.t)) (by rfl) (by rfl) (by repeat (first | exact trivial | refine ⟨trivial, ?_⟩ | refine ⟨wk (by repeat (first | exact .h | exact .q | apply At.t)) (by rfl), ?_⟩)) ?_ | refine CW.cond_tt rfl ?_ | refine CW.cond_ff rfl ?_))
        refine ⟨k + 1, by omega, by omega, ⟨by rw [← hw]; rfl, by rw [hstep]; simp [hne]; rfl, rfl, rfl, rfl, trivial⟩, ?_⟩
        rw [hls]
        exact Ent.trans (Ent.sel (is := [1, 1, 1]) rfl) (Ent.trans (Ent.append (L := [_]) row_close (Ent.refl _)) (Ent.sel (is := [2, 1, 0]) rfl))
    · have hat : atD first es.length id = -1 := by unfold atD; rw [if_neg hin]
      have hae : atE first ek id = none := by
        cases h : atE first ek id with
        | none => rfl
        | some e =>
          obtain ⟨i, hi, he⟩ := atE_iff.1 h
          have := (List.getElem?_eq_some_iff.1 he).1
          omega
      rw [hae] at hstep
      rw [hat]
      (repeat (first | refine CW.seq ?_ | refine CW.region tt_ok rfl ?_ | refine CW.regionD tt_ok (by kernel_rfl) pl34_0 (by decide +kernel) ?_ | refine CW.regionD tt_ok (by kernel_rfl) pl34_1 (by decide +kernel) ?_ | refine CW.regionD tt_ok (by kernel_rfl) pl34_2 (by decide +kernel) ?_ | refine CW.block ?_ | refine CW.skip ?_ | refine SQ.nil ?_ | refine SQ.pures1 tt_ok rfl ?_ | refine SQ.pure1 tt_ok rfl ?_ | refine SQ.new _ _ rfl rfl (fun _ => ?_) | refine SQ.ldA tt_ok rfl rfl (by repeat (first | exact .h | exact .q | apply At.t)) (by rfl) ?_ | refine SQ.stA tt_ok rfl rfl (by repeat (first | apply Up.h | apply Up.t)) (by rfl) (by rfl) (by repeat (first | exact trivial | refine ⟨trivial, ?_⟩ | refine ⟨wk (by repeat (first | exact .h | exact .q | apply At.t)) (by rfl), ?_⟩)) ?_ | refine CW.cond_tt rfl ?_ | refine CW.cond_ff rfl ?_))
      refine CW.exit ?_
      (repeat (first | refine CW.seq ?_ | refine CW.region tt_ok rfl ?_ | refine CW.regionD tt_ok (by kernel_rfl) pl34_0 (by decide +kernel) ?_ | refine CW.regionD tt_ok (by kernel_rfl) pl34_1 (by decide +kernel) ?_ | refine CW.regionD tt_ok (by kernel_rfl) pl34_2 (by decide +kernel) ?_ | refine CW.block ?_ | refine CW.skip ?_ | refine SQ.nil ?_ | refine SQ.pures1 tt_ok rfl ?_ | refine SQ.pure1 tt_ok rfl ?_ | refine SQ.new _ _ rfl rfl (fun _ => ?_) | refine SQ.ldA tt_ok rfl rfl (by repeat (first | exact .h | exact .q | apply At.t)) (by rfl) ?_ | refine SQ.stA tt_ok rfl rfl (by repeat (first | apply Up.h | apply Up.t)) (by rfl) (by rfl) (by repeat (first | exact trivial | refine ⟨trivial, ?_⟩ | refine ⟨wk (by repeat (first | exact .h | exact .q | apply At.t)) (by rfl), ?_⟩)) ?_ | refine CW.cond_tt rfl ?_ | refine CW.cond_ff rfl ?_))
      refine ⟨k + 1, by omega, by omega, ⟨by rw [← hw]; rfl, by rw [hstep]; rfl, rfl, rfl, rfl, trivial⟩, ?_⟩
      rw [hstep]
      exact (Tk.ent (by repeat (first | exact .n | exact Rm.h | apply Tk.c | apply Rm.t)))
end Go.Proofs.Ytmaheecbohbilaa.Sl
