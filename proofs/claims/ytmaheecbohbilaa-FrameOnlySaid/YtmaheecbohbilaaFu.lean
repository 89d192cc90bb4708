import Derived.Test.YtmaheecbohbilaaFt
namespace Go.Proofs.Ytmaheecbohbilaa.Sl
open Go Go.RowKit Go.Proofs
set_option linter.unusedVariables false
set_option linter.unusedSimpArgs false
attribute [local irreducible] CW Tri OW
set_option maxRecDepth 10000
@[reducible] def pl17_0 : Plan := [(0, 0, []), (1, 0, []), (2, 0, []), (3, 0, []), (5, 0, []), (6, 0, []), (7, 0, []), (8, 0, []), (4, 1, [6, 8]), (9, 1, []), (10, 0, []), (11, 0, [])]
@[reducible] def pl17_1 : Plan := [(0, 0, []), (1, 0, []), (2, 0, []), (3, 0, []), (4, 0, []), (6, 0, []), (7, 0, []), (8, 0, []), (9, 0, []), (10, 0, []), (5, 1, [8, 10]), (11, 1, []), (12, 0, []), (13, 0, [])]
theorem u8_mod {a : Int} (h0 : 0 ≤ a) (h1 : a ≤ 255) (m : Int) (hm : 0 < m) (hm2 : m ≤ 1000) : IntKind.i64.wrap (a.tmod m) = a % m := by
  rw [Int.tmod_eq_emod_of_nonneg h0]
  have h2 := Int.emod_nonneg a (show m ≠ 0 by omega)
  have h3 := Int.emod_lt_of_pos a hm
  rw [wrap_i64]; split <;> omega
theorem both16 (β : Base) {a n : Int} (ha0 : 0 ≤ a) (ha1 : a ≤ 255) (hn0 : 0 ≤ n) (hn1 : n ≤ 255) :
    Tri Try.prog β 16 [.int .u8 a, .int .u8 n] [] (fun v L => ∃ b q0 c0 r q c q2 c2 tx, v = .tuple #[.pointer (some ⟨b, 0, none⟩), .pointer (some ⟨r, 0, none⟩)] ∧
      L = bkA b q0 c0 (a % 64) (List.replicate (n % 80).toNat (zeroE.1, tx)) ++ [pt r [.int .i64 (a % 64), .slice q (n % 80).toNat c, .slice q2 (n % 80).toNat c2], rowA q (n % 80).toNat ((List.replicate (n % 80).toNat zeroL).flatMap lnC), rowA q2 (n % 80).toNat (List.replicate (n % 80).toNat (.string tx))]) := by
  have e1 := u8_mod ha0 ha1 64 (by omega) (by omega)
  have e2 := u8_mod hn0 hn1 80 (by omega) (by omega)
  refine Tri.intro tt_ok Try.func16 rfl rfl Try.ntmps16 rfl fun F => ?_
  (repeat (first | refine CW.seq ?_ | refine CW.region tt_ok rfl ?_ | refine CW.block ?_ | refine CW.skip ?_ | refine SQ.nil ?_ | refine SQ.pures1 tt_ok rfl ?_ | refine SQ.pure1 tt_ok rfl ?_ | refine SQ.new _ _ rfl rfl (fun _ => ?_) | refine SQ.ldA tt_ok rfl rfl (by repeat (first | exact .h | exact .q | apply At.t)) (by rfl) ?_ | refine SQ.stA tt_ok rfl rfl (by repeat (first | apply Up.h | apply Up.t)) (by rfl) (by rfl) (by exact trivial) ?_ | refine CW.cond_tt rfl ?_ | refine CW.cond_ff rfl ?_))
  rw [e1, e2]
  (refine SQ.call rfl rfl (new24 β (first := a % 64) (n := n % 80) (by omega) (by omega) (by omega) _) [] rfl ?_; rintro _ _ ⟨b, q0, c0, rfl, rfl⟩; refine ⟨(by exact trivial), ?_⟩)
  (repeat (first | refine CW.seq ?_ | refine CW.region tt_ok rfl ?_ | refine CW.block ?_ | refine CW.skip ?_ | refine SQ.nil ?_ | refine SQ.pures1 tt_ok rfl ?_ | refine SQ.pure1 tt_ok rfl ?_ | refine SQ.new _ _ rfl rfl (fun _ => ?_) | refine SQ.ldA tt_ok rfl rfl (by repeat (first | exact .h | exact .q | apply At.t)) (by rfl) ?_ | refine SQ.stA tt_ok rfl rfl (by repeat (first | apply Up.h | apply Up.t)) (by rfl) (by rfl) (by exact trivial) ?_ | refine CW.cond_tt rfl ?_ | refine CW.cond_ff rfl ?_))
  rw [e1, e2]
  (refine SQ.call rfl rfl (new33 β (first := a % 64) (n := n % 80) (by omega) (by omega) (by omega) _) [] rfl ?_; rintro _ _ ⟨r, q, c, q2, c2, rfl, rfl⟩; refine ⟨(by exact trivial), ?_⟩)
  (repeat (first | refine CW.seq ?_ | refine CW.region tt_ok rfl ?_ | refine CW.block ?_ | refine CW.skip ?_ | refine SQ.nil ?_ | refine SQ.pures1 tt_ok rfl ?_ | refine SQ.pure1 tt_ok rfl ?_ | refine SQ.new _ _ rfl rfl (fun _ => ?_) | refine SQ.ldA tt_ok rfl rfl (by repeat (first | exact .h | exact .q | apply At.t)) (by rfl) ?_ | refine SQ.stA tt_ok rfl rfl (by repeat (first | apply Up.h | apply Up.t)) (by rfl) (by rfl) (by exact trivial) ?_ | refine CW.cond_tt rfl ?_ | refine CW.cond_ff rfl ?_))
  refine CW.ret (fin_ret rfl (Ent.sel (is := [3, 3, 0, 0, 0]) rfl) ?_)
  exact ⟨b, q0, c0, r, q, c, q2, c2, _, rfl, rfl⟩
/-- An act: what, where, whom, a value, what befalls. -/
abbrev Ac := Int × Int × Int × Int × Int
@[reducible] def acC (x : Ac) : List Value := [.int .i64 x.1, .int .i64 x.2.1, .int .i64 x.2.2.1, .int .u64 x.2.2.2.1, .int .i64 x.2.2.2.2]
def actV (first : Int) (es : List En) (x : Ac) : List En :=
  if x.1 = 1 ∧ (distV x.2.1 4).2 = 0 then (wrK first es (distV x.2.1 4).1.1 (distV x.2.1 4).1.2.1 (distV x.2.1 4).1.2.2 x.2.2.2.1 (cntV (distV x.2.1 4).1.2.2)).1
  else if x.1 = 2 then (doV first es x.2.2.1 x.2.2.2.2).1 else es
theorem actV_len (first : Int) (es : List En) (x : Ac) : (actV first es x).length = es.length := by
  unfold actV; split
  · exact wrK_len _ _ _ _ _ _ _
  · split
    · exact doV_len _ _ _ _
    · rfl
theorem distRw_all : (distRw.all fun r => decide (0 ≤ r.1) && decide (r.1 ≤ 65536) && decide (0 ≤ r.2.2.2.2.1) && decide (r.2.2.2.2.1 ≤ 32) && (r.2.2.2.2.2.1 == 0 || r.2.2.2.2.2.1 == 1 || r.2.2.2.2.2.1 == 4 || r.2.2.2.2.2.1 == 8) && (r.2.2.2.2.2.2 == 1 || r.2.2.2.2.2.2 == 8)) = true := by kernel_rfl
theorem tdiv8 {x : Int} (h0 : -100000 ≤ x) (h1 : x ≤ 100000) : -100000 ≤ x.tdiv 8 ∧ x.tdiv 8 ≤ 100000 := by
  rcases Int.le_total 0 x with h | h
  · rw [Int.tdiv_eq_ediv_of_nonneg h]; omega
  · have e : x.tdiv 8 = -((-x) / 8) := by rw [← Int.tdiv_eq_ediv_of_nonneg (by omega), Int.neg_tdiv, Int.neg_neg]
    rw [e]; omega
theorem wrap_id {x : Int} (h0 : -9223372036854775808 ≤ x) (h1 : x ≤ 9223372036854775807) : IntKind.i64.wrap x = x := by rw [wrap_i64]; split <;> omega
theorem dist_place (off : Int) : 0 ≤ (distV off 4).1.2.2 ∧ (distV off 4).1.2.2 ≤ 32 ∧ -1000000 ≤ (distV off 4).1.2.1 ∧ (distV off 4).1.2.1 ≤ 1000000 := by
  unfold distV findV
  split
  · simp
  · split
    · simp
    · split
      · simp
      · split
        · rename_i h1 h2 h3 x r hr
          unfold outV
          split
          · have := List.all_eq_true.1 distRw_all r (List.mem_of_find?_eq_some hr)
            simp only [Bool.and_eq_true, Bool.or_eq_true, decide_eq_true_eq, beq_iff_eq] at this
            obtain ⟨⟨⟨⟨⟨a1, a2⟩, a3⟩, a4⟩, a5⟩, a6⟩ := this
            simp only [plV]
            have e1 : IntKind.i64.wrap (off - r.1) = off - r.1 := wrap_id (by omega) (by omega)
            have b8 := tdiv8 (x := off - r.1) (by omega) (by omega)
            have b4 : (4 : Int).tdiv 8 = 0 := rfl
            have b41 : (4 : Int).tdiv 1 = 4 := rfl
            rw [e1]
            rcases a6 with h | h <;> rw [h] <;> (try simp only [Int.tdiv_one, b4, b41]) <;> rcases a5 with ((g | g) | g) | g <;> rw [g]
            all_goals (simp only [wrap_i64]; repeat' split)
            all_goals omega
          · simp
        · simp
theorem doD_lsV (first : Int) (es : List En) (id x : Int) : doD first (lsV es) id x = (lsV (doV first es id x).1, (doV first es id x).2) := by
  unfold doD doV
  rw [lsV_len]
  by_cases hin : first ≤ id ∧ id - first < es.length
  · obtain ⟨e, he⟩ : ∃ e, es[(id - first).toNat]? = some e := ⟨_, List.getElem?_eq_getElem (by omega)⟩
    have hae : atE first es id = some e := atE_iff.2 ⟨(id - first).toNat, by omega, he⟩
    have hl : (lsV es)[(id - first).toNat]? = some e.1 := by simp [lsV, he]
    rw [if_pos hin, hl, hae]
    simp only [lsV_set]
  · have hae : atE first es id = none := by
      cases h : atE first es id with
      | none => rfl
      | some e =>
        obtain ⟨i, hi, he⟩ := atE_iff.1 h
        have := (List.getElem?_eq_some_iff.1 he).1
        omega
    rw [if_neg hin, hae]
/-- What an act may be. -/
def acOk (x : Ac) : Prop := x.2.2.1 < 9223372036854775808 ∧ 0 ≤ x.2.2.2.1 ∧ x.2.2.2.1 < 18446744073709551616
theorem actV_ok {first : Int} {es : List En} {x : Ac} (h : okL es) : okL (actV first es x) := by
  unfold actV
  split
  · exact wrK_ok h _
  · split
    · exact doV_ok h
    · exact h
theorem actV_texts (first : Int) (es : List En) (x : Ac) : (actV first es x).map (·.2) = es.map (·.2) := by
  unfold actV
  split
  · exact wrK_texts _ _ _ _ _ _ _
  · split
    · exact doV_texts _ _ _ _
    · rfl
theorem distV_le (off : Int) : (distV off 4).1.2.2 ≤ 16384 := by have := dist_place off; omega
set_option maxHeartbeats 4000000 in
theorem does17 (β : Base) (b r : Nat) (q0 : Option Addr) (c0 : Nat) {first : Int} (es : List En) (q : Option Addr) (c : Nat) (S2 : Value) (hf0 : 0 ≤ first) (hf1 : first ≤ 16384) (hn : es.length ≤ 16384) (h2 : vcells S2 = [S2]) (hok : okL es) (x : Ac) (hx : acOk x) :
    Tri Try.prog β 17 [.pointer (some ⟨b, 0, none⟩), .pointer (some ⟨r, 0, none⟩), .agg #[.int .i64 x.1, .int .i64 x.2.1, .int .i64 x.2.2.1, .int .u64 x.2.2.2.1, .int .i64 x.2.2.2.2]]
      (bkA b q0 c0 first es ++ rbA r first q c S2 (lsV es)) (fun u L => u = .bool true ∧ L = bkA b q0 c0 first (actV first es x) ++ rbA r first q c S2 (lsV (actV first es x))) := by
  refine Tri.intro tt_ok Try.func17 rfl rfl Try.ntmps17 rfl fun F => ?_
  obtain ⟨d, off, id, v, a⟩ := x
  obtain ⟨hid, hv0, hv1⟩ := hx
  simp only at hid hv0 hv1 ⊢
  obtain ⟨v, rfl⟩ : ∃ v' : Nat, v = v' := ⟨v.toNat, by omega⟩
  have hv : v < 2 ^ 64 := by
    have e64 : (2 : Nat) ^ 64 = 18446744073709551616 := rfl
    omega
  have hcl := distV_le off
  have hD := dist15 β off 4
  have hA : actV first es (d, off, id, (v : Int), a) = if d = 1 ∧ (distV off 4).2 = 0 then (wrK first es (distV off 4).1.1 (distV off 4).1.2.1 (distV off 4).1.2.2 v (cntV (distV off 4).1.2.2)).1 else if d = 2 then (doV first es id a).1 else es := rfl
  rw [hA]
  generalize distV off 4 = D at hcl hD ⊢
  obtain ⟨⟨pr, pf, pc⟩, e⟩ := D
  simp only at hcl hD ⊢
  (repeat (first | refine CW.seq ?_ | refine CW.region tt_ok rfl ?_ | refine CW.regionD tt_ok (by kernel_rfl) pl17_0 (by decide +kernel) ?_ | refine CW.regionD tt_ok (by kernel_rfl) pl17_1 (by decide +kernel) ?_ | refine CW.block ?_ | refine CW.skip ?_ | refine SQ.nil ?_ | refine SQ.pures1 tt_ok rfl ?_ | refine SQ.pure1 tt_ok rfl ?_ | refine SQ.new _ _ rfl rfl (fun _ => ?_) | refine SQ.ldA tt_ok rfl rfl (by repeat (first | exact .h | exact .q | apply At.t)) (by rfl) ?_ | refine SQ.stA tt_ok rfl rfl (by repeat (first | apply Up.h | apply Up.t)) (by rfl) (by rfl) (by repeat (first | exact trivial | refine ⟨trivial, ?_⟩ | refine ⟨wk (by repeat (first | exact .h | exact .q | apply At.t)) (by rfl), ?_⟩)) ?_ | refine CW.cond_tt rfl ?_ | refine CW.cond_ff rfl ?_))
  (refine SQ.callA rfl rfl (hD) (by repeat (first | exact .n | exact Rm.h | apply Tk.c | apply Rm.t)) ?_; rintro _ _ ⟨rfl, rfl⟩; refine ⟨(by repeat (first | exact trivial | refine ⟨trivial, ?_⟩ | refine ⟨wk (by repeat (first | exact .h | exact .q | apply At.t)) (by rfl), ?_⟩)), ?_⟩)
  (repeat (first | refine CW.seq ?_ | refine CW.region tt_ok rfl ?_ | refine CW.regionD tt_ok (by kernel_rfl) pl17_0 (by decide +kernel) ?_ | refine CW.regionD tt_ok (by kernel_rfl) pl17_1 (by decide +kernel) ?_ | refine CW.block ?_ | refine CW.skip ?_ | refine SQ.nil ?_ | refine SQ.pures1 tt_ok rfl ?_ | refine SQ.pure1 tt_ok rfl ?_ | refine SQ.new _ _ rfl rfl (fun _ => ?_) | refine SQ.ldA tt_ok rfl rfl (by repeat (first | exact .h | exact .q | apply At.t)) (by rfl) ?_ | refine SQ.stA tt_ok rfl rfl (by repeat (first | apply Up.h | apply Up.t)) (by rfl) (by rfl) (by repeat (first | exact trivial | refine ⟨trivial, ?_⟩ | refine ⟨wk (by repeat (first | exact .h | exact .q | apply At.t)) (by rfl), ?_⟩)) ?_ | refine CW.cond_tt rfl ?_ | refine CW.cond_ff rfl ?_))
  by_cases h1 : d = 1
  · subst h1
    (repeat (first | refine CW.seq ?_ | refine CW.region tt_ok rfl ?_ | refine CW.regionD tt_ok (by kernel_rfl) pl17_0 (by decide +kernel) ?_ | refine CW.regionD tt_ok (by kernel_rfl) pl17_1 (by decide +kernel) ?_ | refine CW.block ?_ | refine CW.skip ?_ | refine SQ.nil ?_ | refine SQ.pures1 tt_ok rfl ?_ | refine SQ.pure1 tt_ok rfl ?_ | refine SQ.new _ _ rfl rfl (fun _ => ?_) | refine SQ.ldA tt_ok rfl rfl (by repeat (first | exact .h | exact .q | apply At.t)) (by rfl) ?_ | refine SQ.stA tt_ok rfl rfl (by repeat (first | apply Up.h | apply Up.t)) (by rfl) (by rfl) (by repeat (first | exact trivial | refine ⟨trivial, ?_⟩ | refine ⟨wk (by repeat (first | exact .h | exact .q | apply At.t)) (by rfl), ?_⟩)) ?_ | refine CW.cond_tt rfl ?_ | refine CW.cond_ff rfl ?_))
    by_cases h3 : e = 0
    · subst h3
      (repeat (first | refine CW.seq ?_ | refine CW.region tt_ok rfl ?_ | refine CW.regionD tt_ok (by kernel_rfl) pl17_0 (by decide +kernel) ?_ | refine CW.regionD tt_ok (by kernel_rfl) pl17_1 (by decide +kernel) ?_ | refine CW.block ?_ | refine CW.skip ?_ | refine SQ.nil ?_ | refine SQ.pures1 tt_ok rfl ?_ | refine SQ.pure1 tt_ok rfl ?_ | refine SQ.new _ _ rfl rfl (fun _ => ?_) | refine SQ.ldA tt_ok rfl rfl (by repeat (first | exact .h | exact .q | apply At.t)) (by rfl) ?_ | refine SQ.stA tt_ok rfl rfl (by repeat (first | apply Up.h | apply Up.t)) (by rfl) (by rfl) (by repeat (first | exact trivial | refine ⟨trivial, ?_⟩ | refine ⟨wk (by repeat (first | exact .h | exact .q | apply At.t)) (by rfl), ?_⟩)) ?_ | refine CW.cond_tt rfl ?_ | refine CW.cond_ff rfl ?_))
      (refine SQ.callA rfl rfl (write13 β b q0 c0 (es0 := es) hf0 hf1 pr pf pc v) (by repeat (first | exact .n | exact Rm.h | apply Tk.c | apply Rm.t)) ?_; rintro _ _ ⟨rfl, rfl⟩; refine ⟨(by repeat (first | exact trivial | refine ⟨trivial, ?_⟩ | refine ⟨wk (by repeat (first | exact .h | exact .q | apply At.t)) (by rfl), ?_⟩)), ?_⟩)
      (repeat (first | refine CW.seq ?_ | refine CW.region tt_ok rfl ?_ | refine CW.regionD tt_ok (by kernel_rfl) pl17_0 (by decide +kernel) ?_ | refine CW.regionD tt_ok (by kernel_rfl) pl17_1 (by decide +kernel) ?_ | refine CW.block ?_ | refine CW.skip ?_ | refine SQ.nil ?_ | refine SQ.pures1 tt_ok rfl ?_ | refine SQ.pure1 tt_ok rfl ?_ | refine SQ.new _ _ rfl rfl (fun _ => ?_) | refine SQ.ldA tt_ok rfl rfl (by repeat (first | exact .h | exact .q | apply At.t)) (by rfl) ?_ | refine SQ.stA tt_ok rfl rfl (by repeat (first | apply Up.h | apply Up.t)) (by rfl) (by rfl) (by repeat (first | exact trivial | refine ⟨trivial, ?_⟩ | refine ⟨wk (by repeat (first | exact .h | exact .q | apply At.t)) (by rfl), ?_⟩)) ?_ | refine CW.cond_tt rfl ?_ | refine CW.cond_ff rfl ?_))
      (refine SQ.callA rfl rfl (write34 β r q c S2 es hf0 hf1 hn h2 hok pr pf pc hv hcl) (by repeat (first | exact .n | exact Rm.h | apply Tk.c | apply Rm.t)) ?_; rintro _ _ ⟨rfl, rfl⟩; refine ⟨(by repeat (first | exact trivial | refine ⟨trivial, ?_⟩ | refine ⟨wk (by repeat (first | exact .h | exact .q | apply At.t)) (by rfl), ?_⟩)), ?_⟩)
      (repeat (first | refine CW.seq ?_ | refine CW.region tt_ok rfl ?_ | refine CW.regionD tt_ok (by kernel_rfl) pl17_0 (by decide +kernel) ?_ | refine CW.regionD tt_ok (by kernel_rfl) pl17_1 (by decide +kernel) ?_ | refine CW.block ?_ | refine CW.skip ?_ | refine SQ.nil ?_ | refine SQ.pures1 tt_ok rfl ?_ | refine SQ.pure1 tt_ok rfl ?_ | refine SQ.new _ _ rfl rfl (fun _ => ?_) | refine SQ.ldA tt_ok rfl rfl (by repeat (first | exact .h | exact .q | apply At.t)) (by rfl) ?_ | refine SQ.stA tt_ok rfl rfl (by repeat (first | apply Up.h | apply Up.t)) (by rfl) (by rfl) (by repeat (first | exact trivial | refine ⟨trivial, ?_⟩ | refine ⟨wk (by repeat (first | exact .h | exact .q | apply At.t)) (by rfl), ?_⟩)) ?_ | refine CW.cond_tt rfl ?_ | refine CW.cond_ff rfl ?_))
      rw [if_pos ⟨rfl, rfl⟩]
      exact CW.ret (fin_ret rfl (Tk.ent (by repeat (first | exact .n | exact Rm.h | apply Tk.c | apply Rm.t))) ⟨by simp [packV], rfl⟩)
    · (repeat (first | refine CW.seq ?_ | refine CW.region tt_ok rfl ?_ | refine CW.regionD tt_ok (by kernel_rfl) pl17_0 (by decide +kernel) ?_ | refine CW.regionD tt_ok (by kernel_rfl) pl17_1 (by decide +kernel) ?_ | refine CW.block ?_ | refine CW.skip ?_ | refine SQ.nil ?_ | refine SQ.pures1 tt_ok rfl ?_ | refine SQ.pure1 tt_ok rfl ?_ | refine SQ.new _ _ rfl rfl (fun _ => ?_) | refine SQ.ldA tt_ok rfl rfl (by repeat (first | exact .h | exact .q | apply At.t)) (by rfl) ?_ | refine SQ.stA tt_ok rfl rfl (by repeat (first | apply Up.h | apply Up.t)) (by rfl) (by rfl) (by repeat (first | exact trivial | refine ⟨trivial, ?_⟩ | refine ⟨wk (by repeat (first | exact .h | exact .q | apply At.t)) (by rfl), ?_⟩)) ?_ | refine CW.cond_tt rfl ?_ | refine CW.cond_ff rfl ?_))
      rw [show (e == 0) = false by simp [h3]]
      (repeat (first | refine CW.seq ?_ | refine CW.region tt_ok rfl ?_ | refine CW.regionD tt_ok (by kernel_rfl) pl17_0 (by decide +kernel) ?_ | refine CW.regionD tt_ok (by kernel_rfl) pl17_1 (by decide +kernel) ?_ | refine CW.block ?_ | refine CW.skip ?_ | refine SQ.nil ?_ | refine SQ.pures1 tt_ok rfl ?_ | refine SQ.pure1 tt_ok rfl ?_ | refine SQ.new _ _ rfl rfl (fun _ => ?_) | refine SQ.ldA tt_ok rfl rfl (by repeat (first | exact .h | exact .q | apply At.t)) (by rfl) ?_ | refine SQ.stA tt_ok rfl rfl (by repeat (first | apply Up.h | apply Up.t)) (by rfl) (by rfl) (by repeat (first | exact trivial | refine ⟨trivial, ?_⟩ | refine ⟨wk (by repeat (first | exact .h | exact .q | apply At.t)) (by rfl), ?_⟩)) ?_ | refine CW.cond_tt rfl ?_ | refine CW.cond_ff rfl ?_))
      rw [if_neg (by simp [h3]), if_neg (by decide)]
      exact CW.ret (fin_ret rfl (Tk.ent (by repeat (first | exact .n | exact Rm.h | apply Tk.c | apply Rm.t))) ⟨rfl, rfl⟩)
  · (repeat (first | refine CW.seq ?_ | refine CW.region tt_ok rfl ?_ | refine CW.regionD tt_ok (by kernel_rfl) pl17_0 (by decide +kernel) ?_ | refine CW.regionD tt_ok (by kernel_rfl) pl17_1 (by decide +kernel) ?_ | refine CW.block ?_ | refine CW.skip ?_ | refine SQ.nil ?_ | refine SQ.pures1 tt_ok rfl ?_ | refine SQ.pure1 tt_ok rfl ?_ | refine SQ.new _ _ rfl rfl (fun _ => ?_) | refine SQ.ldA tt_ok rfl rfl (by repeat (first | exact .h | exact .q | apply At.t)) (by rfl) ?_ | refine SQ.stA tt_ok rfl rfl (by repeat (first | apply Up.h | apply Up.t)) (by rfl) (by rfl) (by repeat (first | exact trivial | refine ⟨trivial, ?_⟩ | refine ⟨wk (by repeat (first | exact .h | exact .q | apply At.t)) (by rfl), ?_⟩)) ?_ | refine CW.cond_tt rfl ?_ | refine CW.cond_ff rfl ?_))
    rw [show (d == 1) = false by simp [h1]]
    (repeat (first | refine CW.seq ?_ | refine CW.region tt_ok rfl ?_ | refine CW.regionD tt_ok (by kernel_rfl) pl17_0 (by decide +kernel) ?_ | refine CW.regionD tt_ok (by kernel_rfl) pl17_1 (by decide +kernel) ?_ | refine CW.block ?_ | refine CW.skip ?_ | refine SQ.nil ?_ | refine SQ.pures1 tt_ok rfl ?_ | refine SQ.pure1 tt_ok rfl ?_ | refine SQ.new _ _ rfl rfl (fun _ => ?_) | refine SQ.ldA tt_ok rfl rfl (by repeat (first | exact .h | exact .q | apply At.t)) (by rfl) ?_ | refine SQ.stA tt_ok rfl rfl (by repeat (first | apply Up.h | apply Up.t)) (by rfl) (by rfl) (by repeat (first | exact trivial | refine ⟨trivial, ?_⟩ | refine ⟨wk (by repeat (first | exact .h | exact .q | apply At.t)) (by rfl), ?_⟩)) ?_ | refine CW.cond_tt rfl ?_ | refine CW.cond_ff rfl ?_))
    by_cases h3 : d = 2
    · subst h3
      have hdd := doD_lsV first es id a
      (repeat (first | refine CW.seq ?_ | refine CW.region tt_ok rfl ?_ | refine CW.regionD tt_ok (by kernel_rfl) pl17_0 (by decide +kernel) ?_ | refine CW.regionD tt_ok (by kernel_rfl) pl17_1 (by decide +kernel) ?_ | refine CW.block ?_ | refine CW.skip ?_ | refine SQ.nil ?_ | refine SQ.pures1 tt_ok rfl ?_ | refine SQ.pure1 tt_ok rfl ?_ | refine SQ.new _ _ rfl rfl (fun _ => ?_) | refine SQ.ldA tt_ok rfl rfl (by repeat (first | exact .h | exact .q | apply At.t)) (by rfl) ?_ | refine SQ.stA tt_ok rfl rfl (by repeat (first | apply Up.h | apply Up.t)) (by rfl) (by rfl) (by repeat (first | exact trivial | refine ⟨trivial, ?_⟩ | refine ⟨wk (by repeat (first | exact .h | exact .q | apply At.t)) (by rfl), ?_⟩)) ?_ | refine CW.cond_tt rfl ?_ | refine CW.cond_ff rfl ?_))
      (refine SQ.callA rfl rfl (do35 β b q0 c0 (first := first) (id := id) (x := a) (es := es) hf0 hf1 hid) (by repeat (first | exact .n | exact Rm.h | apply Tk.c | apply Rm.t)) ?_; rintro _ _ ⟨rfl, rfl⟩; refine ⟨(by repeat (first | exact trivial | refine ⟨trivial, ?_⟩ | refine ⟨wk (by repeat (first | exact .h | exact .q | apply At.t)) (by rfl), ?_⟩)), ?_⟩)
      (repeat (first | refine CW.seq ?_ | refine CW.region tt_ok rfl ?_ | refine CW.regionD tt_ok (by kernel_rfl) pl17_0 (by decide +kernel) ?_ | refine CW.regionD tt_ok (by kernel_rfl) pl17_1 (by decide +kernel) ?_ | refine CW.block ?_ | refine CW.skip ?_ | refine SQ.nil ?_ | refine SQ.pures1 tt_ok rfl ?_ | refine SQ.pure1 tt_ok rfl ?_ | refine SQ.new _ _ rfl rfl (fun _ => ?_) | refine SQ.ldA tt_ok rfl rfl (by repeat (first | exact .h | exact .q | apply At.t)) (by rfl) ?_ | refine SQ.stA tt_ok rfl rfl (by repeat (first | apply Up.h | apply Up.t)) (by rfl) (by rfl) (by repeat (first | exact trivial | refine ⟨trivial, ?_⟩ | refine ⟨wk (by repeat (first | exact .h | exact .q | apply At.t)) (by rfl), ?_⟩)) ?_ | refine CW.cond_tt rfl ?_ | refine CW.cond_ff rfl ?_))
      (refine SQ.callA rfl rfl (do36 β r id a q c S2 (lsV es) hf0 hf1 (by rw [lsV_len]; exact hn) h2) (by repeat (first | exact .n | exact Rm.h | apply Tk.c | apply Rm.t)) ?_; rintro _ _ ⟨rfl, rfl⟩; refine ⟨(by repeat (first | exact trivial | refine ⟨trivial, ?_⟩ | refine ⟨wk (by repeat (first | exact .h | exact .q | apply At.t)) (by rfl), ?_⟩)), ?_⟩)
      rw [hdd]
      (repeat (first | refine CW.seq ?_ | refine CW.region tt_ok rfl ?_ | refine CW.regionD tt_ok (by kernel_rfl) pl17_0 (by decide +kernel) ?_ | refine CW.regionD tt_ok (by kernel_rfl) pl17_1 (by decide +kernel) ?_ | refine CW.block ?_ | refine CW.skip ?_ | refine SQ.nil ?_ | refine SQ.pures1 tt_ok rfl ?_ | refine SQ.pure1 tt_ok rfl ?_ | refine SQ.new _ _ rfl rfl (fun _ => ?_) | refine SQ.ldA tt_ok rfl rfl (by repeat (first | exact .h | exact .q | apply At.t)) (by rfl) ?_ | refine SQ.stA tt_ok rfl rfl (by repeat (first | apply Up.h | apply Up.t)) (by rfl) (by rfl) (by repeat (first | exact trivial | refine ⟨trivial, ?_⟩ | refine ⟨wk (by repeat (first | exact .h | exact .q | apply At.t)) (by rfl), ?_⟩)) ?_ | refine CW.cond_tt rfl ?_ | refine CW.cond_ff rfl ?_))
      rw [if_neg (by simp), if_pos rfl]
      exact CW.ret (fin_ret rfl (Tk.ent (by repeat (first | exact .n | exact Rm.h | apply Tk.c | apply Rm.t))) ⟨by simp [packV], rfl⟩)
    · rw [show (d == 2) = false by simp [h3]]
      (repeat (first | refine CW.seq ?_ | refine CW.region tt_ok rfl ?_ | refine CW.regionD tt_ok (by kernel_rfl) pl17_0 (by decide +kernel) ?_ | refine CW.regionD tt_ok (by kernel_rfl) pl17_1 (by decide +kernel) ?_ | refine CW.block ?_ | refine CW.skip ?_ | refine SQ.nil ?_ | refine SQ.pures1 tt_ok rfl ?_ | refine SQ.pure1 tt_ok rfl ?_ | refine SQ.new _ _ rfl rfl (fun _ => ?_) | refine SQ.ldA tt_ok rfl rfl (by repeat (first | exact .h | exact .q | apply At.t)) (by rfl) ?_ | refine SQ.stA tt_ok rfl rfl (by repeat (first | apply Up.h | apply Up.t)) (by rfl) (by rfl) (by repeat (first | exact trivial | refine ⟨trivial, ?_⟩ | refine ⟨wk (by repeat (first | exact .h | exact .q | apply At.t)) (by rfl), ?_⟩)) ?_ | refine CW.cond_tt rfl ?_ | refine CW.cond_ff rfl ?_))
      rw [if_neg (by simp [h1]), if_neg h3]
      exact CW.ret (fin_ret rfl (Tk.ent (by repeat (first | exact .n | exact Rm.h | apply Tk.c | apply Rm.t))) ⟨rfl, rfl⟩)
end Go.Proofs.Ytmaheecbohbilaa.Sl
