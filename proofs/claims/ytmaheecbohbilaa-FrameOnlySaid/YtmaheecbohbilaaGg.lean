import Derived.Test.YtmaheecbohbilaaGf
namespace Go.Proofs.Ytmaheecbohbilaa.Sl
open Go Go.RowKit Go.Proofs
set_option linter.unusedVariables false
set_option linter.unusedSimpArgs false
attribute [local irreducible] CW Tri OW
set_option maxRecDepth 10000
@[reducible] def pl43_0 : Plan := [(0, 0, []), (1, 0, []), (2, 0, []), (3, 0, []), (4, 0, []), (5, 0, []), (6, 0, []), (7, 0, []), (8, 1, []), (9, 0, [])]
theorem enC_one (a : En) : scal (enC a) = true := rfl
set_option maxHeartbeats 2000000 in
theorem clone42 (β : Base) (q0 : Option Addr) (c0 : Nat) (es : List En) (hn : es.length ≤ 16384) :
    Tri Try.prog β 42 [.slice q0 es.length c0] [rowA q0 es.length (es.flatMap enC)] (fun v L => ∃ q1 c1, v = .slice q1 es.length c1 ∧ L = [rowA q0 es.length (es.flatMap enC), rowA q1 es.length (es.flatMap enC)]) := by
  refine Tri.intro tt_ok Try.func42 rfl rfl Try.ntmps42 rfl fun F => ?_
  cases q0 with
  | none =>
    refine CW.ent row_none (CW.pure_ fun h => ?_)
    obtain ⟨h1, h2⟩ := h
    rw [h1, h2]
    (repeat (first | refine CW.seq ?_ | refine CW.region tt_ok rfl ?_ | refine CW.block ?_ | refine CW.skip ?_ | refine SQ.nil ?_ | refine SQ.pures1 tt_ok rfl ?_ | refine SQ.pure1 tt_ok rfl ?_ | refine SQ.new _ _ rfl rfl (fun _ => ?_) | refine SQ.ldA tt_ok rfl rfl (by repeat (first | exact .h | exact .q | apply At.t)) (by rfl) ?_ | refine SQ.stA tt_ok rfl rfl (by repeat (first | apply Up.h | apply Up.t)) (by rfl) (by rfl) (by exact trivial) ?_ | refine CW.cond_tt rfl ?_ | refine CW.cond_ff rfl ?_))
    refine CW.ret (fin_ret rfl (A := [rowA none 0 [], rowA none 0 []]) (Ent.trans row_nil row_nil) ?_)
    exact ⟨none, 0, rfl, rfl⟩
  | some a =>
    refine CW.ent row_some (CW.open_ fun y => ?_)
    obtain ⟨g, rest⟩ := y
    refine CW.pure_ fun hv => ?_
    simp only at hv
    subst hv
    (repeat (first | refine CW.seq ?_ | refine CW.region tt_ok rfl ?_ | refine CW.block ?_ | refine CW.skip ?_ | refine SQ.nil ?_ | refine SQ.pures1 tt_ok rfl ?_ | refine SQ.pure1 tt_ok rfl ?_ | refine SQ.new _ _ rfl rfl (fun _ => ?_) | refine SQ.ldA tt_ok rfl rfl (by repeat (first | exact .h | exact .q | apply At.t)) (by rfl) ?_ | refine SQ.stA tt_ok rfl rfl (by repeat (first | apply Up.h | apply Up.t)) (by rfl) (by rfl) (by exact trivial) ?_ | refine CW.cond_tt rfl ?_ | refine CW.cond_ff rfl ?_))
    refine SQ.builtO tt_ok rfl rfl rfl rfl (fun b => ⟨(by exact trivial), ?_⟩)
    (repeat (first | refine CW.seq ?_ | refine CW.region tt_ok rfl ?_ | refine CW.block ?_ | refine CW.skip ?_ | refine SQ.nil ?_ | refine SQ.pures1 tt_ok rfl ?_ | refine SQ.pure1 tt_ok rfl ?_ | refine SQ.new _ _ rfl rfl (fun _ => ?_) | refine SQ.ldA tt_ok rfl rfl (by repeat (first | exact .h | exact .q | apply At.t)) (by rfl) ?_ | refine SQ.stA tt_ok rfl rfl (by repeat (first | apply Up.h | apply Up.t)) (by rfl) (by rfl) (by exact trivial) ?_ | refine CW.cond_tt rfl ?_ | refine CW.cond_ff rfl ?_))
    refine SQ.append tt_ok rfl rfl 0 rfl 1 (q := true) rfl (es.flatMap enC) (by rw [List.drop_zero]; exact List.take_left) (flatE_len (sz := 8) (fun _ => rfl) es) rfl (one_flat enC_one es) (by omega) (by show (0 + es.length) * 40 ≤ _; omega) (fun v' => ⟨(by exact trivial), ?_⟩)
    refine SQ.ent _ (Ent.head (own_shape _ _ _ _ _)) ?_
    refine SQ.open_ fun x => ?_
    refine SQ.pure_ fun hv => ?_
    subst hv
    (repeat (first | refine CW.seq ?_ | refine CW.region tt_ok rfl ?_ | refine CW.block ?_ | refine CW.skip ?_ | refine SQ.nil ?_ | refine SQ.pures1 tt_ok rfl ?_ | refine SQ.pure1 tt_ok rfl ?_ | refine SQ.new _ _ rfl rfl (fun _ => ?_) | refine SQ.ldA tt_ok rfl rfl (by repeat (first | exact .h | exact .q | apply At.t)) (by rfl) ?_ | refine SQ.stA tt_ok rfl rfl (by repeat (first | apply Up.h | apply Up.t)) (by rfl) (by rfl) (by exact trivial) ?_ | refine CW.cond_tt rfl ?_ | refine CW.cond_ff rfl ?_))
    have ho : Ent [own 40 8 (.slice x.1 (0 + es.length) x.2) (0 + es.length) ([] ++ es.flatMap enC)] [rowA x.1 es.length (es.flatMap enC)] := by
      rw [Nat.zero_add, List.nil_append]; exact own_row
    refine CW.ret (fin_ret rfl (A := [rowA (some ⟨g, 0, none⟩) es.length (es.flatMap enC), rowA x.1 es.length (es.flatMap enC)]) (Ent.trans (Ent.sel (is := [1, 0]) rfl) (Ent.append (L := [_]) (L' := [_]) row_close ho)) ?_)
    exact ⟨x.1, x.2, by rw [Nat.zero_add]; rfl, rfl⟩
theorem all21 (β : Base) (b : Nat) (q0 : Option Addr) (c0 : Nat) (first : Int) (es : List En) (hn : es.length ≤ 16384) :
    Tri Try.prog β 21 [.pointer (some ⟨b, 0, none⟩)] (bkA b q0 c0 first es) (fun v L => ∃ b1 b3 q1 c1, v = .func (.func 43) #[] #[.pointer (some ⟨b3, 0, none⟩), .pointer (some ⟨b1, 0, none⟩)] ∧
      L = [pt b3 [.slice q1 es.length c1], pt b1 [.pointer (some ⟨b, 0, none⟩)], rowA q1 es.length (es.flatMap enC)] ++ bkA b q0 c0 first es) := by
  refine Tri.intro tt_ok Try.func21 rfl rfl Try.ntmps21 rfl fun F => ?_
  (repeat (first | refine CW.seq ?_ | refine CW.region tt_ok rfl ?_ | refine CW.block ?_ | refine CW.skip ?_ | refine SQ.nil ?_ | refine SQ.pures1 tt_ok rfl ?_ | refine SQ.pure1 tt_ok rfl ?_ | refine SQ.new _ _ rfl rfl (fun _ => ?_) | refine SQ.ldA tt_ok rfl rfl (by repeat (first | exact .h | exact .q | apply At.t)) (by rfl) ?_ | refine SQ.stA tt_ok rfl rfl (by repeat (first | apply Up.h | apply Up.t)) (by rfl) (by rfl) (by exact trivial) ?_ | refine CW.cond_tt rfl ?_ | refine CW.cond_ff rfl ?_))
  rename_i b1
  (refine SQ.callA rfl rfl (clone42 β q0 c0 es hn) (by repeat (first | exact .n | exact Rm.h | apply Tk.c | apply Rm.t)) ?_; rintro _ _ ⟨q1, c1, rfl, rfl⟩; refine ⟨(by exact trivial), ?_⟩)
  (repeat (first | refine CW.seq ?_ | refine CW.region tt_ok rfl ?_ | refine CW.block ?_ | refine CW.skip ?_ | refine SQ.nil ?_ | refine SQ.pures1 tt_ok rfl ?_ | refine SQ.pure1 tt_ok rfl ?_ | refine SQ.new _ _ rfl rfl (fun _ => ?_) | refine SQ.ldA tt_ok rfl rfl (by repeat (first | exact .h | exact .q | apply At.t)) (by rfl) ?_ | refine SQ.stA tt_ok rfl rfl (by repeat (first | apply Up.h | apply Up.t)) (by rfl) (by rfl) (by exact trivial) ?_ | refine CW.cond_tt rfl ?_ | refine CW.cond_ff rfl ?_))
  rename_i b3
  refine CW.ret (fin_ret rfl (A := [pt b3 [.slice q1 es.length c1], pt b1 [.pointer (some ⟨b, 0, none⟩)], rowA q1 es.length (es.flatMap enC)] ++ bkA b q0 c0 first es) (Tk.ent (by repeat (first | exact .n | exact Rm.h | apply Tk.c | apply Rm.t))) ?_)
  exact ⟨b1, b3, q1, c1, rfl, rfl⟩
/-- All of a bank, with their numbers. -/
def allV (first : Int) : List En → List (Int × En)
  | [] => []
  | e :: r => (first, e) :: allV (first + 1) r
theorem allV_len : ∀ (first : Int) (es : List En), (allV first es).length = es.length
  | _, [] => rfl
  | first, e :: r => by simp [allV, allV_len (first + 1) r]
theorem allV_at : ∀ {first : Int} {es : List En} {k : Nat} {e : En}, es[k]? = some e → (allV first es)[k]? = some (first + k, e)
  | _, [], _, _, h => by simp at h
  | first, a :: r, 0, e, h => by simp at h; subst h; simp [allV]
  | first, a :: r, k + 1, e, h => by
    have := allV_at (first := first + 1) (es := r) (k := k) (e := e) (by simpa using h)
    simp only [allV, List.getElem?_cons_succ]
    rw [this]; simp; omega
@[reducible] def peC (x : Int × En) : List Value := [.int .i64 x.1, .agg #[.bool x.2.1.1.1, .bool x.2.1.1.2.1, .bool x.2.1.1.2.2.1, .bool x.2.1.1.2.2.2, .bool x.2.1.2.1, .int .i64 x.2.1.2.2.1, .int .i64 x.2.1.2.2.2, .string x.2.2]]
theorem allV_pre {first : Int} {es : List En} {pre : List (Int × En)} {x : Int × En} (h : (pre ++ [x]) <+: allV first es) : ∃ e, es[pre.length]? = some e ∧ x = (first + pre.length, e) := by
  obtain ⟨t, ht⟩ := h
  have hl := congrArg List.length ht
  rw [allV_len] at hl
  simp at hl
  obtain ⟨e, he⟩ : ∃ e, es[pre.length]? = some e := ⟨_, List.getElem?_eq_getElem (by omega)⟩
  have h1 := allV_at (first := first) he
  rw [← ht] at h1
  simp at h1
  exact ⟨e, he, h1⟩
theorem take_pre {α : Type} {l : List α} {k : Nat} {x : α} (h : l[k]? = some x) : (l.take k ++ [x]) <+: l := by
  have : l.take (k + 1) = l.take k ++ [x] := by rw [List.take_add_one, h]; rfl
  rw [← this]; exact List.take_prefix _ _
theorem rd_enq {cs : List Value} {off n : Nat} {ts : List En} (h : (cs.drop off).take (n * 8) = ts.flatMap enC) {k : Nat} {t : En} (hk : ts[k]? = some t) : rdv ti40 cs (off + k * 8) = some (.agg (enC t).toArray) :=
  rd_enc (enc := enC) (sz := 8) (fun _ => rfl) rfl rfl h hk
set_option maxHeartbeats 2000000 in
theorem iter43 (β : Base) (b b1 b3 : Nat) {q1 : Option Addr} {c1 : Nat} {first : Int} {es : List En} {S : Value} {A1 : Atom} (h1 : RdS β q1 es.length 8 (es.flatMap enC) A1) (hf0 : 0 ≤ first) (hf1 : first ≤ 16384) (hn : es.length ≤ 16384) (hS : vcells S = [S]) :
    Iter Try.prog β 43 [.pointer (some ⟨b3, 0, none⟩), .pointer (some ⟨b1, 0, none⟩)] [pt b3 [.slice q1 es.length c1], pt b1 [.pointer (some ⟨b, 0, none⟩)], pt b [.int .i64 first, S], A1] peC (allV first es) := by
  intro l J Jx hY
  refine Tri.intro tt_ok Try.func43 rfl rfl Try.ntmps43 rfl fun F => ?_
  (repeat (first | refine CW.seq ?_ | refine CW.region tt_ok rfl ?_ | refine CW.regionD tt_ok (by kernel_rfl) pl43_0 (by decide +kernel) ?_ | refine CW.block ?_ | refine CW.skip ?_ | refine SQ.nil ?_ | refine SQ.pures1 tt_ok rfl ?_ | refine SQ.pure1 tt_ok rfl ?_ | refine SQ.new _ _ rfl rfl (fun _ => ?_) | refine SQ.ldA tt_ok rfl rfl (by repeat (first | exact .h | exact .q | apply At.t)) (by rfl) ?_ | refine SQ.stA tt_ok rfl rfl (by repeat (first | apply Up.h | apply Up.t)) (by rfl) (by rfl) (by repeat (first | exact trivial | refine ⟨trivial, ?_⟩ | refine ⟨wk (by repeat (first | exact .h | exact .q | apply At.t)) (by rfl), ?_⟩)) ?_ | refine CW.cond_tt rfl ?_ | refine CW.cond_ff rfl ?_))
  refine CW.loop (α := Nat) (fun k => k ≤ es.length) (fun k => [(8, .int .i64 k), (7, .int .i64 es.length), (6, .slice q1 es.length c1), (0, .func (.yield l) #[] #[]), (2, .pointer (some ⟨b1, 0, none⟩))])
    (fun k => [J ((allV first es).take k), pt b3 [.slice q1 es.length c1], pt b1 [.pointer (some ⟨b, 0, none⟩)], pt b [.int .i64 first, S], A1]) (fun k => es.length - k) 0 (by omega) ⟨rfl, rfl, rfl, rfl, rfl, trivial⟩ (Ent.refl _) ?_
  intro k hk
  (repeat (first | refine CW.seq ?_ | refine CW.region tt_ok rfl ?_ | refine CW.regionD tt_ok (by kernel_rfl) pl43_0 (by decide +kernel) ?_ | refine CW.block ?_ | refine CW.skip ?_ | refine SQ.nil ?_ | refine SQ.pures1 tt_ok rfl ?_ | refine SQ.pure1 tt_ok rfl ?_ | refine SQ.new _ _ rfl rfl (fun _ => ?_) | refine SQ.ldA tt_ok rfl rfl (by repeat (first | exact .h | exact .q | apply At.t)) (by rfl) ?_ | refine SQ.stA tt_ok rfl rfl (by repeat (first | apply Up.h | apply Up.t)) (by rfl) (by rfl) (by repeat (first | exact trivial | refine ⟨trivial, ?_⟩ | refine ⟨wk (by repeat (first | exact .h | exact .q | apply At.t)) (by rfl), ?_⟩)) ?_ | refine CW.cond_tt rfl ?_ | refine CW.cond_ff rfl ?_))
  generalize e1 : decide ((k : Int) < (es.length : Int)) = c
  cases c
  · (repeat (first | refine CW.seq ?_ | refine CW.region tt_ok rfl ?_ | refine CW.regionD tt_ok (by kernel_rfl) pl43_0 (by decide +kernel) ?_ | refine CW.block ?_ | refine CW.skip ?_ | refine SQ.nil ?_ | refine SQ.pures1 tt_ok rfl ?_ | refine SQ.pure1 tt_ok rfl ?_ | refine SQ.new _ _ rfl rfl (fun _ => ?_) | refine SQ.ldA tt_ok rfl rfl (by repeat (first | exact .h | exact .q | apply At.t)) (by rfl) ?_ | refine SQ.stA tt_ok rfl rfl (by repeat (first | apply Up.h | apply Up.t)) (by rfl) (by rfl) (by repeat (first | exact trivial | refine ⟨trivial, ?_⟩ | refine ⟨wk (by repeat (first | exact .h | exact .q | apply At.t)) (by rfl), ?_⟩)) ?_ | refine CW.cond_tt rfl ?_ | refine CW.cond_ff rfl ?_))
    refine CW.exit ?_
    have : k = es.length := by simp at e1; omega
    subst this
    refine fin_normal rfl (Ent.refl _) (.inl ?_)
    rw [List.take_of_length_le (by rw [allV_len]; omega)]
  · have hlt : k < es.length := by simp at e1; omega
    have hw : IntKind.i64.wrap ((k : Int) + 1) = ((k + 1 : Nat) : Int) := by rw [wrap_i64]; split <;> omega
    have hwf : IntKind.i64.wrap (first + (k : Int)) = first + k := by rw [wrap_i64]; split <;> omega
    obtain ⟨e, he⟩ : ∃ e, es[k]? = some e := ⟨_, List.getElem?_eq_getElem hlt⟩
    obtain ⟨bs, os, qs, cs, rfl, rfl, hcs⟩ := h1.2.resolve_left (by omega)
    have hat := allV_at (first := first) he
    have htk : (allV first es).take (k + 1) = (allV first es).take k ++ [(first + k, e)] := by rw [List.take_add_one, hat]; rfl
    (repeat (first | refine CW.seq ?_ | refine CW.region tt_ok rfl ?_ | refine CW.regionD tt_ok (by kernel_rfl) pl43_0 (by decide +kernel) ?_ | refine CW.block ?_ | refine CW.skip ?_ | refine SQ.nil ?_ | refine SQ.pures1 tt_ok rfl ?_ | refine SQ.pure1 tt_ok rfl ?_ | refine SQ.new _ _ rfl rfl (fun _ => ?_) | refine SQ.ldA tt_ok rfl rfl (by repeat (first | exact .h | exact .q | apply At.t)) (by rfl) ?_ | refine SQ.stA tt_ok rfl rfl (by repeat (first | apply Up.h | apply Up.t)) (by rfl) (by rfl) (by repeat (first | exact trivial | refine ⟨trivial, ?_⟩ | refine ⟨wk (by repeat (first | exact .h | exact .q | apply At.t)) (by rfl), ?_⟩)) ?_ | refine CW.cond_tt rfl ?_ | refine CW.cond_ff rfl ?_))
    refine SQ.idx tt_ok rfl rfl k rfl hlt (o' := os + k * 8) rfl ?_
    refine SQ.loadq tt_ok rfl rfl 4 rfl (rd_enq hcs he) ?_
    (repeat (first | refine CW.seq ?_ | refine CW.region tt_ok rfl ?_ | refine CW.regionD tt_ok (by kernel_rfl) pl43_0 (by decide +kernel) ?_ | refine CW.block ?_ | refine CW.skip ?_ | refine SQ.nil ?_ | refine SQ.pures1 tt_ok rfl ?_ | refine SQ.pure1 tt_ok rfl ?_ | refine SQ.new _ _ rfl rfl (fun _ => ?_) | refine SQ.ldA tt_ok rfl rfl (by repeat (first | exact .h | exact .q | apply At.t)) (by rfl) ?_ | refine SQ.stA tt_ok rfl rfl (by repeat (first | apply Up.h | apply Up.t)) (by rfl) (by rfl) (by repeat (first | exact trivial | refine ⟨trivial, ?_⟩ | refine ⟨wk (by repeat (first | exact .h | exact .q | apply At.t)) (by rfl), ?_⟩)) ?_ | refine CW.cond_tt rfl ?_ | refine CW.cond_ff rfl ?_))
    rw [hwf]
    (refine SQ.yield rfl rfl (hY ((allV first es).take k) (first + k, e) (take_pre hat)) [1, 1, 1, 1, 1] rfl ?_; rintro _ _ (⟨rfl, rfl⟩ | ⟨rfl, rfl⟩) <;> refine ⟨(by repeat (first | exact trivial | refine ⟨trivial, ?_⟩ | refine ⟨wk (by repeat (first | exact .h | exact .q | apply At.t)) (by rfl), ?_⟩)), ?_⟩)
    · (repeat (first | refine CW.seq ?_ | refine CW.region tt_ok rfl ?_ | refine CW.regionD tt_ok (by kernel_rfl) pl43_0 (by decide +kernel) ?_ | refine CW.block ?_ | refine CW.skip ?_ | refine SQ.nil ?_ | refine SQ.pures1 tt_ok rfl ?_ | refine SQ.pure1 tt_ok rfl ?_ | refine SQ.new _ _ rfl rfl (fun _ => ?_) | refine SQ.ldA tt_ok rfl rfl (by repeat (first | exact .h | exact .q | apply At.t)) (by rfl) ?_ | refine SQ.stA tt_ok rfl rfl (by repeat (first | apply Up.h | apply Up.t)) (by rfl) (by rfl) (by repeat (first | exact trivial | refine ⟨trivial, ?_⟩ | refine ⟨wk (by repeat (first | exact .h | exact .q | apply At.t)) (by rfl), ?_⟩)) ?_ | refine CW.cond_tt rfl ?_ | refine CW.cond_ff rfl ?_))
      refine ⟨k + 1, by omega, by omega, ⟨by rw [← hw]; rfl, rfl, rfl, rfl, rfl, trivial⟩, ?_⟩
      rw [htk]
      exact (Tk.ent (by repeat (first | exact .n | exact Rm.h | apply Tk.c | apply Rm.t)))
    · (repeat (first | refine CW.seq ?_ | refine CW.region tt_ok rfl ?_ | refine CW.regionD tt_ok (by kernel_rfl) pl43_0 (by decide +kernel) ?_ | refine CW.block ?_ | refine CW.skip ?_ | refine SQ.nil ?_ | refine SQ.pures1 tt_ok rfl ?_ | refine SQ.pure1 tt_ok rfl ?_ | refine SQ.new _ _ rfl rfl (fun _ => ?_) | refine SQ.ldA tt_ok rfl rfl (by repeat (first | exact .h | exact .q | apply At.t)) (by rfl) ?_ | refine SQ.stA tt_ok rfl rfl (by repeat (first | apply Up.h | apply Up.t)) (by rfl) (by rfl) (by repeat (first | exact trivial | refine ⟨trivial, ?_⟩ | refine ⟨wk (by repeat (first | exact .h | exact .q | apply At.t)) (by rfl), ?_⟩)) ?_ | refine CW.cond_tt rfl ?_ | refine CW.cond_ff rfl ?_))
      exact CW.ret (fin_ret rfl (Tk.ent (by repeat (first | exact .n | exact Rm.h | apply Tk.c | apply Rm.t))) (.inr ⟨_, rfl⟩))
end Go.Proofs.Ytmaheecbohbilaa.Sl
