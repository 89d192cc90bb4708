import Derived.Test.YtmaheecbohbilaaFg
namespace Go.Proofs.Ytmaheecbohbilaa.Sl
open Go Go.RowKit Go.Proofs
set_option linter.unusedVariables false
set_option linter.unusedSimpArgs false
attribute [local irreducible] CW Tri OW
set_option maxRecDepth 10000
@[reducible] def pl12_0 : Plan := [(0, 0, []), (1, 0, []), (2, 0, []), (3, 0, []), (4, 0, []), (5, 0, []), (6, 0, []), (7, 1, [0, 1, 2, 4, 6]), (8, 1, [0, 1, 2, 4, 6]), (9, 1, [])]
theorem idsV_len (f : Int) : ∀ n, (idsV f n).length = n
  | 0 => rfl
  | n + 1 => by simp [idsV, idsV_len f n]
theorem idsV_at (f : Int) : ∀ {n i : Nat}, i < n → (idsV f n)[i]? = some (IntKind.i64.wrap (f + i))
  | n + 1, i, h => by
    simp only [idsV]
    by_cases e : i = n
    · subst e; rw [List.getElem?_append_right (by rw [idsV_len]; omega), idsV_len]; simp
    · rw [List.getElem?_append_left (by rw [idsV_len]; omega)]; exact idsV_at f (by omega)
theorem pre_at {f : Int} {n : Nat} {pre : List Int} {x : Int} (h : (pre ++ [x]) <+: idsV f n) : pre.length < n ∧ x = IntKind.i64.wrap (f + pre.length) := by
  obtain ⟨t, ht⟩ := h
  have hl := congrArg List.length ht
  rw [idsV_len] at hl
  simp at hl
  have h1 : (idsV f n)[pre.length]? = some x := by rw [← ht]; simp
  rw [idsV_at f (by omega)] at h1
  exact ⟨by omega, by simpa using h1.symm⟩
theorem wrap_lt (x : Int) : IntKind.i64.wrap x < 9223372036854775808 := by rw [wrap_i64]; split <;> omega
def rdK (first : Int) (es : List En) (r f c : Int) : Nat → Int
  | 0 => 0
  | k + 1 => match atE first es (IntKind.i64.wrap (f + k)) with
    | some e => withV (rdK first es r f c k) r c k (showsV e.1 r)
    | none => rdK first es r f c k
theorem getSome (β : Base) (b : Nat) (q0 : Option Addr) (c0 : Nat) {first id : Int} {es : List En} {e : En} (h0 : 0 ≤ first) (h1 : first ≤ 16384) (h3 : id < 9223372036854775808) (h : atE first es id = some e) :
    Tri Try.prog β 14 [.pointer (some ⟨b, 0, none⟩), .int .i64 id] [pt b [.int .i64 first, .slice q0 es.length c0], rowA q0 es.length (es.flatMap enC)] (fun v L => v = .tuple #[.agg #[.bool e.1.1.1, .bool e.1.1.2.1, .bool e.1.1.2.2.1, .bool e.1.1.2.2.2, .bool e.1.2.1, .int .i64 e.1.2.2.1, .int .i64 e.1.2.2.2, .string e.2], .int .i64 0] ∧
      L = [pt b [.int .i64 first, .slice q0 es.length c0], rowA q0 es.length (es.flatMap enC)]) := by
  have := get14 β b q0 c0 (es := es) h0 h1 h3
  simp only [getV, h] at this
  exact this
theorem getNone (β : Base) (b : Nat) (q0 : Option Addr) (c0 : Nat) {first id : Int} {es : List En} (h0 : 0 ≤ first) (h1 : first ≤ 16384) (h3 : id < 9223372036854775808) (h : atE first es id = none) :
    Tri Try.prog β 14 [.pointer (some ⟨b, 0, none⟩), .int .i64 id] [pt b [.int .i64 first, .slice q0 es.length c0], rowA q0 es.length (es.flatMap enC)] (fun v L => v = .tuple #[.agg #[.bool false, .bool false, .bool false, .bool false, .bool false, .int .i64 0, .int .i64 0, .string ByteArray.empty], .int .i64 90] ∧
      L = [pt b [.int .i64 first, .slice q0 es.length c0], rowA q0 es.length (es.flatMap enC)]) := by
  have := get14 β b q0 c0 (es := es) h0 h1 h3
  simp only [getV, h] at this
  exact this
set_option maxHeartbeats 2000000 in
theorem read12 (β : Base) (b : Nat) (q0 : Option Addr) (c0 : Nat) {first : Int} {es : List En} (h0 : 0 ≤ first) (h1 : first ≤ 16384) (r f c : Int) :
    Tri Try.prog β 12 [.pointer (some ⟨b, 0, none⟩), .agg #[.int .i64 r, .int .i64 f, .int .i64 c]] (bkA b q0 c0 first es) (fun v L => v = .int .u64 (rdK first es r f c (cntV c)) ∧ L = bkA b q0 c0 first es) := by
  refine Tri.intro tt_ok Try.func12 rfl rfl Try.ntmps12 rfl fun F => ?_
  unfold bkA
  (repeat (first | refine CW.seq ?_ | refine CW.region tt_ok rfl ?_ | refine CW.regionD tt_ok (by kernel_rfl) pl12_0 (by decide +kernel) ?_ | refine CW.block ?_ | refine CW.skip ?_ | refine SQ.nil ?_ | refine SQ.pures1 tt_ok rfl ?_ | refine SQ.pure1 tt_ok rfl ?_ | refine SQ.new _ _ rfl rfl (fun _ => ?_) | refine SQ.ldA tt_ok rfl rfl (by repeat (first | exact .h | exact .q | apply At.t)) (by rfl) ?_ | refine SQ.stA tt_ok rfl rfl (by repeat (first | apply Up.h | apply Up.t)) (by rfl) (by rfl) (by repeat (first | exact trivial | refine ⟨trivial, ?_⟩ | refine ⟨wk (by repeat (first | exact .h | exact .q | apply At.t)) (by rfl), ?_⟩)) ?_ | refine CW.cond_tt rfl ?_ | refine CW.cond_ff rfl ?_))
  rename_i b2 b3 b5 b6
  (refine SQ.call rfl rfl (ids25 β r f c) [] rfl ?_; rintro _ _ ⟨b1, rfl, rfl⟩; refine ⟨(by repeat (first | exact trivial | refine ⟨trivial, ?_⟩ | refine ⟨wk (by repeat (first | exact .h | exact .q | apply At.t)) (by rfl), ?_⟩)), ?_⟩)
  (repeat (first | refine CW.seq ?_ | refine CW.region tt_ok rfl ?_ | refine CW.regionD tt_ok (by kernel_rfl) pl12_0 (by decide +kernel) ?_ | refine CW.block ?_ | refine CW.skip ?_ | refine SQ.nil ?_ | refine SQ.pures1 tt_ok rfl ?_ | refine SQ.pure1 tt_ok rfl ?_ | refine SQ.new _ _ rfl rfl (fun _ => ?_) | refine SQ.ldA tt_ok rfl rfl (by repeat (first | exact .h | exact .q | apply At.t)) (by rfl) ?_ | refine SQ.stA tt_ok rfl rfl (by repeat (first | apply Up.h | apply Up.t)) (by rfl) (by rfl) (by repeat (first | exact trivial | refine ⟨trivial, ?_⟩ | refine ⟨wk (by repeat (first | exact .h | exact .q | apply At.t)) (by rfl), ?_⟩)) ?_ | refine CW.cond_tt rfl ?_ | refine CW.cond_ff rfl ?_))
  refine CW.rangeFunc rfl (iter44 β r f c b1) [0] rfl
    (fun pre => [pt b6 [.int .i64 pre.length], pt b5 [.int .u64 (rdK first es r f c pre.length)], pt b3 [.int .i64 r, .int .i64 f, .int .i64 c], pt b2 [.pointer (some ⟨b, 0, none⟩)], pt b [.int .i64 first, .slice q0 es.length c0], rowA q0 es.length (es.flatMap enC)])
    (fun _ _ => False) (Ent.refl _) (fun _ => rfl) (by decide) ?_ ?_ (fun _ _ h => h.elim)
  · intro pre x hpre l fm rec1
    obtain ⟨hlt, hx⟩ := pre_at hpre
    have hx3 : x < 9223372036854775808 := by rw [hx]; exact wrap_lt _
    have hle : cntV c ≤ 16384 := by unfold cntV; omega
    have hw : IntKind.i64.wrap ((pre.length : Int) + 1) = (((pre ++ [x]).length : Nat) : Int) := by rw [wrap_i64]; simp; split <;> omega
    have hstep : rdK first es r f c (pre ++ [x]).length = match atE first es x with
      | some e => withV (rdK first es r f c pre.length) r c pre.length (showsV e.1 r)
      | none => rdK first es r f c pre.length := by rw [List.length_append, hx]; rfl
    (repeat (first | refine CW.seq ?_ | refine CW.region tt_ok rfl ?_ | refine CW.regionD tt_ok (by kernel_rfl) pl12_0 (by decide +kernel) ?_ | refine CW.block ?_ | refine CW.skip ?_ | refine SQ.nil ?_ | refine SQ.pures1 tt_ok rfl ?_ | refine SQ.pure1 tt_ok rfl ?_ | refine SQ.new _ _ rfl rfl (fun _ => ?_) | refine SQ.ldA tt_ok rfl rfl (by repeat (first | exact .h | exact .q | apply At.t)) (by rfl) ?_ | refine SQ.stA tt_ok rfl rfl (by repeat (first | apply Up.h | apply Up.t)) (by rfl) (by rfl) (by repeat (first | exact trivial | refine ⟨trivial, ?_⟩ | refine ⟨wk (by repeat (first | exact .h | exact .q | apply At.t)) (by rfl), ?_⟩)) ?_ | refine CW.cond_tt rfl ?_ | refine CW.cond_ff rfl ?_))
    intro fm2 rec2
    (repeat (first | refine CW.seq ?_ | refine CW.region tt_ok rfl ?_ | refine CW.regionD tt_ok (by kernel_rfl) pl12_0 (by decide +kernel) ?_ | refine CW.block ?_ | refine CW.skip ?_ | refine SQ.nil ?_ | refine SQ.pures1 tt_ok rfl ?_ | refine SQ.pure1 tt_ok rfl ?_ | refine SQ.new _ _ rfl rfl (fun _ => ?_) | refine SQ.ldA tt_ok rfl rfl (by repeat (first | exact .h | exact .q | apply At.t)) (by rfl) ?_ | refine SQ.stA tt_ok rfl rfl (by repeat (first | apply Up.h | apply Up.t)) (by rfl) (by rfl) (by repeat (first | exact trivial | refine ⟨trivial, ?_⟩ | refine ⟨wk (by repeat (first | exact .h | exact .q | apply At.t)) (by rfl), ?_⟩)) ?_ | refine CW.cond_tt rfl ?_ | refine CW.cond_ff rfl ?_))
    cases h : atE first es x with
    | none =>
      rw [h] at hstep
      (refine SQ.call rfl rfl (getNone β b q0 c0 h0 h1 hx3 h) [4, 4] rfl ?_; rintro _ _ ⟨rfl, rfl⟩; refine ⟨(by repeat (first | exact trivial | refine ⟨trivial, ?_⟩ | refine ⟨wk (by repeat (first | exact .h | exact .q | apply At.t)) (by rfl), ?_⟩)), ?_⟩)
      (repeat (first | refine CW.seq ?_ | refine CW.region tt_ok rfl ?_ | refine CW.regionD tt_ok (by kernel_rfl) pl12_0 (by decide +kernel) ?_ | refine CW.block ?_ | refine CW.skip ?_ | refine SQ.nil ?_ | refine SQ.pures1 tt_ok rfl ?_ | refine SQ.pure1 tt_ok rfl ?_ | refine SQ.new _ _ rfl rfl (fun _ => ?_) | refine SQ.ldA tt_ok rfl rfl (by repeat (first | exact .h | exact .q | apply At.t)) (by rfl) ?_ | refine SQ.stA tt_ok rfl rfl (by repeat (first | apply Up.h | apply Up.t)) (by rfl) (by rfl) (by repeat (first | exact trivial | refine ⟨trivial, ?_⟩ | refine ⟨wk (by repeat (first | exact .h | exact .q | apply At.t)) (by rfl), ?_⟩)) ?_ | refine CW.cond_tt rfl ?_ | refine CW.cond_ff rfl ?_))
      rw [hstep, ← hw]
      exact Ent.sel (is := [3, 3, 3, 3, 1, 1, 1]) rfl
    | some e =>
      rw [h] at hstep
      (refine SQ.call rfl rfl (getSome β b q0 c0 h0 h1 hx3 h) [4, 4] rfl ?_; rintro _ _ ⟨rfl, rfl⟩; refine ⟨(by repeat (first | exact trivial | refine ⟨trivial, ?_⟩ | refine ⟨wk (by repeat (first | exact .h | exact .q | apply At.t)) (by rfl), ?_⟩)), ?_⟩)
      (repeat (first | refine CW.seq ?_ | refine CW.region tt_ok rfl ?_ | refine CW.regionD tt_ok (by kernel_rfl) pl12_0 (by decide +kernel) ?_ | refine CW.block ?_ | refine CW.skip ?_ | refine SQ.nil ?_ | refine SQ.pures1 tt_ok rfl ?_ | refine SQ.pure1 tt_ok rfl ?_ | refine SQ.new _ _ rfl rfl (fun _ => ?_) | refine SQ.ldA tt_ok rfl rfl (by repeat (first | exact .h | exact .q | apply At.t)) (by rfl) ?_ | refine SQ.stA tt_ok rfl rfl (by repeat (first | apply Up.h | apply Up.t)) (by rfl) (by rfl) (by repeat (first | exact trivial | refine ⟨trivial, ?_⟩ | refine ⟨wk (by repeat (first | exact .h | exact .q | apply At.t)) (by rfl), ?_⟩)) ?_ | refine CW.cond_tt rfl ?_ | refine CW.cond_ff rfl ?_))
      (refine SQ.call rfl rfl (shows27 β _ _ _ _ _ _ _ _) [] rfl ?_; rintro _ _ ⟨rfl, rfl⟩; refine ⟨(by repeat (first | exact trivial | refine ⟨trivial, ?_⟩ | refine ⟨wk (by repeat (first | exact .h | exact .q | apply At.t)) (by rfl), ?_⟩)), ?_⟩)
      (repeat (first | refine CW.seq ?_ | refine CW.region tt_ok rfl ?_ | refine CW.regionD tt_ok (by kernel_rfl) pl12_0 (by decide +kernel) ?_ | refine CW.block ?_ | refine CW.skip ?_ | refine SQ.nil ?_ | refine SQ.pures1 tt_ok rfl ?_ | refine SQ.pure1 tt_ok rfl ?_ | refine SQ.new _ _ rfl rfl (fun _ => ?_) | refine SQ.ldA tt_ok rfl rfl (by repeat (first | exact .h | exact .q | apply At.t)) (by rfl) ?_ | refine SQ.stA tt_ok rfl rfl (by repeat (first | apply Up.h | apply Up.t)) (by rfl) (by rfl) (by repeat (first | exact trivial | refine ⟨trivial, ?_⟩ | refine ⟨wk (by repeat (first | exact .h | exact .q | apply At.t)) (by rfl), ?_⟩)) ?_ | refine CW.cond_tt rfl ?_ | refine CW.cond_ff rfl ?_))
      (refine SQ.call rfl rfl (with26 β _ r f c _ _) [] rfl ?_; rintro _ _ ⟨rfl, rfl⟩; refine ⟨(by repeat (first | exact trivial | refine ⟨trivial, ?_⟩ | refine ⟨wk (by repeat (first | exact .h | exact .q | apply At.t)) (by rfl), ?_⟩)), ?_⟩)
      (repeat (first | refine CW.seq ?_ | refine CW.region tt_ok rfl ?_ | refine CW.regionD tt_ok (by kernel_rfl) pl12_0 (by decide +kernel) ?_ | refine CW.block ?_ | refine CW.skip ?_ | refine SQ.nil ?_ | refine SQ.pures1 tt_ok rfl ?_ | refine SQ.pure1 tt_ok rfl ?_ | refine SQ.new _ _ rfl rfl (fun _ => ?_) | refine SQ.ldA tt_ok rfl rfl (by repeat (first | exact .h | exact .q | apply At.t)) (by rfl) ?_ | refine SQ.stA tt_ok rfl rfl (by repeat (first | apply Up.h | apply Up.t)) (by rfl) (by rfl) (by repeat (first | exact trivial | refine ⟨trivial, ?_⟩ | refine ⟨wk (by repeat (first | exact .h | exact .q | apply At.t)) (by rfl), ?_⟩)) ?_ | refine CW.cond_tt rfl ?_ | refine CW.cond_ff rfl ?_))
      rw [hstep, ← hw]
      exact Ent.sel (is := [3, 3, 3, 3, 1, 1, 1]) rfl
  · (repeat (first | refine CW.seq ?_ | refine CW.region tt_ok rfl ?_ | refine CW.regionD tt_ok (by kernel_rfl) pl12_0 (by decide +kernel) ?_ | refine CW.block ?_ | refine CW.skip ?_ | refine SQ.nil ?_ | refine SQ.pures1 tt_ok rfl ?_ | refine SQ.pure1 tt_ok rfl ?_ | refine SQ.new _ _ rfl rfl (fun _ => ?_) | refine SQ.ldA tt_ok rfl rfl (by repeat (first | exact .h | exact .q | apply At.t)) (by rfl) ?_ | refine SQ.stA tt_ok rfl rfl (by repeat (first | apply Up.h | apply Up.t)) (by rfl) (by rfl) (by repeat (first | exact trivial | refine ⟨trivial, ?_⟩ | refine ⟨wk (by repeat (first | exact .h | exact .q | apply At.t)) (by rfl), ?_⟩)) ?_ | refine CW.cond_tt rfl ?_ | refine CW.cond_ff rfl ?_))
    rw [idsV_len]
    refine CW.ret (fin_ret rfl (Ent.sel (is := [4, 4]) rfl) ⟨rfl, rfl⟩)
/-- What a place's write makes of a bank: how many are others, and the bank. -/
def wr1 (first : Int) (es : List En) (r f c v : Int) (k : Nat) : List En × Bool :=
  match atE first es (IntKind.i64.wrap (f + k)) with
  | some e => let l := writtenV (IntKind.i64.wrap (f + k)) e.1 r (fieldV v r c k)
    if l = e.1 then (es, false) else ((putV first es (IntKind.i64.wrap (f + k)) (l, e.2)).1, true)
  | none => (es, false)
def wrK (first : Int) (es : List En) (r f c v : Int) : Nat → List En × Nat
  | 0 => (es, 0)
  | k + 1 => let p := wrK first es r f c v k
    let q := wr1 first p.1 r f c v k
    (q.1, p.2 + if q.2 then 1 else 0)
theorem wr1_len (first : Int) (es : List En) (r f c v : Int) (k : Nat) : (wr1 first es r f c v k).1.length = es.length := by
  unfold wr1; split
  · simp only; split
    · rfl
    · exact putV_len _ _ _ _
  · rfl
theorem wrK_len (first : Int) (es : List En) (r f c v : Int) : ∀ k, (wrK first es r f c v k).1.length = es.length
  | 0 => rfl
  | k + 1 => by simp only [wrK]; rw [wr1_len, wrK_len first es r f c v k]
theorem wrK_cnt (first : Int) (es : List En) (r f c v : Int) : ∀ k, (wrK first es r f c v k).2 ≤ k
  | 0 => Nat.le_refl _
  | k + 1 => by simp only [wrK]; have := wrK_cnt first es r f c v k; split <;> omega
end Go.Proofs.Ytmaheecbohbilaa.Sl
