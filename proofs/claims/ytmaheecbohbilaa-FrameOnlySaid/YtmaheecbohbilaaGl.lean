import Derived.Test.YtmaheecbohbilaaGk
namespace Go.Proofs.Ytmaheecbohbilaa.Sl
open Go Go.RowKit Go.Proofs
set_option linter.unusedVariables false
set_option linter.unusedSimpArgs false
attribute [local irreducible] CW Tri OW
set_option maxRecDepth 10000
theorem ba_refl (a : ByteArray) : (a == a) = true := by
  cases a with | mk d => exact (show (d == d) = true by simp)
theorem shows_zero (r : Int) : showsV zeroL r = 0 := by
  unfold showsV
  repeat' split
  all_goals rfl
theorem atE_only (ids : List Int) {first : Int} {es : List En} {id : Int} : atE first (onlyL ids first es) id = (atE first es id).map fun e => if id ∈ ids then e else (zeroL, e.2) := by
  cases h : atE first es id with
  | none =>
    have h2 := hasV_at first es id
    have h3 := hasV_at first (onlyL ids first es) id
    rw [onlyL_len, h2, h] at h3
    cases h4 : atE first (onlyL ids first es) id with
    | none => rfl
    | some e => rw [h4] at h3; cases h3
  | some e =>
    obtain ⟨i, hi, he⟩ := atE_iff.1 h
    have := onlyL_at ids (first := first) he
    rw [← hi] at this
    exact atE_iff.2 ⟨i, hi, this⟩
theorem only_sub (ids : List Int) {first : Int} {es : List En} (r f : Int) {c : Int} (m : Nat) (hm : (m : Int) ≤ c) : ∃ W V : Nat, rdK first es r f c m = W ∧ rdK first (onlyL ids first es) r f c m = V ∧ andNotN V W = 0 := by
  obtain ⟨n, hn1, hn, hb⟩ := bits_n r
  obtain ⟨W, w1, w2, w3⟩ := rdK_bit first es (r := r) (f := f) (c := c) hb hn1 hn m hm
  obtain ⟨V, v1, v2, v3⟩ := rdK_bit first (onlyL ids first es) (r := r) (f := f) (c := c) hb hn1 hn m hm
  refine ⟨W, V, w2, v2, eq64 (andNotN_lt _ _) (by decide) fun j hj => ?_⟩
  rw [andNotN_bit hj, w3 j hj, v3 j hj, atE_only]
  cases atE first es (IntKind.i64.wrap (f + ((j / n : Nat) : Int))) with
  | none => simp
  | some e =>
    simp only [Option.map_some]
    split
    · simp
    · simp [shows_zero]
set_option maxHeartbeats 8000000 in
theorem law_only (β : Base) {p : Option Addr} {n c : Nat} {ts : List Ac} {A : Atom} (hr : RdS β p n 5 (ts.flatMap acC) A) (hn : n ≤ 9223372036854775807) (hid : ∀ t ∈ ts, acOk t) {a m : Int} (ha0 : 0 ≤ a) (ha1 : a ≤ 255) (hm0 : 0 ≤ m) (hm1 : m ≤ 255)
    {p2 : Option Addr} {n2 c2 : Nat} {ids : List Int} {A2 : Atom} (hr2 : RdS β p2 n2 1 (ids.flatMap i1C) A2) (hn2 : n2 ≤ 9223372036854775807) (off : Int) :
    Tri Try.prog β 8 [.int .u8 a, .int .u8 m, .slice p n c, .slice p2 n2 c2, .int .i64 off] [A, A2] (fun v L => v = .bool true ∧ L = []) := by
  refine Tri.intro tt_ok Try.func8 rfl rfl Try.ntmps8 rfl fun F => ?_
  (repeat (first | refine CW.seq ?_ | refine CW.region tt_ok rfl ?_ | refine CW.block ?_ | refine CW.skip ?_ | refine SQ.nil ?_ | refine SQ.pures1 tt_ok rfl ?_ | refine SQ.pure1 tt_ok rfl ?_ | refine SQ.new _ _ rfl rfl (fun _ => ?_) | refine SQ.ldA tt_ok rfl rfl (by repeat (first | exact .h | exact .q | apply At.t)) (by rfl) ?_ | refine SQ.stA tt_ok rfl rfl (by repeat (first | apply Up.h | apply Up.t)) (by rfl) (by rfl) (by exact trivial) ?_ | refine CW.cond_tt rfl ?_ | refine CW.cond_ff rfl ?_))
  rename_i b8 b10
  (refine SQ.callA rfl rfl (awake9 β) (by repeat (first | exact .n | exact Rm.h | apply Tk.c | apply Rm.t)) ?_; rintro _ _ ⟨rfl, rfl⟩; refine ⟨(by exact trivial), ?_⟩)
  (repeat (first | refine CW.seq ?_ | refine CW.region tt_ok rfl ?_ | refine CW.block ?_ | refine CW.skip ?_ | refine SQ.nil ?_ | refine SQ.pures1 tt_ok rfl ?_ | refine SQ.pure1 tt_ok rfl ?_ | refine SQ.new _ _ rfl rfl (fun _ => ?_) | refine SQ.ldA tt_ok rfl rfl (by repeat (first | exact .h | exact .q | apply At.t)) (by rfl) ?_ | refine SQ.stA tt_ok rfl rfl (by repeat (first | apply Up.h | apply Up.t)) (by rfl) (by rfl) (by exact trivial) ?_ | refine CW.cond_tt rfl ?_ | refine CW.cond_ff rfl ?_))
  (refine SQ.callA rfl rfl (played10 β hr hn hid ha0 ha1 hm0 hm1) (by repeat (first | exact .n | exact Rm.h | apply Tk.c | apply Rm.t)) ?_; rintro _ _ ⟨b, q0, c0, tx, rfl, rfl⟩; refine ⟨(by exact trivial), ?_⟩)
  have hf0 : 0 ≤ a % 64 := by omega
  have hf1 : a % 64 ≤ 16384 := by omega
  have hln : (playV (a % 64) (List.replicate (m % 80).toNat (zeroE.1, tx)) ts).length ≤ 16384 := by rw [playV_len, List.length_replicate]; omega
  generalize playV (a % 64) (List.replicate (m % 80).toNat (zeroE.1, tx)) ts = es at hln ⊢
  generalize a % 64 = first at hf0 hf1 ⊢
  (repeat (first | refine CW.seq ?_ | refine CW.region tt_ok rfl ?_ | refine CW.block ?_ | refine CW.skip ?_ | refine SQ.nil ?_ | refine SQ.pures1 tt_ok rfl ?_ | refine SQ.pure1 tt_ok rfl ?_ | refine SQ.new _ _ rfl rfl (fun _ => ?_) | refine SQ.ldA tt_ok rfl rfl (by repeat (first | exact .h | exact .q | apply At.t)) (by rfl) ?_ | refine SQ.stA tt_ok rfl rfl (by repeat (first | apply Up.h | apply Up.t)) (by rfl) (by rfl) (by exact trivial) ?_ | refine CW.cond_tt rfl ?_ | refine CW.cond_ff rfl ?_))
  rename_i b12
  have hcl := dist_place off
  have hD := dist15 β off 4
  generalize distV off 4 = D at hcl hD
  obtain ⟨⟨pr, pf, pc⟩, e⟩ := D
  simp only at hcl hD
  (refine SQ.callA rfl rfl (hD) (by repeat (first | exact .n | exact Rm.h | apply Tk.c | apply Rm.t)) ?_; rintro _ _ ⟨rfl, rfl⟩; refine ⟨(by exact trivial), ?_⟩)
  (repeat (first | refine CW.seq ?_ | refine CW.region tt_ok rfl ?_ | refine CW.block ?_ | refine CW.skip ?_ | refine SQ.nil ?_ | refine SQ.pures1 tt_ok rfl ?_ | refine SQ.pure1 tt_ok rfl ?_ | refine SQ.new _ _ rfl rfl (fun _ => ?_) | refine SQ.ldA tt_ok rfl rfl (by repeat (first | exact .h | exact .q | apply At.t)) (by rfl) ?_ | refine SQ.stA tt_ok rfl rfl (by repeat (first | apply Up.h | apply Up.t)) (by rfl) (by rfl) (by exact trivial) ?_ | refine CW.cond_tt rfl ?_ | refine CW.cond_ff rfl ?_))
  rename_i b13
  by_cases h3 : e = 0
  · subst h3
    obtain ⟨W, V, hW, hV, hWV⟩ := only_sub ids (first := first) (es := es) pr pf (c := pc) (cntV pc) (by unfold cntV; omega)
    (repeat (first | refine CW.seq ?_ | refine CW.region tt_ok rfl ?_ | refine CW.block ?_ | refine CW.skip ?_ | refine SQ.nil ?_ | refine SQ.pures1 tt_ok rfl ?_ | refine SQ.pure1 tt_ok rfl ?_ | refine SQ.new _ _ rfl rfl (fun _ => ?_) | refine SQ.ldA tt_ok rfl rfl (by repeat (first | exact .h | exact .q | apply At.t)) (by rfl) ?_ | refine SQ.stA tt_ok rfl rfl (by repeat (first | apply Up.h | apply Up.t)) (by rfl) (by rfl) (by exact trivial) ?_ | refine CW.cond_tt rfl ?_ | refine CW.cond_ff rfl ?_))
    (refine SQ.callA rfl rfl (read12 β b q0 c0 (first := first) (es := es) hf0 hf1 pr pf pc) (by repeat (first | exact .n | exact Rm.h | apply Tk.c | apply Rm.t)) ?_; rintro _ _ ⟨rfl, rfl⟩; refine ⟨(by exact trivial), ?_⟩)
    rw [hW]
    (repeat (first | refine CW.seq ?_ | refine CW.region tt_ok rfl ?_ | refine CW.block ?_ | refine CW.skip ?_ | refine SQ.nil ?_ | refine SQ.pures1 tt_ok rfl ?_ | refine SQ.pure1 tt_ok rfl ?_ | refine SQ.new _ _ rfl rfl (fun _ => ?_) | refine SQ.ldA tt_ok rfl rfl (by repeat (first | exact .h | exact .q | apply At.t)) (by rfl) ?_ | refine SQ.stA tt_ok rfl rfl (by repeat (first | apply Up.h | apply Up.t)) (by rfl) (by rfl) (by exact trivial) ?_ | refine CW.cond_tt rfl ?_ | refine CW.cond_ff rfl ?_))
    (refine SQ.callA rfl rfl (only20 β b q0 c0 es hr2 hn2 hf0 hf1 hln) (by repeat (first | exact .n | exact Rm.h | apply Tk.c | apply Rm.t)) ?_; rintro _ _ ⟨b2, q2, c3, rfl, rfl⟩; refine ⟨(by exact trivial), ?_⟩)
    (repeat (first | refine CW.seq ?_ | refine CW.region tt_ok rfl ?_ | refine CW.block ?_ | refine CW.skip ?_ | refine SQ.nil ?_ | refine SQ.pures1 tt_ok rfl ?_ | refine SQ.pure1 tt_ok rfl ?_ | refine SQ.new _ _ rfl rfl (fun _ => ?_) | refine SQ.ldA tt_ok rfl rfl (by repeat (first | exact .h | exact .q | apply At.t)) (by rfl) ?_ | refine SQ.stA tt_ok rfl rfl (by repeat (first | apply Up.h | apply Up.t)) (by rfl) (by rfl) (by exact trivial) ?_ | refine CW.cond_tt rfl ?_ | refine CW.cond_ff rfl ?_))
    (refine SQ.callA rfl rfl (read12 β b q0 c0 (first := first) (es := es) hf0 hf1 pr pf pc) (by repeat (first | exact .n | exact Rm.h | apply Tk.c | apply Rm.t)) ?_; rintro _ _ ⟨rfl, rfl⟩; refine ⟨(by exact trivial), ?_⟩)
    rw [hW]
    (repeat (first | refine CW.seq ?_ | refine CW.region tt_ok rfl ?_ | refine CW.block ?_ | refine CW.skip ?_ | refine SQ.nil ?_ | refine SQ.pures1 tt_ok rfl ?_ | refine SQ.pure1 tt_ok rfl ?_ | refine SQ.new _ _ rfl rfl (fun _ => ?_) | refine SQ.ldA tt_ok rfl rfl (by repeat (first | exact .h | exact .q | apply At.t)) (by rfl) ?_ | refine SQ.stA tt_ok rfl rfl (by repeat (first | apply Up.h | apply Up.t)) (by rfl) (by rfl) (by exact trivial) ?_ | refine CW.cond_tt rfl ?_ | refine CW.cond_ff rfl ?_))
    rw [show ((W : Int) != (W : Int)) = false by simp]
    (repeat (first | refine CW.seq ?_ | refine CW.region tt_ok rfl ?_ | refine CW.block ?_ | refine CW.skip ?_ | refine SQ.nil ?_ | refine SQ.pures1 tt_ok rfl ?_ | refine SQ.pure1 tt_ok rfl ?_ | refine SQ.new _ _ rfl rfl (fun _ => ?_) | refine SQ.ldA tt_ok rfl rfl (by repeat (first | exact .h | exact .q | apply At.t)) (by rfl) ?_ | refine SQ.stA tt_ok rfl rfl (by repeat (first | apply Up.h | apply Up.t)) (by rfl) (by rfl) (by exact trivial) ?_ | refine CW.cond_tt rfl ?_ | refine CW.cond_ff rfl ?_))
    (refine SQ.callA rfl rfl (all21 β b2 q2 c3 first (onlyL ids first es) (by rw [onlyL_len]; exact hln)) (by repeat (first | exact .n | exact Rm.h | apply Tk.c | apply Rm.t)) ?_; rintro _ _ ⟨b1, b33, q1, c1, rfl, rfl⟩; refine ⟨(by exact trivial), ?_⟩)
    refine SQ.ent _ (Rm.to (A := rowA q1 (onlyL ids first es).length ((onlyL ids first es).flatMap enC)) (by repeat (first | exact Rm.h | apply Rm.t)) (row_rd β (sz := 8) (flatE_len (sz := 8) (fun _ => rfl) _))) ?_
    refine SQ.open_ fun B => ?_
    refine SQ.pure_ fun hB => ?_
    (repeat (first | refine CW.seq ?_ | refine CW.region tt_ok rfl ?_ | refine CW.block ?_ | refine CW.skip ?_ | refine SQ.nil ?_ | refine SQ.pures1 tt_ok rfl ?_ | refine SQ.pure1 tt_ok rfl ?_ | refine SQ.new _ _ rfl rfl (fun _ => ?_) | refine SQ.ldA tt_ok rfl rfl (by repeat (first | exact .h | exact .q | apply At.t)) (by rfl) ?_ | refine SQ.stA tt_ok rfl rfl (by repeat (first | apply Up.h | apply Up.t)) (by rfl) (by rfl) (by exact trivial) ?_ | refine CW.cond_tt rfl ?_ | refine CW.cond_ff rfl ?_))
    refine CW.ent (L' := [pt b33 [.slice q1 (onlyL ids first es).length c1], pt b1 [.pointer (some ⟨b2, 0, none⟩)], pt b2 [.int .i64 first, .slice q2 (onlyL ids first es).length c3], B, pt b13 [.int .i64 pr, .int .i64 pf, .int .i64 pc], pt b12 [.pointer (some ⟨b, 0, none⟩)], pt b10 [ti4.zero], pt b8 [.slice p2 n2 c2], pt b [.int .i64 first, .slice q0 es.length c0], rowA q0 es.length (es.flatMap enC), rowA q2 (onlyL ids first es).length ((onlyL ids first es).flatMap enC), A2]) (Tk.ent (by repeat (first | exact .n | exact Rm.h | apply Tk.c | apply Rm.t))) ?_
    refine CW.rangeFunc rfl (iter43 β b2 b1 b33 hB hf0 hf1 (by rw [onlyL_len]; exact hln) rfl) [0, 0, 0, 0] rfl
      (fun _ => [pt b13 [.int .i64 pr, .int .i64 pf, .int .i64 pc], pt b12 [.pointer (some ⟨b, 0, none⟩)], pt b10 [ti4.zero], pt b8 [.slice p2 n2 c2], pt b [.int .i64 first, .slice q0 es.length c0], rowA q0 es.length (es.flatMap enC), rowA q2 (onlyL ids first es).length ((onlyL ids first es).flatMap enC), A2])
      (fun _ _ => False) (Ent.refl _) (fun _ => rfl) (by decide) ?_ ?_ (fun _ _ h => h.elim)
    · intro pre x hpre l fm rec1
      obtain ⟨e2, he2, rfl⟩ := allV_pre hpre
      have hlt : pre.length < es.length := by have := (List.getElem?_eq_some_iff.1 he2).1; rw [onlyL_len] at this; exact this
      obtain ⟨e, he⟩ : ∃ e, es[pre.length]? = some e := ⟨_, List.getElem?_eq_getElem hlt⟩
      have hae : atE first es (first + pre.length) = some e := atE_iff.2 ⟨_, rfl, he⟩
      have ho := onlyL_at ids (first := first) he
      rw [he2] at ho
      injection ho with ho
      (repeat (first | refine CW.seq ?_ | refine CW.region tt_ok rfl ?_ | refine CW.block ?_ | refine CW.skip ?_ | refine SQ.nil ?_ | refine SQ.pures1 tt_ok rfl ?_ | refine SQ.pure1 tt_ok rfl ?_ | refine SQ.new _ _ rfl rfl (fun _ => ?_) | refine SQ.ldA tt_ok rfl rfl (by repeat (first | exact .h | exact .q | apply At.t)) (by rfl) ?_ | refine SQ.stA tt_ok rfl rfl (by repeat (first | apply Up.h | apply Up.t)) (by rfl) (by rfl) (by exact trivial) ?_ | refine CW.cond_tt rfl ?_ | refine CW.cond_ff rfl ?_))
      intro fm2 rec2
      (repeat (first | refine CW.seq ?_ | refine CW.region tt_ok rfl ?_ | refine CW.block ?_ | refine CW.skip ?_ | refine SQ.nil ?_ | refine SQ.pures1 tt_ok rfl ?_ | refine SQ.pure1 tt_ok rfl ?_ | refine SQ.new _ _ rfl rfl (fun _ => ?_) | refine SQ.ldA tt_ok rfl rfl (by repeat (first | exact .h | exact .q | apply At.t)) (by rfl) ?_ | refine SQ.stA tt_ok rfl rfl (by repeat (first | apply Up.h | apply Up.t)) (by rfl) (by rfl) (by exact trivial) ?_ | refine CW.cond_tt rfl ?_ | refine CW.cond_ff rfl ?_))
      (refine SQ.callA rfl rfl (getSome β b q0 c0 hf0 hf1 (by omega) hae) (by repeat (first | exact .n | exact Rm.h | apply Tk.c | apply Rm.t)) ?_; rintro _ _ ⟨rfl, rfl⟩; refine ⟨(by exact trivial), ?_⟩)
      (repeat (first | refine CW.seq ?_ | refine CW.region tt_ok rfl ?_ | refine CW.block ?_ | refine CW.skip ?_ | refine SQ.nil ?_ | refine SQ.pures1 tt_ok rfl ?_ | refine SQ.pure1 tt_ok rfl ?_ | refine SQ.new _ _ rfl rfl (fun _ => ?_) | refine SQ.ldA tt_ok rfl rfl (by repeat (first | exact .h | exact .q | apply At.t)) (by rfl) ?_ | refine SQ.stA tt_ok rfl rfl (by repeat (first | apply Up.h | apply Up.t)) (by rfl) (by rfl) (by exact trivial) ?_ | refine CW.cond_tt rfl ?_ | refine CW.cond_ff rfl ?_))
      (refine SQ.callA rfl rfl (has22 β hr2 hn2 (first + pre.length)) (by repeat (first | exact .n | exact Rm.h | apply Tk.c | apply Rm.t)) ?_; rintro _ _ ⟨rfl, rfl⟩; refine ⟨(by exact trivial), ?_⟩)
      (repeat (first | refine CW.seq ?_ | refine CW.region tt_ok rfl ?_ | refine CW.block ?_ | refine CW.skip ?_ | refine SQ.nil ?_ | refine SQ.pures1 tt_ok rfl ?_ | refine SQ.pure1 tt_ok rfl ?_ | refine SQ.new _ _ rfl rfl (fun _ => ?_) | refine SQ.ldA tt_ok rfl rfl (by repeat (first | exact .h | exact .q | apply At.t)) (by rfl) ?_ | refine SQ.stA tt_ok rfl rfl (by repeat (first | apply Up.h | apply Up.t)) (by rfl) (by rfl) (by exact trivial) ?_ | refine CW.cond_tt rfl ?_ | refine CW.cond_ff rfl ?_))
      by_cases hin : first + (pre.length : Int) ∈ ids
      · rw [if_pos hin] at ho
        subst ho
        rw [decide_eq_true hin, show (!(e2.2.toList == e2.2.toList)) = false by simp]
        (repeat (first | refine CW.seq ?_ | refine CW.region tt_ok rfl ?_ | refine CW.block ?_ | refine CW.skip ?_ | refine SQ.nil ?_ | refine SQ.pures1 tt_ok rfl ?_ | refine SQ.pure1 tt_ok rfl ?_ | refine SQ.new _ _ rfl rfl (fun _ => ?_) | refine SQ.ldA tt_ok rfl rfl (by repeat (first | exact .h | exact .q | apply At.t)) (by rfl) ?_ | refine SQ.stA tt_ok rfl rfl (by repeat (first | apply Up.h | apply Up.t)) (by rfl) (by rfl) (by exact trivial) ?_ | refine CW.cond_tt rfl ?_ | refine CW.cond_ff rfl ?_))
        refine SQ.eqn tt_ok [40, 38, 36] ⟨by kernel_rfl, by kernel_rfl, by kernel_rfl, trivial⟩ rfl rfl (by kernel_rfl) false (by simp [ba_refl]) ?_
        (repeat (first | refine CW.seq ?_ | refine CW.region tt_ok rfl ?_ | refine CW.block ?_ | refine CW.skip ?_ | refine SQ.nil ?_ | refine SQ.pures1 tt_ok rfl ?_ | refine SQ.pure1 tt_ok rfl ?_ | refine SQ.new _ _ rfl rfl (fun _ => ?_) | refine SQ.ldA tt_ok rfl rfl (by repeat (first | exact .h | exact .q | apply At.t)) (by rfl) ?_ | refine SQ.stA tt_ok rfl rfl (by repeat (first | apply Up.h | apply Up.t)) (by rfl) (by rfl) (by exact trivial) ?_ | refine CW.cond_tt rfl ?_ | refine CW.cond_ff rfl ?_))
        exact (Tk.ent (by repeat (first | exact .n | exact Rm.h | apply Tk.c | apply Rm.t)))
      · rw [if_neg hin] at ho
        subst ho
        rw [decide_eq_false hin, show (!(e.2.toList == e.2.toList)) = false by simp]
        (repeat (first | refine CW.seq ?_ | refine CW.region tt_ok rfl ?_ | refine CW.block ?_ | refine CW.skip ?_ | refine SQ.nil ?_ | refine SQ.pures1 tt_ok rfl ?_ | refine SQ.pure1 tt_ok rfl ?_ | refine SQ.new _ _ rfl rfl (fun _ => ?_) | refine SQ.ldA tt_ok rfl rfl (by repeat (first | exact .h | exact .q | apply At.t)) (by rfl) ?_ | refine SQ.stA tt_ok rfl rfl (by repeat (first | apply Up.h | apply Up.t)) (by rfl) (by rfl) (by exact trivial) ?_ | refine CW.cond_tt rfl ?_ | refine CW.cond_ff rfl ?_))
        refine SQ.eqn tt_ok [38, 36] ⟨by kernel_rfl, by kernel_rfl, trivial⟩ rfl rfl (by kernel_rfl) false (by rfl) ?_
        (repeat (first | refine CW.seq ?_ | refine CW.region tt_ok rfl ?_ | refine CW.block ?_ | refine CW.skip ?_ | refine SQ.nil ?_ | refine SQ.pures1 tt_ok rfl ?_ | refine SQ.pure1 tt_ok rfl ?_ | refine SQ.new _ _ rfl rfl (fun _ => ?_) | refine SQ.ldA tt_ok rfl rfl (by repeat (first | exact .h | exact .q | apply At.t)) (by rfl) ?_ | refine SQ.stA tt_ok rfl rfl (by repeat (first | apply Up.h | apply Up.t)) (by rfl) (by rfl) (by exact trivial) ?_ | refine CW.cond_tt rfl ?_ | refine CW.cond_ff rfl ?_))
        exact (Tk.ent (by repeat (first | exact .n | exact Rm.h | apply Tk.c | apply Rm.t)))
    · (repeat (first | refine CW.seq ?_ | refine CW.region tt_ok rfl ?_ | refine CW.block ?_ | refine CW.skip ?_ | refine SQ.nil ?_ | refine SQ.pures1 tt_ok rfl ?_ | refine SQ.pure1 tt_ok rfl ?_ | refine SQ.new _ _ rfl rfl (fun _ => ?_) | refine SQ.ldA tt_ok rfl rfl (by repeat (first | exact .h | exact .q | apply At.t)) (by rfl) ?_ | refine SQ.stA tt_ok rfl rfl (by repeat (first | apply Up.h | apply Up.t)) (by rfl) (by rfl) (by exact trivial) ?_ | refine CW.cond_tt rfl ?_ | refine CW.cond_ff rfl ?_))
      (refine SQ.callA rfl rfl (read12 β b2 q2 c3 (first := first) (es := onlyL ids first es) hf0 hf1 pr pf pc) (by repeat (first | exact .n | exact Rm.h | apply Tk.c | apply Rm.t)) ?_; rintro _ _ ⟨rfl, rfl⟩; refine ⟨(by exact trivial), ?_⟩)
      rw [hV]
      (repeat (first | refine CW.seq ?_ | refine CW.region tt_ok rfl ?_ | refine CW.block ?_ | refine CW.skip ?_ | refine SQ.nil ?_ | refine SQ.pures1 tt_ok rfl ?_ | refine SQ.pure1 tt_ok rfl ?_ | refine SQ.new _ _ rfl rfl (fun _ => ?_) | refine SQ.ldA tt_ok rfl rfl (by repeat (first | exact .h | exact .q | apply At.t)) (by rfl) ?_ | refine SQ.stA tt_ok rfl rfl (by repeat (first | apply Up.h | apply Up.t)) (by rfl) (by rfl) (by exact trivial) ?_ | refine CW.cond_tt rfl ?_ | refine CW.cond_ff rfl ?_))
      (refine SQ.callA rfl rfl (reset23 β b2 q2 c3 (first := first) (onlyL ids first es) (by rw [onlyL_len]; exact hln)) (by repeat (first | exact .n | exact Rm.h | apply Tk.c | apply Rm.t)) ?_; rintro _ _ rfl; refine ⟨(by exact trivial), ?_⟩)
      (repeat (first | refine CW.seq ?_ | refine CW.region tt_ok rfl ?_ | refine CW.block ?_ | refine CW.skip ?_ | refine SQ.nil ?_ | refine SQ.pures1 tt_ok rfl ?_ | refine SQ.pure1 tt_ok rfl ?_ | refine SQ.new _ _ rfl rfl (fun _ => ?_) | refine SQ.ldA tt_ok rfl rfl (by repeat (first | exact .h | exact .q | apply At.t)) (by rfl) ?_ | refine SQ.stA tt_ok rfl rfl (by repeat (first | apply Up.h | apply Up.t)) (by rfl) (by rfl) (by exact trivial) ?_ | refine CW.cond_tt rfl ?_ | refine CW.cond_ff rfl ?_))
      rw [andNot64, hWV]
      (repeat (first | refine CW.seq ?_ | refine CW.region tt_ok rfl ?_ | refine CW.block ?_ | refine CW.skip ?_ | refine SQ.nil ?_ | refine SQ.pures1 tt_ok rfl ?_ | refine SQ.pure1 tt_ok rfl ?_ | refine SQ.new _ _ rfl rfl (fun _ => ?_) | refine SQ.ldA tt_ok rfl rfl (by repeat (first | exact .h | exact .q | apply At.t)) (by rfl) ?_ | refine SQ.stA tt_ok rfl rfl (by repeat (first | apply Up.h | apply Up.t)) (by rfl) (by rfl) (by exact trivial) ?_ | refine CW.cond_tt rfl ?_ | refine CW.cond_ff rfl ?_))
      (refine SQ.callA rfl rfl (read12 β b q0 c0 (first := first) (es := es) hf0 hf1 pr pf pc) (by repeat (first | exact .n | exact Rm.h | apply Tk.c | apply Rm.t)) ?_; rintro _ _ ⟨rfl, rfl⟩; refine ⟨(by exact trivial), ?_⟩)
      rw [hW]
      (repeat (first | refine CW.seq ?_ | refine CW.region tt_ok rfl ?_ | refine CW.block ?_ | refine CW.skip ?_ | refine SQ.nil ?_ | refine SQ.pures1 tt_ok rfl ?_ | refine SQ.pure1 tt_ok rfl ?_ | refine SQ.new _ _ rfl rfl (fun _ => ?_) | refine SQ.ldA tt_ok rfl rfl (by repeat (first | exact .h | exact .q | apply At.t)) (by rfl) ?_ | refine SQ.stA tt_ok rfl rfl (by repeat (first | apply Up.h | apply Up.t)) (by rfl) (by rfl) (by exact trivial) ?_ | refine CW.cond_tt rfl ?_ | refine CW.cond_ff rfl ?_))
      rw [show ((W : Int) == (W : Int)) = true by simp]
      (repeat (first | refine CW.seq ?_ | refine CW.region tt_ok rfl ?_ | refine CW.block ?_ | refine CW.skip ?_ | refine SQ.nil ?_ | refine SQ.pures1 tt_ok rfl ?_ | refine SQ.pure1 tt_ok rfl ?_ | refine SQ.new _ _ rfl rfl (fun _ => ?_) | refine SQ.ldA tt_ok rfl rfl (by repeat (first | exact .h | exact .q | apply At.t)) (by rfl) ?_ | refine SQ.stA tt_ok rfl rfl (by repeat (first | apply Up.h | apply Up.t)) (by rfl) (by rfl) (by exact trivial) ?_ | refine CW.cond_tt rfl ?_ | refine CW.cond_ff rfl ?_))
      first | exact CW.ret (fin_cells [_] ⟨⟨_, _, _, _, 0, rfl, rfl, rfl, rfl⟩, trivial⟩ (A := []) (Ent.dropAll _) ⟨rfl, rfl⟩) | exact CW.ret (fin_cells [_] ⟨⟨_, _, _, _, 1, rfl, rfl, rfl, rfl⟩, trivial⟩ (A := []) (Ent.dropAll _) ⟨rfl, rfl⟩) | exact CW.ret (fin_cells [_] ⟨⟨_, _, _, _, 2, rfl, rfl, rfl, rfl⟩, trivial⟩ (A := []) (Ent.dropAll _) ⟨rfl, rfl⟩) | exact CW.ret (fin_cells [_] ⟨⟨_, _, _, _, 3, rfl, rfl, rfl, rfl⟩, trivial⟩ (A := []) (Ent.dropAll _) ⟨rfl, rfl⟩) | exact CW.ret (fin_cells [_] ⟨⟨_, _, _, _, 4, rfl, rfl, rfl, rfl⟩, trivial⟩ (A := []) (Ent.dropAll _) ⟨rfl, rfl⟩) | exact CW.ret (fin_cells [_] ⟨⟨_, _, _, _, 5, rfl, rfl, rfl, rfl⟩, trivial⟩ (A := []) (Ent.dropAll _) ⟨rfl, rfl⟩) | exact CW.ret (fin_cells [_] ⟨⟨_, _, _, _, 6, rfl, rfl, rfl, rfl⟩, trivial⟩ (A := []) (Ent.dropAll _) ⟨rfl, rfl⟩) | exact CW.ret (fin_cells [_] ⟨⟨_, _, _, _, 7, rfl, rfl, rfl, rfl⟩, trivial⟩ (A := []) (Ent.dropAll _) ⟨rfl, rfl⟩) | exact CW.ret (fin_cells [_] ⟨⟨_, _, _, _, 8, rfl, rfl, rfl, rfl⟩, trivial⟩ (A := []) (Ent.dropAll _) ⟨rfl, rfl⟩) | exact CW.ret (fin_cells [_] ⟨⟨_, _, _, _, 9, rfl, rfl, rfl, rfl⟩, trivial⟩ (A := []) (Ent.dropAll _) ⟨rfl, rfl⟩) | exact CW.ret (fin_cells [_] ⟨⟨_, _, _, _, 10, rfl, rfl, rfl, rfl⟩, trivial⟩ (A := []) (Ent.dropAll _) ⟨rfl, rfl⟩) | exact CW.ret (fin_cells [_] ⟨⟨_, _, _, _, 11, rfl, rfl, rfl, rfl⟩, trivial⟩ (A := []) (Ent.dropAll _) ⟨rfl, rfl⟩) | exact CW.ret (fin_cells [_] ⟨⟨_, _, _, _, 12, rfl, rfl, rfl, rfl⟩, trivial⟩ (A := []) (Ent.dropAll _) ⟨rfl, rfl⟩) | exact CW.ret (fin_cells [_] ⟨⟨_, _, _, _, 13, rfl, rfl, rfl, rfl⟩, trivial⟩ (A := []) (Ent.dropAll _) ⟨rfl, rfl⟩)
  · rw [show (e != 0) = true by simp [h3]]
    (repeat (first | refine CW.seq ?_ | refine CW.region tt_ok rfl ?_ | refine CW.block ?_ | refine CW.skip ?_ | refine SQ.nil ?_ | refine SQ.pures1 tt_ok rfl ?_ | refine SQ.pure1 tt_ok rfl ?_ | refine SQ.new _ _ rfl rfl (fun _ => ?_) | refine SQ.ldA tt_ok rfl rfl (by repeat (first | exact .h | exact .q | apply At.t)) (by rfl) ?_ | refine SQ.stA tt_ok rfl rfl (by repeat (first | apply Up.h | apply Up.t)) (by rfl) (by rfl) (by exact trivial) ?_ | refine CW.cond_tt rfl ?_ | refine CW.cond_ff rfl ?_))
    first | exact CW.ret (fin_cells [_] ⟨⟨_, _, _, _, 0, rfl, rfl, rfl, rfl⟩, trivial⟩ (A := []) (Ent.dropAll _) ⟨rfl, rfl⟩) | exact CW.ret (fin_cells [_] ⟨⟨_, _, _, _, 1, rfl, rfl, rfl, rfl⟩, trivial⟩ (A := []) (Ent.dropAll _) ⟨rfl, rfl⟩) | exact CW.ret (fin_cells [_] ⟨⟨_, _, _, _, 2, rfl, rfl, rfl, rfl⟩, trivial⟩ (A := []) (Ent.dropAll _) ⟨rfl, rfl⟩) | exact CW.ret (fin_cells [_] ⟨⟨_, _, _, _, 3, rfl, rfl, rfl, rfl⟩, trivial⟩ (A := []) (Ent.dropAll _) ⟨rfl, rfl⟩) | exact CW.ret (fin_cells [_] ⟨⟨_, _, _, _, 4, rfl, rfl, rfl, rfl⟩, trivial⟩ (A := []) (Ent.dropAll _) ⟨rfl, rfl⟩) | exact CW.ret (fin_cells [_] ⟨⟨_, _, _, _, 5, rfl, rfl, rfl, rfl⟩, trivial⟩ (A := []) (Ent.dropAll _) ⟨rfl, rfl⟩) | exact CW.ret (fin_cells [_] ⟨⟨_, _, _, _, 6, rfl, rfl, rfl, rfl⟩, trivial⟩ (A := []) (Ent.dropAll _) ⟨rfl, rfl⟩) | exact CW.ret (fin_cells [_] ⟨⟨_, _, _, _, 7, rfl, rfl, rfl, rfl⟩, trivial⟩ (A := []) (Ent.dropAll _) ⟨rfl, rfl⟩) | exact CW.ret (fin_cells [_] ⟨⟨_, _, _, _, 8, rfl, rfl, rfl, rfl⟩, trivial⟩ (A := []) (Ent.dropAll _) ⟨rfl, rfl⟩) | exact CW.ret (fin_cells [_] ⟨⟨_, _, _, _, 9, rfl, rfl, rfl, rfl⟩, trivial⟩ (A := []) (Ent.dropAll _) ⟨rfl, rfl⟩) | exact CW.ret (fin_cells [_] ⟨⟨_, _, _, _, 10, rfl, rfl, rfl, rfl⟩, trivial⟩ (A := []) (Ent.dropAll _) ⟨rfl, rfl⟩) | exact CW.ret (fin_cells [_] ⟨⟨_, _, _, _, 11, rfl, rfl, rfl, rfl⟩, trivial⟩ (A := []) (Ent.dropAll _) ⟨rfl, rfl⟩) | exact CW.ret (fin_cells [_] ⟨⟨_, _, _, _, 12, rfl, rfl, rfl, rfl⟩, trivial⟩ (A := []) (Ent.dropAll _) ⟨rfl, rfl⟩) | exact CW.ret (fin_cells [_] ⟨⟨_, _, _, _, 13, rfl, rfl, rfl, rfl⟩, trivial⟩ (A := []) (Ent.dropAll _) ⟨rfl, rfl⟩)
end Go.Proofs.Ytmaheecbohbilaa.Sl
