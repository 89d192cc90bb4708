import Derived.Test.YtmaheecbohbilaaGi
namespace Go.Proofs.Ytmaheecbohbilaa.Sl
open Go Go.RowKit Go.Proofs
set_option linter.unusedVariables false
set_option linter.unusedSimpArgs false
attribute [local irreducible] CW Tri OW
set_option maxRecDepth 10000
@[reducible] def pl40_0 : Plan := [(0, 0, []), (1, 0, []), (2, 0, []), (3, 0, []), (4, 0, []), (5, 0, []), (6, 0, []), (7, 0, []), (8, 1, [3]), (9, 0, []), (10, 1, [3, 7]), (11, 0, [])]
@[reducible] def i1C (x : Int) : List Value := [.int .i64 x]
theorem ints_at {ids : List Int} {k : Nat} {x : Int} (h : ids[k]? = some x) : (ids.flatMap i1C)[k]? = some (.int .i64 x) := by
  have key : ∀ ids : List Int, ids.flatMap i1C = ids.map (fun x => Value.int .i64 x) := fun ids => by
    induction ids with
    | nil => rfl
    | cons a r ih => rw [List.flatMap_cons, ih]; rfl
  rw [key]; simp [h]
theorem rd_i1 {cs : List Value} {off n : Nat} {ids : List Int} (h : (cs.drop off).take (n * 1) = ids.flatMap i1C) {k : Nat} {x : Int} (hk : ids[k]? = some x) : rdv ti3 cs (off + k * 1) = some (.int .i64 x) := by
  have h1 := ints_at hk
  rw [← h] at h1
  have h2 := cells_at (cs := cs) (off := off) (m := n * 1) (j := k) rfl h1
  have h3 : aggD ti3.desc = false := rfl
  have hlt := (List.getElem?_eq_some_iff.1 h2).1
  simp only [rdv, h3, takeN_eq, dropN_eq, Nat.mul_one]
  rw [List.drop_eq_getElem_cons hlt]
  have := (List.getElem?_eq_some_iff.1 h2).2
  simp [this]
theorem index59 (β : Base) {p : Option Addr} {n c : Nat} {ids : List Int} {A : Atom} (h : RdS β p n 1 (ids.flatMap i1C) A) (hn : n ≤ 9223372036854775807) (x : Int) :
    Tri Try.prog β 59 [.slice p n c, .int .i64 x] [A] (fun v L => (∃ j : Int, v = .int .i64 j ∧ decide (j ≥ 0) = decide (x ∈ ids)) ∧ L = [A]) := by
  have hl : ids.length = n := by have := h.1; rw [flatE_len (sz := 1) (fun _ => rfl)] at this; omega
  refine Tri.intro tt_ok Try.func59 rfl rfl Try.ntmps59 rfl fun F => ?_
  (repeat (first | refine CW.seq ?_ | refine CW.region tt_ok rfl ?_ | refine CW.block ?_ | refine CW.skip ?_ | refine SQ.nil ?_ | refine SQ.pures1 tt_ok rfl ?_ | refine SQ.pure1 tt_ok rfl ?_ | refine SQ.new _ _ rfl rfl (fun _ => ?_) | refine SQ.ldA tt_ok rfl rfl (by repeat (first | exact .h | exact .q | apply At.t)) (by rfl) ?_ | refine SQ.stA tt_ok rfl rfl (by repeat (first | apply Up.h | apply Up.t)) (by rfl) (by rfl) (by exact trivial) ?_ | refine CW.cond_tt rfl ?_ | refine CW.cond_ff rfl ?_))
  refine CW.loop (α := Nat) (fun k => k ≤ n ∧ ∀ (i : Nat) (y : Int), i < k → ids[i]? = some y → y ≠ x) (fun k => [(8, .int .i64 k), (7, .int .i64 n), (0, .slice p n c), (1, .int .i64 x)]) (fun _ => [A]) (fun k => n - k) 0 ⟨by omega, by omega⟩ ⟨rfl, rfl, rfl, rfl, trivial⟩ (Ent.refl _) ?_
  rintro k ⟨hk, hb⟩
  (repeat (first | refine CW.seq ?_ | refine CW.region tt_ok rfl ?_ | refine CW.block ?_ | refine CW.skip ?_ | refine SQ.nil ?_ | refine SQ.pures1 tt_ok rfl ?_ | refine SQ.pure1 tt_ok rfl ?_ | refine SQ.new _ _ rfl rfl (fun _ => ?_) | refine SQ.ldA tt_ok rfl rfl (by repeat (first | exact .h | exact .q | apply At.t)) (by rfl) ?_ | refine SQ.stA tt_ok rfl rfl (by repeat (first | apply Up.h | apply Up.t)) (by rfl) (by rfl) (by exact trivial) ?_ | refine CW.cond_tt rfl ?_ | refine CW.cond_ff rfl ?_))
  generalize e1 : decide ((k : Int) < (n : Int)) = cc
  cases cc
  · have : k = n := by simp at e1; omega
    subst this
    (repeat (first | refine CW.seq ?_ | refine CW.region tt_ok rfl ?_ | refine CW.block ?_ | refine CW.skip ?_ | refine SQ.nil ?_ | refine SQ.pures1 tt_ok rfl ?_ | refine SQ.pure1 tt_ok rfl ?_ | refine SQ.new _ _ rfl rfl (fun _ => ?_) | refine SQ.ldA tt_ok rfl rfl (by repeat (first | exact .h | exact .q | apply At.t)) (by rfl) ?_ | refine SQ.stA tt_ok rfl rfl (by repeat (first | apply Up.h | apply Up.t)) (by rfl) (by rfl) (by exact trivial) ?_ | refine CW.cond_tt rfl ?_ | refine CW.cond_ff rfl ?_))
    refine CW.exit ?_
    (repeat (first | refine CW.seq ?_ | refine CW.region tt_ok rfl ?_ | refine CW.block ?_ | refine CW.skip ?_ | refine SQ.nil ?_ | refine SQ.pures1 tt_ok rfl ?_ | refine SQ.pure1 tt_ok rfl ?_ | refine SQ.new _ _ rfl rfl (fun _ => ?_) | refine SQ.ldA tt_ok rfl rfl (by repeat (first | exact .h | exact .q | apply At.t)) (by rfl) ?_ | refine SQ.stA tt_ok rfl rfl (by repeat (first | apply Up.h | apply Up.t)) (by rfl) (by rfl) (by exact trivial) ?_ | refine CW.cond_tt rfl ?_ | refine CW.cond_ff rfl ?_))
    refine CW.ret (fin_ret rfl (Ent.refl _) ⟨⟨-1, rfl, ?_⟩, rfl⟩)
    have hno : ¬ x ∈ ids := fun hx => by
      obtain ⟨i, hi, e⟩ := List.getElem_of_mem hx
      exact hb i x (by omega) (by rw [← e]; exact List.getElem?_eq_getElem hi) rfl
    simp [hno]
  · have hlt : k < n := by simp at e1; omega
    have hw : IntKind.i64.wrap ((k : Int) + 1) = ((k + 1 : Nat) : Int) := by rw [wrap_i64]; split <;> omega
    obtain ⟨y, hy⟩ : ∃ y, ids[k]? = some y := ⟨_, List.getElem?_eq_getElem (by omega)⟩
    obtain ⟨bs, os, qs, cs, rfl, rfl, hcs⟩ := h.2.resolve_left (by omega)
    (repeat (first | refine CW.seq ?_ | refine CW.region tt_ok rfl ?_ | refine CW.block ?_ | refine CW.skip ?_ | refine SQ.nil ?_ | refine SQ.pures1 tt_ok rfl ?_ | refine SQ.pure1 tt_ok rfl ?_ | refine SQ.new _ _ rfl rfl (fun _ => ?_) | refine SQ.ldA tt_ok rfl rfl (by repeat (first | exact .h | exact .q | apply At.t)) (by rfl) ?_ | refine SQ.stA tt_ok rfl rfl (by repeat (first | apply Up.h | apply Up.t)) (by rfl) (by rfl) (by exact trivial) ?_ | refine CW.cond_tt rfl ?_ | refine CW.cond_ff rfl ?_))
    refine SQ.idx tt_ok rfl rfl k rfl hlt (o' := os + k * 1) rfl ?_
    refine SQ.ldA tt_ok rfl rfl (by repeat (first | exact .h | exact .q | apply At.t)) (rd_i1 hcs hy) ?_
    (repeat (first | refine CW.seq ?_ | refine CW.region tt_ok rfl ?_ | refine CW.block ?_ | refine CW.skip ?_ | refine SQ.nil ?_ | refine SQ.pures1 tt_ok rfl ?_ | refine SQ.pure1 tt_ok rfl ?_ | refine SQ.new _ _ rfl rfl (fun _ => ?_) | refine SQ.ldA tt_ok rfl rfl (by repeat (first | exact .h | exact .q | apply At.t)) (by rfl) ?_ | refine SQ.stA tt_ok rfl rfl (by repeat (first | apply Up.h | apply Up.t)) (by rfl) (by rfl) (by exact trivial) ?_ | refine CW.cond_tt rfl ?_ | refine CW.cond_ff rfl ?_))
    by_cases hxy : x = y
    · rw [show (x == y) = true by simp [hxy]]
      (repeat (first | refine CW.seq ?_ | refine CW.region tt_ok rfl ?_ | refine CW.block ?_ | refine CW.skip ?_ | refine SQ.nil ?_ | refine SQ.pures1 tt_ok rfl ?_ | refine SQ.pure1 tt_ok rfl ?_ | refine SQ.new _ _ rfl rfl (fun _ => ?_) | refine SQ.ldA tt_ok rfl rfl (by repeat (first | exact .h | exact .q | apply At.t)) (by rfl) ?_ | refine SQ.stA tt_ok rfl rfl (by repeat (first | apply Up.h | apply Up.t)) (by rfl) (by rfl) (by exact trivial) ?_ | refine CW.cond_tt rfl ?_ | refine CW.cond_ff rfl ?_))
      refine CW.ret (fin_ret rfl (Ent.refl _) ⟨⟨k, rfl, ?_⟩, rfl⟩)
      have hyes : x ∈ ids := by rw [hxy]; exact List.mem_of_getElem? hy
      simp [hyes]
    · rw [show (x == y) = false by simp [hxy]]
      (repeat (first | refine CW.seq ?_ | refine CW.region tt_ok rfl ?_ | refine CW.block ?_ | refine CW.skip ?_ | refine SQ.nil ?_ | refine SQ.pures1 tt_ok rfl ?_ | refine SQ.pure1 tt_ok rfl ?_ | refine SQ.new _ _ rfl rfl (fun _ => ?_) | refine SQ.ldA tt_ok rfl rfl (by repeat (first | exact .h | exact .q | apply At.t)) (by rfl) ?_ | refine SQ.stA tt_ok rfl rfl (by repeat (first | apply Up.h | apply Up.t)) (by rfl) (by rfl) (by exact trivial) ?_ | refine CW.cond_tt rfl ?_ | refine CW.cond_ff rfl ?_))
      refine ⟨k + 1, ⟨by omega, fun i z hi hz => ?_⟩, by omega, ⟨by rw [← hw]; rfl, rfl, rfl, rfl, trivial⟩, Ent.refl _⟩
      by_cases hik : i = k
      · subst hik
        rw [hy] at hz
        injection hz with hz
        rw [← hz]; exact fun h => hxy h.symm
      · exact hb i z (by omega) hz
theorem contains41 (β : Base) {p : Option Addr} {n c : Nat} {ids : List Int} {A : Atom} (h : RdS β p n 1 (ids.flatMap i1C) A) (hn : n ≤ 9223372036854775807) (x : Int) :
    Tri Try.prog β 41 [.slice p n c, .int .i64 x] [A] (fun v L => v = .bool (decide (x ∈ ids)) ∧ L = [A]) := by
  refine Tri.intro tt_ok Try.func41 rfl rfl Try.ntmps41 rfl fun F => ?_
  (repeat (first | refine CW.seq ?_ | refine CW.region tt_ok rfl ?_ | refine CW.block ?_ | refine CW.skip ?_ | refine SQ.nil ?_ | refine SQ.pures1 tt_ok rfl ?_ | refine SQ.pure1 tt_ok rfl ?_ | refine SQ.new _ _ rfl rfl (fun _ => ?_) | refine SQ.ldA tt_ok rfl rfl (by repeat (first | exact .h | exact .q | apply At.t)) (by rfl) ?_ | refine SQ.stA tt_ok rfl rfl (by repeat (first | apply Up.h | apply Up.t)) (by rfl) (by rfl) (by exact trivial) ?_ | refine CW.cond_tt rfl ?_ | refine CW.cond_ff rfl ?_))
  (refine SQ.callA rfl rfl (index59 β h hn x) (by repeat (first | exact .n | exact Rm.h | apply Tk.c | apply Rm.t)) ?_; rintro _ _ ⟨⟨j, rfl, hj⟩, rfl⟩; refine ⟨(by exact trivial), ?_⟩)
  (repeat (first | refine CW.seq ?_ | refine CW.region tt_ok rfl ?_ | refine CW.block ?_ | refine CW.skip ?_ | refine SQ.nil ?_ | refine SQ.pures1 tt_ok rfl ?_ | refine SQ.pure1 tt_ok rfl ?_ | refine SQ.new _ _ rfl rfl (fun _ => ?_) | refine SQ.ldA tt_ok rfl rfl (by repeat (first | exact .h | exact .q | apply At.t)) (by rfl) ?_ | refine SQ.stA tt_ok rfl rfl (by repeat (first | apply Up.h | apply Up.t)) (by rfl) (by rfl) (by exact trivial) ?_ | refine CW.cond_tt rfl ?_ | refine CW.cond_ff rfl ?_))
  exact CW.ret (fin_ret rfl (Ent.refl _) ⟨by rw [← hj]; rfl, rfl⟩)
theorem has22 (β : Base) {p : Option Addr} {n c : Nat} {ids : List Int} {A : Atom} (h : RdS β p n 1 (ids.flatMap i1C) A) (hn : n ≤ 9223372036854775807) (x : Int) :
    Tri Try.prog β 22 [.slice p n c, .int .i64 x] [A] (fun v L => v = .bool (decide (x ∈ ids)) ∧ L = [A]) := by
  have hl : ids.length = n := by have := h.1; rw [flatE_len (sz := 1) (fun _ => rfl)] at this; omega
  refine Tri.intro tt_ok Try.func22 rfl rfl Try.ntmps22 rfl fun F => ?_
  (repeat (first | refine CW.seq ?_ | refine CW.region tt_ok rfl ?_ | refine CW.block ?_ | refine CW.skip ?_ | refine SQ.nil ?_ | refine SQ.pures1 tt_ok rfl ?_ | refine SQ.pure1 tt_ok rfl ?_ | refine SQ.new _ _ rfl rfl (fun _ => ?_) | refine SQ.ldA tt_ok rfl rfl (by repeat (first | exact .h | exact .q | apply At.t)) (by rfl) ?_ | refine SQ.stA tt_ok rfl rfl (by repeat (first | apply Up.h | apply Up.t)) (by rfl) (by rfl) (by exact trivial) ?_ | refine CW.cond_tt rfl ?_ | refine CW.cond_ff rfl ?_))
  refine CW.loop (α := Nat) (fun k => k ≤ n ∧ ∀ (i : Nat) (y : Int), i < k → ids[i]? = some y → y ≠ x) (fun k => [(5, .int .i64 k), (0, .slice p n c), (1, .int .i64 x)]) (fun _ => [A]) (fun k => n - k) 0 ⟨by omega, by omega⟩ ⟨rfl, rfl, rfl, trivial⟩ (Ent.refl _) ?_
  rintro k ⟨hk, hb⟩
  (repeat (first | refine CW.seq ?_ | refine CW.region tt_ok rfl ?_ | refine CW.block ?_ | refine CW.skip ?_ | refine SQ.nil ?_ | refine SQ.pures1 tt_ok rfl ?_ | refine SQ.pure1 tt_ok rfl ?_ | refine SQ.new _ _ rfl rfl (fun _ => ?_) | refine SQ.ldA tt_ok rfl rfl (by repeat (first | exact .h | exact .q | apply At.t)) (by rfl) ?_ | refine SQ.stA tt_ok rfl rfl (by repeat (first | apply Up.h | apply Up.t)) (by rfl) (by rfl) (by exact trivial) ?_ | refine CW.cond_tt rfl ?_ | refine CW.cond_ff rfl ?_))
  generalize e1 : decide ((k : Int) < (n : Int)) = cc
  cases cc
  · have : k = n := by simp at e1; omega
    subst this
    (repeat (first | refine CW.seq ?_ | refine CW.region tt_ok rfl ?_ | refine CW.block ?_ | refine CW.skip ?_ | refine SQ.nil ?_ | refine SQ.pures1 tt_ok rfl ?_ | refine SQ.pure1 tt_ok rfl ?_ | refine SQ.new _ _ rfl rfl (fun _ => ?_) | refine SQ.ldA tt_ok rfl rfl (by repeat (first | exact .h | exact .q | apply At.t)) (by rfl) ?_ | refine SQ.stA tt_ok rfl rfl (by repeat (first | apply Up.h | apply Up.t)) (by rfl) (by rfl) (by exact trivial) ?_ | refine CW.cond_tt rfl ?_ | refine CW.cond_ff rfl ?_))
    refine CW.exit ?_
    (repeat (first | refine CW.seq ?_ | refine CW.region tt_ok rfl ?_ | refine CW.block ?_ | refine CW.skip ?_ | refine SQ.nil ?_ | refine SQ.pures1 tt_ok rfl ?_ | refine SQ.pure1 tt_ok rfl ?_ | refine SQ.new _ _ rfl rfl (fun _ => ?_) | refine SQ.ldA tt_ok rfl rfl (by repeat (first | exact .h | exact .q | apply At.t)) (by rfl) ?_ | refine SQ.stA tt_ok rfl rfl (by repeat (first | apply Up.h | apply Up.t)) (by rfl) (by rfl) (by exact trivial) ?_ | refine CW.cond_tt rfl ?_ | refine CW.cond_ff rfl ?_))
    have hno : ¬ x ∈ ids := fun hx => by
      obtain ⟨i, hi, e⟩ := List.getElem_of_mem hx
      exact hb i x (by omega) (by rw [← e]; exact List.getElem?_eq_getElem hi) rfl
    refine CW.ret (fin_ret rfl (Ent.refl _) ⟨?_, rfl⟩)
    simp [hno, packV]
  · have hlt : k < n := by simp at e1; omega
    have hw : IntKind.i64.wrap ((k : Int) + 1) = ((k + 1 : Nat) : Int) := by rw [wrap_i64]; split <;> omega
    obtain ⟨y, hy⟩ : ∃ y, ids[k]? = some y := ⟨_, List.getElem?_eq_getElem (by omega)⟩
    obtain ⟨bs, os, qs, cs, rfl, rfl, hcs⟩ := h.2.resolve_left (by omega)
    (repeat (first | refine CW.seq ?_ | refine CW.region tt_ok rfl ?_ | refine CW.block ?_ | refine CW.skip ?_ | refine SQ.nil ?_ | refine SQ.pures1 tt_ok rfl ?_ | refine SQ.pure1 tt_ok rfl ?_ | refine SQ.new _ _ rfl rfl (fun _ => ?_) | refine SQ.ldA tt_ok rfl rfl (by repeat (first | exact .h | exact .q | apply At.t)) (by rfl) ?_ | refine SQ.stA tt_ok rfl rfl (by repeat (first | apply Up.h | apply Up.t)) (by rfl) (by rfl) (by exact trivial) ?_ | refine CW.cond_tt rfl ?_ | refine CW.cond_ff rfl ?_))
    refine SQ.idx tt_ok rfl rfl k rfl hlt (o' := os + k * 1) rfl ?_
    refine SQ.ldA tt_ok rfl rfl (by repeat (first | exact .h | exact .q | apply At.t)) (rd_i1 hcs hy) ?_
    (repeat (first | refine CW.seq ?_ | refine CW.region tt_ok rfl ?_ | refine CW.block ?_ | refine CW.skip ?_ | refine SQ.nil ?_ | refine SQ.pures1 tt_ok rfl ?_ | refine SQ.pure1 tt_ok rfl ?_ | refine SQ.new _ _ rfl rfl (fun _ => ?_) | refine SQ.ldA tt_ok rfl rfl (by repeat (first | exact .h | exact .q | apply At.t)) (by rfl) ?_ | refine SQ.stA tt_ok rfl rfl (by repeat (first | apply Up.h | apply Up.t)) (by rfl) (by rfl) (by exact trivial) ?_ | refine CW.cond_tt rfl ?_ | refine CW.cond_ff rfl ?_))
    by_cases hxy : y = x
    · rw [show (y == x) = true by simp [hxy]]
      (repeat (first | refine CW.seq ?_ | refine CW.region tt_ok rfl ?_ | refine CW.block ?_ | refine CW.skip ?_ | refine SQ.nil ?_ | refine SQ.pures1 tt_ok rfl ?_ | refine SQ.pure1 tt_ok rfl ?_ | refine SQ.new _ _ rfl rfl (fun _ => ?_) | refine SQ.ldA tt_ok rfl rfl (by repeat (first | exact .h | exact .q | apply At.t)) (by rfl) ?_ | refine SQ.stA tt_ok rfl rfl (by repeat (first | apply Up.h | apply Up.t)) (by rfl) (by rfl) (by exact trivial) ?_ | refine CW.cond_tt rfl ?_ | refine CW.cond_ff rfl ?_))
      have hyes : x ∈ ids := by rw [← hxy]; exact List.mem_of_getElem? hy
      refine CW.ret (fin_ret rfl (Ent.refl _) ⟨?_, rfl⟩)
      simp [hyes, packV]
    · rw [show (y == x) = false by simp [hxy]]
      (repeat (first | refine CW.seq ?_ | refine CW.region tt_ok rfl ?_ | refine CW.block ?_ | refine CW.skip ?_ | refine SQ.nil ?_ | refine SQ.pures1 tt_ok rfl ?_ | refine SQ.pure1 tt_ok rfl ?_ | refine SQ.new _ _ rfl rfl (fun _ => ?_) | refine SQ.ldA tt_ok rfl rfl (by repeat (first | exact .h | exact .q | apply At.t)) (by rfl) ?_ | refine SQ.stA tt_ok rfl rfl (by repeat (first | apply Up.h | apply Up.t)) (by rfl) (by rfl) (by exact trivial) ?_ | refine CW.cond_tt rfl ?_ | refine CW.cond_ff rfl ?_))
      refine ⟨k + 1, ⟨by omega, fun i z hi hz => ?_⟩, by omega, ⟨by rw [← hw]; rfl, rfl, rfl, trivial⟩, Ent.refl _⟩
      by_cases hik : i = k
      · subst hik
        rw [hy] at hz
        injection hz with hz
        rw [← hz]; exact hxy
      · exact hb i z (by omega) hz
theorem copy40 (β : Base) (b : Nat) (q0 : Option Addr) (c0 : Nat) (first : Int) (es : List En) (hn : es.length ≤ 16384) :
    Tri Try.prog β 40 [.pointer (some ⟨b, 0, none⟩)] (bkA b q0 c0 first es) (fun v L => ∃ b2 q1 c1, v = .pointer (some ⟨b2, 0, none⟩) ∧ L = bkA b2 q1 c1 first es ++ bkA b q0 c0 first es) := by
  refine Tri.intro tt_ok Try.func40 rfl rfl Try.ntmps40 rfl fun F => ?_
  (repeat (first | refine CW.seq ?_ | refine CW.region tt_ok rfl ?_ | refine CW.regionD tt_ok (by kernel_rfl) pl40_0 (by decide +kernel) ?_ | refine CW.block ?_ | refine CW.skip ?_ | refine SQ.nil ?_ | refine SQ.pures1 tt_ok rfl ?_ | refine SQ.pure1 tt_ok rfl ?_ | refine SQ.new _ _ rfl rfl (fun _ => ?_) | refine SQ.ldA tt_ok rfl rfl (by repeat (first | exact .h | exact .q | apply At.t)) (by rfl) ?_ | refine SQ.stA tt_ok rfl rfl (by repeat (first | apply Up.h | apply Up.t)) (by rfl) (by rfl) (by repeat (first | exact trivial | refine ⟨trivial, ?_⟩ | refine ⟨wk (by repeat (first | exact .h | exact .q | apply At.t)) (by rfl), ?_⟩)) ?_ | refine CW.cond_tt rfl ?_ | refine CW.cond_ff rfl ?_))
  (refine SQ.callA rfl rfl (clone42 β q0 c0 es hn) (by repeat (first | exact .n | exact Rm.h | apply Tk.c | apply Rm.t)) ?_; rintro _ _ ⟨q1, c1, rfl, rfl⟩; refine ⟨(by repeat (first | exact trivial | refine ⟨trivial, ?_⟩ | refine ⟨wk (by repeat (first | exact .h | exact .q | apply At.t)) (by rfl), ?_⟩)), ?_⟩)
  (repeat (first | refine CW.seq ?_ | refine CW.region tt_ok rfl ?_ | refine CW.regionD tt_ok (by kernel_rfl) pl40_0 (by decide +kernel) ?_ | refine CW.block ?_ | refine CW.skip ?_ | refine SQ.nil ?_ | refine SQ.pures1 tt_ok rfl ?_ | refine SQ.pure1 tt_ok rfl ?_ | refine SQ.new _ _ rfl rfl (fun _ => ?_) | refine SQ.ldA tt_ok rfl rfl (by repeat (first | exact .h | exact .q | apply At.t)) (by rfl) ?_ | refine SQ.stA tt_ok rfl rfl (by repeat (first | apply Up.h | apply Up.t)) (by rfl) (by rfl) (by repeat (first | exact trivial | refine ⟨trivial, ?_⟩ | refine ⟨wk (by repeat (first | exact .h | exact .q | apply At.t)) (by rfl), ?_⟩)) ?_ | refine CW.cond_tt rfl ?_ | refine CW.cond_ff rfl ?_))
  rename_i b2
  refine CW.ret (fin_ret rfl (A := bkA b2 q1 c1 first es ++ bkA b q0 c0 first es) (Tk.ent (by repeat (first | exact .n | exact Rm.h | apply Tk.c | apply Rm.t))) ?_)
  exact ⟨b2, q1, c1, rfl, rfl⟩
end Go.Proofs.Ytmaheecbohbilaa.Sl
