import Derived.Test.YtmaheecbohbilaaFq
namespace Go.Proofs.Ytmaheecbohbilaa.Sl
open Go Go.RowKit Go.Proofs
set_option linter.unusedVariables false
set_option linter.unusedSimpArgs false
attribute [local irreducible] CW Tri OW
set_option maxRecDepth 10000
@[reducible] def pl31_0 : Plan := [(0, 0, []), (1, 0, []), (2, 0, []), (3, 0, []), (4, 0, []), (5, 0, []), (6, 0, []), (7, 0, []), (8, 0, []), (9, 0, []), (10, 0, []), (11, 0, []), (12, 1, [1, 3, 6, 9]), (13, 1, [])]
@[reducible] def pl31_1 : Plan := [(0, 0, []), (1, 0, []), (2, 0, []), (3, 0, []), (4, 0, []), (5, 0, []), (6, 0, []), (7, 0, []), (8, 0, []), (9, 0, []), (10, 0, []), (11, 0, []), (12, 0, []), (13, 0, []), (14, 1, [])]
/-- Does a row tell of one of the bytes off, .., off + k - 1? -/
def hitK (r : Rw) (off : Int) : Nat → Bool
  | 0 => false
  | k + 1 => hitK r off k || (decide (off + k ≥ r.1) && decide (off + k < r.2.1))
theorem hitK_mono {r : Rw} {off : Int} : ∀ {k n : Nat}, k ≤ n → hitK r off k = true → hitK r off n = true
  | k, 0, h, e => by obtain rfl : k = 0 := by omega
                     exact e
  | k, n + 1, h, e => by
    by_cases q : k = n + 1
    · subst q; exact e
    · simp [hitK, hitK_mono (show k ≤ n by omega) e]
def plV (r : Rw) (off w : Int) : Int × Int × Int := (r.2.2.2.1, IntKind.i64.wrap (r.2.2.2.2.1 + IntKind.i64.wrap (IntKind.i64.wrap ((IntKind.i64.wrap (off - r.1)).tdiv r.2.2.2.2.2.2) * r.2.2.2.2.2.1)), IntKind.i64.wrap (IntKind.i64.wrap (w.tdiv r.2.2.2.2.2.2) * r.2.2.2.2.2.1))
def outV (r : Rw) (off w : Int) : (Int × Int × Int) × Int := if w = r.2.2.1 then (plV r off w, 0) else ((0, 0, 0), 40)
def findV (rows : List Rw) (size off w : Int) : (Int × Int × Int) × Int :=
  if w ≠ 4 ∧ w ≠ 8 then ((0, 0, 0), 40) else if off.tmod w ≠ 0 then ((0, 0, 0), 41) else if off < 0 ∨ off > size - w then ((0, 0, 0), 42) else
  match rows.find? fun r => hitK r off w.toNat with
  | some r => outV r off w
  | none => ((0, 0, 0), 0)
theorem find_at {α : Type} {f : α → Bool} {l : List α} {k : Nat} {a : α} (h : l[k]? = some a) (hf : f a = true) (hb : ∀ (j : Nat) (b : α), j < k → l[j]? = some b → f b = false) : l.find? f = some a := by
  induction l generalizing k with
  | nil => simp at h
  | cons x l ih =>
    cases k with
    | zero => simp at h; subst h; simp [hf]
    | succ k =>
      have hx : f x = false := hb 0 x (by omega) (by simp)
      rw [List.find?_cons, hx]
      exact ih (by simpa using h) (fun j b hj hl => hb (j + 1) b (by omega) (by simpa using hl))
theorem find_no {α : Type} {f : α → Bool} {l : List α} (hb : ∀ (j : Nat) (b : α), l[j]? = some b → f b = false) : l.find? f = none := by
  rw [List.find?_eq_none]
  intro x hx
  obtain ⟨j, hj, e⟩ := List.getElem_of_mem hx
  simp [hb j x (by rw [← e]; exact List.getElem?_eq_getElem hj)]
theorem rd_rw {cs : List Value} {off n : Nat} {ts : List Rw} (h : (cs.drop off).take (n * 7) = ts.flatMap rwC) {k : Nat} {t : Rw} (hk : ts[k]? = some t) : rdv ti100 cs (off + k * 7) = some (.agg (rwC t).toArray) :=
  rd_enc (enc := rwC) (sz := 7) (fun _ => rfl) rfl rfl h hk
def plC (x : Int × Int × Int) : Value := .agg #[.int .i64 x.1, .int .i64 x.2.1, .int .i64 x.2.2]
set_option maxHeartbeats 4000000 in
theorem find31 (β : Base) {p : Option Addr} {n c : Nat} {rows : List Rw} {A : Atom} (h : RdS β p n 7 (rows.flatMap rwC) A) (hn : n ≤ 1000) (hper : ∀ r ∈ rows, r.2.2.2.2.2.2 ≠ 0) {size : Int} (hs0 : 8 ≤ size) (hs1 : size ≤ 1000000) (off w : Int) :
    Tri Try.prog β 31 [.slice p n c, .int .i64 size, .int .i64 off, .int .i64 w] [A] (fun v L => v = .tuple #[plC (findV rows size off w).1, .int .i64 (findV rows size off w).2] ∧ L = [A]) := by
  have hrl : rows.length = n := by have := h.1; rw [flatE_len (sz := 7) (fun _ => rfl)] at this; omega
  refine Tri.intro tt_ok Try.func31 rfl rfl Try.ntmps31 rfl fun F => ?_
  by_cases hw48 : w ≠ 4 ∧ w ≠ 8
  · (repeat' (first | refine CW.seq ?_ | refine CW.region tt_ok rfl ?_ | refine CW.regionD tt_ok (by kernel_rfl) pl31_0 (by decide +kernel) ?_ | refine CW.regionD tt_ok (by kernel_rfl) pl31_1 (by decide +kernel) ?_ | refine CW.block ?_ | refine CW.skip ?_ | refine SQ.nil ?_ | refine SQ.pures1 tt_ok rfl ?_ | refine SQ.pure1 tt_ok rfl ?_ | refine SQ.new _ _ rfl rfl (fun _ => ?_) | refine SQ.ldA tt_ok rfl rfl (by repeat (first | exact .h | exact .q | apply At.t)) (by rfl) ?_ | refine SQ.stA tt_ok rfl rfl (by repeat (first | apply Up.h | apply Up.t)) (by rfl) (by rfl) (by repeat (first | exact trivial | refine ⟨trivial, ?_⟩ | refine ⟨wk (by repeat (first | exact .h | exact .q | apply At.t)) (by rfl), ?_⟩)) ?_ | refine CW.cond_tt rfl ?_ | refine CW.cond_ff rfl ?_ | ((first | refine CW.cond rfl (fun hc => ?_) (fun hc => ?_) | refine SQ.gsplit rfl (fun hc => ?_) (fun hc => ?_)) <;> try (exfalso; simp_all; done))))
    all_goals (first | (exfalso; simp at *; omega; done) | skip)
    refine CW.ret (fin_cells [_, _] ⟨⟨_, _, _, _, 0, rfl, rfl, rfl, rfl⟩, rfl, trivial⟩ (Ent.sel (is := [1]) rfl) ⟨?_, rfl⟩)
    simp [packV, findV, hw48, plC]
  · have hw48' : w = 4 ∨ w = 8 := by omega
    have hws : IntKind.i64.wrap (size - w) = size - w := by rw [wrap_i64]; split <;> omega
    refine CW.seq ?_
    (repeat (first | refine CW.seq ?_ | refine CW.region tt_ok rfl ?_ | refine CW.regionD tt_ok (by kernel_rfl) pl31_0 (by decide +kernel) ?_ | refine CW.regionD tt_ok (by kernel_rfl) pl31_1 (by decide +kernel) ?_ | refine CW.block ?_ | refine CW.skip ?_ | refine SQ.nil ?_ | refine SQ.pures1 tt_ok rfl ?_ | refine SQ.pure1 tt_ok rfl ?_ | refine SQ.new _ _ rfl rfl (fun _ => ?_) | refine SQ.ldA tt_ok rfl rfl (by repeat (first | exact .h | exact .q | apply At.t)) (by rfl) ?_ | refine SQ.stA tt_ok rfl rfl (by repeat (first | apply Up.h | apply Up.t)) (by rfl) (by rfl) (by repeat (first | exact trivial | refine ⟨trivial, ?_⟩ | refine ⟨wk (by repeat (first | exact .h | exact .q | apply At.t)) (by rfl), ?_⟩)) ?_ | refine CW.cond_tt rfl ?_ | refine CW.cond_ff rfl ?_))
    rename_i b8
    (repeat' (first | refine CW.seq ?_ | refine CW.region tt_ok rfl ?_ | refine CW.regionD tt_ok (by kernel_rfl) pl31_0 (by decide +kernel) ?_ | refine CW.regionD tt_ok (by kernel_rfl) pl31_1 (by decide +kernel) ?_ | refine CW.block ?_ | refine CW.skip ?_ | refine SQ.nil ?_ | refine SQ.pures1 tt_ok rfl ?_ | refine SQ.pure1 tt_ok rfl ?_ | refine SQ.new _ _ rfl rfl (fun _ => ?_) | refine SQ.ldA tt_ok rfl rfl (by repeat (first | exact .h | exact .q | apply At.t)) (by rfl) ?_ | refine SQ.stA tt_ok rfl rfl (by repeat (first | apply Up.h | apply Up.t)) (by rfl) (by rfl) (by repeat (first | exact trivial | refine ⟨trivial, ?_⟩ | refine ⟨wk (by repeat (first | exact .h | exact .q | apply At.t)) (by rfl), ?_⟩)) ?_ | refine CW.cond_tt rfl ?_ | refine CW.cond_ff rfl ?_ | ((first | refine CW.cond rfl (fun hc => ?_) (fun hc => ?_) | refine SQ.gsplit rfl (fun hc => ?_) (fun hc => ?_)) <;> try (exfalso; simp_all; done))))
    all_goals (first | (exfalso; simp at *; omega; done) | skip)
    all_goals refine SQ.div tt_ok rfl rfl (by omega) rfl ?_
    all_goals by_cases ht : off.tmod w = 0
    all_goals (repeat' (first | refine CW.seq ?_ | refine CW.region tt_ok rfl ?_ | refine CW.regionD tt_ok (by kernel_rfl) pl31_0 (by decide +kernel) ?_ | refine CW.regionD tt_ok (by kernel_rfl) pl31_1 (by decide +kernel) ?_ | refine CW.block ?_ | refine CW.skip ?_ | refine SQ.nil ?_ | refine SQ.pures1 tt_ok rfl ?_ | refine SQ.pure1 tt_ok rfl ?_ | refine SQ.new _ _ rfl rfl (fun _ => ?_) | refine SQ.ldA tt_ok rfl rfl (by repeat (first | exact .h | exact .q | apply At.t)) (by rfl) ?_ | refine SQ.stA tt_ok rfl rfl (by repeat (first | apply Up.h | apply Up.t)) (by rfl) (by rfl) (by repeat (first | exact trivial | refine ⟨trivial, ?_⟩ | refine ⟨wk (by repeat (first | exact .h | exact .q | apply At.t)) (by rfl), ?_⟩)) ?_ | refine CW.cond_tt rfl ?_ | refine CW.cond_ff rfl ?_ | ((first | refine CW.cond rfl (fun hc => ?_) (fun hc => ?_) | refine SQ.gsplit rfl (fun hc => ?_) (fun hc => ?_)) <;> try (exfalso; simp_all; done))))
    all_goals (first | (exfalso; simp at *; first | done | contradiction | omega) | skip)
    all_goals (first | (refine CW.ret (fin_cells [_, _] ⟨⟨_, _, _, _, 0, rfl, rfl, rfl, rfl⟩, rfl, trivial⟩ (Ent.sel (is := [1]) rfl) ⟨?_, rfl⟩)
                        simp [packV, findV, hw48, plC, ht]; done) | skip)
    all_goals rw [hws] at *
    all_goals (first | (refine CW.ret (fin_cells [_, _] ⟨⟨_, _, _, _, 0, rfl, rfl, rfl, rfl⟩, rfl, trivial⟩ (Ent.sel (is := [1]) rfl) ⟨?_, rfl⟩)
                        simp only [decide_eq_true_eq, decide_eq_false_iff_not] at *
                        have ho : off < 0 ∨ off > size - w := by omega
                        simp [packV, findV, hw48, plC, ht, ho]; done) | skip)
    all_goals (
      simp only [decide_eq_true_eq, decide_eq_false_iff_not] at *
      have hof : ¬ (off < 0 ∨ off > size - w) := by omega
      have hwo : IntKind.i64.wrap (off + w) = off + w := by rw [wrap_i64]; split <;> omega
      refine CW.loop (α := Nat) (fun k => k ≤ n ∧ ∀ (j : Nat) (r : Rw), j < k → rows[j]? = some r → hitK r off w.toNat = false) (fun k => [(10, .int .i64 k), (9, .int .i64 0), (8, .pointer (some ⟨b8, 0, none⟩)), (3, .int .i64 w), (2, .int .i64 off), (0, .slice p n c)]) (fun _ => [pt b8 [.int .i64 0, .int .i64 0, .int .i64 0], A]) (fun k => n - k) 0 ⟨by omega, by omega⟩ ⟨rfl, rfl, rfl, rfl, rfl, rfl, trivial⟩ (Ent.refl _) ?_
      rintro k ⟨hk, hbef⟩
      (repeat (first | refine CW.seq ?_ | refine CW.region tt_ok rfl ?_ | refine CW.regionD tt_ok (by kernel_rfl) pl31_0 (by decide +kernel) ?_ | refine CW.regionD tt_ok (by kernel_rfl) pl31_1 (by decide +kernel) ?_ | refine CW.block ?_ | refine CW.skip ?_ | refine SQ.nil ?_ | refine SQ.pures1 tt_ok rfl ?_ | refine SQ.pure1 tt_ok rfl ?_ | refine SQ.new _ _ rfl rfl (fun _ => ?_) | refine SQ.ldA tt_ok rfl rfl (by repeat (first | exact .h | exact .q | apply At.t)) (by rfl) ?_ | refine SQ.stA tt_ok rfl rfl (by repeat (first | apply Up.h | apply Up.t)) (by rfl) (by rfl) (by repeat (first | exact trivial | refine ⟨trivial, ?_⟩ | refine ⟨wk (by repeat (first | exact .h | exact .q | apply At.t)) (by rfl), ?_⟩)) ?_ | refine CW.cond_tt rfl ?_ | refine CW.cond_ff rfl ?_))
      generalize e1 : decide ((k : Int) < (n : Int)) = cc
      cases cc
      · have : k = n := by simp at e1; omega
        subst this
        (repeat (first | refine CW.seq ?_ | refine CW.region tt_ok rfl ?_ | refine CW.regionD tt_ok (by kernel_rfl) pl31_0 (by decide +kernel) ?_ | refine CW.regionD tt_ok (by kernel_rfl) pl31_1 (by decide +kernel) ?_ | refine CW.block ?_ | refine CW.skip ?_ | refine SQ.nil ?_ | refine SQ.pures1 tt_ok rfl ?_ | refine SQ.pure1 tt_ok rfl ?_ | refine SQ.new _ _ rfl rfl (fun _ => ?_) | refine SQ.ldA tt_ok rfl rfl (by repeat (first | exact .h | exact .q | apply At.t)) (by rfl) ?_ | refine SQ.stA tt_ok rfl rfl (by repeat (first | apply Up.h | apply Up.t)) (by rfl) (by rfl) (by repeat (first | exact trivial | refine ⟨trivial, ?_⟩ | refine ⟨wk (by repeat (first | exact .h | exact .q | apply At.t)) (by rfl), ?_⟩)) ?_ | refine CW.cond_tt rfl ?_ | refine CW.cond_ff rfl ?_))
        refine CW.exit ?_
        (repeat (first | refine CW.seq ?_ | refine CW.region tt_ok rfl ?_ | refine CW.regionD tt_ok (by kernel_rfl) pl31_0 (by decide +kernel) ?_ | refine CW.regionD tt_ok (by kernel_rfl) pl31_1 (by decide +kernel) ?_ | refine CW.block ?_ | refine CW.skip ?_ | refine SQ.nil ?_ | refine SQ.pures1 tt_ok rfl ?_ | refine SQ.pure1 tt_ok rfl ?_ | refine SQ.new _ _ rfl rfl (fun _ => ?_) | refine SQ.ldA tt_ok rfl rfl (by repeat (first | exact .h | exact .q | apply At.t)) (by rfl) ?_ | refine SQ.stA tt_ok rfl rfl (by repeat (first | apply Up.h | apply Up.t)) (by rfl) (by rfl) (by repeat (first | exact trivial | refine ⟨trivial, ?_⟩ | refine ⟨wk (by repeat (first | exact .h | exact .q | apply At.t)) (by rfl), ?_⟩)) ?_ | refine CW.cond_tt rfl ?_ | refine CW.cond_ff rfl ?_))
        refine CW.ret (fin_cells [_, _] ⟨⟨_, _, _, _, 0, rfl, rfl, rfl, rfl⟩, rfl, trivial⟩ (Ent.sel (is := [1]) rfl) ⟨?_, rfl⟩)
        rw [show findV rows size off w = ((0, 0, 0), 0) by
          unfold findV
          rw [if_neg hw48, if_neg (by simpa using ht), if_neg hof, find_no (fun j b hj => hbef j b (by have := (List.getElem?_eq_some_iff.1 hj).1; omega) hj)]]
        rfl
      · have hlt : k < n := by simp at e1; omega
        have hw1 : IntKind.i64.wrap ((k : Int) + 1) = ((k + 1 : Nat) : Int) := by rw [wrap_i64]; split <;> omega
        obtain ⟨r, hr⟩ : ∃ r, rows[k]? = some r := ⟨rows[k], List.getElem?_eq_getElem (by omega)⟩
        have hpr := hper r (List.mem_of_getElem? hr)
        have hg : w.toNat = w.toNat := rfl
        obtain ⟨b, o, q, cs, rfl, rfl, hcs⟩ := h.2.resolve_left (by omega)
        have hfind : ∀ (x : (Int × Int × Int) × Int), outV r off w = x → hitK r off w.toNat = true → findV rows size off w = x := fun x hx hh => by
          unfold findV
          rw [if_neg hw48, if_neg (by simpa using ht), if_neg hof, find_at hr hh hbef]
          exact hx
        obtain ⟨r1, r2, r3, r4, r5, r6, r7⟩ := r
        simp only at hpr hfind
        (repeat (first | refine CW.seq ?_ | refine CW.region tt_ok rfl ?_ | refine CW.regionD tt_ok (by kernel_rfl) pl31_0 (by decide +kernel) ?_ | refine CW.regionD tt_ok (by kernel_rfl) pl31_1 (by decide +kernel) ?_ | refine CW.block ?_ | refine CW.skip ?_ | refine SQ.nil ?_ | refine SQ.pures1 tt_ok rfl ?_ | refine SQ.pure1 tt_ok rfl ?_ | refine SQ.new _ _ rfl rfl (fun _ => ?_) | refine SQ.ldA tt_ok rfl rfl (by repeat (first | exact .h | exact .q | apply At.t)) (by rfl) ?_ | refine SQ.stA tt_ok rfl rfl (by repeat (first | apply Up.h | apply Up.t)) (by rfl) (by rfl) (by repeat (first | exact trivial | refine ⟨trivial, ?_⟩ | refine ⟨wk (by repeat (first | exact .h | exact .q | apply At.t)) (by rfl), ?_⟩)) ?_ | refine CW.cond_tt rfl ?_ | refine CW.cond_ff rfl ?_))
        refine SQ.idx tt_ok rfl rfl k rfl hlt (o' := o + k * 7) rfl ?_
        refine SQ.loadq tt_ok rfl rfl 1 rfl (rd_rw hcs hr) ?_
        (repeat (first | refine CW.seq ?_ | refine CW.region tt_ok rfl ?_ | refine CW.regionD tt_ok (by kernel_rfl) pl31_0 (by decide +kernel) ?_ | refine CW.regionD tt_ok (by kernel_rfl) pl31_1 (by decide +kernel) ?_ | refine CW.block ?_ | refine CW.skip ?_ | refine SQ.nil ?_ | refine SQ.pures1 tt_ok rfl ?_ | refine SQ.pure1 tt_ok rfl ?_ | refine SQ.new _ _ rfl rfl (fun _ => ?_) | refine SQ.ldA tt_ok rfl rfl (by repeat (first | exact .h | exact .q | apply At.t)) (by rfl) ?_ | refine SQ.stA tt_ok rfl rfl (by repeat (first | apply Up.h | apply Up.t)) (by rfl) (by rfl) (by repeat (first | exact trivial | refine ⟨trivial, ?_⟩ | refine ⟨wk (by repeat (first | exact .h | exact .q | apply At.t)) (by rfl), ?_⟩)) ?_ | refine CW.cond_tt rfl ?_ | refine CW.cond_ff rfl ?_))
        rename_i b11
        refine CW.loop (α := Nat × Int) (fun x => x.1 ≤ w.toNat ∧ x.2 = off + x.1 ∧ hitK (r1, r2, r3, r4, r5, r6, r7) off x.1 = false) (fun x => [(12, .int .i64 x.2), (11, .pointer (some ⟨b11, 0, none⟩)), (10, .int .i64 k), (9, .int .i64 0), (8, .pointer (some ⟨b8, 0, none⟩)), (3, .int .i64 w), (2, .int .i64 off), (0, .slice (some ⟨b, o, none⟩) n c)])
          (fun _ => [pt b11 [.int .i64 r1, .int .i64 r2, .int .i64 r3, .int .i64 r4, .int .i64 r5, .int .i64 r6, .int .i64 r7], pt b8 [.int .i64 0, .int .i64 0, .int .i64 0], pq β q b cs]) (fun x => w.toNat - x.1) (0, off) ⟨by omega, by simp, rfl⟩ ⟨rfl, rfl, rfl, rfl, rfl, rfl, rfl, rfl, trivial⟩ (Ent.refl _) ?_
        rintro ⟨j, y⟩ ⟨hj, hy, hnj⟩
        simp only at hj hy hnj
        (repeat (first | refine CW.seq ?_ | refine CW.region tt_ok rfl ?_ | refine CW.regionD tt_ok (by kernel_rfl) pl31_0 (by decide +kernel) ?_ | refine CW.regionD tt_ok (by kernel_rfl) pl31_1 (by decide +kernel) ?_ | refine CW.block ?_ | refine CW.skip ?_ | refine SQ.nil ?_ | refine SQ.pures1 tt_ok rfl ?_ | refine SQ.pure1 tt_ok rfl ?_ | refine SQ.new _ _ rfl rfl (fun _ => ?_) | refine SQ.ldA tt_ok rfl rfl (by repeat (first | exact .h | exact .q | apply At.t)) (by rfl) ?_ | refine SQ.stA tt_ok rfl rfl (by repeat (first | apply Up.h | apply Up.t)) (by rfl) (by rfl) (by repeat (first | exact trivial | refine ⟨trivial, ?_⟩ | refine ⟨wk (by repeat (first | exact .h | exact .q | apply At.t)) (by rfl), ?_⟩)) ?_ | refine CW.cond_tt rfl ?_ | refine CW.cond_ff rfl ?_))
        rw [hwo]
        generalize e2 : decide (y < off + w) = cc
        cases cc
        · have : j = w.toNat := by simp at e2; omega
          subst this
          (repeat (first | refine CW.seq ?_ | refine CW.region tt_ok rfl ?_ | refine CW.regionD tt_ok (by kernel_rfl) pl31_0 (by decide +kernel) ?_ | refine CW.regionD tt_ok (by kernel_rfl) pl31_1 (by decide +kernel) ?_ | refine CW.block ?_ | refine CW.skip ?_ | refine SQ.nil ?_ | refine SQ.pures1 tt_ok rfl ?_ | refine SQ.pure1 tt_ok rfl ?_ | refine SQ.new _ _ rfl rfl (fun _ => ?_) | refine SQ.ldA tt_ok rfl rfl (by repeat (first | exact .h | exact .q | apply At.t)) (by rfl) ?_ | refine SQ.stA tt_ok rfl rfl (by repeat (first | apply Up.h | apply Up.t)) (by rfl) (by rfl) (by repeat (first | exact trivial | refine ⟨trivial, ?_⟩ | refine ⟨wk (by repeat (first | exact .h | exact .q | apply At.t)) (by rfl), ?_⟩)) ?_ | refine CW.cond_tt rfl ?_ | refine CW.cond_ff rfl ?_))
          refine CW.exit ?_
          (repeat (first | refine CW.seq ?_ | refine CW.region tt_ok rfl ?_ | refine CW.regionD tt_ok (by kernel_rfl) pl31_0 (by decide +kernel) ?_ | refine CW.regionD tt_ok (by kernel_rfl) pl31_1 (by decide +kernel) ?_ | refine CW.block ?_ | refine CW.skip ?_ | refine SQ.nil ?_ | refine SQ.pures1 tt_ok rfl ?_ | refine SQ.pure1 tt_ok rfl ?_ | refine SQ.new _ _ rfl rfl (fun _ => ?_) | refine SQ.ldA tt_ok rfl rfl (by repeat (first | exact .h | exact .q | apply At.t)) (by rfl) ?_ | refine SQ.stA tt_ok rfl rfl (by repeat (first | apply Up.h | apply Up.t)) (by rfl) (by rfl) (by repeat (first | exact trivial | refine ⟨trivial, ?_⟩ | refine ⟨wk (by repeat (first | exact .h | exact .q | apply At.t)) (by rfl), ?_⟩)) ?_ | refine CW.cond_tt rfl ?_ | refine CW.cond_ff rfl ?_))
          refine ⟨k + 1, ⟨by omega, fun i r2 hi hr2 => ?_⟩, by omega, ⟨by rw [← hw1]; rfl, rfl, rfl, rfl, rfl, rfl, trivial⟩, Ent.sel (is := [1, 1]) rfl⟩
          by_cases hik : i = k
          · subst hik
            rw [hr] at hr2
            injection hr2 with hr2
            rw [← hr2]; exact hnj
          · exact hbef i r2 (by omega) hr2
        · simp only [decide_eq_true_eq] at e2
          have hw2 : IntKind.i64.wrap (y + 1) = y + 1 := by rw [wrap_i64]; split <;> omega
          have hnx : ¬ (off + j ≥ r1 ∧ off + j < r2) → hitK (r1, r2, r3, r4, r5, r6, r7) off (j + 1) = false := fun hn => by
            simp only [hitK, hnj, Bool.false_or, Bool.and_eq_false_iff, decide_eq_false_iff_not]
            omega
          by_cases h3 : y < r1
          · (repeat (first | refine CW.seq ?_ | refine CW.region tt_ok rfl ?_ | refine CW.regionD tt_ok (by kernel_rfl) pl31_0 (by decide +kernel) ?_ | refine CW.regionD tt_ok (by kernel_rfl) pl31_1 (by decide +kernel) ?_ | refine CW.block ?_ | refine CW.skip ?_ | refine SQ.nil ?_ | refine SQ.pures1 tt_ok rfl ?_ | refine SQ.pure1 tt_ok rfl ?_ | refine SQ.new _ _ rfl rfl (fun _ => ?_) | refine SQ.ldA tt_ok rfl rfl (by repeat (first | exact .h | exact .q | apply At.t)) (by rfl) ?_ | refine SQ.stA tt_ok rfl rfl (by repeat (first | apply Up.h | apply Up.t)) (by rfl) (by rfl) (by repeat (first | exact trivial | refine ⟨trivial, ?_⟩ | refine ⟨wk (by repeat (first | exact .h | exact .q | apply At.t)) (by rfl), ?_⟩)) ?_ | refine CW.cond_tt rfl ?_ | refine CW.cond_ff rfl ?_))
            rw [decide_eq_true h3]
            (repeat (first | refine CW.seq ?_ | refine CW.region tt_ok rfl ?_ | refine CW.regionD tt_ok (by kernel_rfl) pl31_0 (by decide +kernel) ?_ | refine CW.regionD tt_ok (by kernel_rfl) pl31_1 (by decide +kernel) ?_ | refine CW.block ?_ | refine CW.skip ?_ | refine SQ.nil ?_ | refine SQ.pures1 tt_ok rfl ?_ | refine SQ.pure1 tt_ok rfl ?_ | refine SQ.new _ _ rfl rfl (fun _ => ?_) | refine SQ.ldA tt_ok rfl rfl (by repeat (first | exact .h | exact .q | apply At.t)) (by rfl) ?_ | refine SQ.stA tt_ok rfl rfl (by repeat (first | apply Up.h | apply Up.t)) (by rfl) (by rfl) (by repeat (first | exact trivial | refine ⟨trivial, ?_⟩ | refine ⟨wk (by repeat (first | exact .h | exact .q | apply At.t)) (by rfl), ?_⟩)) ?_ | refine CW.cond_tt rfl ?_ | refine CW.cond_ff rfl ?_))
            refine CW.exit ?_
            (repeat (first | refine CW.seq ?_ | refine CW.region tt_ok rfl ?_ | refine CW.regionD tt_ok (by kernel_rfl) pl31_0 (by decide +kernel) ?_ | refine CW.regionD tt_ok (by kernel_rfl) pl31_1 (by decide +kernel) ?_ | refine CW.block ?_ | refine CW.skip ?_ | refine SQ.nil ?_ | refine SQ.pures1 tt_ok rfl ?_ | refine SQ.pure1 tt_ok rfl ?_ | refine SQ.new _ _ rfl rfl (fun _ => ?_) | refine SQ.ldA tt_ok rfl rfl (by repeat (first | exact .h | exact .q | apply At.t)) (by rfl) ?_ | refine SQ.stA tt_ok rfl rfl (by repeat (first | apply Up.h | apply Up.t)) (by rfl) (by rfl) (by repeat (first | exact trivial | refine ⟨trivial, ?_⟩ | refine ⟨wk (by repeat (first | exact .h | exact .q | apply At.t)) (by rfl), ?_⟩)) ?_ | refine CW.cond_tt rfl ?_ | refine CW.cond_ff rfl ?_))
            exact ⟨(j + 1, IntKind.i64.wrap (y + 1)), ⟨by simp; omega, by simp only [hw2]; omega, hnx (by omega)⟩, by simp; omega, ⟨rfl, rfl, rfl, rfl, rfl, rfl, rfl, rfl, trivial⟩, Ent.refl _⟩
          · by_cases h4 : y ≥ r2
            · (repeat (first | refine CW.seq ?_ | refine CW.region tt_ok rfl ?_ | refine CW.regionD tt_ok (by kernel_rfl) pl31_0 (by decide +kernel) ?_ | refine CW.regionD tt_ok (by kernel_rfl) pl31_1 (by decide +kernel) ?_ | refine CW.block ?_ | refine CW.skip ?_ | refine SQ.nil ?_ | refine SQ.pures1 tt_ok rfl ?_ | refine SQ.pure1 tt_ok rfl ?_ | refine SQ.new _ _ rfl rfl (fun _ => ?_) | refine SQ.ldA tt_ok rfl rfl (by repeat (first | exact .h | exact .q | apply At.t)) (by rfl) ?_ | refine SQ.stA tt_ok rfl rfl (by repeat (first | apply Up.h | apply Up.t)) (by rfl) (by rfl) (by repeat (first | exact trivial | refine ⟨trivial, ?_⟩ | refine ⟨wk (by repeat (first | exact .h | exact .q | apply At.t)) (by rfl), ?_⟩)) ?_ | refine CW.cond_tt rfl ?_ | refine CW.cond_ff rfl ?_))
              rw [decide_eq_false h3]
              (repeat (first | refine CW.seq ?_ | refine CW.region tt_ok rfl ?_ | refine CW.regionD tt_ok (by kernel_rfl) pl31_0 (by decide +kernel) ?_ | refine CW.regionD tt_ok (by kernel_rfl) pl31_1 (by decide +kernel) ?_ | refine CW.block ?_ | refine CW.skip ?_ | refine SQ.nil ?_ | refine SQ.pures1 tt_ok rfl ?_ | refine SQ.pure1 tt_ok rfl ?_ | refine SQ.new _ _ rfl rfl (fun _ => ?_) | refine SQ.ldA tt_ok rfl rfl (by repeat (first | exact .h | exact .q | apply At.t)) (by rfl) ?_ | refine SQ.stA tt_ok rfl rfl (by repeat (first | apply Up.h | apply Up.t)) (by rfl) (by rfl) (by repeat (first | exact trivial | refine ⟨trivial, ?_⟩ | refine ⟨wk (by repeat (first | exact .h | exact .q | apply At.t)) (by rfl), ?_⟩)) ?_ | refine CW.cond_tt rfl ?_ | refine CW.cond_ff rfl ?_))
              rw [decide_eq_true h4]
              (repeat (first | refine CW.seq ?_ | refine CW.region tt_ok rfl ?_ | refine CW.regionD tt_ok (by kernel_rfl) pl31_0 (by decide +kernel) ?_ | refine CW.regionD tt_ok (by kernel_rfl) pl31_1 (by decide +kernel) ?_ | refine CW.block ?_ | refine CW.skip ?_ | refine SQ.nil ?_ | refine SQ.pures1 tt_ok rfl ?_ | refine SQ.pure1 tt_ok rfl ?_ | refine SQ.new _ _ rfl rfl (fun _ => ?_) | refine SQ.ldA tt_ok rfl rfl (by repeat (first | exact .h | exact .q | apply At.t)) (by rfl) ?_ | refine SQ.stA tt_ok rfl rfl (by repeat (first | apply Up.h | apply Up.t)) (by rfl) (by rfl) (by repeat (first | exact trivial | refine ⟨trivial, ?_⟩ | refine ⟨wk (by repeat (first | exact .h | exact .q | apply At.t)) (by rfl), ?_⟩)) ?_ | refine CW.cond_tt rfl ?_ | refine CW.cond_ff rfl ?_))
              refine CW.exit ?_
              (repeat (first | refine CW.seq ?_ | refine CW.region tt_ok rfl ?_ | refine CW.regionD tt_ok (by kernel_rfl) pl31_0 (by decide +kernel) ?_ | refine CW.regionD tt_ok (by kernel_rfl) pl31_1 (by decide +kernel) ?_ | refine CW.block ?_ | refine CW.skip ?_ | refine SQ.nil ?_ | refine SQ.pures1 tt_ok rfl ?_ | refine SQ.pure1 tt_ok rfl ?_ | refine SQ.new _ _ rfl rfl (fun _ => ?_) | refine SQ.ldA tt_ok rfl rfl (by repeat (first | exact .h | exact .q | apply At.t)) (by rfl) ?_ | refine SQ.stA tt_ok rfl rfl (by repeat (first | apply Up.h | apply Up.t)) (by rfl) (by rfl) (by repeat (first | exact trivial | refine ⟨trivial, ?_⟩ | refine ⟨wk (by repeat (first | exact .h | exact .q | apply At.t)) (by rfl), ?_⟩)) ?_ | refine CW.cond_tt rfl ?_ | refine CW.cond_ff rfl ?_))
              exact ⟨(j + 1, IntKind.i64.wrap (y + 1)), ⟨by simp; omega, by simp only [hw2]; omega, hnx (by omega)⟩, by simp; omega, ⟨rfl, rfl, rfl, rfl, rfl, rfl, rfl, rfl, trivial⟩, Ent.refl _⟩
            · have hh : hitK (r1, r2, r3, r4, r5, r6, r7) off w.toNat = true := hitK_mono (k := j + 1) (by omega) (by
                simp only [hitK, hnj, Bool.false_or, Bool.and_eq_true, decide_eq_true_eq]
                omega)
              (repeat (first | refine CW.seq ?_ | refine CW.region tt_ok rfl ?_ | refine CW.regionD tt_ok (by kernel_rfl) pl31_0 (by decide +kernel) ?_ | refine CW.regionD tt_ok (by kernel_rfl) pl31_1 (by decide +kernel) ?_ | refine CW.block ?_ | refine CW.skip ?_ | refine SQ.nil ?_ | refine SQ.pures1 tt_ok rfl ?_ | refine SQ.pure1 tt_ok rfl ?_ | refine SQ.new _ _ rfl rfl (fun _ => ?_) | refine SQ.ldA tt_ok rfl rfl (by repeat (first | exact .h | exact .q | apply At.t)) (by rfl) ?_ | refine SQ.stA tt_ok rfl rfl (by repeat (first | apply Up.h | apply Up.t)) (by rfl) (by rfl) (by repeat (first | exact trivial | refine ⟨trivial, ?_⟩ | refine ⟨wk (by repeat (first | exact .h | exact .q | apply At.t)) (by rfl), ?_⟩)) ?_ | refine CW.cond_tt rfl ?_ | refine CW.cond_ff rfl ?_))
              rw [decide_eq_false h3]
              (repeat (first | refine CW.seq ?_ | refine CW.region tt_ok rfl ?_ | refine CW.regionD tt_ok (by kernel_rfl) pl31_0 (by decide +kernel) ?_ | refine CW.regionD tt_ok (by kernel_rfl) pl31_1 (by decide +kernel) ?_ | refine CW.block ?_ | refine CW.skip ?_ | refine SQ.nil ?_ | refine SQ.pures1 tt_ok rfl ?_ | refine SQ.pure1 tt_ok rfl ?_ | refine SQ.new _ _ rfl rfl (fun _ => ?_) | refine SQ.ldA tt_ok rfl rfl (by repeat (first | exact .h | exact .q | apply At.t)) (by rfl) ?_ | refine SQ.stA tt_ok rfl rfl (by repeat (first | apply Up.h | apply Up.t)) (by rfl) (by rfl) (by repeat (first | exact trivial | refine ⟨trivial, ?_⟩ | refine ⟨wk (by repeat (first | exact .h | exact .q | apply At.t)) (by rfl), ?_⟩)) ?_ | refine CW.cond_tt rfl ?_ | refine CW.cond_ff rfl ?_))
              rw [decide_eq_false h4]
              (repeat (first | refine CW.seq ?_ | refine CW.region tt_ok rfl ?_ | refine CW.regionD tt_ok (by kernel_rfl) pl31_0 (by decide +kernel) ?_ | refine CW.regionD tt_ok (by kernel_rfl) pl31_1 (by decide +kernel) ?_ | refine CW.block ?_ | refine CW.skip ?_ | refine SQ.nil ?_ | refine SQ.pures1 tt_ok rfl ?_ | refine SQ.pure1 tt_ok rfl ?_ | refine SQ.new _ _ rfl rfl (fun _ => ?_) | refine SQ.ldA tt_ok rfl rfl (by repeat (first | exact .h | exact .q | apply At.t)) (by rfl) ?_ | refine SQ.stA tt_ok rfl rfl (by repeat (first | apply Up.h | apply Up.t)) (by rfl) (by rfl) (by repeat (first | exact trivial | refine ⟨trivial, ?_⟩ | refine ⟨wk (by repeat (first | exact .h | exact .q | apply At.t)) (by rfl), ?_⟩)) ?_ | refine CW.cond_tt rfl ?_ | refine CW.cond_ff rfl ?_))
              by_cases h5 : w = r3
              · rw [show (w != r3) = false by simp [h5]]
                (repeat (first | refine CW.seq ?_ | refine CW.region tt_ok rfl ?_ | refine CW.regionD tt_ok (by kernel_rfl) pl31_0 (by decide +kernel) ?_ | refine CW.regionD tt_ok (by kernel_rfl) pl31_1 (by decide +kernel) ?_ | refine CW.block ?_ | refine CW.skip ?_ | refine SQ.nil ?_ | refine SQ.pures1 tt_ok rfl ?_ | refine SQ.pure1 tt_ok rfl ?_ | refine SQ.new _ _ rfl rfl (fun _ => ?_) | refine SQ.ldA tt_ok rfl rfl (by repeat (first | exact .h | exact .q | apply At.t)) (by rfl) ?_ | refine SQ.stA tt_ok rfl rfl (by repeat (first | apply Up.h | apply Up.t)) (by rfl) (by rfl) (by repeat (first | exact trivial | refine ⟨trivial, ?_⟩ | refine ⟨wk (by repeat (first | exact .h | exact .q | apply At.t)) (by rfl), ?_⟩)) ?_ | refine CW.cond_tt rfl ?_ | refine CW.cond_ff rfl ?_))
                refine SQ.div tt_ok rfl rfl hpr rfl ?_
                (repeat (first | refine CW.seq ?_ | refine CW.region tt_ok rfl ?_ | refine CW.regionD tt_ok (by kernel_rfl) pl31_0 (by decide +kernel) ?_ | refine CW.regionD tt_ok (by kernel_rfl) pl31_1 (by decide +kernel) ?_ | refine CW.block ?_ | refine CW.skip ?_ | refine SQ.nil ?_ | refine SQ.pures1 tt_ok rfl ?_ | refine SQ.pure1 tt_ok rfl ?_ | refine SQ.new _ _ rfl rfl (fun _ => ?_) | refine SQ.ldA tt_ok rfl rfl (by repeat (first | exact .h | exact .q | apply At.t)) (by rfl) ?_ | refine SQ.stA tt_ok rfl rfl (by repeat (first | apply Up.h | apply Up.t)) (by rfl) (by rfl) (by repeat (first | exact trivial | refine ⟨trivial, ?_⟩ | refine ⟨wk (by repeat (first | exact .h | exact .q | apply At.t)) (by rfl), ?_⟩)) ?_ | refine CW.cond_tt rfl ?_ | refine CW.cond_ff rfl ?_))
                refine SQ.div tt_ok rfl rfl hpr rfl ?_
                (repeat (first | refine CW.seq ?_ | refine CW.region tt_ok rfl ?_ | refine CW.regionD tt_ok (by kernel_rfl) pl31_0 (by decide +kernel) ?_ | refine CW.regionD tt_ok (by kernel_rfl) pl31_1 (by decide +kernel) ?_ | refine CW.block ?_ | refine CW.skip ?_ | refine SQ.nil ?_ | refine SQ.pures1 tt_ok rfl ?_ | refine SQ.pure1 tt_ok rfl ?_ | refine SQ.new _ _ rfl rfl (fun _ => ?_) | refine SQ.ldA tt_ok rfl rfl (by repeat (first | exact .h | exact .q | apply At.t)) (by rfl) ?_ | refine SQ.stA tt_ok rfl rfl (by repeat (first | apply Up.h | apply Up.t)) (by rfl) (by rfl) (by repeat (first | exact trivial | refine ⟨trivial, ?_⟩ | refine ⟨wk (by repeat (first | exact .h | exact .q | apply At.t)) (by rfl), ?_⟩)) ?_ | refine CW.cond_tt rfl ?_ | refine CW.cond_ff rfl ?_))
                refine CW.ret (fin_cells [_, _] ⟨⟨_, _, _, _, 2, rfl, rfl, rfl, rfl⟩, rfl, trivial⟩ (Ent.sel (is := [3]) rfl) ⟨?_, rfl⟩)
                rw [hfind _ rfl hh]
                unfold outV
                rw [if_pos h5]
                rfl
              · rw [show (w != r3) = true by simp [h5]]
                (repeat (first | refine CW.seq ?_ | refine CW.region tt_ok rfl ?_ | refine CW.regionD tt_ok (by kernel_rfl) pl31_0 (by decide +kernel) ?_ | refine CW.regionD tt_ok (by kernel_rfl) pl31_1 (by decide +kernel) ?_ | refine CW.block ?_ | refine CW.skip ?_ | refine SQ.nil ?_ | refine SQ.pures1 tt_ok rfl ?_ | refine SQ.pure1 tt_ok rfl ?_ | refine SQ.new _ _ rfl rfl (fun _ => ?_) | refine SQ.ldA tt_ok rfl rfl (by repeat (first | exact .h | exact .q | apply At.t)) (by rfl) ?_ | refine SQ.stA tt_ok rfl rfl (by repeat (first | apply Up.h | apply Up.t)) (by rfl) (by rfl) (by repeat (first | exact trivial | refine ⟨trivial, ?_⟩ | refine ⟨wk (by repeat (first | exact .h | exact .q | apply At.t)) (by rfl), ?_⟩)) ?_ | refine CW.cond_tt rfl ?_ | refine CW.cond_ff rfl ?_))
                refine CW.ret (fin_cells [_, _] ⟨⟨_, _, _, _, 1, rfl, rfl, rfl, rfl⟩, rfl, trivial⟩ (Ent.sel (is := [2]) rfl) ⟨?_, rfl⟩)
                rw [hfind _ rfl hh]
                unfold outV
                rw [if_neg h5]
                rfl)
theorem distRw_per : ∀ r ∈ distRw, r.2.2.2.2.2.2 ≠ 0 := by
  have h : (distRw.all fun r => r.2.2.2.2.2.2 != 0) = true := by kernel_rfl
  intro r hr
  have := List.all_eq_true.1 h r hr
  simpa using this
def distV (off w : Int) : (Int × Int × Int) × Int := findV distRw 65536 off w
theorem dist15 (β : Base) (off w : Int) : Tri Try.prog β 15 [.int .i64 off, .int .i64 w] [] (fun v L => v = .tuple #[.agg #[.int .i64 (distV off w).1.1, .int .i64 (distV off w).1.2.1, .int .i64 (distV off w).1.2.2], .int .i64 (distV off w).2] ∧ L = []) := by
  refine Tri.intro tt_ok Try.func15 rfl rfl Try.ntmps15 rfl fun F => ?_
  (repeat (first | refine CW.seq ?_ | refine CW.region tt_ok rfl ?_ | refine CW.block ?_ | refine CW.skip ?_ | refine SQ.nil ?_ | refine SQ.pures1 tt_ok rfl ?_ | refine SQ.pure1 tt_ok rfl ?_ | refine SQ.new _ _ rfl rfl (fun _ => ?_) | refine SQ.ldA tt_ok rfl rfl (by repeat (first | exact .h | exact .q | apply At.t)) (by rfl) ?_ | refine SQ.stA tt_ok rfl rfl (by repeat (first | apply Up.h | apply Up.t)) (by rfl) (by rfl) (by exact trivial) ?_ | refine CW.cond_tt rfl ?_ | refine CW.cond_ff rfl ?_))
  (refine SQ.call rfl rfl (dist32 β) [] rfl ?_; rintro _ _ ⟨q, c, rfl, rfl⟩; refine ⟨(by exact trivial), ?_⟩)
  refine SQ.ent _ (Ent.head (row_rd β (sz := 7) (n := 12) (by rw [flatE_len (sz := 7) (fun _ => rfl)]; rfl))) ?_
  refine SQ.open_ fun B => ?_
  refine SQ.pure_ fun hB => ?_
  (repeat (first | refine CW.seq ?_ | refine CW.region tt_ok rfl ?_ | refine CW.block ?_ | refine CW.skip ?_ | refine SQ.nil ?_ | refine SQ.pures1 tt_ok rfl ?_ | refine SQ.pure1 tt_ok rfl ?_ | refine SQ.new _ _ rfl rfl (fun _ => ?_) | refine SQ.ldA tt_ok rfl rfl (by repeat (first | exact .h | exact .q | apply At.t)) (by rfl) ?_ | refine SQ.stA tt_ok rfl rfl (by repeat (first | apply Up.h | apply Up.t)) (by rfl) (by rfl) (by exact trivial) ?_ | refine CW.cond_tt rfl ?_ | refine CW.cond_ff rfl ?_))
  (refine SQ.call rfl rfl (find31 β hB (by omega) distRw_per (by omega) (by omega) off w) [0] rfl ?_; rintro _ _ ⟨rfl, rfl⟩; refine ⟨(by exact trivial), ?_⟩)
  (repeat (first | refine CW.seq ?_ | refine CW.region tt_ok rfl ?_ | refine CW.block ?_ | refine CW.skip ?_ | refine SQ.nil ?_ | refine SQ.pures1 tt_ok rfl ?_ | refine SQ.pure1 tt_ok rfl ?_ | refine SQ.new _ _ rfl rfl (fun _ => ?_) | refine SQ.ldA tt_ok rfl rfl (by repeat (first | exact .h | exact .q | apply At.t)) (by rfl) ?_ | refine SQ.stA tt_ok rfl rfl (by repeat (first | apply Up.h | apply Up.t)) (by rfl) (by rfl) (by exact trivial) ?_ | refine CW.cond_tt rfl ?_ | refine CW.cond_ff rfl ?_))
  refine CW.ret (fin_cells [_, _] ⟨⟨_, _, _, _, 1, rfl, rfl, rfl, rfl⟩, rfl, trivial⟩ (Ent.dropAll _) ⟨rfl, rfl⟩)
end Go.Proofs.Ytmaheecbohbilaa.Sl
