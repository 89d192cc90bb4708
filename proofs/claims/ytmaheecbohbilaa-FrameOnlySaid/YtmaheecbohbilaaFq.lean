import Derived.Test.YtmaheecbohbilaaFl
import Derived.Test.YtmaheecbohbilaaL4
namespace Go.Proofs.Ytmaheecbohbilaa.Sl
open Go Go.RowKit Go.Proofs
set_option linter.unusedVariables false
set_option linter.unusedSimpArgs false
attribute [local irreducible] CW Tri OW
set_option maxRecDepth 10000
/-- A row of the document's tables: from, to, width, register, first, of, per. -/
abbrev Rw := Int × Int × Int × Int × Int × Int × Int
@[reducible] def rwC (r : Rw) : List Value := [.int .i64 r.1, .int .i64 r.2.1, .int .i64 r.2.2.1, .int .i64 r.2.2.2.1, .int .i64 r.2.2.2.2.1, .int .i64 r.2.2.2.2.2.1, .int .i64 r.2.2.2.2.2.2]
def bitRow (a s t : Int) (k : Nat) : Rw := (IntKind.i64.wrap (a + IntKind.i64.wrap (t * k)), IntKind.i64.wrap (IntKind.i64.wrap (a + IntKind.i64.wrap (t * k)) + s), 4, 4 + k, 0, 8, 1)
def bitsRw (a s t : Int) : Nat → List Rw
  | 0 => []
  | k + 1 => bitsRw a s t k ++ [bitRow a s t k]
theorem bitsRw_len (a s t : Int) : ∀ k, (bitsRw a s t k).length = k
  | 0 => rfl
  | k + 1 => by simp [bitsRw, bitsRw_len a s t k]
theorem reg_at {k : Nat} (h : k < 7) : rdv ti27 [.int .i64 4, .int .i64 5, .int .i64 6, .int .i64 7, .int .i64 8, .int .i64 9, .int .i64 10] (0 + k * 1) = some (.int .i64 (4 + k)) := by
  match k, h with
  | 0, _ => rfl
  | 1, _ => rfl
  | 2, _ => rfl
  | 3, _ => rfl
  | 4, _ => rfl
  | 5, _ => rfl
  | 6, _ => rfl
def obA (a s t : Int) (k : Nat) (x : Option Addr × Nat) : List Atom := [own 100 7 (.slice x.1 k x.2) k ((bitsRw a s t k).flatMap rwC)]
set_option maxHeartbeats 2000000 in
theorem bits52 (β : Base) (a s t : Int) : Tri Try.prog β 52 [.int .i64 a, .int .i64 s, .int .i64 t] [] (fun v L => ∃ q c, v = .slice q 7 c ∧ L = [own 100 7 (.slice q 7 c) 7 ((bitsRw a s t 7).flatMap rwC)]) := by
  refine Tri.intro tt_ok Try.func52 rfl rfl Try.ntmps52 rfl fun F => ?_
  (repeat (first | refine CW.seq ?_ | refine CW.region tt_ok rfl ?_ | refine CW.block ?_ | refine CW.skip ?_ | refine SQ.nil ?_ | refine SQ.pures1 tt_ok rfl ?_ | refine SQ.pure1 tt_ok rfl ?_ | refine SQ.new _ _ rfl rfl (fun _ => ?_) | refine SQ.ldA tt_ok rfl rfl (by repeat (first | exact .h | exact .q | apply At.t)) (by rfl) ?_ | refine SQ.stA tt_ok rfl rfl (by repeat (first | apply Up.h | apply Up.t)) (by rfl) (by rfl) (by exact trivial) ?_ | refine CW.cond_tt rfl ?_ | refine CW.cond_ff rfl ?_))
  (refine SQ.built tt_ok rfl rfl (fun _ => ⟨(by exact trivial), ?_⟩))
  (repeat (first | refine CW.seq ?_ | refine CW.region tt_ok rfl ?_ | refine CW.block ?_ | refine CW.skip ?_ | refine SQ.nil ?_ | refine SQ.pures1 tt_ok rfl ?_ | refine SQ.pure1 tt_ok rfl ?_ | refine SQ.new _ _ rfl rfl (fun _ => ?_) | refine SQ.ldA tt_ok rfl rfl (by repeat (first | exact .h | exact .q | apply At.t)) (by rfl) ?_ | refine SQ.stA tt_ok rfl rfl (by repeat (first | apply Up.h | apply Up.t)) (by rfl) (by rfl) (by exact trivial) ?_ | refine CW.cond_tt rfl ?_ | refine CW.cond_ff rfl ?_))
  rename_i b
  refine CW.loop (α := Nat × Option Addr × Nat) (fun k => k.1 ≤ 7) (fun k => [(9, .int .i64 k.1), (8, .slice k.2.1 k.1 k.2.2), (7, .slice (some ⟨b, 0, none⟩) 7 7), (0, .int .i64 a), (1, .int .i64 s), (2, .int .i64 t)])
    (fun k => [own 100 7 (.slice k.2.1 k.1 k.2.2) k.1 ((bitsRw a s t k.1).flatMap rwC), pt b [.int .i64 4, .int .i64 5, .int .i64 6, .int .i64 7, .int .i64 8, .int .i64 9, .int .i64 10]]) (fun k => 7 - k.1) (0, none, 0) (by simp) ⟨rfl, rfl, rfl, rfl, rfl, rfl, trivial⟩ (own_nil 100 7) ?_
  rintro ⟨k, q, c⟩ hk
  simp only at hk ⊢
  (repeat (first | refine CW.seq ?_ | refine CW.region tt_ok rfl ?_ | refine CW.block ?_ | refine CW.skip ?_ | refine SQ.nil ?_ | refine SQ.pures1 tt_ok rfl ?_ | refine SQ.pure1 tt_ok rfl ?_ | refine SQ.new _ _ rfl rfl (fun _ => ?_) | refine SQ.ldA tt_ok rfl rfl (by repeat (first | exact .h | exact .q | apply At.t)) (by rfl) ?_ | refine SQ.stA tt_ok rfl rfl (by repeat (first | apply Up.h | apply Up.t)) (by rfl) (by rfl) (by exact trivial) ?_ | refine CW.cond_tt rfl ?_ | refine CW.cond_ff rfl ?_))
  generalize e1 : decide ((k : Int) < 7) = cc
  cases cc
  · have : k = 7 := by simp at e1; omega
    subst this
    (repeat (first | refine CW.seq ?_ | refine CW.region tt_ok rfl ?_ | refine CW.block ?_ | refine CW.skip ?_ | refine SQ.nil ?_ | refine SQ.pures1 tt_ok rfl ?_ | refine SQ.pure1 tt_ok rfl ?_ | refine SQ.new _ _ rfl rfl (fun _ => ?_) | refine SQ.ldA tt_ok rfl rfl (by repeat (first | exact .h | exact .q | apply At.t)) (by rfl) ?_ | refine SQ.stA tt_ok rfl rfl (by repeat (first | apply Up.h | apply Up.t)) (by rfl) (by rfl) (by exact trivial) ?_ | refine CW.cond_tt rfl ?_ | refine CW.cond_ff rfl ?_))
    refine CW.exit ?_
    (repeat (first | refine CW.seq ?_ | refine CW.region tt_ok rfl ?_ | refine CW.block ?_ | refine CW.skip ?_ | refine SQ.nil ?_ | refine SQ.pures1 tt_ok rfl ?_ | refine SQ.pure1 tt_ok rfl ?_ | refine SQ.new _ _ rfl rfl (fun _ => ?_) | refine SQ.ldA tt_ok rfl rfl (by repeat (first | exact .h | exact .q | apply At.t)) (by rfl) ?_ | refine SQ.stA tt_ok rfl rfl (by repeat (first | apply Up.h | apply Up.t)) (by rfl) (by rfl) (by exact trivial) ?_ | refine CW.cond_tt rfl ?_ | refine CW.cond_ff rfl ?_))
    refine CW.ret (fin_ret rfl (Ent.sel (is := [0]) rfl) ?_)
    exact ⟨q, c, rfl, rfl⟩
  · have hlt : k < 7 := by simp at e1; omega
    have hw : IntKind.i64.wrap ((k : Int) + 1) = ((k + 1 : Nat) : Int) := by rw [wrap_i64]; split <;> omega
    (repeat (first | refine CW.seq ?_ | refine CW.region tt_ok rfl ?_ | refine CW.block ?_ | refine CW.skip ?_ | refine SQ.nil ?_ | refine SQ.pures1 tt_ok rfl ?_ | refine SQ.pure1 tt_ok rfl ?_ | refine SQ.new _ _ rfl rfl (fun _ => ?_) | refine SQ.ldA tt_ok rfl rfl (by repeat (first | exact .h | exact .q | apply At.t)) (by rfl) ?_ | refine SQ.stA tt_ok rfl rfl (by repeat (first | apply Up.h | apply Up.t)) (by rfl) (by rfl) (by exact trivial) ?_ | refine CW.cond_tt rfl ?_ | refine CW.cond_ff rfl ?_))
    refine SQ.idx tt_ok rfl rfl k rfl hlt (o' := 0 + k * 1) rfl ?_
    refine SQ.load tt_ok rfl rfl 1 rfl (reg_at hlt) ?_
    (repeat (first | refine CW.seq ?_ | refine CW.region tt_ok rfl ?_ | refine CW.block ?_ | refine CW.skip ?_ | refine SQ.nil ?_ | refine SQ.pures1 tt_ok rfl ?_ | refine SQ.pure1 tt_ok rfl ?_ | refine SQ.new _ _ rfl rfl (fun _ => ?_) | refine SQ.ldA tt_ok rfl rfl (by repeat (first | exact .h | exact .q | apply At.t)) (by rfl) ?_ | refine SQ.stA tt_ok rfl rfl (by repeat (first | apply Up.h | apply Up.t)) (by rfl) (by rfl) (by exact trivial) ?_ | refine CW.cond_tt rfl ?_ | refine CW.cond_ff rfl ?_))
    (refine SQ.built tt_ok rfl rfl (fun _ => ⟨(by exact trivial), ?_⟩))
    (repeat (first | refine CW.seq ?_ | refine CW.region tt_ok rfl ?_ | refine CW.block ?_ | refine CW.skip ?_ | refine SQ.nil ?_ | refine SQ.pures1 tt_ok rfl ?_ | refine SQ.pure1 tt_ok rfl ?_ | refine SQ.new _ _ rfl rfl (fun _ => ?_) | refine SQ.ldA tt_ok rfl rfl (by repeat (first | exact .h | exact .q | apply At.t)) (by rfl) ?_ | refine SQ.stA tt_ok rfl rfl (by repeat (first | apply Up.h | apply Up.t)) (by rfl) (by rfl) (by exact trivial) ?_ | refine CW.cond_tt rfl ?_ | refine CW.cond_ff rfl ?_))
    refine SQ.append tt_ok rfl rfl 1 rfl 0 (q := true) rfl (rwC (bitRow a s t k)) rfl rfl rfl (scal_eq rfl) (by omega) (by show (k + 1) * 56 ≤ _; omega) (fun v' => ⟨(by exact trivial), ?_⟩)
    refine SQ.ent _ (Ent.head (own_shape _ _ _ _ _)) ?_
    refine SQ.open_ fun x => ?_
    refine SQ.pure_ fun hv => ?_
    subst hv
    (repeat (first | refine CW.seq ?_ | refine CW.region tt_ok rfl ?_ | refine CW.block ?_ | refine CW.skip ?_ | refine SQ.nil ?_ | refine SQ.pures1 tt_ok rfl ?_ | refine SQ.pure1 tt_ok rfl ?_ | refine SQ.new _ _ rfl rfl (fun _ => ?_) | refine SQ.ldA tt_ok rfl rfl (by repeat (first | exact .h | exact .q | apply At.t)) (by rfl) ?_ | refine SQ.stA tt_ok rfl rfl (by repeat (first | apply Up.h | apply Up.t)) (by rfl) (by rfl) (by exact trivial) ?_ | refine CW.cond_tt rfl ?_ | refine CW.cond_ff rfl ?_))
    refine ⟨(k + 1, x.1, x.2), by simp; omega, by simp; omega, ⟨by rw [← hw]; rfl, rfl, rfl, rfl, rfl, rfl, trivial⟩, ?_⟩
    have e2 : (bitsRw a s t (k + 1)).flatMap rwC = (bitsRw a s t k).flatMap rwC ++ rwC (bitRow a s t k) := by
      rw [bitsRw, List.flatMap_append]; simp
    rw [e2]
    exact Ent.sel (is := [0, 1]) rfl
/-- The document's table of the distributor. -/
def distRw : List Rw := [(0, 4, 4, 1, 0, 0, 1), (4, 8, 4, 2, 0, 0, 1)] ++ bitsRw 128 128 128 7 ++ [(1024, 2048, 4, 11, 0, 1, 1), (3072, 3328, 4, 12, 0, 4, 1), (24832, 32768, 8, 13, 32, 1, 8)]
theorem distRw_len : distRw.length = 12 := rfl
theorem scal_dist : scal ((bitsRw 128 128 128 7).flatMap rwC) = true := by kernel_rfl
set_option maxHeartbeats 2000000 in
theorem dist32 (β : Base) : Tri Try.prog β 32 [] [] (fun v L => ∃ q c, v = .slice q 12 c ∧ L = [rowA q 12 (distRw.flatMap rwC)]) := by
  refine Tri.intro tt_ok Try.func32 rfl rfl Try.ntmps32 rfl fun F => ?_
  (repeat (first | refine CW.seq ?_ | refine CW.region tt_ok rfl ?_ | refine CW.block ?_ | refine CW.skip ?_ | refine SQ.nil ?_ | refine SQ.pures1 tt_ok rfl ?_ | refine SQ.pure1 tt_ok rfl ?_ | refine SQ.new _ _ rfl rfl (fun _ => ?_) | refine SQ.ldA tt_ok rfl rfl (by repeat (first | exact .h | exact .q | apply At.t)) (by rfl) ?_ | refine SQ.stA tt_ok rfl rfl (by repeat (first | apply Up.h | apply Up.t)) (by rfl) (by rfl) (by exact trivial) ?_ | refine CW.cond_tt rfl ?_ | refine CW.cond_ff rfl ?_))
  refine SQ.builtO tt_ok rfl rfl rfl rfl (fun b => ⟨(by exact trivial), ?_⟩)
  (repeat (first | refine CW.seq ?_ | refine CW.region tt_ok rfl ?_ | refine CW.block ?_ | refine CW.skip ?_ | refine SQ.nil ?_ | refine SQ.pures1 tt_ok rfl ?_ | refine SQ.pure1 tt_ok rfl ?_ | refine SQ.new _ _ rfl rfl (fun _ => ?_) | refine SQ.ldA tt_ok rfl rfl (by repeat (first | exact .h | exact .q | apply At.t)) (by rfl) ?_ | refine SQ.stA tt_ok rfl rfl (by repeat (first | apply Up.h | apply Up.t)) (by rfl) (by rfl) (by exact trivial) ?_ | refine CW.cond_tt rfl ?_ | refine CW.cond_ff rfl ?_))
  (refine SQ.call rfl rfl (bits52 β 128 128 128) [] rfl ?_; rintro _ _ ⟨q, c, rfl, rfl⟩; refine ⟨(by exact trivial), ?_⟩)
  refine SQ.ent _ (Ent.head (Ent.trans own_row (row_open (by omega)))) ?_
  refine SQ.open_ fun x => ?_
  obtain ⟨g, rest⟩ := x
  refine SQ.pure_ fun hv => ?_
  simp only at hv
  subst hv
  (repeat (first | refine CW.seq ?_ | refine CW.region tt_ok rfl ?_ | refine CW.block ?_ | refine CW.skip ?_ | refine SQ.nil ?_ | refine SQ.pures1 tt_ok rfl ?_ | refine SQ.pure1 tt_ok rfl ?_ | refine SQ.new _ _ rfl rfl (fun _ => ?_) | refine SQ.ldA tt_ok rfl rfl (by repeat (first | exact .h | exact .q | apply At.t)) (by rfl) ?_ | refine SQ.stA tt_ok rfl rfl (by repeat (first | apply Up.h | apply Up.t)) (by rfl) (by rfl) (by exact trivial) ?_ | refine CW.cond_tt rfl ?_ | refine CW.cond_ff rfl ?_))
  refine SQ.append tt_ok rfl rfl 1 rfl 0 (q := true) rfl ((bitsRw 128 128 128 7).flatMap rwC) rfl rfl rfl (scal_eq scal_dist) (by omega) (by decide) (fun v' => ⟨(by exact trivial), ?_⟩)
  refine SQ.ent _ (Ent.head (own_shape _ _ _ _ _)) ?_
  refine SQ.open_ fun x => ?_
  refine SQ.pure_ fun hv => ?_
  subst hv
  (repeat (first | refine CW.seq ?_ | refine CW.region tt_ok rfl ?_ | refine CW.block ?_ | refine CW.skip ?_ | refine SQ.nil ?_ | refine SQ.pures1 tt_ok rfl ?_ | refine SQ.pure1 tt_ok rfl ?_ | refine SQ.new _ _ rfl rfl (fun _ => ?_) | refine SQ.ldA tt_ok rfl rfl (by repeat (first | exact .h | exact .q | apply At.t)) (by rfl) ?_ | refine SQ.stA tt_ok rfl rfl (by repeat (first | apply Up.h | apply Up.t)) (by rfl) (by rfl) (by exact trivial) ?_ | refine CW.cond_tt rfl ?_ | refine CW.cond_ff rfl ?_))
  (refine SQ.built tt_ok rfl rfl (fun _ => ⟨(by exact trivial), ?_⟩))
  (repeat (first | refine CW.seq ?_ | refine CW.region tt_ok rfl ?_ | refine CW.block ?_ | refine CW.skip ?_ | refine SQ.nil ?_ | refine SQ.pures1 tt_ok rfl ?_ | refine SQ.pure1 tt_ok rfl ?_ | refine SQ.new _ _ rfl rfl (fun _ => ?_) | refine SQ.ldA tt_ok rfl rfl (by repeat (first | exact .h | exact .q | apply At.t)) (by rfl) ?_ | refine SQ.stA tt_ok rfl rfl (by repeat (first | apply Up.h | apply Up.t)) (by rfl) (by rfl) (by exact trivial) ?_ | refine CW.cond_tt rfl ?_ | refine CW.cond_ff rfl ?_))
  refine SQ.append tt_ok rfl rfl 1 rfl 0 (q := true) rfl ([(1024, 2048, 4, 11, 0, 1, 1), (3072, 3328, 4, 12, 0, 4, 1), (24832, 32768, 8, 13, 32, 1, 8)].flatMap rwC) rfl rfl rfl (scal_eq rfl) (by omega) (by decide) (fun v' => ⟨(by exact trivial), ?_⟩)
  refine SQ.ent _ (Ent.head (own_shape _ _ _ _ _)) ?_
  refine SQ.open_ fun y => ?_
  refine SQ.pure_ fun hv => ?_
  subst hv
  (repeat (first | refine CW.seq ?_ | refine CW.region tt_ok rfl ?_ | refine CW.block ?_ | refine CW.skip ?_ | refine SQ.nil ?_ | refine SQ.pures1 tt_ok rfl ?_ | refine SQ.pure1 tt_ok rfl ?_ | refine SQ.new _ _ rfl rfl (fun _ => ?_) | refine SQ.ldA tt_ok rfl rfl (by repeat (first | exact .h | exact .q | apply At.t)) (by rfl) ?_ | refine SQ.stA tt_ok rfl rfl (by repeat (first | apply Up.h | apply Up.t)) (by rfl) (by rfl) (by exact trivial) ?_ | refine CW.cond_tt rfl ?_ | refine CW.cond_ff rfl ?_))
  refine CW.ret (fin_ret rfl (Ent.trans (Ent.sel (is := [0]) rfl) own_row) ?_)
  refine ⟨y.1, y.2, rfl, ?_⟩
  rfl
end Go.Proofs.Ytmaheecbohbilaa.Sl
