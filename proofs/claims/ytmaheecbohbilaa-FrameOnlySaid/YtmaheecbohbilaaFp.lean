import Derived.Test.YtmaheecbohbilaaFl
import Derived.Test.YtmaheecbohbilaaL4
namespace Go.Proofs.Ytmaheecbohbilaa.Sl
open Go Go.RowKit Go.Proofs
set_option linter.unusedVariables false
set_option linter.unusedSimpArgs false
attribute [local irreducible] CW Tri OW
set_option maxRecDepth 10000
def zeroL : Ln := ((false, false, false, false), false, 0, 0)
/-- The document's bank, while it is built. -/
def nbA (b : Nat) (first : Int) (tx : ByteArray) (k : Nat) : Atom := exA fun x : Option Addr × Nat × Option Addr × Nat => [pt b [.int .i64 first, .slice x.1 k x.2.1, .slice x.2.2.1 k x.2.2.2],
  own 38 7 (.slice x.1 k x.2.1) k ((List.replicate k zeroL).flatMap lnC), own 9 1 (.slice x.2.2.1 k x.2.2.2) k (List.replicate k (.string tx))]
/-- The document's bank. -/
def rbA (b : Nat) (first : Int) (q : Option Addr) (c : Nat) (S2 : Value) (ls : List Ln) : List Atom := [pt b [.int .i64 first, .slice q ls.length c, S2], rowA q ls.length (ls.flatMap lnC)]
theorem rep_succ {α : Type} (k : Nat) (a : α) (enc : α → List Value) : (List.replicate (k + 1) a).flatMap enc = (List.replicate k a).flatMap enc ++ enc a := by
  rw [List.replicate_succ', List.flatMap_append]; simp
set_option maxHeartbeats 2000000 in
theorem new33 (β : Base) {first n : Int} (h0 : 0 ≤ first) (h1 : 0 ≤ n) (h2 : first + n ≤ 16384) (tx : ByteArray) :
    Tri Try.prog β 33 [.int .i64 first, .int .i64 n, .string tx] [] (fun v L => ∃ b q c q2 c2, v = .tuple #[.pointer (some ⟨b, 0, none⟩), .bool true] ∧
      L = [pt b [.int .i64 first, .slice q n.toNat c, .slice q2 n.toNat c2], rowA q n.toNat ((List.replicate n.toNat zeroL).flatMap lnC), rowA q2 n.toNat (List.replicate n.toNat (.string tx))]) := by
  obtain ⟨m, rfl⟩ : ∃ m : Nat, n = (m : Int) := ⟨n.toNat, by omega⟩
  have hw0 : IntKind.i64.wrap (first + m) = first + m := by rw [wrap_i64]; split <;> omega
  refine Tri.intro tt_ok Try.func33 rfl rfl Try.ntmps33 rfl fun F => ?_
  (repeat (first | refine CW.seq ?_ | refine CW.region tt_ok rfl ?_ | refine CW.block ?_ | refine CW.skip ?_ | refine SQ.nil ?_ | refine SQ.pures1 tt_ok rfl ?_ | refine SQ.pure1 tt_ok rfl ?_ | refine SQ.new _ _ rfl rfl (fun _ => ?_) | refine SQ.ldA tt_ok rfl rfl (by repeat (first | exact .h | exact .q | apply At.t)) (by rfl) ?_ | refine SQ.stA tt_ok rfl rfl (by repeat (first | apply Up.h | apply Up.t)) (by rfl) (by rfl) (by exact trivial) ?_ | refine CW.cond_tt rfl ?_ | refine CW.cond_ff rfl ?_))
  rw [decide_eq_false (show ¬ first < 0 by omega)]
  (repeat (first | refine CW.seq ?_ | refine CW.region tt_ok rfl ?_ | refine CW.block ?_ | refine CW.skip ?_ | refine SQ.nil ?_ | refine SQ.pures1 tt_ok rfl ?_ | refine SQ.pure1 tt_ok rfl ?_ | refine SQ.new _ _ rfl rfl (fun _ => ?_) | refine SQ.ldA tt_ok rfl rfl (by repeat (first | exact .h | exact .q | apply At.t)) (by rfl) ?_ | refine SQ.stA tt_ok rfl rfl (by repeat (first | apply Up.h | apply Up.t)) (by rfl) (by rfl) (by exact trivial) ?_ | refine CW.cond_tt rfl ?_ | refine CW.cond_ff rfl ?_))
  rw [decide_eq_false (show ¬ (m : Int) < 0 by omega)]
  (repeat (first | refine CW.seq ?_ | refine CW.region tt_ok rfl ?_ | refine CW.block ?_ | refine CW.skip ?_ | refine SQ.nil ?_ | refine SQ.pures1 tt_ok rfl ?_ | refine SQ.pure1 tt_ok rfl ?_ | refine SQ.new _ _ rfl rfl (fun _ => ?_) | refine SQ.ldA tt_ok rfl rfl (by repeat (first | exact .h | exact .q | apply At.t)) (by rfl) ?_ | refine SQ.stA tt_ok rfl rfl (by repeat (first | apply Up.h | apply Up.t)) (by rfl) (by rfl) (by exact trivial) ?_ | refine CW.cond_tt rfl ?_ | refine CW.cond_ff rfl ?_))
  rw [decide_eq_false (show ¬ first > 16384 by omega)]
  (repeat (first | refine CW.seq ?_ | refine CW.region tt_ok rfl ?_ | refine CW.block ?_ | refine CW.skip ?_ | refine SQ.nil ?_ | refine SQ.pures1 tt_ok rfl ?_ | refine SQ.pure1 tt_ok rfl ?_ | refine SQ.new _ _ rfl rfl (fun _ => ?_) | refine SQ.ldA tt_ok rfl rfl (by repeat (first | exact .h | exact .q | apply At.t)) (by rfl) ?_ | refine SQ.stA tt_ok rfl rfl (by repeat (first | apply Up.h | apply Up.t)) (by rfl) (by rfl) (by exact trivial) ?_ | refine CW.cond_tt rfl ?_ | refine CW.cond_ff rfl ?_))
  rw [decide_eq_false (show ¬ (m : Int) > 16384 by omega)]
  (repeat (first | refine CW.seq ?_ | refine CW.region tt_ok rfl ?_ | refine CW.block ?_ | refine CW.skip ?_ | refine SQ.nil ?_ | refine SQ.pures1 tt_ok rfl ?_ | refine SQ.pure1 tt_ok rfl ?_ | refine SQ.new _ _ rfl rfl (fun _ => ?_) | refine SQ.ldA tt_ok rfl rfl (by repeat (first | exact .h | exact .q | apply At.t)) (by rfl) ?_ | refine SQ.stA tt_ok rfl rfl (by repeat (first | apply Up.h | apply Up.t)) (by rfl) (by rfl) (by exact trivial) ?_ | refine CW.cond_tt rfl ?_ | refine CW.cond_ff rfl ?_))
  rw [hw0, decide_eq_false (show ¬ first + m > 16384 by omega)]
  (repeat (first | refine CW.seq ?_ | refine CW.region tt_ok rfl ?_ | refine CW.block ?_ | refine CW.skip ?_ | refine SQ.nil ?_ | refine SQ.pures1 tt_ok rfl ?_ | refine SQ.pure1 tt_ok rfl ?_ | refine SQ.new _ _ rfl rfl (fun _ => ?_) | refine SQ.ldA tt_ok rfl rfl (by repeat (first | exact .h | exact .q | apply At.t)) (by rfl) ?_ | refine SQ.stA tt_ok rfl rfl (by repeat (first | apply Up.h | apply Up.t)) (by rfl) (by rfl) (by exact trivial) ?_ | refine CW.cond_tt rfl ?_ | refine CW.cond_ff rfl ?_))
  rename_i b
  refine CW.loop (α := Nat) (fun k => k ≤ m) (fun k => [(9, .int .i64 k), (1, .int .i64 m), (8, .pointer (some ⟨b, 0, none⟩)), (2, .string tx)])
    (fun k => [nbA b first tx k]) (fun k => m - k) 0 (by omega) ⟨rfl, rfl, rfl, rfl, trivial⟩ ?_ ?_
  · refine Ent.trans ((own_nil 9 1).trans (own_nil 38 7)) ?_
    exact (Ent.sel (is := [2, 0, 0]) rfl).trans (Ent.exA (f := fun x : Option Addr × Nat × Option Addr × Nat => [pt b [.int .i64 first, .slice x.1 0 x.2.1, .slice x.2.2.1 0 x.2.2.2],
      own 38 7 (.slice x.1 0 x.2.1) 0 ((List.replicate 0 zeroL).flatMap lnC), own 9 1 (.slice x.2.2.1 0 x.2.2.2) 0 (List.replicate 0 (.string tx))]) (none, 0, none, 0))
  intro k hk
  refine CW.open_ fun x => ?_
  obtain ⟨q, c, q2, c2⟩ := x
  simp only [List.cons_append, List.nil_append]
  (repeat (first | refine CW.seq ?_ | refine CW.region tt_ok rfl ?_ | refine CW.block ?_ | refine CW.skip ?_ | refine SQ.nil ?_ | refine SQ.pures1 tt_ok rfl ?_ | refine SQ.pure1 tt_ok rfl ?_ | refine SQ.new _ _ rfl rfl (fun _ => ?_) | refine SQ.ldA tt_ok rfl rfl (by repeat (first | exact .h | exact .q | apply At.t)) (by rfl) ?_ | refine SQ.stA tt_ok rfl rfl (by repeat (first | apply Up.h | apply Up.t)) (by rfl) (by rfl) (by exact trivial) ?_ | refine CW.cond_tt rfl ?_ | refine CW.cond_ff rfl ?_))
  generalize e1 : decide ((k : Int) < (m : Int)) = cc
  cases cc
  · have : k = m := by simp at e1; omega
    subst this
    (repeat (first | refine CW.seq ?_ | refine CW.region tt_ok rfl ?_ | refine CW.block ?_ | refine CW.skip ?_ | refine SQ.nil ?_ | refine SQ.pures1 tt_ok rfl ?_ | refine SQ.pure1 tt_ok rfl ?_ | refine SQ.new _ _ rfl rfl (fun _ => ?_) | refine SQ.ldA tt_ok rfl rfl (by repeat (first | exact .h | exact .q | apply At.t)) (by rfl) ?_ | refine SQ.stA tt_ok rfl rfl (by repeat (first | apply Up.h | apply Up.t)) (by rfl) (by rfl) (by exact trivial) ?_ | refine CW.cond_tt rfl ?_ | refine CW.cond_ff rfl ?_))
    refine CW.exit ?_
    (repeat (first | refine CW.seq ?_ | refine CW.region tt_ok rfl ?_ | refine CW.block ?_ | refine CW.skip ?_ | refine SQ.nil ?_ | refine SQ.pures1 tt_ok rfl ?_ | refine SQ.pure1 tt_ok rfl ?_ | refine SQ.new _ _ rfl rfl (fun _ => ?_) | refine SQ.ldA tt_ok rfl rfl (by repeat (first | exact .h | exact .q | apply At.t)) (by rfl) ?_ | refine SQ.stA tt_ok rfl rfl (by repeat (first | apply Up.h | apply Up.t)) (by rfl) (by rfl) (by exact trivial) ?_ | refine CW.cond_tt rfl ?_ | refine CW.cond_ff rfl ?_))
    refine CW.ret (fin_ret rfl (Ent.cons _ (Ent.append (L := [_]) (L' := [_]) own_row own_row)) ?_)
    exact ⟨b, q, c, q2, c2, rfl, rfl⟩
  · have hlt : k < m := by simp at e1; omega
    have hw : IntKind.i64.wrap ((k : Int) + 1) = ((k + 1 : Nat) : Int) := by rw [wrap_i64]; split <;> omega
    (repeat (first | refine CW.seq ?_ | refine CW.region tt_ok rfl ?_ | refine CW.block ?_ | refine CW.skip ?_ | refine SQ.nil ?_ | refine SQ.pures1 tt_ok rfl ?_ | refine SQ.pure1 tt_ok rfl ?_ | refine SQ.new _ _ rfl rfl (fun _ => ?_) | refine SQ.ldA tt_ok rfl rfl (by repeat (first | exact .h | exact .q | apply At.t)) (by rfl) ?_ | refine SQ.stA tt_ok rfl rfl (by repeat (first | apply Up.h | apply Up.t)) (by rfl) (by rfl) (by exact trivial) ?_ | refine CW.cond_tt rfl ?_ | refine CW.cond_ff rfl ?_))
    (refine SQ.built tt_ok rfl rfl (fun _ => ⟨(by exact trivial), ?_⟩))
    (repeat (first | refine CW.seq ?_ | refine CW.region tt_ok rfl ?_ | refine CW.block ?_ | refine CW.skip ?_ | refine SQ.nil ?_ | refine SQ.pures1 tt_ok rfl ?_ | refine SQ.pure1 tt_ok rfl ?_ | refine SQ.new _ _ rfl rfl (fun _ => ?_) | refine SQ.ldA tt_ok rfl rfl (by repeat (first | exact .h | exact .q | apply At.t)) (by rfl) ?_ | refine SQ.stA tt_ok rfl rfl (by repeat (first | apply Up.h | apply Up.t)) (by rfl) (by rfl) (by exact trivial) ?_ | refine CW.cond_tt rfl ?_ | refine CW.cond_ff rfl ?_))
    refine SQ.append tt_ok rfl rfl 2 rfl 0 (q := true) rfl (lnC zeroL) rfl rfl rfl (scal_eq rfl) (by omega) (by show (k + 1) * 24 ≤ _; omega) (fun v' => ⟨(by exact trivial), ?_⟩)
    refine SQ.ent _ (Ent.head (own_shape _ _ _ _ _)) ?_
    refine SQ.open_ fun s => ?_
    refine SQ.pure_ fun hv => ?_
    subst hv
    (repeat (first | refine CW.seq ?_ | refine CW.region tt_ok rfl ?_ | refine CW.block ?_ | refine CW.skip ?_ | refine SQ.nil ?_ | refine SQ.pures1 tt_ok rfl ?_ | refine SQ.pure1 tt_ok rfl ?_ | refine SQ.new _ _ rfl rfl (fun _ => ?_) | refine SQ.ldA tt_ok rfl rfl (by repeat (first | exact .h | exact .q | apply At.t)) (by rfl) ?_ | refine SQ.stA tt_ok rfl rfl (by repeat (first | apply Up.h | apply Up.t)) (by rfl) (by rfl) (by exact trivial) ?_ | refine CW.cond_tt rfl ?_ | refine CW.cond_ff rfl ?_))
    (refine SQ.built tt_ok rfl rfl (fun _ => ⟨(by exact trivial), ?_⟩))
    (repeat (first | refine CW.seq ?_ | refine CW.region tt_ok rfl ?_ | refine CW.block ?_ | refine CW.skip ?_ | refine SQ.nil ?_ | refine SQ.pures1 tt_ok rfl ?_ | refine SQ.pure1 tt_ok rfl ?_ | refine SQ.new _ _ rfl rfl (fun _ => ?_) | refine SQ.ldA tt_ok rfl rfl (by repeat (first | exact .h | exact .q | apply At.t)) (by rfl) ?_ | refine SQ.stA tt_ok rfl rfl (by repeat (first | apply Up.h | apply Up.t)) (by rfl) (by rfl) (by exact trivial) ?_ | refine CW.cond_tt rfl ?_ | refine CW.cond_ff rfl ?_))
    refine SQ.append tt_ok rfl rfl 4 rfl 0 (q := true) rfl [.string tx] rfl rfl rfl (scal_eq rfl) (by omega) (by show (k + 1) * 16 ≤ _; omega) (fun v' => ⟨(by exact trivial), ?_⟩)
    refine SQ.ent _ (Ent.head (own_shape _ _ _ _ _)) ?_
    refine SQ.open_ fun s2 => ?_
    refine SQ.pure_ fun hv => ?_
    subst hv
    (repeat (first | refine CW.seq ?_ | refine CW.region tt_ok rfl ?_ | refine CW.block ?_ | refine CW.skip ?_ | refine SQ.nil ?_ | refine SQ.pures1 tt_ok rfl ?_ | refine SQ.pure1 tt_ok rfl ?_ | refine SQ.new _ _ rfl rfl (fun _ => ?_) | refine SQ.ldA tt_ok rfl rfl (by repeat (first | exact .h | exact .q | apply At.t)) (by rfl) ?_ | refine SQ.stA tt_ok rfl rfl (by repeat (first | apply Up.h | apply Up.t)) (by rfl) (by rfl) (by exact trivial) ?_ | refine CW.cond_tt rfl ?_ | refine CW.cond_ff rfl ?_))
    refine ⟨k + 1, by omega, by omega, ⟨by rw [← hw]; rfl, rfl, rfl, rfl, trivial⟩, ?_⟩
    refine Ent.trans ?_ (Ent.exA (f := fun x : Option Addr × Nat × Option Addr × Nat => [pt b [.int .i64 first, .slice x.1 (k + 1) x.2.1, .slice x.2.2.1 (k + 1) x.2.2.2],
      own 38 7 (.slice x.1 (k + 1) x.2.1) (k + 1) ((List.replicate (k + 1) zeroL).flatMap lnC), own 9 1 (.slice x.2.2.1 (k + 1) x.2.2.2) (k + 1) (List.replicate (k + 1) (.string tx))]) (s.1, s.2, s2.1, s2.2))
    rw [rep_succ, List.replicate_succ' (n := k) (a := Value.string tx)]
    exact Ent.sel (is := [4, 2, 0]) rfl
end Go.Proofs.Ytmaheecbohbilaa.Sl
