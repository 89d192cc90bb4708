import Derived.Test.YtmaheecbohbilaaFv
namespace Go.Proofs.Ytmaheecbohbilaa.Sl
open Go Go.RowKit Go.Proofs
set_option linter.unusedVariables false
set_option linter.unusedSimpArgs false
attribute [local irreducible] CW Tri OW
set_option maxRecDepth 10000
theorem shows_odd {l : Ln} {r : Int} (h : r < 4 ∨ r > 12) : showsV l r = 0 := by
  unfold showsV
  repeat (rw [if_neg (by omega)])
theorem zand {w : Nat} (y : BitVec w) : (BitVec.ofInt w 0 &&& y).toNat = 0 := by
  have : BitVec.ofInt w 0 = 0#w := by apply BitVec.eq_of_toNat_eq; simp
  rw [this, BitVec.zero_and]; simp
theorem zor (w : Nat) : (BitVec.ofInt w 0 ||| BitVec.ofInt w 0).toNat = 0 := by
  have : BitVec.ofInt w 0 = 0#w := by apply BitVec.eq_of_toNat_eq; simp
  rw [this, BitVec.zero_or]; simp
theorem wrap0 : IntKind.u64.wrap 0 = 0 := rfl
theorem with_zero (r c k : Int) : withV 0 r c k 0 = 0 := by
  unfold withV
  split
  · rfl
  · rw [zand, zand, Int.natCast_zero, wrap0, Int.zero_mul, wrap0, zor]; rfl
theorem rdK_odd {first : Int} {es : List En} {r f c : Int} (h : r < 4 ∨ r > 12) : ∀ k, rdK first es r f c k = 0
  | 0 => rfl
  | k + 1 => by
    unfold rdK
    split
    · rw [rdK_odd h k, shows_odd h, with_zero]
    · exact rdK_odd h k
theorem written_odd {id : Int} {l : Ln} {r x : Int} (h : r < 4 ∨ r > 12) : writtenV id l r x = l := by
  unfold writtenV
  repeat (rw [if_neg (by omega)])
theorem wrK_odd {first : Int} {es : List En} {r f c v : Int} (h : r < 4 ∨ r > 12) : ∀ k, wrK first es r f c v k = (es, 0)
  | 0 => rfl
  | k + 1 => by
    have ih := wrK_odd (first := first) (es := es) (f := f) (c := c) (v := v) h k
    unfold wrK
    simp only [ih]
    have : wr1 first es r f c v k = (es, false) := by
      unfold wr1
      split
      · simp only [written_odd h, if_true]
      · rfl
    rw [this]; rfl
set_option maxHeartbeats 2000000 in
theorem law_odd (β : Base) {p : Option Addr} {n c : Nat} {ts : List Ac} {A : Atom} (hr : RdS β p n 5 (ts.flatMap acC) A) (hn : n ≤ 9223372036854775807) (hid : ∀ t ∈ ts, acOk t) {a m : Int} (ha0 : 0 ≤ a) (ha1 : a ≤ 255) (hm0 : 0 ≤ m) (hm1 : m ≤ 255) (g v i : Int) :
    Tri Try.prog β 6 [.int .u8 a, .int .u8 m, .slice p n c, .int .i64 g, .int .u64 v, .int .u8 i] [A] (fun v L => v = .bool true ∧ L = []) := by
  refine Tri.intro tt_ok Try.func6 rfl rfl Try.ntmps6 rfl fun F => ?_
  (repeat (first | refine CW.seq ?_ | refine CW.region tt_ok rfl ?_ | refine CW.block ?_ | refine CW.skip ?_ | refine SQ.nil ?_ | refine SQ.pures1 tt_ok rfl ?_ | refine SQ.pure1 tt_ok rfl ?_ | refine SQ.new _ _ rfl rfl (fun _ => ?_) | refine SQ.ldA tt_ok rfl rfl (by repeat (first | exact .h | exact .q | apply At.t)) (by rfl) ?_ | refine SQ.stA tt_ok rfl rfl (by repeat (first | apply Up.h | apply Up.t)) (by rfl) (by rfl) (by exact trivial) ?_ | refine CW.cond_tt rfl ?_ | refine CW.cond_ff rfl ?_))
  (refine SQ.call rfl rfl (awake9 β) [] rfl ?_; rintro _ _ ⟨rfl, rfl⟩; refine ⟨(by exact trivial), ?_⟩)
  (repeat (first | refine CW.seq ?_ | refine CW.region tt_ok rfl ?_ | refine CW.block ?_ | refine CW.skip ?_ | refine SQ.nil ?_ | refine SQ.pures1 tt_ok rfl ?_ | refine SQ.pure1 tt_ok rfl ?_ | refine SQ.new _ _ rfl rfl (fun _ => ?_) | refine SQ.ldA tt_ok rfl rfl (by repeat (first | exact .h | exact .q | apply At.t)) (by rfl) ?_ | refine SQ.stA tt_ok rfl rfl (by repeat (first | apply Up.h | apply Up.t)) (by rfl) (by rfl) (by exact trivial) ?_ | refine CW.cond_tt rfl ?_ | refine CW.cond_ff rfl ?_))
  (refine SQ.call rfl rfl (played10 β hr hn hid ha0 ha1 hm0 hm1) [0] rfl ?_; rintro _ _ ⟨b, q0, c0, tx, rfl, rfl⟩; refine ⟨(by exact trivial), ?_⟩)
  have hf0 : 0 ≤ a % 64 := by omega
  have hf1 : a % 64 ≤ 16384 := by omega
  generalize playV (a % 64) (List.replicate (m % 80).toNat (zeroE.1, tx)) ts = es
  generalize a % 64 = first at hf0 hf1 ⊢
  (repeat (first | refine CW.seq ?_ | refine CW.region tt_ok rfl ?_ | refine CW.block ?_ | refine CW.skip ?_ | refine SQ.nil ?_ | refine SQ.pures1 tt_ok rfl ?_ | refine SQ.pure1 tt_ok rfl ?_ | refine SQ.new _ _ rfl rfl (fun _ => ?_) | refine SQ.ldA tt_ok rfl rfl (by repeat (first | exact .h | exact .q | apply At.t)) (by rfl) ?_ | refine SQ.stA tt_ok rfl rfl (by repeat (first | apply Up.h | apply Up.t)) (by rfl) (by rfl) (by exact trivial) ?_ | refine CW.cond_tt rfl ?_ | refine CW.cond_ff rfl ?_))
  by_cases h1 : g ≥ 4 ∧ g ≤ 12
  · rw [decide_eq_true h1.1]
    (repeat (first | refine CW.seq ?_ | refine CW.region tt_ok rfl ?_ | refine CW.block ?_ | refine CW.skip ?_ | refine SQ.nil ?_ | refine SQ.pures1 tt_ok rfl ?_ | refine SQ.pure1 tt_ok rfl ?_ | refine SQ.new _ _ rfl rfl (fun _ => ?_) | refine SQ.ldA tt_ok rfl rfl (by repeat (first | exact .h | exact .q | apply At.t)) (by rfl) ?_ | refine SQ.stA tt_ok rfl rfl (by repeat (first | apply Up.h | apply Up.t)) (by rfl) (by rfl) (by exact trivial) ?_ | refine CW.cond_tt rfl ?_ | refine CW.cond_ff rfl ?_))
    rw [decide_eq_true h1.2]
    (repeat (first | refine CW.seq ?_ | refine CW.region tt_ok rfl ?_ | refine CW.block ?_ | refine CW.skip ?_ | refine SQ.nil ?_ | refine SQ.pures1 tt_ok rfl ?_ | refine SQ.pure1 tt_ok rfl ?_ | refine SQ.new _ _ rfl rfl (fun _ => ?_) | refine SQ.ldA tt_ok rfl rfl (by repeat (first | exact .h | exact .q | apply At.t)) (by rfl) ?_ | refine SQ.stA tt_ok rfl rfl (by repeat (first | apply Up.h | apply Up.t)) (by rfl) (by rfl) (by exact trivial) ?_ | refine CW.cond_tt rfl ?_ | refine CW.cond_ff rfl ?_))
    exact CW.ret (fin_ret rfl (Ent.dropAll _) ⟨rfl, rfl⟩)
  · have h2 : g < 4 ∨ g > 12 := by omega
    have hx : (decide (g ≥ 4) = true ∧ decide (g ≤ 12) = false) ∨ decide (g ≥ 4) = false := by simp; omega
    rcases hx with ⟨h3, h4⟩ | h3
    all_goals rw [h3]
    all_goals (repeat (first | refine CW.seq ?_ | refine CW.region tt_ok rfl ?_ | refine CW.block ?_ | refine CW.skip ?_ | refine SQ.nil ?_ | refine SQ.pures1 tt_ok rfl ?_ | refine SQ.pure1 tt_ok rfl ?_ | refine SQ.new _ _ rfl rfl (fun _ => ?_) | refine SQ.ldA tt_ok rfl rfl (by repeat (first | exact .h | exact .q | apply At.t)) (by rfl) ?_ | refine SQ.stA tt_ok rfl rfl (by repeat (first | apply Up.h | apply Up.t)) (by rfl) (by rfl) (by exact trivial) ?_ | refine CW.cond_tt rfl ?_ | refine CW.cond_ff rfl ?_))
    all_goals try rw [h4]
    all_goals (repeat (first | refine CW.seq ?_ | refine CW.region tt_ok rfl ?_ | refine CW.block ?_ | refine CW.skip ?_ | refine SQ.nil ?_ | refine SQ.pures1 tt_ok rfl ?_ | refine SQ.pure1 tt_ok rfl ?_ | refine SQ.new _ _ rfl rfl (fun _ => ?_) | refine SQ.ldA tt_ok rfl rfl (by repeat (first | exact .h | exact .q | apply At.t)) (by rfl) ?_ | refine SQ.stA tt_ok rfl rfl (by repeat (first | apply Up.h | apply Up.t)) (by rfl) (by rfl) (by exact trivial) ?_ | refine CW.cond_tt rfl ?_ | refine CW.cond_ff rfl ?_))
    all_goals (refine SQ.call rfl rfl (read12 β b q0 c0 (first := first) (es := es) hf0 hf1 g _ 32) [1, 1] rfl ?_; rintro _ _ ⟨rfl, rfl⟩; refine ⟨(by exact trivial), ?_⟩)
    all_goals (repeat (first | refine CW.seq ?_ | refine CW.region tt_ok rfl ?_ | refine CW.block ?_ | refine CW.skip ?_ | refine SQ.nil ?_ | refine SQ.pures1 tt_ok rfl ?_ | refine SQ.pure1 tt_ok rfl ?_ | refine SQ.new _ _ rfl rfl (fun _ => ?_) | refine SQ.ldA tt_ok rfl rfl (by repeat (first | exact .h | exact .q | apply At.t)) (by rfl) ?_ | refine SQ.stA tt_ok rfl rfl (by repeat (first | apply Up.h | apply Up.t)) (by rfl) (by rfl) (by exact trivial) ?_ | refine CW.cond_tt rfl ?_ | refine CW.cond_ff rfl ?_))
    all_goals rw [rdK_odd h2]
    all_goals (repeat (first | refine CW.seq ?_ | refine CW.region tt_ok rfl ?_ | refine CW.block ?_ | refine CW.skip ?_ | refine SQ.nil ?_ | refine SQ.pures1 tt_ok rfl ?_ | refine SQ.pure1 tt_ok rfl ?_ | refine SQ.new _ _ rfl rfl (fun _ => ?_) | refine SQ.ldA tt_ok rfl rfl (by repeat (first | exact .h | exact .q | apply At.t)) (by rfl) ?_ | refine SQ.stA tt_ok rfl rfl (by repeat (first | apply Up.h | apply Up.t)) (by rfl) (by rfl) (by exact trivial) ?_ | refine CW.cond_tt rfl ?_ | refine CW.cond_ff rfl ?_))
    all_goals (refine SQ.call rfl rfl (write13 β b q0 c0 (first := first) (es0 := es) hf0 hf1 g _ 32 v) [0, 0] rfl ?_; rintro _ _ ⟨rfl, rfl⟩; refine ⟨(by exact trivial), ?_⟩)
    all_goals (repeat (first | refine CW.seq ?_ | refine CW.region tt_ok rfl ?_ | refine CW.block ?_ | refine CW.skip ?_ | refine SQ.nil ?_ | refine SQ.pures1 tt_ok rfl ?_ | refine SQ.pure1 tt_ok rfl ?_ | refine SQ.new _ _ rfl rfl (fun _ => ?_) | refine SQ.ldA tt_ok rfl rfl (by repeat (first | exact .h | exact .q | apply At.t)) (by rfl) ?_ | refine SQ.stA tt_ok rfl rfl (by repeat (first | apply Up.h | apply Up.t)) (by rfl) (by rfl) (by exact trivial) ?_ | refine CW.cond_tt rfl ?_ | refine CW.cond_ff rfl ?_))
    all_goals rw [wrK_odd h2]
    all_goals (repeat (first | refine CW.seq ?_ | refine CW.region tt_ok rfl ?_ | refine CW.block ?_ | refine CW.skip ?_ | refine SQ.nil ?_ | refine SQ.pures1 tt_ok rfl ?_ | refine SQ.pure1 tt_ok rfl ?_ | refine SQ.new _ _ rfl rfl (fun _ => ?_) | refine SQ.ldA tt_ok rfl rfl (by repeat (first | exact .h | exact .q | apply At.t)) (by rfl) ?_ | refine SQ.stA tt_ok rfl rfl (by repeat (first | apply Up.h | apply Up.t)) (by rfl) (by rfl) (by exact trivial) ?_ | refine CW.cond_tt rfl ?_ | refine CW.cond_ff rfl ?_))
    all_goals exact CW.ret (fin_ret rfl (Ent.dropAll _) ⟨rfl, rfl⟩)
end Go.Proofs.Ytmaheecbohbilaa.Sl
