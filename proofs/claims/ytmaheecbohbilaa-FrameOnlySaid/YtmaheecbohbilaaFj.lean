import Derived.Test.YtmaheecbohbilaaFi
namespace Go.Proofs.Ytmaheecbohbilaa.Sl
open Go Go.RowKit Go.Proofs
set_option linter.unusedVariables false
set_option linter.unusedSimpArgs false
attribute [local irreducible] CW Tri OW
set_option maxRecDepth 10000
theorem made_flat_of {α : Type} {enc : α → List Value} {a : α} (z : Array Value) (hz : enc a = z.toList) (hp : 0 < z.size) : ∀ n, (madeCells z (n * z.size)).toList = (List.replicate n a).flatMap enc
  | 0 => by simp [madeCells]
  | n + 1 => by
    have ih := made_flat_of z hz hp n
    rw [List.replicate_succ', List.flatMap_append, ← ih]
    simp only [madeCells, Array.toList_map, Array.toList_range, List.flatMap_cons, List.flatMap_nil, List.append_nil]
    rw [Nat.add_mul, Nat.one_mul, List.range_add, List.map_append, hz]
    congr 1
    apply List.ext_getElem?
    intro i
    rw [List.map_map]
    by_cases hi : i < z.size
    · simp [hi, Nat.mod_eq_of_lt hi, getElem!_pos]
    · simp [hi]
theorem made_flat (n : Nat) : (madeCells ti40.zero.cells (n * ti40.size)).toList = (List.replicate n zeroE).flatMap enC :=
  made_flat_of (enc := enC) (a := zeroE) ti40.zero.cells rfl (by decide) n
/-- A new bank's interrupts, some of them with their text. -/
def newK (tx : ByteArray) (n k : Nat) : List En := List.replicate k (zeroE.1, tx) ++ List.replicate (n - k) zeroE
theorem newK_len {tx : ByteArray} {n k : Nat} (h : k ≤ n) : (newK tx n k).length = n := by simp [newK]; omega
theorem newK_at {tx : ByteArray} {n k : Nat} (h : k < n) : (newK tx n k)[k]? = some zeroE := by
  obtain ⟨m, hm⟩ : ∃ m, n - k = m + 1 := ⟨n - k - 1, by omega⟩
  unfold newK
  rw [List.getElem?_append_right (by simp), List.length_replicate, Nat.sub_self, hm]
  rfl
theorem newK_set {tx : ByteArray} {n k : Nat} (h : k < n) : (newK tx n k).set k (zeroE.1, tx) = newK tx n (k + 1) := by
  unfold newK
  obtain ⟨m, hm⟩ : ∃ m, n - k = m + 1 := ⟨n - k - 1, by omega⟩
  rw [hm, show n - (k + 1) = m from by omega, List.set_append_right _ _ (by simp), List.length_replicate, Nat.sub_self, List.replicate_succ (n := m), List.set_cons_zero, List.replicate_succ' (n := k), List.append_assoc]
  rfl
theorem wr_tx {tx : ByteArray} {es : List En} {k : Nat} {e : En} (h : es[k]? = some e) : wrv ti9 (es.flatMap enC) (bif Nat.beq (0 + k * 8) 0 then 7 else 0 + k * 8 + 7) (.string tx) = some ((es.set k (e.1, tx)).flatMap enC) :=
  wr_enc (enc := enC) (sz := 8) (fun _ => rfl) h 7 (i := ti9) (by decide) rfl rfl (by rw [off_add]; omega)
set_option maxHeartbeats 2000000 in
theorem new24 (β : Base) {first n : Int} (h0 : 0 ≤ first) (h1 : 0 ≤ n) (h2 : first + n ≤ 16384) (tx : ByteArray) :
    Tri Try.prog β 24 [.int .i64 first, .int .i64 n, .string tx] [] (fun v L => ∃ b q0 c0, v = .tuple #[.pointer (some ⟨b, 0, none⟩), .int .i64 0] ∧ L = bkA b q0 c0 first (List.replicate n.toNat (zeroE.1, tx))) := by
  obtain ⟨m, rfl⟩ : ∃ m : Nat, n = (m : Int) := ⟨n.toNat, by omega⟩
  have hw0 : IntKind.i64.wrap (16384 - first) = 16384 - first := by rw [wrap_i64]; split <;> omega
  refine Tri.intro tt_ok Try.func24 rfl rfl Try.ntmps24 rfl fun F => ?_
  (repeat (first | refine CW.seq ?_ | refine CW.region tt_ok rfl ?_ | refine CW.block ?_ | refine CW.skip ?_ | refine SQ.nil ?_ | refine SQ.pures1 tt_ok rfl ?_ | refine SQ.pure1 tt_ok rfl ?_ | refine SQ.new _ _ rfl rfl (fun _ => ?_) | refine SQ.ldA tt_ok rfl rfl (by repeat (first | exact .h | exact .q | apply At.t)) (by rfl) ?_ | refine SQ.stA tt_ok rfl rfl (by repeat (first | apply Up.h | apply Up.t)) (by rfl) (by rfl) (by exact trivial) ?_ | refine CW.cond_tt rfl ?_ | refine CW.cond_ff rfl ?_))
  rw [decide_eq_false (show ¬ first < 0 by omega)]
  (repeat (first | refine CW.seq ?_ | refine CW.region tt_ok rfl ?_ | refine CW.block ?_ | refine CW.skip ?_ | refine SQ.nil ?_ | refine SQ.pures1 tt_ok rfl ?_ | refine SQ.pure1 tt_ok rfl ?_ | refine SQ.new _ _ rfl rfl (fun _ => ?_) | refine SQ.ldA tt_ok rfl rfl (by repeat (first | exact .h | exact .q | apply At.t)) (by rfl) ?_ | refine SQ.stA tt_ok rfl rfl (by repeat (first | apply Up.h | apply Up.t)) (by rfl) (by rfl) (by exact trivial) ?_ | refine CW.cond_tt rfl ?_ | refine CW.cond_ff rfl ?_))
  rw [decide_eq_false (show ¬ (m : Int) < 0 by omega)]
  (repeat (first | refine CW.seq ?_ | refine CW.region tt_ok rfl ?_ | refine CW.block ?_ | refine CW.skip ?_ | refine SQ.nil ?_ | refine SQ.pures1 tt_ok rfl ?_ | refine SQ.pure1 tt_ok rfl ?_ | refine SQ.new _ _ rfl rfl (fun _ => ?_) | refine SQ.ldA tt_ok rfl rfl (by repeat (first | exact .h | exact .q | apply At.t)) (by rfl) ?_ | refine SQ.stA tt_ok rfl rfl (by repeat (first | apply Up.h | apply Up.t)) (by rfl) (by rfl) (by exact trivial) ?_ | refine CW.cond_tt rfl ?_ | refine CW.cond_ff rfl ?_))
  rw [decide_eq_false (show ¬ first > 16384 by omega)]
  (repeat (first | refine CW.seq ?_ | refine CW.region tt_ok rfl ?_ | refine CW.block ?_ | refine CW.skip ?_ | refine SQ.nil ?_ | refine SQ.pures1 tt_ok rfl ?_ | refine SQ.pure1 tt_ok rfl ?_ | refine SQ.new _ _ rfl rfl (fun _ => ?_) | refine SQ.ldA tt_ok rfl rfl (by repeat (first | exact .h | exact .q | apply At.t)) (by rfl) ?_ | refine SQ.stA tt_ok rfl rfl (by repeat (first | apply Up.h | apply Up.t)) (by rfl) (by rfl) (by exact trivial) ?_ | refine CW.cond_tt rfl ?_ | refine CW.cond_ff rfl ?_))
  rw [hw0, decide_eq_false (show ¬ (m : Int) > 16384 - first by omega)]
  (repeat (first | refine CW.seq ?_ | refine CW.region tt_ok rfl ?_ | refine CW.block ?_ | refine CW.skip ?_ | refine SQ.nil ?_ | refine SQ.pures1 tt_ok rfl ?_ | refine SQ.pure1 tt_ok rfl ?_ | refine SQ.new _ _ rfl rfl (fun _ => ?_) | refine SQ.ldA tt_ok rfl rfl (by repeat (first | exact .h | exact .q | apply At.t)) (by rfl) ?_ | refine SQ.stA tt_ok rfl rfl (by repeat (first | apply Up.h | apply Up.t)) (by rfl) (by rfl) (by exact trivial) ?_ | refine CW.cond_tt rfl ?_ | refine CW.cond_ff rfl ?_))
  refine SQ.make tt_ok rfl rfl m rfl rfl (show m * 8 ≤ 16777216 by omega) (show 40 * m ≤ 281474976710656 by omega) (by omega) (fun eb => ⟨(by exact trivial), ?_⟩)
  rw [made_flat]
  (repeat (first | refine CW.seq ?_ | refine CW.region tt_ok rfl ?_ | refine CW.block ?_ | refine CW.skip ?_ | refine SQ.nil ?_ | refine SQ.pures1 tt_ok rfl ?_ | refine SQ.pure1 tt_ok rfl ?_ | refine SQ.new _ _ rfl rfl (fun _ => ?_) | refine SQ.ldA tt_ok rfl rfl (by repeat (first | exact .h | exact .q | apply At.t)) (by rfl) ?_ | refine SQ.stA tt_ok rfl rfl (by repeat (first | apply Up.h | apply Up.t)) (by rfl) (by rfl) (by exact trivial) ?_ | refine CW.cond_tt rfl ?_ | refine CW.cond_ff rfl ?_))
  rename_i b
  refine CW.loop (α := Nat) (fun k => k ≤ m) (fun k => [(36, .int .i64 k), (35, .int .i64 m), (8, .pointer (some ⟨b, 0, none⟩)), (2, .string tx)])
    (fun k => [pt b [.int .i64 first, .slice (some ⟨eb, 0, none⟩) m m], pt eb ((newK tx m k).flatMap enC)]) (fun k => m - k) 0 (by omega) ⟨rfl, rfl, rfl, rfl, trivial⟩ (by rw [show newK tx m 0 = List.replicate m zeroE by simp [newK]]; exact Ent.refl _) ?_
  intro k hk
  (repeat (first | refine CW.seq ?_ | refine CW.region tt_ok rfl ?_ | refine CW.block ?_ | refine CW.skip ?_ | refine SQ.nil ?_ | refine SQ.pures1 tt_ok rfl ?_ | refine SQ.pure1 tt_ok rfl ?_ | refine SQ.new _ _ rfl rfl (fun _ => ?_) | refine SQ.ldA tt_ok rfl rfl (by repeat (first | exact .h | exact .q | apply At.t)) (by rfl) ?_ | refine SQ.stA tt_ok rfl rfl (by repeat (first | apply Up.h | apply Up.t)) (by rfl) (by rfl) (by exact trivial) ?_ | refine CW.cond_tt rfl ?_ | refine CW.cond_ff rfl ?_))
  generalize e1 : decide ((k : Int) < (m : Int)) = cc
  cases cc
  · have : k = m := by simp at e1; omega
    subst this
    (repeat (first | refine CW.seq ?_ | refine CW.region tt_ok rfl ?_ | refine CW.block ?_ | refine CW.skip ?_ | refine SQ.nil ?_ | refine SQ.pures1 tt_ok rfl ?_ | refine SQ.pure1 tt_ok rfl ?_ | refine SQ.new _ _ rfl rfl (fun _ => ?_) | refine SQ.ldA tt_ok rfl rfl (by repeat (first | exact .h | exact .q | apply At.t)) (by rfl) ?_ | refine SQ.stA tt_ok rfl rfl (by repeat (first | apply Up.h | apply Up.t)) (by rfl) (by rfl) (by exact trivial) ?_ | refine CW.cond_tt rfl ?_ | refine CW.cond_ff rfl ?_))
    refine CW.exit ?_
    (repeat (first | refine CW.seq ?_ | refine CW.region tt_ok rfl ?_ | refine CW.block ?_ | refine CW.skip ?_ | refine SQ.nil ?_ | refine SQ.pures1 tt_ok rfl ?_ | refine SQ.pure1 tt_ok rfl ?_ | refine SQ.new _ _ rfl rfl (fun _ => ?_) | refine SQ.ldA tt_ok rfl rfl (by repeat (first | exact .h | exact .q | apply At.t)) (by rfl) ?_ | refine SQ.stA tt_ok rfl rfl (by repeat (first | apply Up.h | apply Up.t)) (by rfl) (by rfl) (by exact trivial) ?_ | refine CW.cond_tt rfl ?_ | refine CW.cond_ff rfl ?_))
    refine CW.ret (fin_ret rfl (Ent.cons _ (row_close0 (n := k) (cs := (newK tx k k).flatMap enC))) ?_)
    refine ⟨b, some ⟨eb, 0, none⟩, k, rfl, ?_⟩
    simp [bkA, newK]
  · have hlt : k < m := by simp at e1; omega
    have hw : IntKind.i64.wrap ((k : Int) + 1) = ((k + 1 : Nat) : Int) := by rw [wrap_i64]; split <;> omega
    (repeat (first | refine CW.seq ?_ | refine CW.region tt_ok rfl ?_ | refine CW.block ?_ | refine CW.skip ?_ | refine SQ.nil ?_ | refine SQ.pures1 tt_ok rfl ?_ | refine SQ.pure1 tt_ok rfl ?_ | refine SQ.new _ _ rfl rfl (fun _ => ?_) | refine SQ.ldA tt_ok rfl rfl (by repeat (first | exact .h | exact .q | apply At.t)) (by rfl) ?_ | refine SQ.stA tt_ok rfl rfl (by repeat (first | apply Up.h | apply Up.t)) (by rfl) (by rfl) (by exact trivial) ?_ | refine CW.cond_tt rfl ?_ | refine CW.cond_ff rfl ?_))
    refine SQ.idx tt_ok rfl rfl k rfl hlt (o' := 0 + k * 8) rfl ?_
    (repeat (first | refine CW.seq ?_ | refine CW.region tt_ok rfl ?_ | refine CW.block ?_ | refine CW.skip ?_ | refine SQ.nil ?_ | refine SQ.pures1 tt_ok rfl ?_ | refine SQ.pure1 tt_ok rfl ?_ | refine SQ.new _ _ rfl rfl (fun _ => ?_) | refine SQ.ldA tt_ok rfl rfl (by repeat (first | exact .h | exact .q | apply At.t)) (by rfl) ?_ | refine SQ.stA tt_ok rfl rfl (by repeat (first | apply Up.h | apply Up.t)) (by rfl) (by rfl) (by exact trivial) ?_ | refine CW.cond_tt rfl ?_ | refine CW.cond_ff rfl ?_))
    refine SQ.store tt_ok rfl rfl 1 rfl rfl (wr_tx (newK_at hlt)) rfl (by exact trivial) ?_
    rw [newK_set hlt]
    (repeat (first | refine CW.seq ?_ | refine CW.region tt_ok rfl ?_ | refine CW.block ?_ | refine CW.skip ?_ | refine SQ.nil ?_ | refine SQ.pures1 tt_ok rfl ?_ | refine SQ.pure1 tt_ok rfl ?_ | refine SQ.new _ _ rfl rfl (fun _ => ?_) | refine SQ.ldA tt_ok rfl rfl (by repeat (first | exact .h | exact .q | apply At.t)) (by rfl) ?_ | refine SQ.stA tt_ok rfl rfl (by repeat (first | apply Up.h | apply Up.t)) (by rfl) (by rfl) (by exact trivial) ?_ | refine CW.cond_tt rfl ?_ | refine CW.cond_ff rfl ?_))
    exact ⟨k + 1, by omega, by omega, ⟨by rw [← hw]; rfl, rfl, rfl, rfl, trivial⟩, Ent.refl _⟩
end Go.Proofs.Ytmaheecbohbilaa.Sl
