import Derived.Test.YtmaheecbohbilaaFu
namespace Go.Proofs.Ytmaheecbohbilaa.Sl
open Go Go.RowKit Go.Proofs
set_option linter.unusedVariables false
set_option linter.unusedSimpArgs false
attribute [local irreducible] CW Tri OW
set_option maxRecDepth 10000
theorem rd_ac {cs : List Value} {off n : Nat} {ts : List Ac} (h : (cs.drop off).take (n * 5) = ts.flatMap acC) {k : Nat} {t : Ac} (hk : ts[k]? = some t) : rdv ti46 cs (off + k * 5) = some (.agg #[.int .i64 t.1, .int .i64 t.2.1, .int .i64 t.2.2.1, .int .u64 t.2.2.2.1, .int .i64 t.2.2.2.2]) :=
  rd_enc (enc := acC) (sz := 5) (fun _ => rfl) rfl rfl h hk
def playV (first : Int) (es : List En) (ts : List Ac) : List En := ts.foldl (actV first) es
theorem playV_len (first : Int) : ∀ (ts : List Ac) (es : List En), (playV first es ts).length = es.length
  | [], es => rfl
  | x :: r, es => by
    show (playV first (actV first es x) r).length = _
    rw [playV_len first r, actV_len]
theorem playV_succ (first : Int) (es : List En) {ts : List Ac} {k : Nat} {t : Ac} (h : ts[k]? = some t) : playV first es (ts.take (k + 1)) = actV first (playV first es (ts.take k)) t := by
  have : ts.take (k + 1) = ts.take k ++ [t] := by rw [List.take_add_one, h]; rfl
  rw [this]; simp [playV]
theorem playV_ok {first : Int} : ∀ {ts : List Ac} {es : List En}, okL es → okL (playV first es ts)
  | [], es, h => h
  | x :: r, es, h => playV_ok (ts := r) (actV_ok h)
theorem playV_texts (first : Int) : ∀ (ts : List Ac) (es : List En), (playV first es ts).map (·.2) = es.map (·.2)
  | [], es => rfl
  | x :: r, es => (playV_texts first r (actV first es x)).trans (actV_texts first es x)
theorem lsV_new (n : Nat) (tx : ByteArray) : lsV (List.replicate n (zeroE.1, tx)) = List.replicate n zeroL := by
  unfold lsV
  rw [List.map_replicate]; rfl
set_option maxHeartbeats 4000000 in
theorem played10 (β : Base) {p : Option Addr} {n c : Nat} {ts : List Ac} {A : Atom} (hr : RdS β p n 5 (ts.flatMap acC) A) (hn : n ≤ 9223372036854775807) (hid : ∀ t ∈ ts, acOk t) {a m : Int} (ha0 : 0 ≤ a) (ha1 : a ≤ 255) (hm0 : 0 ≤ m) (hm1 : m ≤ 255) :
    Tri Try.prog β 10 [.int .u8 a, .int .u8 m, .slice p n c] [A] (fun v L => ∃ b q0 c0 tx, v = .pointer (some ⟨b, 0, none⟩) ∧ L = bkA b q0 c0 (a % 64) (playV (a % 64) (List.replicate (m % 80).toNat (zeroE.1, tx)) ts) ++ [A]) := by
  have htl : ts.length = n := by have := hr.1; rw [flatE_len (sz := 5) (fun _ => rfl)] at this; omega
  refine Tri.intro tt_ok Try.func10 rfl rfl Try.ntmps10 rfl fun F => ?_
  (repeat (first | refine CW.seq ?_ | refine CW.region tt_ok rfl ?_ | refine CW.block ?_ | refine CW.skip ?_ | refine SQ.nil ?_ | refine SQ.pures1 tt_ok rfl ?_ | refine SQ.pure1 tt_ok rfl ?_ | refine SQ.new _ _ rfl rfl (fun _ => ?_) | refine SQ.ldA tt_ok rfl rfl (by repeat (first | exact .h | exact .q | apply At.t)) (by rfl) ?_ | refine SQ.stA tt_ok rfl rfl (by repeat (first | apply Up.h | apply Up.t)) (by rfl) (by rfl) (by exact trivial) ?_ | refine CW.cond_tt rfl ?_ | refine CW.cond_ff rfl ?_))
  (refine SQ.callA rfl rfl (both16 β ha0 ha1 hm0 hm1) (by repeat (first | exact .n | exact Rm.h | apply Tk.c | apply Rm.t)) ?_; rintro _ _ ⟨b, q0, c0, r, q, c1, q2, c2, tx, rfl, rfl⟩; refine ⟨(by exact trivial), ?_⟩)
  (repeat (first | refine CW.seq ?_ | refine CW.region tt_ok rfl ?_ | refine CW.block ?_ | refine CW.skip ?_ | refine SQ.nil ?_ | refine SQ.pures1 tt_ok rfl ?_ | refine SQ.pure1 tt_ok rfl ?_ | refine SQ.new _ _ rfl rfl (fun _ => ?_) | refine SQ.ldA tt_ok rfl rfl (by repeat (first | exact .h | exact .q | apply At.t)) (by rfl) ?_ | refine SQ.stA tt_ok rfl rfl (by repeat (first | apply Up.h | apply Up.t)) (by rfl) (by rfl) (by exact trivial) ?_ | refine CW.cond_tt rfl ?_ | refine CW.cond_ff rfl ?_))
  have hN : (m % 80).toNat ≤ 80 := by omega
  have hls := lsV_new (m % 80).toNat tx
  have hok0 := okL_new (m % 80).toNat tx
  generalize hes : List.replicate (m % 80).toNat ((zeroE.1, tx) : En) = es0 at hls hok0
  have hel : es0.length = (m % 80).toNat := by rw [← hes]; simp
  have hf0 : 0 ≤ a % 64 := by omega
  have hf1 : a % 64 ≤ 16384 := by omega
  generalize a % 64 = first at hf0 hf1 ⊢
  generalize (m % 80).toNat = M at hel hN hes hls ⊢
  refine CW.loop (α := Nat) (fun k => k ≤ n) (fun k => [(9, .int .i64 k), (8, .pointer (some ⟨r, 0, none⟩)), (7, .pointer (some ⟨b, 0, none⟩)), (2, .slice p n c)])
    (fun k => bkA b q0 c0 first (playV first es0 (ts.take k)) ++ rbA r first q c1 (.slice q2 M c2) (lsV (playV first es0 (ts.take k))) ++ [A]) (fun k => n - k) 0 (by omega) ⟨rfl, rfl, rfl, rfl, trivial⟩ ?_ ?_
  · rw [List.take_zero, show playV first es0 [] = es0 from rfl]
    unfold rbA
    rw [hls, List.length_replicate]
    exact (Tk.ent (by repeat (first | exact .n | exact Rm.h | apply Tk.c | apply Rm.t)))
  intro k hk
  (repeat (first | refine CW.seq ?_ | refine CW.region tt_ok rfl ?_ | refine CW.block ?_ | refine CW.skip ?_ | refine SQ.nil ?_ | refine SQ.pures1 tt_ok rfl ?_ | refine SQ.pure1 tt_ok rfl ?_ | refine SQ.new _ _ rfl rfl (fun _ => ?_) | refine SQ.ldA tt_ok rfl rfl (by repeat (first | exact .h | exact .q | apply At.t)) (by rfl) ?_ | refine SQ.stA tt_ok rfl rfl (by repeat (first | apply Up.h | apply Up.t)) (by rfl) (by rfl) (by exact trivial) ?_ | refine CW.cond_tt rfl ?_ | refine CW.cond_ff rfl ?_))
  generalize e1 : decide ((k : Int) < (n : Int)) = cc
  cases cc
  · have : k = n := by simp at e1; omega
    subst this
    (repeat (first | refine CW.seq ?_ | refine CW.region tt_ok rfl ?_ | refine CW.block ?_ | refine CW.skip ?_ | refine SQ.nil ?_ | refine SQ.pures1 tt_ok rfl ?_ | refine SQ.pure1 tt_ok rfl ?_ | refine SQ.new _ _ rfl rfl (fun _ => ?_) | refine SQ.ldA tt_ok rfl rfl (by repeat (first | exact .h | exact .q | apply At.t)) (by rfl) ?_ | refine SQ.stA tt_ok rfl rfl (by repeat (first | apply Up.h | apply Up.t)) (by rfl) (by rfl) (by exact trivial) ?_ | refine CW.cond_tt rfl ?_ | refine CW.cond_ff rfl ?_))
    refine CW.exit ?_
    (repeat (first | refine CW.seq ?_ | refine CW.region tt_ok rfl ?_ | refine CW.block ?_ | refine CW.skip ?_ | refine SQ.nil ?_ | refine SQ.pures1 tt_ok rfl ?_ | refine SQ.pure1 tt_ok rfl ?_ | refine SQ.new _ _ rfl rfl (fun _ => ?_) | refine SQ.ldA tt_ok rfl rfl (by repeat (first | exact .h | exact .q | apply At.t)) (by rfl) ?_ | refine SQ.stA tt_ok rfl rfl (by repeat (first | apply Up.h | apply Up.t)) (by rfl) (by rfl) (by exact trivial) ?_ | refine CW.cond_tt rfl ?_ | refine CW.cond_ff rfl ?_))
    rw [List.take_of_length_le (by omega)]
    refine CW.ret (fin_ret rfl (A := bkA b q0 c0 first (playV first es0 ts) ++ [A]) (Tk.ent (by repeat (first | exact .n | exact Rm.h | apply Tk.c | apply Rm.t))) ?_)
    exact ⟨b, q0, c0, tx, rfl, by rw [hes]⟩
  · have hlt : k < n := by simp at e1; omega
    have hw : IntKind.i64.wrap ((k : Int) + 1) = ((k + 1 : Nat) : Int) := by rw [wrap_i64]; split <;> omega
    obtain ⟨t, ht⟩ : ∃ t, ts[k]? = some t := ⟨_, List.getElem?_eq_getElem (by omega)⟩
    obtain ⟨bs, os, qs, cs, rfl, rfl, hcs⟩ := hr.2.resolve_left (by omega)
    (repeat (first | refine CW.seq ?_ | refine CW.region tt_ok rfl ?_ | refine CW.block ?_ | refine CW.skip ?_ | refine SQ.nil ?_ | refine SQ.pures1 tt_ok rfl ?_ | refine SQ.pure1 tt_ok rfl ?_ | refine SQ.new _ _ rfl rfl (fun _ => ?_) | refine SQ.ldA tt_ok rfl rfl (by repeat (first | exact .h | exact .q | apply At.t)) (by rfl) ?_ | refine SQ.stA tt_ok rfl rfl (by repeat (first | apply Up.h | apply Up.t)) (by rfl) (by rfl) (by exact trivial) ?_ | refine CW.cond_tt rfl ?_ | refine CW.cond_ff rfl ?_))
    refine SQ.idx tt_ok rfl rfl k rfl hlt (o' := os + k * 5) rfl ?_
    refine SQ.loadq tt_ok rfl rfl 4 rfl (rd_ac hcs ht) ?_
    (repeat (first | refine CW.seq ?_ | refine CW.region tt_ok rfl ?_ | refine CW.block ?_ | refine CW.skip ?_ | refine SQ.nil ?_ | refine SQ.pures1 tt_ok rfl ?_ | refine SQ.pure1 tt_ok rfl ?_ | refine SQ.new _ _ rfl rfl (fun _ => ?_) | refine SQ.ldA tt_ok rfl rfl (by repeat (first | exact .h | exact .q | apply At.t)) (by rfl) ?_ | refine SQ.stA tt_ok rfl rfl (by repeat (first | apply Up.h | apply Up.t)) (by rfl) (by rfl) (by exact trivial) ?_ | refine CW.cond_tt rfl ?_ | refine CW.cond_ff rfl ?_))
    (refine SQ.callA rfl rfl (does17 β b r q0 c0 (playV first es0 (ts.take k)) q c1 (.slice q2 M c2) hf0 hf1 (by rw [playV_len]; omega) rfl (playV_ok hok0) t (hid t (List.mem_of_getElem? ht))) (by repeat (first | exact .n | exact Rm.h | apply Tk.c | apply Rm.t)) ?_; rintro _ _ ⟨rfl, rfl⟩; refine ⟨(by exact trivial), ?_⟩)
    (repeat (first | refine CW.seq ?_ | refine CW.region tt_ok rfl ?_ | refine CW.block ?_ | refine CW.skip ?_ | refine SQ.nil ?_ | refine SQ.pures1 tt_ok rfl ?_ | refine SQ.pure1 tt_ok rfl ?_ | refine SQ.new _ _ rfl rfl (fun _ => ?_) | refine SQ.ldA tt_ok rfl rfl (by repeat (first | exact .h | exact .q | apply At.t)) (by rfl) ?_ | refine SQ.stA tt_ok rfl rfl (by repeat (first | apply Up.h | apply Up.t)) (by rfl) (by rfl) (by exact trivial) ?_ | refine CW.cond_tt rfl ?_ | refine CW.cond_ff rfl ?_))
    refine ⟨k + 1, by omega, by omega, ⟨by rw [← hw]; rfl, rfl, rfl, rfl, trivial⟩, ?_⟩
    rw [playV_succ first es0 ht]
    exact (Tk.ent (by repeat (first | exact .n | exact Rm.h | apply Tk.c | apply Rm.t)))
end Go.Proofs.Ytmaheecbohbilaa.Sl
