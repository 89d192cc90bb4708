import Derived.Test.YtmaheecbohbilaaGj
namespace Go.Proofs.Ytmaheecbohbilaa.Sl
open Go Go.RowKit Go.Proofs
set_option linter.unusedVariables false
set_option linter.unusedSimpArgs false
attribute [local irreducible] CW Tri OW
set_option maxRecDepth 10000
/-- A bank in which all but some interrupts are as new. -/
def onlyL (ids : List Int) : Int → List En → List En
  | _, [] => []
  | first, e :: r => (if first ∈ ids then e else (zeroL, e.2)) :: onlyL ids (first + 1) r
theorem onlyL_len (ids : List Int) : ∀ (first : Int) (es : List En), (onlyL ids first es).length = es.length
  | _, [] => rfl
  | first, e :: r => by simp [onlyL, onlyL_len ids (first + 1) r]
theorem onlyL_at (ids : List Int) : ∀ {first : Int} {es : List En} {k : Nat} {e : En}, es[k]? = some e → (onlyL ids first es)[k]? = some (if first + (k : Int) ∈ ids then e else (zeroL, e.2))
  | _, [], _, _, h => by simp at h
  | first, a :: r, 0, e, h => by simp at h; subst h; simp [onlyL]
  | first, a :: r, k + 1, e, h => by
    have := onlyL_at ids (first := first + 1) (es := r) (k := k) (e := e) (by simpa using h)
    simp only [onlyL, List.getElem?_cons_succ]
    rw [this, show first + 1 + (k : Int) = first + ((k + 1 : Nat) : Int) by omega]
/-- The same, up to the k-th. -/
def onlyK (ids : List Int) (first : Int) (es : List En) (k : Nat) : List En := (onlyL ids first es).take k ++ es.drop k
theorem onlyK_len (ids : List Int) (first : Int) (es : List En) (k : Nat) : (onlyK ids first es k).length = es.length := by
  simp [onlyK, onlyL_len]; omega
theorem onlyK_at {ids : List Int} {first : Int} {es : List En} {k : Nat} {e : En} (h : es[k]? = some e) : (onlyK ids first es k)[k]? = some e := by
  have hk := (List.getElem?_eq_some_iff.1 h).1
  unfold onlyK
  have hl : ((onlyL ids first es).take k).length = k := by rw [List.length_take, onlyL_len]; omega
  rw [List.getElem?_append_right (by omega), hl, Nat.sub_self, List.getElem?_drop]; simpa using h
theorem onlyK_succ {ids : List Int} {first : Int} {es : List En} {k : Nat} {e : En} (h : es[k]? = some e) : onlyK ids first es (k + 1) = (onlyK ids first es k).set k (if first + (k : Int) ∈ ids then e else (zeroL, e.2)) := by
  have hk := (List.getElem?_eq_some_iff.1 h).1
  have ho := onlyL_at ids (first := first) h
  have hl : ((onlyL ids first es).take k).length = k := by rw [List.length_take, onlyL_len]; omega
  unfold onlyK
  rw [List.take_add_one, ho, List.set_append_right _ _ (by omega), hl, Nat.sub_self, List.drop_eq_getElem_cons hk, List.set_cons_zero]
  simp
theorem realV0 : realV 0 = 0 := rfl
theorem put_zero {first : Int} {es : List En} {k : Nat} {e : En} (h : es[k]? = some e) (tx : ByteArray) : (putV first es (first + k) (zeroL, tx)).1 = es.set k (zeroL, tx) := by
  have h2 : atE first es (first + k) = some e := atE_iff.2 ⟨k, rfl, h⟩
  have h3 : (first + (k : Int) - first).toNat = k := by omega
  simp [putV, h2, h3, zeroL, realV0]
set_option maxHeartbeats 4000000 in
theorem only20 (β : Base) (b : Nat) (q0 : Option Addr) (c0 : Nat) {first : Int} (es : List En) {p : Option Addr} {n c : Nat} {ids : List Int} {A : Atom} (h : RdS β p n 1 (ids.flatMap i1C) A) (hnn : n ≤ 9223372036854775807) (hf0 : 0 ≤ first) (hf1 : first ≤ 16384) (hn : es.length ≤ 16384) :
    Tri Try.prog β 20 [.pointer (some ⟨b, 0, none⟩), .slice p n c] (bkA b q0 c0 first es ++ [A]) (fun v L => ∃ b2 q2 c2, v = .pointer (some ⟨b2, 0, none⟩) ∧ L = bkA b2 q2 c2 first (onlyL ids first es) ++ (bkA b q0 c0 first es ++ [A])) := by
  refine Tri.intro tt_ok Try.func20 rfl rfl Try.ntmps20 rfl fun F => ?_
  (repeat (first | refine CW.seq ?_ | refine CW.region tt_ok rfl ?_ | refine CW.block ?_ | refine CW.skip ?_ | refine SQ.nil ?_ | refine SQ.pures1 tt_ok rfl ?_ | refine SQ.pure1 tt_ok rfl ?_ | refine SQ.new _ _ rfl rfl (fun _ => ?_) | refine SQ.ldA tt_ok rfl rfl (by repeat (first | exact .h | exact .q | apply At.t)) (by rfl) ?_ | refine SQ.stA tt_ok rfl rfl (by repeat (first | apply Up.h | apply Up.t)) (by rfl) (by rfl) (by exact trivial) ?_ | refine CW.cond_tt rfl ?_ | refine CW.cond_ff rfl ?_))
  rename_i b3
  (refine SQ.callA rfl rfl (copy40 β b q0 c0 first es hn) (by repeat (first | exact .n | exact Rm.h | apply Tk.c | apply Rm.t)) ?_; rintro _ _ ⟨b2, q2, c2, rfl, rfl⟩; refine ⟨(by exact trivial), ?_⟩)
  (repeat (first | refine CW.seq ?_ | refine CW.region tt_ok rfl ?_ | refine CW.block ?_ | refine CW.skip ?_ | refine SQ.nil ?_ | refine SQ.pures1 tt_ok rfl ?_ | refine SQ.pure1 tt_ok rfl ?_ | refine SQ.new _ _ rfl rfl (fun _ => ?_) | refine SQ.ldA tt_ok rfl rfl (by repeat (first | exact .h | exact .q | apply At.t)) (by rfl) ?_ | refine SQ.stA tt_ok rfl rfl (by repeat (first | apply Up.h | apply Up.t)) (by rfl) (by rfl) (by exact trivial) ?_ | refine CW.cond_tt rfl ?_ | refine CW.cond_ff rfl ?_))
  rename_i b5
  (refine SQ.callA rfl rfl (all21 β b q0 c0 first es hn) (by repeat (first | exact .n | exact Rm.h | apply Tk.c | apply Rm.t)) ?_; rintro _ _ ⟨b1, b33, q1, c1, rfl, rfl⟩; refine ⟨(by exact trivial), ?_⟩)
  refine SQ.ent _ (Rm.to (A := rowA q1 es.length (es.flatMap enC)) (by repeat (first | exact Rm.h | apply Rm.t)) (row_rd β (sz := 8) (flatE_len (sz := 8) (fun _ => rfl) es))) ?_
  refine SQ.open_ fun B => ?_
  refine SQ.pure_ fun hB => ?_
  (repeat (first | refine CW.seq ?_ | refine CW.region tt_ok rfl ?_ | refine CW.block ?_ | refine CW.skip ?_ | refine SQ.nil ?_ | refine SQ.pures1 tt_ok rfl ?_ | refine SQ.pure1 tt_ok rfl ?_ | refine SQ.new _ _ rfl rfl (fun _ => ?_) | refine SQ.ldA tt_ok rfl rfl (by repeat (first | exact .h | exact .q | apply At.t)) (by rfl) ?_ | refine SQ.stA tt_ok rfl rfl (by repeat (first | apply Up.h | apply Up.t)) (by rfl) (by rfl) (by exact trivial) ?_ | refine CW.cond_tt rfl ?_ | refine CW.cond_ff rfl ?_))
  refine CW.ent (L' := [pt b33 [.slice q1 es.length c1], pt b1 [.pointer (some ⟨b, 0, none⟩)], pt b [.int .i64 first, .slice q0 es.length c0], B, pt b5 [.pointer (some ⟨b2, 0, none⟩)], pt b3 [.slice p n c], rowA q0 es.length (es.flatMap enC), pt b2 [.int .i64 first, .slice q2 es.length c2], rowA q2 es.length (es.flatMap enC), A]) (Tk.ent (by repeat (first | exact .n | exact Rm.h | apply Tk.c | apply Rm.t))) ?_
  refine CW.rangeFunc rfl (iter43 β b b1 b33 hB hf0 hf1 hn rfl) [0, 0, 0, 0] rfl
    (fun pre => [pt b5 [.pointer (some ⟨b2, 0, none⟩)], pt b3 [.slice p n c], rowA q0 es.length (es.flatMap enC), pt b2 [.int .i64 first, .slice q2 (onlyK ids first es pre.length).length c2], rowA q2 (onlyK ids first es pre.length).length ((onlyK ids first es pre.length).flatMap enC), A])
    (fun _ _ => False) ?_ (fun _ => rfl) (by decide) ?_ ?_ (fun _ _ h => h.elim)
  · rw [onlyK_len]
    exact Ent.refl _
  · intro pre x hpre l fm rec1
    obtain ⟨e, he, rfl⟩ := allV_pre hpre
    have hlt : pre.length < es.length := (List.getElem?_eq_some_iff.1 he).1
    have hK := onlyK_at (ids := ids) (first := first) he
    have hS := onlyK_succ (ids := ids) (first := first) he
    have hP := put_zero (first := first) hK e.2
    have hl1 : (pre ++ [(first + (pre.length : Int), e)]).length = pre.length + 1 := by simp
    have hlk := onlyK_len ids first es pre.length
    have hlk2 := onlyK_len ids first es (pre.length + 1)
    rw [hl1]
    generalize onlyK ids first es (pre.length + 1) = k2 at hS hlk2 ⊢
    generalize onlyK ids first es pre.length = k1 at hK hP hlk hS ⊢
    (repeat (first | refine CW.seq ?_ | refine CW.region tt_ok rfl ?_ | refine CW.block ?_ | refine CW.skip ?_ | refine SQ.nil ?_ | refine SQ.pures1 tt_ok rfl ?_ | refine SQ.pure1 tt_ok rfl ?_ | refine SQ.new _ _ rfl rfl (fun _ => ?_) | refine SQ.ldA tt_ok rfl rfl (by repeat (first | exact .h | exact .q | apply At.t)) (by rfl) ?_ | refine SQ.stA tt_ok rfl rfl (by repeat (first | apply Up.h | apply Up.t)) (by rfl) (by rfl) (by exact trivial) ?_ | refine CW.cond_tt rfl ?_ | refine CW.cond_ff rfl ?_))
    intro fm2 rec2
    (repeat (first | refine CW.seq ?_ | refine CW.region tt_ok rfl ?_ | refine CW.block ?_ | refine CW.skip ?_ | refine SQ.nil ?_ | refine SQ.pures1 tt_ok rfl ?_ | refine SQ.pure1 tt_ok rfl ?_ | refine SQ.new _ _ rfl rfl (fun _ => ?_) | refine SQ.ldA tt_ok rfl rfl (by repeat (first | exact .h | exact .q | apply At.t)) (by rfl) ?_ | refine SQ.stA tt_ok rfl rfl (by repeat (first | apply Up.h | apply Up.t)) (by rfl) (by rfl) (by exact trivial) ?_ | refine CW.cond_tt rfl ?_ | refine CW.cond_ff rfl ?_))
    (refine SQ.callA rfl rfl (contains41 β h hnn (first + pre.length)) (by repeat (first | exact .n | exact Rm.h | apply Tk.c | apply Rm.t)) ?_; rintro _ _ ⟨rfl, rfl⟩; refine ⟨(by exact trivial), ?_⟩)
    (repeat (first | refine CW.seq ?_ | refine CW.region tt_ok rfl ?_ | refine CW.block ?_ | refine CW.skip ?_ | refine SQ.nil ?_ | refine SQ.pures1 tt_ok rfl ?_ | refine SQ.pure1 tt_ok rfl ?_ | refine SQ.new _ _ rfl rfl (fun _ => ?_) | refine SQ.ldA tt_ok rfl rfl (by repeat (first | exact .h | exact .q | apply At.t)) (by rfl) ?_ | refine SQ.stA tt_ok rfl rfl (by repeat (first | apply Up.h | apply Up.t)) (by rfl) (by rfl) (by exact trivial) ?_ | refine CW.cond_tt rfl ?_ | refine CW.cond_ff rfl ?_))
    by_cases hin : first + (pre.length : Int) ∈ ids
    · rw [if_pos hin, set_same hK] at hS
      rw [decide_eq_true hin]
      (repeat (first | refine CW.seq ?_ | refine CW.region tt_ok rfl ?_ | refine CW.block ?_ | refine CW.skip ?_ | refine SQ.nil ?_ | refine SQ.pures1 tt_ok rfl ?_ | refine SQ.pure1 tt_ok rfl ?_ | refine SQ.new _ _ rfl rfl (fun _ => ?_) | refine SQ.ldA tt_ok rfl rfl (by repeat (first | exact .h | exact .q | apply At.t)) (by rfl) ?_ | refine SQ.stA tt_ok rfl rfl (by repeat (first | apply Up.h | apply Up.t)) (by rfl) (by rfl) (by exact trivial) ?_ | refine CW.cond_tt rfl ?_ | refine CW.cond_ff rfl ?_))
      rw [hS]
      exact (Tk.ent (by repeat (first | exact .n | exact Rm.h | apply Tk.c | apply Rm.t)))
    · rw [if_neg hin] at hS
      rw [decide_eq_false hin]
      (repeat (first | refine CW.seq ?_ | refine CW.region tt_ok rfl ?_ | refine CW.block ?_ | refine CW.skip ?_ | refine SQ.nil ?_ | refine SQ.pures1 tt_ok rfl ?_ | refine SQ.pure1 tt_ok rfl ?_ | refine SQ.new _ _ rfl rfl (fun _ => ?_) | refine SQ.ldA tt_ok rfl rfl (by repeat (first | exact .h | exact .q | apply At.t)) (by rfl) ?_ | refine SQ.stA tt_ok rfl rfl (by repeat (first | apply Up.h | apply Up.t)) (by rfl) (by rfl) (by exact trivial) ?_ | refine CW.cond_tt rfl ?_ | refine CW.cond_ff rfl ?_))
      (refine SQ.callA rfl rfl (put30' β b2 q2 c2 (es := k1) (first := first) (zeroL, e.2) hf0 hf1 (by omega)) (by repeat (first | exact .n | exact Rm.h | apply Tk.c | apply Rm.t)) ?_; rintro _ _ ⟨u, rfl, rfl⟩; refine ⟨(by exact trivial), ?_⟩)
      (repeat (first | refine CW.seq ?_ | refine CW.region tt_ok rfl ?_ | refine CW.block ?_ | refine CW.skip ?_ | refine SQ.nil ?_ | refine SQ.pures1 tt_ok rfl ?_ | refine SQ.pure1 tt_ok rfl ?_ | refine SQ.new _ _ rfl rfl (fun _ => ?_) | refine SQ.ldA tt_ok rfl rfl (by repeat (first | exact .h | exact .q | apply At.t)) (by rfl) ?_ | refine SQ.stA tt_ok rfl rfl (by repeat (first | apply Up.h | apply Up.t)) (by rfl) (by rfl) (by exact trivial) ?_ | refine CW.cond_tt rfl ?_ | refine CW.cond_ff rfl ?_))
      rw [hlk2, hS, hP, List.length_set, hlk]
      exact (Tk.ent (by repeat (first | exact .n | exact Rm.h | apply Tk.c | apply Rm.t)))
  · (repeat (first | refine CW.seq ?_ | refine CW.region tt_ok rfl ?_ | refine CW.block ?_ | refine CW.skip ?_ | refine SQ.nil ?_ | refine SQ.pures1 tt_ok rfl ?_ | refine SQ.pure1 tt_ok rfl ?_ | refine SQ.new _ _ rfl rfl (fun _ => ?_) | refine SQ.ldA tt_ok rfl rfl (by repeat (first | exact .h | exact .q | apply At.t)) (by rfl) ?_ | refine SQ.stA tt_ok rfl rfl (by repeat (first | apply Up.h | apply Up.t)) (by rfl) (by rfl) (by exact trivial) ?_ | refine CW.cond_tt rfl ?_ | refine CW.cond_ff rfl ?_))
    rw [allV_len, show onlyK ids first es es.length = onlyL ids first es by unfold onlyK; rw [List.take_of_length_le (by rw [onlyL_len]; omega), List.drop_eq_nil_of_le (by omega), List.append_nil]]
    refine CW.ret (fin_ret rfl (A := bkA b2 q2 c2 first (onlyL ids first es) ++ (bkA b q0 c0 first es ++ [A])) (Tk.ent (by repeat (first | exact .n | exact Rm.h | apply Tk.c | apply Rm.t))) ?_)
    exact ⟨b2, q2, c2, rfl, rfl⟩
/-- As new, but for the texts. -/
def blankL (es : List En) : List En := es.map fun e => (zeroL, e.2)
def blankK (es : List En) (k : Nat) : List En := blankL (es.take k) ++ es.drop k
theorem blankK_len (es : List En) (k : Nat) : (blankK es k).length = es.length := by simp [blankK, blankL]; omega
theorem blankK_at {es : List En} {k : Nat} {e : En} (h : es[k]? = some e) : (blankK es k)[k]? = some e := by
  have hk := (List.getElem?_eq_some_iff.1 h).1
  have hl : (blankL (es.take k)).length = k := by simp [blankL]; omega
  unfold blankK
  rw [List.getElem?_append_right (by omega), hl, Nat.sub_self, List.getElem?_drop]; simpa using h
theorem blankK_succ {es : List En} {k : Nat} {e : En} (h : es[k]? = some e) : blankK es (k + 1) = (blankK es k).set k (zeroL, e.2) := by
  have hk := (List.getElem?_eq_some_iff.1 h).1
  have hl : (blankL (es.take k)).length = k := by simp [blankL]; omega
  unfold blankK
  rw [List.set_append_right _ _ (by omega), hl, Nat.sub_self, List.drop_eq_getElem_cons hk, List.set_cons_zero]
  have : blankL (es.take (k + 1)) = blankL (es.take k) ++ [(zeroL, e.2)] := by
    unfold blankL
    rw [List.take_add_one, h, List.map_append]; rfl
  rw [this]; simp
theorem wr_blank {es : List En} {k : Nat} {e : En} (h : es[k]? = some e) (X : List Value) : wrv ti38 (es.flatMap enC ++ X) (0 + k * 8) (.agg #[.bool false, .bool false, .bool false, .bool false, .bool false, .int .i64 0, .int .i64 0]) = some ((es.set k (zeroL, e.2)).flatMap enC ++ X) :=
  wr_encR (enc := enC) (sz := 8) (fun _ => rfl) h 0 (i := ti38) (by decide) rfl rfl (by omega) X
set_option maxHeartbeats 4000000 in
theorem reset23 (β : Base) (b : Nat) (q0 : Option Addr) (c0 : Nat) {first : Int} (es : List En) (hn : es.length ≤ 16384) :
    Tri Try.prog β 23 [.pointer (some ⟨b, 0, none⟩)] (bkA b q0 c0 first es) (fun v L => L = bkA b q0 c0 first (blankL es)) := by
  have hbl : (blankL es).length = es.length := by simp [blankL]
  refine Tri.intro tt_ok Try.func23 rfl rfl Try.ntmps23 rfl fun F => ?_
  unfold bkA
  rw [hbl]
  (repeat (first | refine CW.seq ?_ | refine CW.region tt_ok rfl ?_ | refine CW.block ?_ | refine CW.skip ?_ | refine SQ.nil ?_ | refine SQ.pures1 tt_ok rfl ?_ | refine SQ.pure1 tt_ok rfl ?_ | refine SQ.new _ _ rfl rfl (fun _ => ?_) | refine SQ.ldA tt_ok rfl rfl (by repeat (first | exact .h | exact .q | apply At.t)) (by rfl) ?_ | refine SQ.stA tt_ok rfl rfl (by repeat (first | apply Up.h | apply Up.t)) (by rfl) (by rfl) (by exact trivial) ?_ | refine CW.cond_tt rfl ?_ | refine CW.cond_ff rfl ?_))
  refine CW.loop (α := Nat) (fun k => k ≤ es.length) (fun k => [(8, .int .i64 k), (7, .int .i64 es.length), (0, .pointer (some ⟨b, 0, none⟩))])
    (fun k => [pt b [.int .i64 first, .slice q0 es.length c0], rowA q0 es.length ((blankK es k).flatMap enC)]) (fun k => es.length - k) 0 (by omega) ⟨rfl, rfl, rfl, trivial⟩ (Ent.refl _) ?_
  intro k hk
  (repeat (first | refine CW.seq ?_ | refine CW.region tt_ok rfl ?_ | refine CW.block ?_ | refine CW.skip ?_ | refine SQ.nil ?_ | refine SQ.pures1 tt_ok rfl ?_ | refine SQ.pure1 tt_ok rfl ?_ | refine SQ.new _ _ rfl rfl (fun _ => ?_) | refine SQ.ldA tt_ok rfl rfl (by repeat (first | exact .h | exact .q | apply At.t)) (by rfl) ?_ | refine SQ.stA tt_ok rfl rfl (by repeat (first | apply Up.h | apply Up.t)) (by rfl) (by rfl) (by exact trivial) ?_ | refine CW.cond_tt rfl ?_ | refine CW.cond_ff rfl ?_))
  generalize e1 : decide ((k : Int) < (es.length : Int)) = cc
  cases cc
  · have : k = es.length := by simp at e1; omega
    subst this
    (repeat (first | refine CW.seq ?_ | refine CW.region tt_ok rfl ?_ | refine CW.block ?_ | refine CW.skip ?_ | refine SQ.nil ?_ | refine SQ.pures1 tt_ok rfl ?_ | refine SQ.pure1 tt_ok rfl ?_ | refine SQ.new _ _ rfl rfl (fun _ => ?_) | refine SQ.ldA tt_ok rfl rfl (by repeat (first | exact .h | exact .q | apply At.t)) (by rfl) ?_ | refine SQ.stA tt_ok rfl rfl (by repeat (first | apply Up.h | apply Up.t)) (by rfl) (by rfl) (by exact trivial) ?_ | refine CW.cond_tt rfl ?_ | refine CW.cond_ff rfl ?_))
    refine CW.exit ?_
    refine fin_normal (vs := []) rfl (Ent.refl _) ?_
    rw [show blankK es es.length = blankL es by unfold blankK; rw [List.take_length, List.drop_eq_nil_of_le (Nat.le_refl _), List.append_nil]]
  · have hlt : k < es.length := by simp at e1; omega
    have hw : IntKind.i64.wrap ((k : Int) + 1) = ((k + 1 : Nat) : Int) := by rw [wrap_i64]; split <;> omega
    obtain ⟨e, he⟩ : ∃ e, es[k]? = some e := ⟨_, List.getElem?_eq_getElem hlt⟩
    have hS := blankK_succ he
    refine CW.ent (Rm.to (A := rowA q0 es.length ((blankK es k).flatMap enC)) (by repeat (first | exact Rm.h | apply Rm.t)) (row_open (by omega))) ?_
    refine CW.open_ fun y => ?_
    obtain ⟨g, rest⟩ := y
    refine CW.pure_ fun hv => ?_
    simp only at hv
    subst hv
    (repeat (first | refine CW.seq ?_ | refine CW.region tt_ok rfl ?_ | refine CW.block ?_ | refine CW.skip ?_ | refine SQ.nil ?_ | refine SQ.pures1 tt_ok rfl ?_ | refine SQ.pure1 tt_ok rfl ?_ | refine SQ.new _ _ rfl rfl (fun _ => ?_) | refine SQ.ldA tt_ok rfl rfl (by repeat (first | exact .h | exact .q | apply At.t)) (by rfl) ?_ | refine SQ.stA tt_ok rfl rfl (by repeat (first | apply Up.h | apply Up.t)) (by rfl) (by rfl) (by exact trivial) ?_ | refine CW.cond_tt rfl ?_ | refine CW.cond_ff rfl ?_))
    refine SQ.idx tt_ok rfl rfl k rfl hlt (o' := 0 + k * 8) rfl ?_
    (repeat (first | refine CW.seq ?_ | refine CW.region tt_ok rfl ?_ | refine CW.block ?_ | refine CW.skip ?_ | refine SQ.nil ?_ | refine SQ.pures1 tt_ok rfl ?_ | refine SQ.pure1 tt_ok rfl ?_ | refine SQ.new _ _ rfl rfl (fun _ => ?_) | refine SQ.ldA tt_ok rfl rfl (by repeat (first | exact .h | exact .q | apply At.t)) (by rfl) ?_ | refine SQ.stA tt_ok rfl rfl (by repeat (first | apply Up.h | apply Up.t)) (by rfl) (by rfl) (by exact trivial) ?_ | refine CW.cond_tt rfl ?_ | refine CW.cond_ff rfl ?_))
    refine SQ.stA tt_ok rfl rfl (by repeat (first | apply Up.h | apply Up.t)) (by rfl) (wr_blank (blankK_at he) rest) (by exact trivial) ?_
    (repeat (first | refine CW.seq ?_ | refine CW.region tt_ok rfl ?_ | refine CW.block ?_ | refine CW.skip ?_ | refine SQ.nil ?_ | refine SQ.pures1 tt_ok rfl ?_ | refine SQ.pure1 tt_ok rfl ?_ | refine SQ.new _ _ rfl rfl (fun _ => ?_) | refine SQ.ldA tt_ok rfl rfl (by repeat (first | exact .h | exact .q | apply At.t)) (by rfl) ?_ | refine SQ.stA tt_ok rfl rfl (by repeat (first | apply Up.h | apply Up.t)) (by rfl) (by rfl) (by exact trivial) ?_ | refine CW.cond_tt rfl ?_ | refine CW.cond_ff rfl ?_))
    refine ⟨k + 1, by omega, by omega, ⟨by rw [← hw]; rfl, rfl, rfl, trivial⟩, ?_⟩
    rw [hS]
    exact Ent.trans (Rm.to (A := pt g (((blankK es k).set k (zeroL, e.2)).flatMap enC ++ rest)) (by repeat (first | exact Rm.h | apply Rm.t)) (row_close (n := es.length))) (Tk.ent (by repeat (first | exact .n | exact Rm.h | apply Tk.c | apply Rm.t)))
end Go.Proofs.Ytmaheecbohbilaa.Sl
