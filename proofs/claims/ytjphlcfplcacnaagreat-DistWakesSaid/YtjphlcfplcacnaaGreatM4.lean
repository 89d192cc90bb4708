/-
  Part 4 of the proof: contracts of the code's functions, and what is plain.
-/
import Derived.Test.YtjphlcfplcacnaaGreatM3
import Derived.Test.YtjphlcfplcacnaaGreatM2
namespace Go.Proofs.YtjphlcfplcacnaaGreat.Sl
open Go Go.RowKit Go.Proofs
set_option linter.unusedVariables false
set_option linter.unusedSimpArgs false
attribute [local irreducible] CW Tri OW
set_option maxRecDepth 10000
@[reducible] def pk33 : List (Nat × Plan) := [(3, [(0, 0, []), (1, 0, []), (2, 0, []), (3, 0, []), (5, 0, []), (6, 0, []), (8, 0, []), (9, 0, []), (10, 0, []), (11, 0, []), (13, 0, []), (14, 0, []), (4, 1, [2, 3, 6, 10, 11, 14]), (7, 1, [2, 3, 6, 10, 11, 14]), (12, 1, [2, 3, 6, 10, 11, 14]), (15, 1, [2, 3, 6, 10, 11, 14]), (16, 0, []), (17, 0, [])]), (6, [(0, 0, []), (1, 0, []), (2, 0, []), (3, 0, []), (4, 0, []), (5, 0, []), (6, 0, []), (7, 0, []), (8, 0, []), (10, 0, []), (11, 0, []), (12, 0, []), (13, 0, []), (14, 0, []), (15, 0, []), (9, 1, [5, 6, 8, 12, 13, 15]), (16, 1, [5, 6, 8, 12, 13, 15]), (17, 0, []), (18, 0, []), (19, 0, [])]), (8, [(0, 0, []), (1, 0, []), (2, 0, []), (3, 0, []), (4, 0, []), (5, 0, []), (6, 0, []), (8, 0, []), (9, 0, []), (10, 0, []), (11, 0, []), (12, 0, []), (13, 0, []), (14, 0, []), (7, 1, [2, 4, 6, 10, 12, 14]), (15, 1, [2, 4, 6, 10, 12, 14]), (16, 0, []), (17, 0, [])]), (10, [(0, 0, []), (1, 0, []), (2, 0, []), (3, 0, []), (4, 0, []), (5, 0, []), (6, 0, []), (8, 0, []), (9, 0, []), (10, 0, []), (11, 0, []), (12, 0, []), (13, 0, []), (14, 0, []), (7, 1, [2, 4, 6, 10, 12, 14]), (15, 1, [2, 4, 6, 10, 12, 14]), (16, 0, []), (17, 0, [])]), (12, [(0, 0, []), (1, 0, []), (2, 0, []), (3, 0, []), (4, 0, []), (5, 0, []), (6, 0, []), (8, 0, []), (9, 0, []), (10, 0, []), (11, 0, []), (12, 0, []), (13, 0, []), (14, 0, []), (7, 1, [2, 4, 6, 10, 12, 14]), (15, 1, [2, 4, 6, 10, 12, 14]), (16, 0, []), (17, 0, [])])]
/-- An act of the script. -/
abbrev Ac := Int × Int × Int × Int × Nat × Int × Iq × Bool
@[reducible] def acC (x : Ac) : List Value := [.int .i64 x.1, .int .i64 x.2.1, .int .i64 x.2.2.1, .int .i64 x.2.2.2.1, .int .u64 (x.2.2.2.2.1 : Int), .int .i64 x.2.2.2.2.2.1, .bool x.2.2.2.2.2.2.1.1, .bool x.2.2.2.2.2.2.1.2.1, .bool x.2.2.2.2.2.2.1.2.2.1, .bool x.2.2.2.2.2.2.1.2.2.2, .bool x.2.2.2.2.2.2.2]
def acOk (x : Ac) : Prop := x.2.2.2.1 < 9223372036854775808 ∧ x.2.2.2.2.1 < 2 ^ 64
def wideV (hi : Bool) : Int := if hi then 8 else 4
theorem distV_8 (off : Int) : (distV off 8).1.2.2 ≤ 16384 := by
  unfold distV findV
  rw [if_neg (by omega)]
  split
  · simp
  · split
    · simp
    · split
      · rename_i h1 h2 x r hr
        unfold outV
        split
        · have := List.all_eq_true.1 distRw_all r (List.mem_of_find?_eq_some hr)
          simp only [Bool.and_eq_true, Bool.or_eq_true, decide_eq_true_eq, beq_iff_eq] at this
          obtain ⟨⟨⟨⟨⟨a1, a2⟩, a3⟩, a4⟩, a5⟩, a6⟩ := this
          simp only [plV]
          rcases a6 with h | h <;> rw [h] <;> rcases a5 with ((g | g) | g) | g <;> rw [g] <;> decide
        · simp
      · simp
theorem distV_w (off : Int) (hi : Bool) : (distV off (wideV hi)).1.2.2 ≤ 16384 := by
  cases hi
  · exact distV_le off
  · exact distV_8 off
theorem rt_texts {sh sh' : List Br.En} (h : sh'.map (·.2) = sh.map (·.2)) (hr : ∀ e ∈ sh, 0 ≤ e.2.1 ∧ e.2.1 ≤ 255) : ∀ e ∈ sh', 0 ≤ e.2.1 ∧ e.2.1 ≤ 255 := by
  intro e he
  have : e.2 ∈ sh'.map (·.2) := List.mem_map_of_mem he
  rw [h] at this
  obtain ⟨e2, h2, h3⟩ := List.mem_map.1 this
  have := hr e2 h2
  rw [h3] at this; exact this
theorem okE_t {e : Br.En} {t : Int × Bool} (h : Br.okE e) : Br.okE (e.1, t) := h
section
variable {R : RS} {D : DS}
theorem OkD.at_ (ok : OkD R D) {k : Int} {x : CR} (hx : D.xs[k.toNat]? = some x) : x.es.length = 32 ∧ Bn.okL x.es := ok.es x (List.mem_of_getElem? hx)
theorem OkD.set_x (ok : OkD R D) {k : Nat} {x : CR} (h : x.es.length = 32 ∧ Bn.okL x.es) : OkD R { D with xs := D.xs.set k x } :=
  ⟨by simpa using ok.one, by simpa using ok.x8, fun y hy => by rcases List.mem_or_eq_of_mem_set hy with g | rfl; exact ok.es y g; exact h, ok.sh, ok.ok, by simpa using ok.os, ok.rt⟩
theorem OkD.set_sh (ok : OkD R D) {sh' : List Br.En} (h1 : sh'.length = D.sh.length) (h2 : Br.okL sh') (h3 : ∀ e ∈ sh', 0 ≤ e.2.1 ∧ e.2.1 ≤ 255) : OkD R { D with sh := sh' } :=
  ⟨ok.one, ok.x8, ok.es, by simp only [h1]; exact ok.sh, h2, ok.os, h3⟩
theorem OkD.doV (ok : OkD R D) (k id a : Int) : OkD R (D.doV k id a).1 := by
  unfold DS.doV
  split
  · split
    · split
      · rename_i x hx
        have := ok.at_ hx
        exact ok.set_x ⟨by simp only [Bn.doV_len]; exact this.1, Bn.doV_ok this.2⟩
      · exact ok
    · exact ok.set_sh (Br.doV_len _ _ _ _) (Br.doV_ok ok.ok) (rt_texts (Br.doV_texts _ _ _ _) ok.rt)
  · exact ok
theorem OkD.wrOwnV (ok : OkD R D) (k r f c : Int) (v : Nat) : OkD R (D.wrOwnV k r f c v).1 := by
  unfold DS.wrOwnV
  split
  · split
    · rename_i x hx
      have := ok.at_ hx
      simp only
      split
      · exact ok.set_x this
      · exact ok.set_x ⟨by simp only [Bn.wrK_len]; exact this.1, Bn.wrK_ok this.2 _⟩
    · exact ok
  · exact ok
theorem routeV_rt (v : Nat) : 0 ≤ (routeV v).1 ∧ (routeV v).1 ≤ 255 := by unfold routeV; simp only; omega
theorem OkD.wrV (ok : OkD R D) (off w : Int) (v : Nat) : OkD R (D.wrV off w v).1 := by
  unfold DS.wrV
  split
  · exact ok
  · simp only
    split
    · exact ⟨ok.one, ok.x8, ok.es, ok.sh, ok.ok, ok.os, ok.rt⟩
    · split
      · split
        · rename_i e he
          rw [putR_route ok.ok he]
          obtain ⟨i, hi, hie⟩ := Br.atE_iff.1 he
          refine ok.set_sh (by simp) (Br.okL_set ok.ok (okE_t (Br.okL_at ok.ok hie)) _) fun e2 h2 => ?_
          rcases List.mem_or_eq_of_mem_set h2 with g | rfl
          · exact ok.rt e2 g
          · exact routeV_rt v
        · exact ok
      · exact ok.set_sh (Br.wrK_len _ _ _ _ _ _ _) (Br.wrK_ok ok.ok _) (rt_texts (Br.wrK_texts _ _ _ _ _ _ _) ok.rt)
theorem putV_cases (ok : OkD R D) (k id : Int) (s : Iq) : (D.putV k id s).1 = D ∨ (∃ x e, rightV D.xs.length k = true ∧ id < 32 ∧ D.xs[k.toNat]? = some x ∧ Bn.atE 0 x.es id = some e ∧ (D.putV k id s).1 = { D with xs := D.xs.set k.toNat { x with es := x.es.set (id - 0).toNat ((s, e.1.2), e.2) } }) ∨
    ∃ e, rightV D.xs.length k = true ∧ ¬ id < 32 ∧ Br.atE 32 D.sh id = some e ∧ (D.putV k id s).1 = { D with sh := D.sh.set (id - 32).toNat ((s, e.1.2), e.2) } := by
  cases hr : rightV D.xs.length k with
  | false => left; unfold DS.putV DS.getV; rw [hr]; rfl
  | true =>
    obtain ⟨x, hx, hl, hk⟩ := right_at hr
    have hgv : D.getV k id = if id < 32 then ((Bn.getV 0 x.es id).1.1, (Bn.getV 0 x.es id).2) else ((Br.getV 32 D.sh id).1.1, (Br.getV 32 D.sh id).2) := by
      unfold DS.getV
      rw [hr, hx]; rfl
    by_cases h32 : id < 32
    · rw [if_pos h32] at hgv
      cases ha : Bn.atE 0 x.es id with
      | none =>
        rw [show Bn.getV 0 x.es id = (Bn.zeroE, 90) by unfold Bn.getV; rw [ha]] at hgv
        left; unfold DS.putV; rw [hgv]; rfl
      | some e =>
        rw [show Bn.getV 0 x.es id = (e, 0) by unfold Bn.getV; rw [ha]] at hgv
        right; left
        refine ⟨x, e, rfl, h32, hx, ha, ?_⟩
        unfold DS.putV
        rw [hgv, hx]
        simp only
        rw [if_neg (by simp), if_pos h32, putN_set (ok.at_ hx).2 ha]
    · rw [if_neg h32] at hgv
      cases ha : Br.atE 32 D.sh id with
      | none =>
        rw [show Br.getV 32 D.sh id = (Br.zeroE, 90) by unfold Br.getV; rw [ha]] at hgv
        left; unfold DS.putV; rw [hgv]; rfl
      | some e =>
        have hge : Br.getV 32 D.sh id = (e, 0) := by unfold Br.getV; rw [ha]
        rw [hge] at hgv
        right; right
        refine ⟨e, rfl, h32, rfl, ?_⟩
        unfold DS.putV
        rw [hgv, hge]
        simp only
        rw [if_neg (by simp), if_neg h32, putR_set ok.ok ha]
theorem OkD.putV (ok : OkD R D) (k id : Int) (s : Iq) : OkD R (D.putV k id s).1 := by
  rcases putV_cases ok k id s with h | ⟨x, e, hr, h32, hx, ha, h⟩ | ⟨e, hr, h32, ha, h⟩ <;> rw [h]
  · exact ok
  · have := ok.at_ hx
    obtain ⟨i, hi, hie⟩ := Bn.atE_iff.1 ha
    exact ok.set_x ⟨by simp only [List.length_set]; exact this.1, Bn.okL_set this.2 (by have := Bn.okL_at this.2 hie; exact this) _⟩
  · obtain ⟨i, hi, hie⟩ := Br.atE_iff.1 ha
    refine ok.set_sh (by simp) (Br.okL_set ok.ok (by have := Br.okL_at ok.ok hie; exact this) _) fun e2 h2 => ?_
    rcases List.mem_or_eq_of_mem_set h2 with g | rfl
    · exact ok.rt e2 g
    · exact ok.rt e (List.mem_of_getElem? hie)
theorem OkD.callV (ok : OkD R D) (fr gr : Int) (v : Nat) : OkD R (D.callV fr gr v).1 := by
  unfold DS.callV
  split
  · have h := fun l => callF_es (id := ((v / 2 ^ 24 % 16 : Nat) : Int)) (gr := gr) l (D.xs, 0) ok.es
    have hl := fun l => (callF_len ((v / 2 ^ 24 % 16 : Nat) : Int) gr l (D.xs, 0)).1
    exact ⟨by simp only [callL, hl]; exact ok.one, by simp only [callL, hl]; exact ok.x8, h _, ok.sh, ok.ok, by simp only [callL, hl]; exact ok.os, ok.rt⟩
  · exact ok
end
def actV (D : DS) (x : Ac) : DS :=
  if x.1 = 1 then (D.wrV x.2.1 (wideV x.2.2.2.2.2.2.2) x.2.2.2.2.1).1
  else if x.1 = 2 then (if (redistV x.2.1 4).2 = 0 then (D.wrOwnV x.2.2.1 (redistV x.2.1 4).1.1 (redistV x.2.1 4).1.2.1 (redistV x.2.1 4).1.2.2 x.2.2.2.2.1).1 else D)
  else if x.1 = 3 then (if x.2.2.2.1 < 16 then D else (D.doV x.2.2.1 x.2.2.2.1 (if x.2.2.2.2.2.2.2 then 1 else 2)).1)
  else if x.1 = 4 then (D.doV x.2.2.1 x.2.2.2.1 x.2.2.2.2.2.1).1
  else if x.1 = 5 then (D.putV x.2.2.1 x.2.2.2.1 x.2.2.2.2.2.2.1).1
  else if x.1 = 6 then (D.callV x.2.2.1 x.2.2.2.1 x.2.2.2.2.1).1
  else D
theorem OkD.act {R : RS} {D : DS} (ok : OkD R D) (x : Ac) : OkD R (actV D x) := by
  unfold actV
  repeat' split
  all_goals first | exact ok | exact ok.wrV _ _ _ | exact ok.wrOwnV _ _ _ _ _ | exact ok.doV _ _ _ | exact ok.putV _ _ _ | exact ok.callV _ _ _
theorem wide46 (β : Base) (x : Ac) : Tri Tryz.prog β 46 [.agg #[.int .i64 x.1, .int .i64 x.2.1, .int .i64 x.2.2.1, .int .i64 x.2.2.2.1, .int .u64 (x.2.2.2.2.1 : Int), .int .i64 x.2.2.2.2.2.1, .bool x.2.2.2.2.2.2.1.1, .bool x.2.2.2.2.2.2.1.2.1, .bool x.2.2.2.2.2.2.1.2.2.1, .bool x.2.2.2.2.2.2.1.2.2.2, .bool x.2.2.2.2.2.2.2]] [] (fun v L => v = .int .i64 (wideV x.2.2.2.2.2.2.2) ∧ L = []) := by
  obtain ⟨x0, x1, x2, x3, x4, x5, x6, x7⟩ := x
  refine Tri.intro tt_ok Tryz.func46 rfl rfl Tryz.ntmps46 rfl fun F => ?_
  cases x7
  · (refine G tt_ok [] ?_; repeat (refine G1 tt_ok [] ?_; intro _))
    exact CW.ret (fin_ret rfl (Ent.dropAll _) ⟨rfl, rfl⟩)
  · (refine G tt_ok [] ?_; repeat (refine G1 tt_ok [] ?_; intro _))
    exact CW.ret (fin_ret rfl (Ent.dropAll _) ⟨rfl, rfl⟩)
set_option maxHeartbeats 8000000 in
theorem does33 (β : Base) (d r : Nat) (R : RS) (D : DS) (ok : OkD R D) (x : Ac) (hx : acOk x) : Tri Tryz.prog β 33 [.pointer (some ⟨d, 0, none⟩), .pointer (some ⟨r, 0, none⟩), .agg #[.int .i64 x.1, .int .i64 x.2.1, .int .i64 x.2.2.1, .int .i64 x.2.2.2.1, .int .u64 (x.2.2.2.2.1 : Int), .int .i64 x.2.2.2.2.2.1, .bool x.2.2.2.2.2.2.1.1, .bool x.2.2.2.2.2.2.1.2.1, .bool x.2.2.2.2.2.2.1.2.2.1, .bool x.2.2.2.2.2.2.1.2.2.2, .bool x.2.2.2.2.2.2.2]] (dA d D ++ rD r R D)
    (fun v L => v = .bool true ∧ L = dA d (actV D x) ++ rD r R (actV D x)) := by
  obtain ⟨o, off, k, id, v, a, s, hi⟩ := x
  obtain ⟨hid, hv⟩ := hx
  simp only at hid hv
  refine Tri.intro tt_ok Tryz.func33 rfl rfl Tryz.ntmps33 rfl fun F => ?_
  unfold actV
  simp only
  (refine G tt_ok pk33 ?_; repeat (refine G1 tt_ok pk33 ?_; intro _))
  by_cases h1 : o = 1
  · subst h1
    (refine G tt_ok pk33 ?_; repeat (refine G1 tt_ok pk33 ?_; intro _))
    refine ke rfl rfl (wide46 β (1, off, k, id, v, a, s, hi)) ?_
    (refine G tt_ok pk33 ?_; repeat (refine G1 tt_ok pk33 ?_; intro _))
    refine ke rfl rfl (write32 β d D off (wideV hi) v hv) ?_
    (refine G tt_ok pk33 ?_; repeat (refine G1 tt_ok pk33 ?_; intro _))
    refine ke rfl rfl (wide46 β (1, off, k, id, v, a, s, hi)) ?_
    (refine G tt_ok pk33 ?_; repeat (refine G1 tt_ok pk33 ?_; intro _))
    refine ke rfl rfl (refWrite73 β r R D ok off (wideV hi) v hv (distV_w off hi)) ?_
    (refine G tt_ok pk33 ?_; repeat (refine G1 tt_ok pk33 ?_; intro _))
    exact CW.ret (fin_ret rfl (A := dA d (D.wrV off (wideV hi) v).1 ++ rD r R (D.wrV off (wideV hi) v).1) pk_ ⟨by simp [packV], rfl⟩)
  rw [if_neg h1, show (o == 1) = false by simp [h1]]
  (refine G tt_ok pk33 ?_; repeat (refine G1 tt_ok pk33 ?_; intro _))
  by_cases h2 : o = 2
  · subst h2
    (refine G tt_ok pk33 ?_; repeat (refine G1 tt_ok pk33 ?_; intro _))
    refine ke rfl rfl (refRedist49 β off 4) ?_
    (refine G tt_ok pk33 ?_; repeat (refine G1 tt_ok pk33 ?_; intro _))
    have hle := redist_le off
    generalize redistV off 4 = z at hle ⊢
    obtain ⟨⟨pr, pf, pc⟩, e⟩ := z
    simp only at hle ⊢
    by_cases h0 : e = 0
    · subst h0
      (refine G tt_ok pk33 ?_; repeat (refine G1 tt_ok pk33 ?_; intro _))
      refine ke rfl rfl (wrOwn27 β d D k pr pf pc v hv) ?_
      (refine G tt_ok pk33 ?_; repeat (refine G1 tt_ok pk33 ?_; intro _))
      refine ke rfl rfl (refWrOwn74 β r R D ok k pr pf pc v hv hle) ?_
      (refine G tt_ok pk33 ?_; repeat (refine G1 tt_ok pk33 ?_; intro _))
      exact CW.ret (fin_ret rfl (A := dA d (D.wrOwnV k pr pf pc v).1 ++ rD r R (D.wrOwnV k pr pf pc v).1) pk_ ⟨by simp [packV], rfl⟩)
    · rw [if_neg h0, show (e != 0) = true by simp [h0]]
      (refine G tt_ok pk33 ?_; repeat (refine G1 tt_ok pk33 ?_; intro _))
      exact CW.ret (fin_ret rfl (A := dA d D ++ rD r R D) pk_ ⟨by simp [packV], rfl⟩)
  rw [if_neg h2, show (o == 2) = false by simp [h2]]
  (refine G tt_ok pk33 ?_; repeat (refine G1 tt_ok pk33 ?_; intro _))
  by_cases h3 : o = 3
  · subst h3
    (refine G tt_ok pk33 ?_; repeat (refine G1 tt_ok pk33 ?_; intro _))
    refine ke rfl rfl (wire35 β d D k id hi hid) ?_
    (refine G tt_ok pk33 ?_; repeat (refine G1 tt_ok pk33 ?_; intro _))
    refine ke rfl rfl (refWire75 β r R D ok k id hi) ?_
    (refine G tt_ok pk33 ?_; repeat (refine G1 tt_ok pk33 ?_; intro _))
    exact CW.ret (fin_ret rfl (A := dA d (if id < 16 then D else (D.doV k id (if hi = true then 1 else 2)).1) ++ rD r R (if id < 16 then D else (D.doV k id (if hi = true then 1 else 2)).1)) pk_ ⟨by simp [packV], rfl⟩)
  rw [if_neg h3, show (o == 3) = false by simp [h3]]
  (refine G tt_ok pk33 ?_; repeat (refine G1 tt_ok pk33 ?_; intro _))
  by_cases h4 : o = 4
  · subst h4
    (refine G tt_ok pk33 ?_; repeat (refine G1 tt_ok pk33 ?_; intro _))
    refine ke rfl rfl (do23 β d D k id a hid) ?_
    (refine G tt_ok pk33 ?_; repeat (refine G1 tt_ok pk33 ?_; intro _))
    refine ke rfl rfl (refDo76 β r R D ok k id a) ?_
    (refine G tt_ok pk33 ?_; repeat (refine G1 tt_ok pk33 ?_; intro _))
    exact CW.ret (fin_ret rfl (A := dA d (D.doV k id a).1 ++ rD r R (D.doV k id a).1) pk_ ⟨by simp [packV], rfl⟩)
  rw [if_neg h4, show (o == 4) = false by simp [h4]]
  (refine G tt_ok pk33 ?_; repeat (refine G1 tt_ok pk33 ?_; intro _))
  by_cases h5 : o = 5
  · subst h5
    (refine G tt_ok pk33 ?_; repeat (refine G1 tt_ok pk33 ?_; intro _))
    refine ke rfl rfl (put77 β d D k id s hid) ?_
    (refine G tt_ok pk33 ?_; repeat (refine G1 tt_ok pk33 ?_; intro _))
    refine ke rfl rfl (refPut78 β r R D ok k id s) ?_
    (refine G tt_ok pk33 ?_; repeat (refine G1 tt_ok pk33 ?_; intro _))
    exact CW.ret (fin_ret rfl (A := dA d (D.putV k id s).1 ++ rD r R (D.putV k id s).1) pk_ ⟨by simp [packV], rfl⟩)
  rw [if_neg h5, show (o == 5) = false by simp [h5]]
  (refine G tt_ok pk33 ?_; repeat (refine G1 tt_ok pk33 ?_; intro _))
  by_cases h6 : o = 6
  · subst h6
    (refine G tt_ok pk33 ?_; repeat (refine G1 tt_ok pk33 ?_; intro _))
    refine ke rfl rfl (call25 β d D k id v hv ok.x8) ?_
    (refine G tt_ok pk33 ?_; repeat (refine G1 tt_ok pk33 ?_; intro _))
    refine ke rfl rfl (refCall79 β r R D ok k id v hv) ?_
    (refine G tt_ok pk33 ?_; repeat (refine G1 tt_ok pk33 ?_; intro _))
    rw [show ((D.callV k id v).2.1 == (D.callV k id v).2.1) = true by simp]
    (refine G tt_ok pk33 ?_; repeat (refine G1 tt_ok pk33 ?_; intro _))
    exact CW.ret (fin_ret rfl (A := dA d (D.callV k id v).1 ++ rD r R (D.callV k id v).1) pk_ ⟨by simp [packV], rfl⟩)
  rw [if_neg h6, show (o == 6) = false by simp [h6]]
  (refine G tt_ok pk33 ?_; repeat (refine G1 tt_ok pk33 ?_; intro _))
  exact CW.ret (fin_ret rfl (A := dA d D ++ rD r R D) pk_ ⟨rfl, rfl⟩)
end Go.Proofs.YtjphlcfplcacnaaGreat.Sl
namespace Go.Proofs.YtjphlcfplcacnaaGreat.Sl
open Go Go.RowKit Go.Proofs
set_option linter.unusedVariables false
set_option linter.unusedSimpArgs false
attribute [local irreducible] CW Tri OW
set_option maxRecDepth 10000
@[reducible] def pk30 : List (Nat × Plan) := [(6, [(0, 0, []), (1, 0, []), (2, 0, []), (3, 0, []), (4, 0, []), (5, 0, []), (6, 0, []), (7, 0, []), (8, 0, [])])]
theorem rd_i1r {l : List Int} {k : Nat} {x : Int} (h : l[k]? = some x) (X : List Value) : rdv ti3 (l.flatMap i1C ++ X) (0 + k * 1) = some (.int .i64 x) :=
  rd_partR (enc := i1C) (sz := 1) (fun _ => rfl) h 0 (i := ti3) rfl (by decide) (by omega) (by decide) X
theorem same30 (β : Base) {q1 q2 : Option Addr} {n c1 c2 : Nat} {l : List Int} (hl : l.length = n) (hn : n ≤ 1000000) :
    Tri Tryz.prog β 30 [.slice q1 n c1, .slice q2 n c2] [rowA q1 n (l.flatMap i1C), rowA q2 n (l.flatMap i1C)] (fun v L => v = .bool true ∧ L = [rowA q1 n (l.flatMap i1C), rowA q2 n (l.flatMap i1C)]) := by
  refine Tri.intro tt_ok Tryz.func30 rfl rfl Tryz.ntmps30 rfl fun F => ?_
  (refine G tt_ok pk30 ?_; repeat (refine G1 tt_ok pk30 ?_; intro _))
  rw [show ((n : Int) != n) = false by simp]
  (refine G tt_ok pk30 ?_; repeat (refine G1 tt_ok pk30 ?_; intro _))
  refine CW.loop (α := Nat) (fun k => k ≤ n) (fun k => [(5, .int .i64 k), (0, .slice q1 n c1), (1, .slice q2 n c2)]) (fun k => [rowA q1 n (l.flatMap i1C), rowA q2 n (l.flatMap i1C)]) (fun k => n - k) 0 (by omega) ⟨rfl, rfl, rfl, trivial⟩ pk_ ?_
  intro k hk
  (refine G tt_ok pk30 ?_; repeat (refine G1 tt_ok pk30 ?_; intro _))
  by_cases hlt : k < n
  · rw [decide_eq_true (show (k : Int) < n by omega)]
    have hw : IntKind.i64.wrap ((k : Int) + 1) = ((k + 1 : Nat) : Int) := by rw [wrap_i64]; split <;> omega
    obtain ⟨x, hx⟩ : ∃ x, l[k]? = some x := ⟨_, List.getElem?_eq_getElem (by omega)⟩
    (refine G tt_ok pk30 ?_; repeat (refine G1 tt_ok pk30 ?_; intro _))
    (refine SQ.idxR tt_ok rfl rfl (by repeat (first | exact .h | apply AtR.t)) (k) (rfl) (hlt) rfl ?_)
    (refine G tt_ok pk30 ?_; repeat (refine G1 tt_ok pk30 ?_; intro _))
    (refine SQ.ldR tt_ok rfl rfl (by repeat (first | exact .h | apply AtR.t)) (by omega) (rd_i1r hx) ?_)
    (refine G tt_ok pk30 ?_; repeat (refine G1 tt_ok pk30 ?_; intro _))
    (refine SQ.idxR tt_ok rfl rfl (by repeat (first | exact .h | apply AtR.t)) (k) (rfl) (hlt) rfl ?_)
    (refine G tt_ok pk30 ?_; repeat (refine G1 tt_ok pk30 ?_; intro _))
    (refine SQ.ldR tt_ok rfl rfl (by repeat (first | exact .h | apply AtR.t)) (by omega) (rd_i1r hx) ?_)
    (refine G tt_ok pk30 ?_; repeat (refine G1 tt_ok pk30 ?_; intro _))
    rw [show (x != x) = false by simp]
    (refine G tt_ok pk30 ?_; repeat (refine G1 tt_ok pk30 ?_; intro _))
    exact ⟨k + 1, by omega, by omega, ⟨by rw [← hw]; rfl, rfl, rfl, trivial⟩, pk_⟩
  · rw [decide_eq_false (show ¬ (k : Int) < n by omega)]
    (refine G tt_ok pk30 ?_; repeat (refine G1 tt_ok pk30 ?_; intro _))
    refine CW.exit ?_
    (refine G tt_ok pk30 ?_; repeat (refine G1 tt_ok pk30 ?_; intro _))
    exact CW.ret (fin_ret rfl pk_ ⟨rfl, rfl⟩)
/-- A distributor that is new. -/
def newD (D : DS) (n s : Nat) : Prop := D.o0 = false ∧ D.o1 = false ∧ D.sh = List.replicate s (Br.zeroE.1, (0, false)) ∧ D.xs.length = n ∧ ∀ x ∈ D.xs, newCR x
theorem ownK_ok : ∀ k, Bn.okL (ownK k)
  | 0 => Bn.okL_new 32 ()
  | k + 1 => by unfold ownK; exact Bn.doV_ok (ownK_ok k)
theorem newD_ok {R : RS} {D : DS} {n s : Nat} (h : newD D n s) (h1 : 1 ≤ n) (h8 : n ≤ 8) (hs : s ≤ 64) (ho : R.os.length = n) : OkD R D := by
  obtain ⟨a, b, c, d, e⟩ := h
  refine ⟨by omega, by omega, fun x hx => ?_, by rw [c]; simpa using hs, by rw [c]; exact Br.okL_new s (0, false), by omega, fun y hy => ?_⟩
  · rw [(e x hx).1]; exact ⟨ownK_len 16, ownK_ok 16⟩
  · rw [c] at hy; rw [List.eq_of_mem_replicate hy]; decide
theorem new11' (β : Base) {n s : Nat} (hn0 : 1 ≤ n) (hn1 : n ≤ 8) (hs1 : s ≤ 64) : Tri Tryz.prog β 11 [.int .i64 n, .int .i64 s] [] (fun v L => ∃ d D, v = .tuple #[.pointer (some ⟨d, 0, none⟩), .int .i64 0] ∧ L = dA d D ∧ newD D n s) :=
  (new11 β (n := n) (s := s) (by omega) (by omega) (by omega) (by omega)).mono fun v L h => by
    obtain ⟨d, D, h1, h2, h3, h4, h5, h6, h7⟩ := h
    exact ⟨d, D, h1, h2, h3, h4, by simpa using h5, by omega, h7⟩
theorem both31 (β : Base) {a m : Int} (ha0 : 0 ≤ a) (ha1 : a ≤ 255) (hm0 : 0 ≤ m) (hm1 : m ≤ 255) :
    Tri Tryz.prog β 31 [.int .u8 a, .int .u8 m] [] (fun v L => ∃ d D r R, v = .tuple #[.pointer (some ⟨d, 0, none⟩), .pointer (some ⟨r, 0, none⟩)] ∧ L = dA d D ++ rD r R D ∧ newD D (1 + a % 8).toNat (m % 65).toNat ∧ OkD R D) := by
  have e1 := u8_mod ha0 ha1 8 (by omega) (by omega)
  have e2 := u8_mod hm0 hm1 65 (by omega) (by omega)
  have e3 : IntKind.i64.wrap (1 + IntKind.i64.wrap (a.tmod 8)) = (((1 + a % 8).toNat : Nat) : Int) := by rw [e1, wrap_id (by omega) (by omega)]; omega
  have e4 : IntKind.i64.wrap (m.tmod 65) = (((m % 65).toNat : Nat) : Int) := by rw [e2]; omega
  have hN1 : 1 ≤ (1 + a % 8).toNat := by omega
  have hN8 : (1 + a % 8).toNat ≤ 8 := by omega
  have hS : (m % 65).toNat ≤ 64 := by omega
  generalize (1 + a % 8).toNat = N at e3 hN1 hN8 ⊢
  generalize (m % 65).toNat = S at e4 hS ⊢
  refine Tri.intro tt_ok Tryz.func31 rfl rfl Tryz.ntmps31 rfl fun F => ?_
  (refine G tt_ok [] ?_; repeat (refine G1 tt_ok [] ?_; intro _))
  rw [e3, e4]
  (refine ka rfl rfl (new11' β hN1 hN8 hS) ?_; rintro _ _ ⟨d, D, rfl, rfl, hD⟩; refine w_ ?_)
  (refine G tt_ok [] ?_; repeat (refine G1 tt_ok [] ?_; intro _))
  rw [e3, e4]
  (refine ka rfl rfl (refNew12 β hN1 hN8 hS) ?_; rintro _ _ ⟨r, R, rfl, hos, hR⟩; refine w_ ?_)
  rw [hR D hD.1 hD.2.1 hD.2.2.1 hD.2.2.2.1 hD.2.2.2.2]
  (refine G tt_ok [] ?_; repeat (refine G1 tt_ok [] ?_; intro _))
  exact CW.ret (fin_ret rfl (A := dA d D ++ rD r R D) pk_ ⟨d, D, r, R, rfl, rfl, hD, newD_ok hD hN1 hN8 hS hos⟩)
theorem rd_ac {cs : List Value} {off n : Nat} {ts : List Ac} (h : (cs.drop off).take (n * 11) = ts.flatMap acC) {k : Nat} {t : Ac} (hk : ts[k]? = some t) : rdv ti37 cs (off + k * 11) = some (.agg #[.int .i64 t.1, .int .i64 t.2.1, .int .i64 t.2.2.1, .int .i64 t.2.2.2.1, .int .u64 (t.2.2.2.2.1 : Int), .int .i64 t.2.2.2.2.2.1, .bool t.2.2.2.2.2.2.1.1, .bool t.2.2.2.2.2.2.1.2.1, .bool t.2.2.2.2.2.2.1.2.2.1, .bool t.2.2.2.2.2.2.1.2.2.2, .bool t.2.2.2.2.2.2.2]) :=
  rd_enc (enc := acC) (sz := 11) (fun _ => rfl) rfl rfl h hk
def playV (D : DS) (ts : List Ac) : DS := ts.foldl actV D
theorem playV_succ (D : DS) {ts : List Ac} {k : Nat} {t : Ac} (h : ts[k]? = some t) : playV D (ts.take (k + 1)) = actV (playV D (ts.take k)) t := by
  have : ts.take (k + 1) = ts.take k ++ [t] := by rw [List.take_add_one, h]; rfl
  rw [this]; simp [playV]
theorem OkD.play {R : RS} : ∀ {ts : List Ac} {D : DS}, OkD R D → OkD R (playV D ts)
  | [], D, h => h
  | x :: r, D, h => OkD.play (ts := r) (h.act x)
set_option maxHeartbeats 4000000 in
theorem played15 (β : Base) {p : Option Addr} {n c : Nat} {ts : List Ac} {A : Atom} (hr : RdS β p n 11 (ts.flatMap acC) A) (hn : n ≤ 9223372036854775807) (hid : ∀ t ∈ ts, acOk t) {a m : Int} (ha0 : 0 ≤ a) (ha1 : a ≤ 255) (hm0 : 0 ≤ m) (hm1 : m ≤ 255) :
    Tri Tryz.prog β 15 [.int .u8 a, .int .u8 m, .slice p n c] [A] (fun v L => ∃ d D R, v = .pointer (some ⟨d, 0, none⟩) ∧ newD D (1 + a % 8).toNat (m % 65).toNat ∧ OkD R D ∧ L = dA d (playV D ts) ++ [A]) := by
  have htl : ts.length = n := by have := hr.1; rw [flatE_len (sz := 11) (fun _ => rfl)] at this; omega
  refine Tri.intro tt_ok Tryz.func15 rfl rfl Tryz.ntmps15 rfl fun F => ?_
  (refine G tt_ok [] ?_; repeat (refine G1 tt_ok [] ?_; intro _))
  (refine ka rfl rfl (both31 β ha0 ha1 hm0 hm1) ?_; rintro _ _ ⟨d, D, r, R, rfl, rfl, hD, ok⟩; refine w_ ?_)
  (refine G tt_ok [] ?_; repeat (refine G1 tt_ok [] ?_; intro _))
  refine CW.loop (α := Nat) (fun k => k ≤ n) (fun k => [(9, .int .i64 k), (8, .pointer (some ⟨r, 0, none⟩)), (7, .pointer (some ⟨d, 0, none⟩)), (2, .slice p n c)])
    (fun k => dA d (playV D (ts.take k)) ++ rD r R (playV D (ts.take k)) ++ [A]) (fun k => n - k) 0 (by omega) ⟨rfl, rfl, rfl, rfl, trivial⟩ pk_ ?_
  intro k hk
  (refine G tt_ok [] ?_; repeat (refine G1 tt_ok [] ?_; intro _))
  by_cases hlt : k < n
  · rw [decide_eq_true (show (k : Int) < n by omega)]
    have hw : IntKind.i64.wrap ((k : Int) + 1) = ((k + 1 : Nat) : Int) := by rw [wrap_i64]; split <;> omega
    obtain ⟨t, ht⟩ : ∃ t, ts[k]? = some t := ⟨_, List.getElem?_eq_getElem (by omega)⟩
    obtain ⟨bs, os, qs, cs, rfl, rfl, hcs⟩ := hr.2.resolve_left (by omega)
    (refine G tt_ok [] ?_; repeat (refine G1 tt_ok [] ?_; intro _))
    refine SQ.idx tt_ok rfl rfl k rfl hlt (o' := os + k * 11) rfl ?_
    (refine SQ.ldA tt_ok rfl rfl (by repeat (first | exact .h | exact .q | apply At.t)) (rd_ac hcs ht) ?_)
    (refine G tt_ok [] ?_; repeat (refine G1 tt_ok [] ?_; intro _))
    refine ke rfl rfl (does33 β d r R (playV D (ts.take k)) ok.play t (hid t (List.mem_of_getElem? ht))) ?_
    (refine G tt_ok [] ?_; repeat (refine G1 tt_ok [] ?_; intro _))
    refine ⟨k + 1, by omega, by omega, ⟨by rw [← hw]; rfl, rfl, rfl, rfl, trivial⟩, ?_⟩
    rw [playV_succ D ht]
    exact pk_
  · rw [decide_eq_false (show ¬ (k : Int) < n by omega)]
    (refine G tt_ok [] ?_; repeat (refine G1 tt_ok [] ?_; intro _))
    refine CW.exit ?_
    (refine G tt_ok [] ?_; repeat (refine G1 tt_ok [] ?_; intro _))
    rw [List.take_of_length_le (by omega)]
    exact CW.ret (fin_ret rfl (A := dA d (playV D ts) ++ [A]) pk_ ⟨d, D, R, rfl, hD, ok, rfl⟩)
end Go.Proofs.YtjphlcfplcacnaaGreat.Sl
namespace Go.Proofs.YtjphlcfplcacnaaGreat.Sl
open Go Go.RowKit Go.Proofs
set_option linter.unusedVariables false
set_option linter.unusedSimpArgs false
attribute [local irreducible] CW Tri OW
set_option maxRecDepth 10000
/-- The example's distributor, on and on. -/
structure Hid where
  sb : Nat
  sq : Option Addr
  sc : Nat
  qc : Option Addr
  cc : Nat
  b1 : Nat
  q1 : Option Addr
  c1 : Nat
  b2 : Nat
  q2 : Option Addr
  c2 : Nat
def aw0 (h : Hid) : DS := ⟨false, false, h.sb, h.sq, h.sc, List.replicate 40 (Br.zeroE.1, (0, false)), h.qc, h.cc, [⟨h.b1, h.q1, h.c1, ownK 16, false⟩, ⟨h.b2, h.q2, h.c2, ownK 16, false⟩]⟩
def aw1 (h : Hid) : DS := ((aw0 h).wrV 0 4 2).1
def aw2 (h : Hid) : DS := ((aw1 h).doV 0 40 1).1
def aw3 (h : Hid) : DS := ((aw2 h).wrV 132 4 256).1
def aw4 (h : Hid) : DS := ((aw3 h).wrV 260 4 256).1
def aw5 (h : Hid) : DS := ((aw4 h).wrV 24896 8 1).1
def aw6 (h : Hid) : DS := ((aw5 h).callV 0 0 50331650).1
theorem aw_a (h : Hid) : (aw0 h).rdV 0 4 = (80, 0) := by kernel_rfl
theorem aw_b (h : Hid) : (aw0 h).rdV 4 4 = (131106, 0) := by kernel_rfl
theorem aw_c (h : Hid) : ((aw0 h).wrV 0 4 2).2 = 0 := by kernel_rfl
theorem aw_d (h : Hid) : ((aw1 h).doV 0 40 1).2 = 0 := by kernel_rfl
theorem aw_e (h : Hid) : ((aw2 h).wrV 132 4 256).2 = 0 := by kernel_rfl
theorem aw_f (h : Hid) : ((aw3 h).wrV 260 4 256).2 = 0 := by kernel_rfl
theorem aw_g (h : Hid) : bestL ((aw4 h).readyV 0) = (40, 0, 1, true) := by kernel_rfl
theorem aw_h (h : Hid) : ((aw4 h).wrV 24896 8 1).2 = 0 := by kernel_rfl
theorem aw_i (h : Hid) : ((aw5 h).callV 0 0 50331650).2 = (1, 0) := by kernel_rfl
theorem aw_j (h : Hid) : (bestL ((aw6 h).readyV 0)).2.2.2 = false := by kernel_rfl
theorem aw_k (h : Hid) : (bestL ((aw6 h).readyV 1)).1 = 40 := by kernel_rfl
def aR : RS := ⟨⟨0, none, 0, none, 0⟩, none, 0, none, 0, none, 0, none, 0, [⟨0, none, 0, none, 0⟩, ⟨0, none, 0, none, 0⟩]⟩
theorem aw_ok (h : Hid) : OkD aR (aw0 h) := newD_ok (n := 2) (s := 40) ⟨rfl, rfl, rfl, rfl, fun x hx => by
  simp only [aw0, List.mem_cons, List.not_mem_nil, or_false] at hx
  rcases hx with rfl | rfl <;> exact ⟨rfl, rfl⟩⟩ (by omega) (by omega) (by omega) rfl
theorem aw_ok1 (h : Hid) : OkD aR (aw1 h) := (aw_ok h).wrV _ _ _
theorem aw_ok2 (h : Hid) : OkD aR (aw2 h) := (aw_ok1 h).doV _ _ _
theorem aw_ok3 (h : Hid) : OkD aR (aw3 h) := (aw_ok2 h).wrV _ _ _
theorem aw_ok4 (h : Hid) : OkD aR (aw4 h) := (aw_ok3 h).wrV _ _ _
theorem aw_ok5 (h : Hid) : OkD aR (aw5 h) := (aw_ok4 h).wrV _ _ _
theorem aw_ok6 (h : Hid) : OkD aR (aw6 h) := (aw_ok5 h).callV _ _ _
theorem aw_1 (h : Hid) : ((aw0 h).wrV 0 4 2).1 = aw1 h := rfl
theorem aw_2 (h : Hid) : ((aw1 h).doV 0 40 1).1 = aw2 h := rfl
theorem aw_3 (h : Hid) : ((aw2 h).wrV 132 4 256).1 = aw3 h := rfl
theorem aw_4 (h : Hid) : ((aw3 h).wrV 260 4 256).1 = aw4 h := rfl
theorem aw_5 (h : Hid) : ((aw4 h).wrV 24896 8 1).1 = aw5 h := rfl
theorem aw_6 (h : Hid) : ((aw5 h).callV 0 0 50331650).1 = aw6 h := rfl
theorem newD_2 {D : DS} (h : newD D 2 40) : ∃ x, D = aw0 x := by
  obtain ⟨o0, o1, sb, sq, sc, sh, qc, cc, xs⟩ := D
  obtain ⟨a, b, c, d, e⟩ := h
  simp only at a b c d e
  subst a; subst b; subst c
  match xs, d with
  | [⟨b1, q1, c1, es1, sl1⟩, ⟨b2, q2, c2, es2, sl2⟩], _ =>
    obtain ⟨f1, f2⟩ := e _ (by simp : (⟨b1, q1, c1, es1, sl1⟩ : CR) ∈ _)
    obtain ⟨g1, g2⟩ := e ⟨b2, q2, c2, es2, sl2⟩ (by simp)
    simp only at f1 f2 g1 g2
    subst f1; subst f2; subst g1; subst g2
    exact ⟨⟨sb, sq, sc, qc, cc, b1, q1, c1, b2, q2, c2⟩, rfl⟩
theorem wrIs (β : Base) (d : Nat) (D E : DS) (off w : Int) (v : Nat) (hv : v < 2 ^ 64) (he : (D.wrV off w v).2 = 0) (h1 : (D.wrV off w v).1 = E) : Tri Tryz.prog β 32 [.pointer (some ⟨d, 0, none⟩), .int .i64 off, .int .i64 w, .int .u64 v] (dA d D) (fun u L => u = .int .i64 0 ∧ L = dA d E) := by
  have := write32 β d D off w v hv
  rw [he, h1] at this; exact this
theorem rdIs (β : Base) (d : Nat) (D : DS) (ok : OkD aR D) (off w z : Int) (h : D.rdV off w = (z, 0)) : Tri Tryz.prog β 34 [.pointer (some ⟨d, 0, none⟩), .int .i64 off, .int .i64 w] (dA d D) (fun u L => u = .tuple #[.int .u64 z, .int .i64 0] ∧ L = dA d D) := by
  have := read34 β d D ok.one ok.x8 ok.sh ok.rt off w
  rw [h] at this; exact this
theorem seen_gr {R : RS} {D : DS} (ok : OkD R D) (k : Int) : ∀ p ∈ D.seenV k, 0 ≤ p.2.2.2.1 ∧ p.2.2.2.1 ≤ 1 := fun p hp => (seenV_get ok.es ok.ok hp).2
theorem bestIs (β : Base) (d : Nat) (R : RS) (D : DS) (ok : OkD R D) (k : Int) : Tri Tryz.prog β 20 [.pointer (some ⟨d, 0, none⟩), .int .i64 k] (dA d D) (fun v L => v = .agg #[.int .i64 (bestL (D.readyV k)).1, .int .i64 (bestL (D.readyV k)).2.1, .int .i64 (bestL (D.readyV k)).2.2.1, .bool (bestL (D.readyV k)).2.2.2] ∧ L = dA d D) :=
  best20 β d D k ok.x8 ok.sh (fun x hx => (ok.es x hx).1) (seen_gr ok k)
theorem wireIs (β : Base) (d : Nat) (D E : DS) (h2 : (D.doV 0 40 1).2 = 0) (h1 : (D.doV 0 40 1).1 = E) : Tri Tryz.prog β 35 [.pointer (some ⟨d, 0, none⟩), .int .i64 0, .int .i64 40, .bool true] (dA d D) (fun v L => v = .int .i64 0 ∧ L = dA d E) := by
  have : Tri Tryz.prog β 35 [.pointer (some ⟨d, 0, none⟩), .int .i64 0, .int .i64 40, .bool true] (dA d D) (fun v L => v = .int .i64 (D.doV 0 40 1).2 ∧ L = dA d (D.doV 0 40 1).1) := wire35 β d D 0 40 true (by omega)
  rw [h2, h1] at this; exact this
theorem callIs (β : Base) (d : Nat) (D E : DS) (v : Nat) (hv : v < 2 ^ 64) (ok : OkD aR D) (h2 : (D.callV 0 0 v).2 = (1, 0)) (h1 : (D.callV 0 0 v).1 = E) : Tri Tryz.prog β 25 [.pointer (some ⟨d, 0, none⟩), .int .i64 0, .int .i64 0, .int .u64 v] (dA d D) (fun u L => u = .tuple #[.int .i64 1, .int .i64 0] ∧ L = dA d E) := by
  have := call25 β d D 0 0 v hv ok.x8
  rw [h2, h1] at this; exact this
attribute [local irreducible] aw0 aw1 aw2 aw3 aw4 aw5 aw6
set_option maxHeartbeats 4000000 in
theorem awake10 (β : Base) : Tri Tryz.prog β 10 [] [] (fun v L => v = .bool true ∧ L = []) := by
  refine Tri.intro tt_ok Tryz.func10 rfl rfl Tryz.ntmps10 rfl fun F => ?_
  (refine G tt_ok [] ?_; repeat (refine G1 tt_ok [] ?_; intro _))
  (refine ka rfl rfl (new11' β (n := 2) (s := 40) (by omega) (by omega) (by omega)) ?_; rintro _ _ ⟨d, D, rfl, rfl, hD⟩; refine w_ ?_)
  obtain ⟨h, rfl⟩ := newD_2 hD
  (refine G tt_ok [] ?_; repeat (refine G1 tt_ok [] ?_; intro _))
  refine ke rfl rfl (rdIs β d (aw0 h) (aw_ok h) 0 4 80 (aw_a h)) ?_
  (refine G tt_ok [] ?_; repeat (refine G1 tt_ok [] ?_; intro _))
  refine ke rfl rfl (rdIs β d (aw0 h) (aw_ok h) 4 4 131106 (aw_b h)) ?_
  (refine G tt_ok [] ?_; repeat (refine G1 tt_ok [] ?_; intro _))
  refine ke rfl rfl (wrIs β d (aw0 h) (aw1 h) 0 4 2 (by decide) (aw_c h) (aw_1 h)) ?_
  (refine G tt_ok [] ?_; repeat (refine G1 tt_ok [] ?_; intro _))
  refine ke rfl rfl (wireIs β d (aw1 h) (aw2 h) (aw_d h) (aw_2 h)) ?_
  (refine G tt_ok [] ?_; repeat (refine G1 tt_ok [] ?_; intro _))
  refine ke rfl rfl (wrIs β d (aw2 h) (aw3 h) 132 4 256 (by decide) (aw_e h) (aw_3 h)) ?_
  (refine G tt_ok [] ?_; repeat (refine G1 tt_ok [] ?_; intro _))
  refine ke rfl rfl (wrIs β d (aw3 h) (aw4 h) 260 4 256 (by decide) (aw_f h) (aw_4 h)) ?_
  (refine G tt_ok [] ?_; repeat (refine G1 tt_ok [] ?_; intro _))
  refine ke rfl rfl (bestIs β d aR (aw4 h) (aw_ok4 h) 0) ?_
  rw [aw_g h]
  (refine G tt_ok [] ?_; repeat (refine G1 tt_ok [] ?_; intro _))
  refine ke rfl rfl (wrIs β d (aw4 h) (aw5 h) 24896 8 1 (by decide) (aw_h h) (aw_5 h)) ?_
  (refine G tt_ok [] ?_; repeat (refine G1 tt_ok [] ?_; intro _))
  refine ke rfl rfl (callIs β d (aw5 h) (aw6 h) 50331650 (by decide) (aw_ok5 h) (aw_i h) (aw_6 h)) ?_
  (refine G tt_ok [] ?_; repeat (refine G1 tt_ok [] ?_; intro _))
  simp only
  (refine SQ.eqs' tt_ok rfl rfl rfl (by kernel_rfl) (by kernel_rfl) true (by simp) ?_)
  (refine G tt_ok [] ?_; repeat (refine G1 tt_ok [] ?_; intro _))
  refine ke rfl rfl (bestIs β d aR (aw6 h) (aw_ok6 h) 0) ?_
  rw [aw_j h]
  (refine G tt_ok [] ?_; repeat (refine G1 tt_ok [] ?_; intro _))
  refine ke rfl rfl (bestIs β d aR (aw6 h) (aw_ok6 h) 1) ?_
  rw [aw_k h]
  (refine G tt_ok [] ?_; repeat (refine G1 tt_ok [] ?_; intro _))
  exact CW.ret (fin_ret rfl (Ent.dropAll _) ⟨rfl, rfl⟩)
end Go.Proofs.YtjphlcfplcacnaaGreat.Sl
namespace Go.Proofs.YtjphlcfplcacnaaGreat.Sl
open Go Go.RowKit Go.Proofs
set_option linter.unusedVariables false
set_option linter.unusedSimpArgs false
attribute [local irreducible] CW Tri OW
set_option maxRecDepth 10000
theorem getV_own {D : DS} {k id : Int} {x : CR} (hr : rightV D.xs.length k = true) (hx : D.xs[k.toNat]? = some x) (h : id < 32) : D.getV k id = ((Bn.getV 0 x.es id).1.1, (Bn.getV 0 x.es id).2) := by
  unfold DS.getV; rw [if_pos hr, if_pos h, hx]
theorem getV_sh {D : DS} {k id : Int} (hr : rightV D.xs.length k = true) (h : ¬ id < 32) : D.getV k id = ((Br.getV 32 D.sh id).1.1, (Br.getV 32 D.sh id).2) := by
  unfold DS.getV; rw [if_pos hr, if_neg h]
theorem doV_getN (es : List Bn.En) (id a : Int) : (Bn.getV 0 (Bn.doV 0 es id a).1 id).2 = (Bn.doV 0 es id a).2 ∧ (Bn.getV 0 es id).2 = (Bn.doV 0 es id a).2 := by
  unfold Bn.doV
  cases ha : Bn.atE 0 es id with
  | none => simp only; constructor <;> (unfold Bn.getV; rw [ha])
  | some e =>
    simp only
    have he := ha
    obtain ⟨i, hi, hie⟩ := Bn.atE_iff.1 ha
    have hi2 : (id - 0).toNat = i := by omega
    constructor
    · unfold Bn.getV
      rw [hi2, Bn.atE_iff.2 ⟨i, hi, List.getElem?_set_self (List.getElem?_eq_some_iff.1 hie).1⟩]
    · unfold Bn.getV; rw [ha]
theorem doV_getR (es : List Br.En) (id a : Int) : (Br.getV 32 (Br.doV 32 es id a).1 id).2 = (Br.doV 32 es id a).2 ∧ (Br.getV 32 es id).2 = (Br.doV 32 es id a).2 := by
  unfold Br.doV
  cases ha : Br.atE 32 es id with
  | none => simp only; constructor <;> (unfold Br.getV; rw [ha])
  | some e =>
    simp only
    obtain ⟨i, hi, hie⟩ := Br.atE_iff.1 ha
    have hi2 : (id - 32).toNat = i := by omega
    constructor
    · unfold Br.getV
      rw [hi2, Br.atE_iff.2 ⟨i, hi, List.getElem?_set_self (List.getElem?_eq_some_iff.1 hie).1⟩]
    · unfold Br.getV; rw [ha]
theorem getV_wrong {D : DS} {k : Int} (h : rightV D.xs.length k = false) (id : Int) : D.getV k id = (zeroL, 130) := by unfold DS.getV; rw [h]; rfl
theorem apart {D : DS} {k K id a : Int} (hk : rightV D.xs.length k = true) : (D.getV k id).2 = ((D.doV K id a).1.getV k id).2 ∧ (D.doV K id a).2 = ((D.doV K id a).1.getV K id).2 ∧
    (¬ id < 32 → (D.doV K id a).2 = 0 → ((D.doV K id a).1.getV K id).1 = ((D.doV K id a).1.getV k id).1) ∧ (id < 32 → k ≠ K → (D.getV k id).1 = ((D.doV K id a).1.getV k id).1) := by
  obtain ⟨y, hy, hyl, hkk⟩ := right_at hk
  cases hK : rightV D.xs.length K with
  | false =>
    have e : D.doV K id a = (D, 130) := by unfold DS.doV; rw [hK]; rfl
    rw [e]
    exact ⟨rfl, by rw [getV_wrong hK], fun _ h => by simp at h, fun _ _ => rfl⟩
  | true =>
    obtain ⟨x, hx, hxl, hKK⟩ := right_at hK
    by_cases h32 : id < 32
    · have e : D.doV K id a = ({ D with xs := D.xs.set K.toNat { x with es := (Bn.doV 0 x.es id a).1 } }, (Bn.doV 0 x.es id a).2) := by unfold DS.doV; rw [if_pos hK, if_pos h32, hx]
      rw [e]
      have hK2 : rightV (D.xs.set K.toNat { x with es := (Bn.doV 0 x.es id a).1 }).length K = true := by simpa using hK
      have hk2 : rightV (D.xs.set K.toNat { x with es := (Bn.doV 0 x.es id a).1 }).length k = true := by simpa using hk
      have e2 := getV_own (D := { D with xs := D.xs.set K.toNat { x with es := (Bn.doV 0 x.es id a).1 } }) hK2 (List.getElem?_set_self hxl) h32
      simp only at e2 ⊢
      by_cases hkK : k = K
      · subst hkK
        rw [e2, getV_own hk hx h32]
        exact ⟨by rw [(doV_getN _ _ _).2, (doV_getN _ _ _).1], (doV_getN _ _ _).1.symm, fun h => absurd h32 h, fun _ h => absurd rfl h⟩
      · have e3 := getV_own (D := { D with xs := D.xs.set K.toNat { x with es := (Bn.doV 0 x.es id a).1 } }) hk2 (x := y) (by simp only; rw [List.getElem?_set_ne (by omega)]; exact hy) h32
        rw [e2, e3, getV_own hk hy h32]
        exact ⟨rfl, (doV_getN _ _ _).1.symm, fun h => absurd h32 h, fun _ _ => rfl⟩
    · have e : D.doV K id a = ({ D with sh := (Br.doV 32 D.sh id a).1 }, (Br.doV 32 D.sh id a).2) := by unfold DS.doV; rw [if_pos hK, if_neg h32]
      rw [e]
      simp only
      rw [getV_sh (D := { D with sh := (Br.doV 32 D.sh id a).1 }) (k := k) hk h32, getV_sh (D := { D with sh := (Br.doV 32 D.sh id a).1 }) (k := K) hK h32, getV_sh hk h32]
      exact ⟨by rw [(doV_getR _ _ _).2, (doV_getR _ _ _).1], (doV_getR _ _ _).1.symm, fun _ _ => rfl, fun h => absurd h h32⟩
theorem mod_core {a : Int} {n : Nat} (h0 : 0 ≤ a) (h1 : a ≤ 255) (hn : 1 ≤ n) (hn8 : n ≤ 8) : a.tmod n = (((a % n).toNat : Nat) : Int) ∧ rightV n (a % n) = true := by
  have h2 := Int.emod_nonneg a (show (n : Int) ≠ 0 by omega)
  have h3 := Int.emod_lt_of_pos a (show (0 : Int) < n by omega)
  refine ⟨by rw [Int.tmod_eq_emod_of_nonneg h0]; omega, by simp [rightV]; omega⟩
set_option maxHeartbeats 8000000 in
theorem law_apart (β : Base) {p : Option Addr} {n c : Nat} {ts : List Ac} {A : Atom} (hr : RdS β p n 11 (ts.flatMap acC) A) (hn : n ≤ 9223372036854775807) (hid : ∀ t ∈ ts, acOk t) {a m o : Int} (ha0 : 0 ≤ a) (ha1 : a ≤ 255) (hm0 : 0 ≤ m) (hm1 : m ≤ 255) (x : Ac) (hx : acOk x) (ho0 : 0 ≤ o) (ho1 : o ≤ 255) :
    Tri Tryz.prog β 6 [.int .u8 a, .int .u8 m, .slice p n c, .agg #[.int .i64 x.1, .int .i64 x.2.1, .int .i64 x.2.2.1, .int .i64 x.2.2.2.1, .int .u64 (x.2.2.2.2.1 : Int), .int .i64 x.2.2.2.2.2.1, .bool x.2.2.2.2.2.2.1.1, .bool x.2.2.2.2.2.2.1.2.1, .bool x.2.2.2.2.2.2.1.2.2.1, .bool x.2.2.2.2.2.2.1.2.2.2, .bool x.2.2.2.2.2.2.2], .int .u8 o] [A] (fun v L => v = .bool true ∧ L = []) := by
  obtain ⟨x0, x1, K, id, x4, ac, x6, x7⟩ := x
  obtain ⟨hid2, hv⟩ := hx
  simp only at hid2 hv ⊢
  refine Tri.intro tt_ok Tryz.func6 rfl rfl Tryz.ntmps6 rfl fun F => ?_
  (refine G tt_ok [] ?_; repeat (refine G1 tt_ok [] ?_; intro _))
  refine ke rfl rfl (awake10 β) ?_
  (refine G tt_ok [] ?_; repeat (refine G1 tt_ok [] ?_; intro _))
  (refine ka rfl rfl (played15 β hr hn hid ha0 ha1 hm0 hm1) ?_; rintro _ _ ⟨d, D0, R, rfl, hD, ok0, rfl⟩; refine w_ ?_)
  have ok : OkD R (playV D0 ts) := ok0.play
  generalize playV D0 ts = D at ok ⊢
  (refine G tt_ok [] ?_; repeat (refine G1 tt_ok [] ?_; intro _))
  refine ke rfl rfl (cores16 β d _ _ _ D.qc D.xs.length D.cc) ?_
  (refine G tt_ok [] ?_; repeat (refine G1 tt_ok [] ?_; intro _))
  have h1 := ok.one
  obtain ⟨hmd, hcr⟩ := mod_core ho0 ho1 ok.one ok.x8
  rw [show (if (1 : Int) < (D.xs.length : Int) then (D.xs.length : Int) else 1) = D.xs.length by split <;> omega, wrap_id (show -9223372036854775808 ≤ o by omega) (by omega)]
  refine SQ.div tt_ok rfl rfl (by omega) (v := (((o % (D.xs.length : Int)).toNat : Nat) : Int)) hmd ?_
  have hcr2 : rightV D.xs.length (((o % (D.xs.length : Int)).toNat : Nat) : Int) = true := by have := Int.emod_nonneg o (show (D.xs.length : Int) ≠ 0 by omega); rw [show (((o % (D.xs.length : Int)).toNat : Nat) : Int) = o % (D.xs.length : Int) by omega]; exact hcr
  generalize (o % (D.xs.length : Int)).toNat = k at hcr2 ⊢
  obtain ⟨p1, p2, p3, p4⟩ := apart (D := D) (k := (k : Int)) (K := K) (id := id) (a := ac) hcr2
  (refine G tt_ok [] ?_; repeat (refine G1 tt_ok [] ?_; intro _))
  refine ke rfl rfl (get21' β d D k id hid2) ?_
  (refine G tt_ok [] ?_; repeat (refine G1 tt_ok [] ?_; intro _))
  refine ke rfl rfl (do23 β d D K id ac hid2) ?_
  (refine G tt_ok [] ?_; repeat (refine G1 tt_ok [] ?_; intro _))
  generalize hD' : D.doV K id ac = DD at p1 p2 p3 p4 ⊢
  obtain ⟨E, f⟩ := DD
  simp only at p1 p2 p3 p4 ⊢
  refine ke rfl rfl (get21' β d E k id hid2) ?_
  (refine G tt_ok [] ?_; repeat (refine G1 tt_ok [] ?_; intro _))
  refine ke rfl rfl (get21' β d E K id hid2) ?_
  (refine G tt_ok [] ?_; repeat (refine G1 tt_ok [] ?_; intro _))
  rw [p1, show ((E.getV (k : Int) id).2 != (E.getV (k : Int) id).2) = false by simp]
  (refine G tt_ok [] ?_; repeat (refine G1 tt_ok [] ?_; intro _))
  rw [p2, show ((E.getV K id).2 != (E.getV K id).2) = false by simp]
  (refine G tt_ok [] ?_; repeat (refine G1 tt_ok [] ?_; intro _))
  by_cases h32 : id < 32
  · rw [decide_eq_false (show ¬ id ≥ 32 by omega)]
    (refine G tt_ok [] ?_; repeat (refine G1 tt_ok [] ?_; intro _))
    by_cases hkK : (k : Int) = K
    · subst hkK
      rw [show ((k : Int) == (k : Int)) = true by simp]
      (refine G tt_ok [] ?_; repeat (refine G1 tt_ok [] ?_; intro _))
      exact CW.ret (fin_ret rfl (Ent.dropAll _) ⟨rfl, rfl⟩)
    · rw [show ((k : Int) == K) = false by simp [hkK], p4 h32 hkK]
      (refine G tt_ok [] ?_; repeat (refine G1 tt_ok [] ?_; intro _))
      refine SQ.eqn tt_ok [53, 35] ⟨by kernel_rfl, by kernel_rfl, trivial⟩ rfl rfl (by kernel_rfl) true (by simp) ?_
      (refine G tt_ok [] ?_; repeat (refine G1 tt_ok [] ?_; intro _))
      exact CW.ret (fin_ret rfl (Ent.dropAll _) ⟨rfl, rfl⟩)
  · rw [decide_eq_true (show id ≥ 32 by omega)]
    (refine G tt_ok [] ?_; repeat (refine G1 tt_ok [] ?_; intro _))
    by_cases hf : f = 0
    · rw [show (E.getV K id).2 = 0 from p2 ▸ hf, p3 h32 hf]
      (refine G tt_ok [] ?_; repeat (refine G1 tt_ok [] ?_; intro _))
      refine SQ.eqn tt_ok [53, 35] ⟨by kernel_rfl, by kernel_rfl, trivial⟩ rfl rfl (by kernel_rfl) true (by simp) ?_
      (refine G tt_ok [] ?_; repeat (refine G1 tt_ok [] ?_; intro _))
      exact CW.ret (fin_ret rfl (Ent.dropAll _) ⟨rfl, rfl⟩)
    · rw [show ((E.getV K id).2 != 0) = true by rw [← p2]; simp [hf]]
      (refine G tt_ok [] ?_; repeat (refine G1 tt_ok [] ?_; intro _))
      exact CW.ret (fin_ret rfl (Ent.dropAll _) ⟨rfl, rfl⟩)
end Go.Proofs.YtjphlcfplcacnaaGreat.Sl
namespace Go.Proofs.YtjphlcfplcacnaaGreat.Sl
open Go Go.RowKit Go.Proofs
set_option linter.unusedVariables false
set_option linter.unusedSimpArgs false
attribute [local irreducible] CW Tri OW
set_option maxRecDepth 10000
theorem ready_len {R : RS} {D : DS} (ok : OkD R D) (k : Int) : (D.readyV k).length ≤ 400 := by
  have := readyV_len D k
  have := seenV_len (k := k) ok.es
  have := ok.sh
  omega
theorem iterR (β : Base) (d b2 b3 : Nat) {R : RS} {D : DS} (ok : OkD R D) (k : Int) :
    Iter Tryz.prog β 51 [.pointer (some ⟨b2, 0, none⟩), .pointer (some ⟨b3, 0, none⟩)] ([pt b2 [.pointer (some ⟨d, 0, none⟩)], pt b3 [.int .i64 k]] ++ dA d D) ilC (D.readyV k) :=
  iter51 β d b2 b3 D k ok.x8 ok.sh (fun x hx => (ok.es x hx).1) (seen_gr ok k)
theorem iterS (β : Base) (d b2 b3 : Nat) {R : RS} {D : DS} (ok : OkD R D) (k : Int) :
    Iter Tryz.prog β 63 [.pointer (some ⟨b2, 0, none⟩), .pointer (some ⟨b3, 0, none⟩)] ([pt b2 [.pointer (some ⟨d, 0, none⟩)], pt b3 [.int .i64 k]] ++ dA d D) ilC (D.seenV k) :=
  iter63 β d b2 b3 D k ok.x8 ok.sh (fun x hx => (ok.es x hx).1)
def DS.slp (D : DS) (k : Nat) (x : CR) (b : Bool) : DS := { D with xs := D.xs.set k { x with sl := b } }
theorem wr_waker {D : DS} {k : Int} {x : CR} (hr : rightV D.xs.length k = true) (hx : D.xs[k.toNat]? = some x) (f c : Int) (v : Nat) : (D.wrOwnV k 3 f c v).1 = D.slp k.toNat x (decide (v / 2 % 2 = 1)) := by
  unfold DS.wrOwnV; rw [if_pos hr, hx]; rfl
theorem slp_slp {D : DS} {k : Int} {x : CR} (a b : Bool) (hr : rightV D.xs.length k = true) (hx : D.xs[k.toNat]? = some x) (hl : k.toNat < D.xs.length) (f c : Int) (v : Nat) (hv : decide (v / 2 % 2 = 1) = b) : ((D.slp k.toNat x a).wrOwnV k 3 f c v).1 = D.slp k.toNat x b := by
  have h1 : (D.slp k.toNat x a).xs[k.toNat]? = some { x with sl := a } := List.getElem?_set_self hl
  rw [wr_waker (by simpa [DS.slp] using hr) h1, hv]
  unfold DS.slp
  simp only [List.set_set]
theorem slp_ok {R : RS} {D : DS} (ok : OkD R D) {k : Nat} {x : CR} (hx : D.xs[k]? = some x) (b : Bool) : OkD R (D.slp k x b) := ok.set_x (ok.es x (List.mem_of_getElem? hx))
set_option maxHeartbeats 8000000 in
theorem law_wakes (β : Base) {p : Option Addr} {n c : Nat} {ts : List Ac} {A : Atom} (hr : RdS β p n 11 (ts.flatMap acC) A) (hn : n ≤ 9223372036854775807) (hid : ∀ t ∈ ts, acOk t) {a o : Int} (ha0 : 0 ≤ a) (ha1 : a ≤ 255) (ho0 : 0 ≤ o) (ho1 : o ≤ 255) :
    Tri Tryz.prog β 8 [.int .u8 a, .slice p n c, .int .u8 o] [A] (fun v L => v = .bool true ∧ L = []) := by
  refine Tri.intro tt_ok Tryz.func8 rfl rfl Tryz.ntmps8 rfl fun F => ?_
  (refine G tt_ok [] ?_; repeat (refine G1 tt_ok [] ?_; intro _))
  refine ke rfl rfl (awake10 β) ?_
  (refine G tt_ok [] ?_; repeat (refine G1 tt_ok [] ?_; intro _))
  (refine ka rfl rfl (played15 β hr hn hid ha0 ha1 (m := 0) (by omega) (by omega)) ?_; rintro _ _ ⟨d, D0, R, rfl, hD, ok0, rfl⟩; refine w_ ?_)
  have ok : OkD R (playV D0 ts) := ok0.play
  generalize playV D0 ts = D at ok ⊢
  (refine G tt_ok [] ?_; repeat (refine G1 tt_ok [] ?_; intro _))
  refine ke rfl rfl (cores16 β d _ _ _ D.qc D.xs.length D.cc) ?_
  (refine G tt_ok [] ?_; repeat (refine G1 tt_ok [] ?_; intro _))
  have h1 := ok.one
  obtain ⟨hmd, hcr⟩ := mod_core ho0 ho1 ok.one ok.x8
  rw [show (if (1 : Int) < (D.xs.length : Int) then (D.xs.length : Int) else 1) = D.xs.length by split <;> omega, wrap_id (show -9223372036854775808 ≤ o by omega) (by omega)]
  refine SQ.div tt_ok rfl rfl (by omega) (v := (((o % (D.xs.length : Int)).toNat : Nat) : Int)) hmd ?_
  have hcr2 : rightV D.xs.length (((o % (D.xs.length : Int)).toNat : Nat) : Int) = true := by have := Int.emod_nonneg o (show (D.xs.length : Int) ≠ 0 by omega); rw [show (((o % (D.xs.length : Int)).toNat : Nat) : Int) = o % (D.xs.length : Int) by omega]; exact hcr
  generalize (o % (D.xs.length : Int)).toNat = k at hcr2 ⊢
  obtain ⟨x, hx, hxl, hkk⟩ := right_at hcr2
  have w1 := wr_waker hcr2 hx 0 0 0
  have w2 := slp_slp false true hcr2 hx hxl 0 0 2 rfl
  have w3 := slp_slp true false hcr2 hx hxl 0 0 0 rfl
  have ok1 := slp_ok ok hx false
  have ok2 := slp_ok ok hx true
  simp only [Int.toNat_natCast] at hx hxl w1 w2 w3 ok1 ok2
  rw [show decide (0 / 2 % 2 = 1) = false from rfl] at w1
  have hr2 : rightV (D.slp k x true).xs.length k = true := by simpa [DS.slp] using hcr2
  have hx2 : (D.slp k x true).xs[k]? = some { x with sl := true } := List.getElem?_set_self hxl
  have r2 : (D.slp k x true).readyV k = [] := by
    have hs : asleepV (D.slp k x true).xs k = true := by unfold asleepV; rw [if_pos hr2]; simp only [Int.toNat_natCast]; rw [hx2]
    unfold DS.readyV; rw [hs]; rfl
  have e6 : (D.slp k x true).rdOwnV k 3 0 0 = (6, 0) := by
    unfold DS.rdOwnV; rw [if_pos hr2]; simp only [Int.toNat_natCast]; rw [hx2]; rfl
  (refine G tt_ok [] ?_; repeat (refine G1 tt_ok [] ?_; intro _))
  have W1 := wrOwn27 β d D k 3 0 0 0 (by decide)
  rw [w1] at W1
  refine ke rfl rfl (W1) ?_
  (refine G tt_ok [] ?_; repeat (refine G1 tt_ok [] ?_; intro _))
  generalize D.slp k x false = D1 at W1 w2 w3 ok1 ⊢
  generalize D.slp k x true = D2 at w2 w3 ok2 r2 e6 hr2 hx2 ⊢
  (refine ka rfl rfl (ready17 β d k) ?_; rintro _ _ ⟨b2, b3, rfl, rfl⟩; refine w_ ?_)
  (refine G tt_ok [] ?_; repeat (refine G1 tt_ok [] ?_; intro _))
  (refine ka rfl rfl (ids28 β (iterR β d b2 b3 ok1 k) (ready_len ok1 k)) ?_; rintro _ _ ⟨q1, c1, rfl, rfl⟩; refine w_ ?_)
  (refine G tt_ok [] ?_; repeat (refine G1 tt_ok [] ?_; intro _))
  have W2 := wrOwn27 β d D1 k 3 0 0 2 (by decide)
  rw [w2] at W2
  refine ke rfl rfl (W2) ?_
  (refine G tt_ok [] ?_; repeat (refine G1 tt_ok [] ?_; intro _))
  have R2 := rdOwn29 β d D2 k 3 0 0
  rw [e6] at R2
  refine ke rfl rfl (R2) ?_
  (refine G tt_ok [] ?_; repeat (refine G1 tt_ok [] ?_; intro _))
  (refine ka rfl rfl (ready17 β d k) ?_; rintro _ _ ⟨b4, b5, rfl, rfl⟩; refine w_ ?_)
  (refine G tt_ok [] ?_; repeat (refine G1 tt_ok [] ?_; intro _))
  (refine ka rfl rfl (ids28 β (iterR β d b4 b5 ok2 k) (ready_len ok2 k)) ?_; rintro _ _ ⟨q2, c2, rfl, rfl⟩; refine w_ ?_)
  rw [r2]
  (refine G tt_ok [] ?_; repeat (refine G1 tt_ok [] ?_; intro _))
  have W3 := wrOwn27 β d D2 k 3 0 0 0 (by decide)
  rw [w3] at W3
  refine ke rfl rfl (W3) ?_
  (refine G tt_ok [] ?_; repeat (refine G1 tt_ok [] ?_; intro _))
  (refine ka rfl rfl (ready17 β d k) ?_; rintro _ _ ⟨b6, b7, rfl, rfl⟩; refine w_ ?_)
  (refine G tt_ok [] ?_; repeat (refine G1 tt_ok [] ?_; intro _))
  (refine ka rfl rfl (ids28 β (iterR β d b6 b7 ok1 k) (ready_len ok1 k)) ?_; rintro _ _ ⟨q3, c3, rfl, rfl⟩; refine w_ ?_)
  (refine G tt_ok [] ?_; repeat (refine G1 tt_ok [] ?_; intro _))
  refine ke rfl rfl (same30 β (l := (D1.readyV k).map (·.1)) (n := (D1.readyV k).length) (by simp) (by have := ready_len ok1 k; omega)) ?_
  (refine G tt_ok [] ?_; repeat (refine G1 tt_ok [] ?_; intro _))
  exact CW.ret (fin_ret rfl (Ent.dropAll _) ⟨rfl, rfl⟩)
end Go.Proofs.YtjphlcfplcacnaaGreat.Sl
namespace Go.Proofs.YtjphlcfplcacnaaGreat.Sl
open Go Go.RowKit Go.Proofs
set_option linter.unusedVariables false
set_option linter.unusedSimpArgs false
attribute [local irreducible] CW Tri OW
set_option maxRecDepth 10000
theorem before_false {p i q j : Int} : beforeV p i q j = false ↔ ¬ p < q ∧ ¬ (p = q ∧ i < j) := by
  unfold beforeV
  by_cases h : p = q
  · subst h; simp
  · simp [h]
theorem bestL_snoc (l : List (Int × Ln)) (p : Int × Ln) : bestL (l ++ [p]) = bestS (bestL l) p := by unfold bestL; rw [List.foldl_append]; rfl
theorem best_spec : ∀ (n : Nat) (l : List (Int × Ln)), l.length = n → ((bestL l).2.2.2 = decide (l ≠ [])) ∧ (∀ p ∈ l, beforeV p.2.2.2.2 p.1 (bestL l).2.1 (bestL l).1 = false) ∧ (l ≠ [] → ∃ p ∈ l, bestL l = (p.1, p.2.2.2.2, p.2.2.2.1, true))
  | 0, l, h => by
    obtain rfl := List.length_eq_zero_iff.1 h
    exact ⟨rfl, fun _ h => by simp at h, fun h => absurd rfl h⟩
  | n + 1, l, h => by
    obtain ⟨l, p, rfl⟩ : ∃ l' p, l = l' ++ [p] := ⟨l.dropLast, l.getLast (by intro e; rw [e] at h; simp at h), (List.dropLast_concat_getLast _).symm⟩
    obtain ⟨i1, i2, i3⟩ := best_spec n l (by simpa using h)
    rw [bestL_snoc]
    generalize bestL l = c at i1 i2 i3 ⊢
    obtain ⟨ci, cp, cg, cis⟩ := c
    simp only at i1 i2 i3
    unfold bestS
    simp only
    by_cases hb : (!cis || beforeV p.2.2.2.2 p.1 cp ci) = true
    · rw [if_pos hb]
      refine ⟨by simp, fun q hq => ?_, fun _ => ⟨p, by simp, rfl⟩⟩
      rcases List.mem_append.1 hq with h2 | h2
      · simp only
        have h3 := before_false.1 (i2 q h2)
        have hne : l ≠ [] := fun e => by rw [e] at h2; simp at h2
        rw [i1] at hb
        simp [hne] at hb
        rw [before_false]
        have h4 : ¬ (¬ p.2.2.2.2 < cp ∧ ¬ (p.2.2.2.2 = cp ∧ p.1 < ci)) := fun h => by rw [before_false.2 h] at hb; cases hb
        refine ⟨fun h5 => h4 ⟨by omega, by omega⟩, fun h5 => h4 ⟨by omega, by omega⟩⟩
      · rw [List.mem_singleton.1 h2, before_false]; simp only; omega
    · rw [if_neg hb]
      simp at hb
      rw [hb.1] at i1
      have hne : l ≠ [] := by simpa using i1
      refine ⟨by simp [hb.1], fun q hq => ?_, fun _ => ?_⟩
      · rcases List.mem_append.1 hq with h2 | h2
        · exact i2 q h2
        · rw [List.mem_singleton.1 h2]; exact hb.2
      · obtain ⟨q, hq, e⟩ := i3 hne
        exact ⟨q, by simp [hq], e⟩
theorem ready_take {D : DS} {k : Int} {p : Int × Ln} (h : p ∈ D.readyV k) : p.2.2.1 = true ∧ p.2.1.2.2.2 = false := by
  unfold DS.readyV at h
  split at h
  · simp at h
  · have := (List.mem_filter.1 h).2
    unfold takeP at this
    simp [readyI] at this
    exact ⟨this.1, this.2.2.2⟩
theorem seen_id {R : RS} {D : DS} (ok : OkD R D) {k : Int} {p : Int × Ln} (h : p ∈ D.seenV k) : 0 ≤ p.1 ∧ p.1 < 96 := by
  cases hr : rightV D.xs.length k with
  | false => unfold DS.seenV at h; rw [hr] at h; simp at h
  | true =>
    have e := seenV_ids hr ok.es
    have hm : p.1 ∈ (D.seenV k).map (·.1) := List.mem_map_of_mem h
    rw [e] at hm
    unfold sidsV at hm
    obtain ⟨i, hi, he⟩ := List.mem_map.1 hm
    have := List.mem_range.1 (List.mem_filter.1 hi).1
    have := ok.sh
    omega
set_option maxHeartbeats 16000000 in
theorem law_best (β : Base) {p : Option Addr} {n c : Nat} {ts : List Ac} {A : Atom} (hr : RdS β p n 11 (ts.flatMap acC) A) (hn : n ≤ 9223372036854775807) (hid : ∀ t ∈ ts, acOk t) {a m o : Int} (ha0 : 0 ≤ a) (ha1 : a ≤ 255) (hm0 : 0 ≤ m) (hm1 : m ≤ 255) (ho0 : 0 ≤ o) (ho1 : o ≤ 255) :
    Tri Tryz.prog β 5 [.int .u8 a, .int .u8 m, .slice p n c, .int .u8 o] [A] (fun v L => v = .bool true ∧ L = []) := by
  refine Tri.intro tt_ok Tryz.func5 rfl rfl Tryz.ntmps5 rfl fun F => ?_
  (refine G tt_ok [] ?_; repeat (refine G1 tt_ok [] ?_; intro _))
  refine ke rfl rfl (awake10 β) ?_
  (refine G tt_ok [] ?_; repeat (refine G1 tt_ok [] ?_; intro _))
  (refine ka rfl rfl (played15 β hr hn hid ha0 ha1 hm0 hm1) ?_; rintro _ _ ⟨d, D0, R, rfl, hD, ok0, rfl⟩; refine w_ ?_)
  have ok : OkD R (playV D0 ts) := ok0.play
  generalize playV D0 ts = D at ok ⊢
  (refine G tt_ok [] ?_; repeat (refine G1 tt_ok [] ?_; intro _))
  refine ke rfl rfl (cores16 β d _ _ _ D.qc D.xs.length D.cc) ?_
  (refine G tt_ok [] ?_; repeat (refine G1 tt_ok [] ?_; intro _))
  have h1 := ok.one
  obtain ⟨hmd, hcr⟩ := mod_core ho0 ho1 ok.one ok.x8
  rw [show (if (1 : Int) < (D.xs.length : Int) then (D.xs.length : Int) else 1) = D.xs.length by split <;> omega, wrap_id (show -9223372036854775808 ≤ o by omega) (by omega)]
  refine SQ.div tt_ok rfl rfl (by omega) (v := (((o % (D.xs.length : Int)).toNat : Nat) : Int)) hmd ?_
  have hcr2 : rightV D.xs.length (((o % (D.xs.length : Int)).toNat : Nat) : Int) = true := by have := Int.emod_nonneg o (show (D.xs.length : Int) ≠ 0 by omega); rw [show (((o % (D.xs.length : Int)).toNat : Nat) : Int) = o % (D.xs.length : Int) by omega]; exact hcr
  generalize (o % (D.xs.length : Int)).toNat = k at hcr2 ⊢
  (refine G tt_ok [] ?_; repeat (refine G1 tt_ok [] ?_; intro _))
  refine ke rfl rfl (bestIs β d R D ok k) ?_
  (refine G tt_ok [] ?_; repeat (refine G1 tt_ok [] ?_; intro _))
  obtain ⟨s1, s2, s3⟩ := best_spec _ (D.readyV k) rfl
  have hasl : asleepV D.xs k = true → D.readyV k = [] := fun h => by unfold DS.readyV; rw [h]; rfl
  have hget : ∀ p ∈ D.readyV k, D.getV k p.1 = (p.2, 0) := fun p hp => (seenV_get ok.es ok.ok (readyV_sub hp)).1
  have htk : ∀ p ∈ D.readyV k, p.2.2.1 = true ∧ p.2.1.2.2.2 = false := fun p hp => ready_take hp
  have hln := ready_len ok k
  have hidb : ∀ p ∈ D.readyV k, 0 ≤ p.1 ∧ p.1 < 96 := fun p hp => seen_id ok (readyV_sub hp)
  have s4 : D.readyV k = [] → bestL (D.readyV k) = (0, 0, 0, false) := fun h => by rw [h]; rfl
  have hI := fun b2 b3 => iterR β d b2 b3 ok k
  generalize D.readyV k = l at s1 s2 s3 s4 hidb hasl hget htk hln hI ⊢
  generalize bestL l = cd at s1 s2 s3 s4 ⊢
  obtain ⟨ci, cp, cg, cis⟩ := cd
  simp only at s1 s2 s3 s4 ⊢
  rename_i b8 b12 b13
  (refine G tt_ok [] ?_; repeat (refine G1 tt_ok [] ?_; intro _))
  (refine ka rfl rfl (ready17 β d k) ?_; rintro _ _ ⟨b2, b3, rfl, rfl⟩; refine w_ ?_)
  (refine G tt_ok [] ?_; repeat (refine G1 tt_ok [] ?_; intro _))
  refine CW.rangeA rfl (hI b2 b3) (by repeat (first | exact .n | exact Rm.h | apply Tk.c | apply Rm.t)) (fun pre => [pt b13 [.int .i64 pre.length], pt b12 [.int .i64 ci, .int .i64 cp, .int .i64 cg, .bool cis], pt b8 [.bool false]]) (fun _ _ => False) pk_ (fun _ => rfl) (by decide) ?_ ?_ ?_
  · intro pre q hpre lp fm rec1
    have hq : q ∈ l := hpre.subset (by simp)
    have hcis : cis = true := by rw [s1]; simp; intro h; rw [h] at hq; simp at hq
    subst hcis
    obtain ⟨g1, g2⟩ := before_false.1 (s2 q hq)
    obtain ⟨g3, g4⟩ := htk q hq
    have hpl : pre.length < 400 := by have := hpre.length_le; simp at this; omega
    obtain ⟨qi, ⟨⟨i1, i2, i3, i4⟩, en, gr, pr⟩⟩ := q
    simp only at g1 g2 g3 g4
    subst g3; subst g4
    (refine G tt_ok [] ?_; repeat (refine G1 tt_ok [] ?_; intro _))
    intro fm2 rec2
    (refine G tt_ok [] ?_; repeat (refine G1 tt_ok [] ?_; intro _))
    rw [decide_eq_false g1]
    (refine G tt_ok [] ?_; repeat (refine G1 tt_ok [] ?_; intro _))
    by_cases hpc : pr = cp
    · rw [show (pr == cp) = true by simp [hpc]]
      (refine G tt_ok [] ?_; repeat (refine G1 tt_ok [] ?_; intro _))
      rw [decide_eq_false (fun h => g2 ⟨hpc, h⟩)]
      (refine G tt_ok [] ?_; repeat (refine G1 tt_ok [] ?_; intro _))
      rw [wrap_id (show -9223372036854775808 ≤ (pre.length : Int) + 1 by omega) (by omega), show (pre.length : Int) + 1 = ((pre ++ [(qi, ((i1, i2, i3, false), true, gr, pr))]).length : Int) by simp]
      exact pk_
    · rw [show (pr == cp) = false by simp [hpc]]
      (refine G tt_ok [] ?_; repeat (refine G1 tt_ok [] ?_; intro _))
      rw [wrap_id (show -9223372036854775808 ≤ (pre.length : Int) + 1 by omega) (by omega), show (pre.length : Int) + 1 = ((pre ++ [(qi, ((i1, i2, i3, false), true, gr, pr))]).length : Int) by simp]
      exact pk_
  · (refine G tt_ok [] ?_; repeat (refine G1 tt_ok [] ?_; intro _))
    by_cases hl : l = []
    · subst hl
      obtain ⟨rfl, rfl, rfl, rfl⟩ : ci = 0 ∧ cp = 0 ∧ cg = 0 ∧ cis = false := by simpa using s4 rfl
      refine ke rfl rfl (get21' β d D k 0 (by omega)) ?_
      (refine G tt_ok [] ?_; repeat (refine G1 tt_ok [] ?_; intro _))
      refine ke rfl rfl (asleep22 β d D k) ?_
      generalize asleepV D.xs k = z at hasl ⊢
      cases z
      · (refine G tt_ok [] ?_; repeat (refine G1 tt_ok [] ?_; intro _))
        exact CW.ret (fin_cells [_] ⟨(by first | exact ⟨_, _, _, _, 0, rfl, rfl, rfl, rfl⟩ | exact ⟨_, _, _, _, 1, rfl, rfl, rfl, rfl⟩ | exact ⟨_, _, _, _, 2, rfl, rfl, rfl, rfl⟩ | exact ⟨_, _, _, _, 3, rfl, rfl, rfl, rfl⟩ | exact ⟨_, _, _, _, 4, rfl, rfl, rfl, rfl⟩ | exact ⟨_, _, _, _, 5, rfl, rfl, rfl, rfl⟩ | exact ⟨_, _, _, _, 6, rfl, rfl, rfl, rfl⟩ | exact ⟨_, _, _, _, 7, rfl, rfl, rfl, rfl⟩ | exact ⟨_, _, _, _, 8, rfl, rfl, rfl, rfl⟩ | exact ⟨_, _, _, _, 9, rfl, rfl, rfl, rfl⟩ | exact ⟨_, _, _, _, 10, rfl, rfl, rfl, rfl⟩ | exact ⟨_, _, _, _, 11, rfl, rfl, rfl, rfl⟩ | exact ⟨_, _, _, _, 12, rfl, rfl, rfl, rfl⟩ | exact ⟨_, _, _, _, 13, rfl, rfl, rfl, rfl⟩ | exact ⟨_, _, _, _, 14, rfl, rfl, rfl, rfl⟩ | exact ⟨_, _, _, _, 15, rfl, rfl, rfl, rfl⟩ | exact ⟨_, _, _, _, 16, rfl, rfl, rfl, rfl⟩ | exact ⟨_, _, _, _, 17, rfl, rfl, rfl, rfl⟩ | exact ⟨_, _, _, _, 18, rfl, rfl, rfl, rfl⟩ | exact ⟨_, _, _, _, 19, rfl, rfl, rfl, rfl⟩ | exact ⟨_, _, _, _, 20, rfl, rfl, rfl, rfl⟩ | exact ⟨_, _, _, _, 21, rfl, rfl, rfl, rfl⟩ | exact ⟨_, _, _, _, 22, rfl, rfl, rfl, rfl⟩ | exact ⟨_, _, _, _, 23, rfl, rfl, rfl, rfl⟩), trivial⟩ (Ent.dropAll _) ⟨rfl, rfl⟩)
      · (refine G tt_ok [] ?_; repeat (refine G1 tt_ok [] ?_; intro _))
        exact CW.ret (fin_cells [_] ⟨(by first | exact ⟨_, _, _, _, 0, rfl, rfl, rfl, rfl⟩ | exact ⟨_, _, _, _, 1, rfl, rfl, rfl, rfl⟩ | exact ⟨_, _, _, _, 2, rfl, rfl, rfl, rfl⟩ | exact ⟨_, _, _, _, 3, rfl, rfl, rfl, rfl⟩ | exact ⟨_, _, _, _, 4, rfl, rfl, rfl, rfl⟩ | exact ⟨_, _, _, _, 5, rfl, rfl, rfl, rfl⟩ | exact ⟨_, _, _, _, 6, rfl, rfl, rfl, rfl⟩ | exact ⟨_, _, _, _, 7, rfl, rfl, rfl, rfl⟩ | exact ⟨_, _, _, _, 8, rfl, rfl, rfl, rfl⟩ | exact ⟨_, _, _, _, 9, rfl, rfl, rfl, rfl⟩ | exact ⟨_, _, _, _, 10, rfl, rfl, rfl, rfl⟩ | exact ⟨_, _, _, _, 11, rfl, rfl, rfl, rfl⟩ | exact ⟨_, _, _, _, 12, rfl, rfl, rfl, rfl⟩ | exact ⟨_, _, _, _, 13, rfl, rfl, rfl, rfl⟩ | exact ⟨_, _, _, _, 14, rfl, rfl, rfl, rfl⟩ | exact ⟨_, _, _, _, 15, rfl, rfl, rfl, rfl⟩ | exact ⟨_, _, _, _, 16, rfl, rfl, rfl, rfl⟩ | exact ⟨_, _, _, _, 17, rfl, rfl, rfl, rfl⟩ | exact ⟨_, _, _, _, 18, rfl, rfl, rfl, rfl⟩ | exact ⟨_, _, _, _, 19, rfl, rfl, rfl, rfl⟩ | exact ⟨_, _, _, _, 20, rfl, rfl, rfl, rfl⟩ | exact ⟨_, _, _, _, 21, rfl, rfl, rfl, rfl⟩ | exact ⟨_, _, _, _, 22, rfl, rfl, rfl, rfl⟩ | exact ⟨_, _, _, _, 23, rfl, rfl, rfl, rfl⟩), trivial⟩ (Ent.dropAll _) ⟨rfl, rfl⟩)
    · obtain ⟨q, hq, e⟩ := s3 hl
      simp only [Prod.mk.injEq] at e
      obtain ⟨rfl, rfl, rfl, rfl⟩ := e
      have hb := hidb q hq
      have hg := get21' β d D k q.1 (by omega)
      rw [hget q hq] at hg
      refine ke rfl rfl (hg) ?_
      (refine G tt_ok [] ?_; repeat (refine G1 tt_ok [] ?_; intro _))
      have hlp : 0 < l.length := List.length_pos_iff.2 hl
      rw [decide_eq_true (show (l.length : Int) > 0 by omega)]
      (refine G tt_ok [] ?_; repeat (refine G1 tt_ok [] ?_; intro _))
      rw [show (q.2.2.2.2 == q.2.2.2.2) = true by simp]
      (refine G tt_ok [] ?_; repeat (refine G1 tt_ok [] ?_; intro _))
      rw [show (q.2.2.2.1 == q.2.2.2.1) = true by simp]
      (refine G tt_ok [] ?_; repeat (refine G1 tt_ok [] ?_; intro _))
      rw [(htk q hq).1]
      (refine G tt_ok [] ?_; repeat (refine G1 tt_ok [] ?_; intro _))
      refine ke rfl rfl (asleep22 β d D k) ?_
      rw [show asleepV D.xs k = false by cases hz : asleepV D.xs k with
        | false => rfl
        | true => exact absurd (hasl hz) hl]
      (refine G tt_ok [] ?_; repeat (refine G1 tt_ok [] ?_; intro _))
      exact CW.ret (fin_cells [_] ⟨(by first | exact ⟨_, _, _, _, 0, rfl, rfl, rfl, rfl⟩ | exact ⟨_, _, _, _, 1, rfl, rfl, rfl, rfl⟩ | exact ⟨_, _, _, _, 2, rfl, rfl, rfl, rfl⟩ | exact ⟨_, _, _, _, 3, rfl, rfl, rfl, rfl⟩ | exact ⟨_, _, _, _, 4, rfl, rfl, rfl, rfl⟩ | exact ⟨_, _, _, _, 5, rfl, rfl, rfl, rfl⟩ | exact ⟨_, _, _, _, 6, rfl, rfl, rfl, rfl⟩ | exact ⟨_, _, _, _, 7, rfl, rfl, rfl, rfl⟩ | exact ⟨_, _, _, _, 8, rfl, rfl, rfl, rfl⟩ | exact ⟨_, _, _, _, 9, rfl, rfl, rfl, rfl⟩ | exact ⟨_, _, _, _, 10, rfl, rfl, rfl, rfl⟩ | exact ⟨_, _, _, _, 11, rfl, rfl, rfl, rfl⟩ | exact ⟨_, _, _, _, 12, rfl, rfl, rfl, rfl⟩ | exact ⟨_, _, _, _, 13, rfl, rfl, rfl, rfl⟩ | exact ⟨_, _, _, _, 14, rfl, rfl, rfl, rfl⟩ | exact ⟨_, _, _, _, 15, rfl, rfl, rfl, rfl⟩ | exact ⟨_, _, _, _, 16, rfl, rfl, rfl, rfl⟩ | exact ⟨_, _, _, _, 17, rfl, rfl, rfl, rfl⟩ | exact ⟨_, _, _, _, 18, rfl, rfl, rfl, rfl⟩ | exact ⟨_, _, _, _, 19, rfl, rfl, rfl, rfl⟩ | exact ⟨_, _, _, _, 20, rfl, rfl, rfl, rfl⟩ | exact ⟨_, _, _, _, 21, rfl, rfl, rfl, rfl⟩ | exact ⟨_, _, _, _, 22, rfl, rfl, rfl, rfl⟩ | exact ⟨_, _, _, _, 23, rfl, rfl, rfl, rfl⟩), trivial⟩ (Ent.dropAll _) ⟨rfl, rfl⟩)
  · intro _ _ h; exact h.elim
end Go.Proofs.YtjphlcfplcacnaaGreat.Sl
namespace Go.Proofs.YtjphlcfplcacnaaGreat.Sl
open Go Go.RowKit Go.Proofs
set_option linter.unusedVariables false
set_option linter.unusedSimpArgs false
attribute [local irreducible] CW Tri OW
set_option maxRecDepth 10000
@[reducible] def pk4 : List (Nat × Plan) := [(9, [(0, 0, []), (1, 0, []), (2, 1, [0, 1]), (3, 0, [])]), (13, [(0, 0, []), (1, 0, []), (2, 0, []), (3, 0, []), (4, 0, []), (5, 1, [3]), (6, 0, []), (7, 0, []), (8, 0, []), (10, 0, []), (9, 1, [3, 7, 10]), (11, 0, []), (12, 0, []), (13, 0, [])])]
theorem has18 (β : Base) {q : Option Addr} {n c : Nat} {ids : List Int} {A : Atom} (hS : SlR β A q n 1 (ids.flatMap i1C)) (hl : ids.length = n) (hn : n ≤ 9223372036854775807) (x : Int) :
    Tri Tryz.prog β 18 [.slice q n c, .int .i64 x] [A] (fun v L => v = .bool (decide (x ∈ ids)) ∧ L = [A]) := by
  refine Tri.intro tt_ok Tryz.func18 rfl rfl Tryz.ntmps18 rfl fun F => ?_
  (refine G tt_ok [] ?_; repeat (refine G1 tt_ok [] ?_; intro _))
  refine CW.loop (α := Nat) (fun k => k ≤ n ∧ x ∉ ids.take k) (fun k => [(5, .int .i64 k), (0, .slice q n c), (1, .int .i64 x)]) (fun k => [A]) (fun k => n - k) 0 ⟨by omega, by simp⟩ ⟨rfl, rfl, rfl, trivial⟩ pk_ ?_
  rintro k ⟨hk, hnot⟩
  (refine G tt_ok [] ?_; repeat (refine G1 tt_ok [] ?_; intro _))
  by_cases hlt : k < n
  · rw [decide_eq_true (show (k : Int) < n by omega)]
    have hw : IntKind.i64.wrap ((k : Int) + 1) = ((k + 1 : Nat) : Int) := by rw [wrap_i64]; split <;> omega
    obtain ⟨y, hy⟩ : ∃ y, ids[k]? = some y := ⟨_, List.getElem?_eq_getElem (by omega)⟩
    (refine G tt_ok [] ?_; repeat (refine G1 tt_ok [] ?_; intro _))
    (refine SQ.idxG tt_ok rfl rfl (hS) (by repeat (first | exact .h | apply AtA.t)) (k) (rfl) (hlt) rfl ?_)
    (refine G tt_ok [] ?_; repeat (refine G1 tt_ok [] ?_; intro _))
    (refine SQ.ldG tt_ok rfl rfl (hS) (by repeat (first | exact .h | apply AtA.t)) (by omega) (fun cur hcs => rd_i1 hcs hy) ?_)
    (refine G tt_ok [] ?_; repeat (refine G1 tt_ok [] ?_; intro _))
    by_cases hxy : y = x
    · rw [show (y == x) = true by simp [hxy]]
      (refine G tt_ok [] ?_; repeat (refine G1 tt_ok [] ?_; intro _))
      refine CW.ret (fin_ret rfl (A := [A]) pk_ ⟨?_, rfl⟩)
      rw [decide_eq_true (by rw [← hxy]; exact List.mem_of_getElem? hy)]; rfl
    · rw [show (y == x) = false by simp [hxy]]
      (refine G tt_ok [] ?_; repeat (refine G1 tt_ok [] ?_; intro _))
      refine ⟨k + 1, ⟨by omega, ?_⟩, by omega, ⟨by rw [← hw]; rfl, rfl, rfl, trivial⟩, pk_⟩
      rw [List.take_add_one, hy]
      simp only [Option.toList, List.mem_append, List.mem_singleton, not_or]
      exact ⟨hnot, fun h => hxy h.symm⟩
  · rw [decide_eq_false (show ¬ (k : Int) < n by omega)]
    (refine G tt_ok [] ?_; repeat (refine G1 tt_ok [] ?_; intro _))
    refine CW.exit ?_
    (refine G tt_ok [] ?_; repeat (refine G1 tt_ok [] ?_; intro _))
    rw [List.take_of_length_le (by omega)] at hnot
    refine CW.ret (fin_ret rfl (A := [A]) pk_ ⟨?_, rfl⟩)
    rw [decide_eq_false hnot]; rfl
/-- The shared ones among numbers. -/
def spi (l : List Int) : List Int := l.filter fun i => decide (32 ≤ i)
theorem seen_target {R : RS} {D : DS} (ok : OkD R D) {k : Int} (hr : rightV D.xs.length k = true) {p : Int × Ln} (h : p ∈ D.seenV k) (h32 : 32 ≤ p.1) : targetV D.sh D.xs p.1 = k := by
  have e := seenV_ids hr ok.es
  have hm : p.1 ∈ (D.seenV k).map (·.1) := List.mem_map_of_mem h
  rw [e] at hm
  unfold sidsV at hm
  obtain ⟨i, hi, he⟩ := List.mem_map.1 hm
  have h2 := (List.mem_filter.1 hi).2
  rw [← he] at h32 ⊢
  simp at h2
  rcases h2 with h2 | h2
  · omega
  · exact h2
theorem seen_nodup {R : RS} {D : DS} (ok : OkD R D) {k : Int} (hr : rightV D.xs.length k = true) : ((D.seenV k).map (·.1)).Nodup := by
  rw [seenV_ids hr ok.es]
  unfold sidsV
  have h := List.Pairwise.filter (fun (i : Nat) => decide ((i : Int) < 32) || targetV D.sh D.xs i == k) (List.nodup_range (n := 32 + D.sh.length))
  exact List.pairwise_map.2 (List.Pairwise.imp (fun h e => h (Int.ofNat.inj e)) h)
theorem ready_nodup {R : RS} {D : DS} (ok : OkD R D) {k : Int} (hr : rightV D.xs.length k = true) : ((D.readyV k).map (·.1)).Nodup := by
  unfold DS.readyV
  split
  · simp
  · exact (seen_nodup ok hr).sublist (List.Sublist.map _ List.filter_sublist)
theorem spi_snoc (l : List Int) (x : Int) : spi (l ++ [x]) = if 32 ≤ x then spi l ++ [x] else spi l := by
  unfold spi
  rw [List.filter_append]
  by_cases h : 32 ≤ x
  · rw [if_pos h, List.filter_cons_of_pos (by simpa using h)]; rfl
  · rw [if_neg h, List.filter_cons_of_neg (by simpa using h)]; simp
set_option maxHeartbeats 16000000 in
theorem law_one (β : Base) {p : Option Addr} {n c : Nat} {ts : List Ac} {A : Atom} (hr : RdS β p n 11 (ts.flatMap acC) A) (hn : n ≤ 9223372036854775807) (hid : ∀ t ∈ ts, acOk t) {a m : Int} (ha0 : 0 ≤ a) (ha1 : a ≤ 255) (hm0 : 0 ≤ m) (hm1 : m ≤ 255) :
    Tri Tryz.prog β 4 [.int .u8 a, .int .u8 m, .slice p n c] [A] (fun v L => v = .bool true ∧ L = []) := by
  refine Tri.intro tt_ok Tryz.func4 rfl rfl Tryz.ntmps4 rfl fun F => ?_
  (refine G tt_ok pk4 ?_; repeat (refine G1 tt_ok pk4 ?_; intro _))
  refine ke rfl rfl (awake10 β) ?_
  (refine G tt_ok pk4 ?_; repeat (refine G1 tt_ok pk4 ?_; intro _))
  (refine ka rfl rfl (played15 β hr hn hid ha0 ha1 hm0 hm1) ?_; rintro _ _ ⟨d, D0, R, rfl, hD, ok0, rfl⟩; refine w_ ?_)
  have ok : OkD R (playV D0 ts) := ok0.play
  generalize playV D0 ts = D at ok ⊢
  have h1 := ok.one
  have h8 := ok.x8
  (refine G tt_ok pk4 ?_; repeat (refine G1 tt_ok pk4 ?_; intro _))
  rename_i b6 b8 b9 b10
  refine CW.loop (α := Nat × List Int × Option Addr × Nat × Nat) (fun x => x.1 ≤ D.xs.length ∧ (∀ i ∈ x.2.1, ∃ k' : Nat, k' < x.1 ∧ targetV D.sh D.xs i = k') ∧ x.2.1.length ≤ 400 * x.1) (fun x => [(10, .pointer (some ⟨x.2.2.2.2, 0, none⟩)), (9, .pointer (some ⟨b9, 0, none⟩)), (8, .pointer (some ⟨b8, 0, none⟩)), (6, .pointer (some ⟨b6, 0, none⟩))])
    (fun x => [pt b6 [.bool false], pt b8 [.pointer (some ⟨d, 0, none⟩)], pt b9 [.slice x.2.2.1 x.2.1.length x.2.2.2.1], own 3 1 (.slice x.2.2.1 x.2.1.length x.2.2.2.1) x.2.1.length (x.2.1.flatMap i1C), pt x.2.2.2.2 [.int .i64 x.1]] ++ dA d D) (fun x => D.xs.length - x.1) (0, [], none, 0, b10) ⟨by simp, by simp, by simp⟩ ⟨rfl, rfl, rfl, rfl, trivial⟩ (Ent.trans (own_nil 3 1) pk_) ?_
  rintro ⟨k, sn, q, cp, bk⟩ ⟨hk, hsn, hsl⟩
  simp only at hk hsn hsl ⊢
  (refine G tt_ok pk4 ?_; repeat (refine G1 tt_ok pk4 ?_; intro _))
  refine ke rfl rfl (cores16 β d _ _ _ D.qc D.xs.length D.cc) ?_
  (refine G tt_ok pk4 ?_; repeat (refine G1 tt_ok pk4 ?_; intro _))
  by_cases hlt : k < D.xs.length
  · rw [decide_eq_true (show (k : Int) < D.xs.length by omega)]
    have hw : IntKind.i64.wrap ((k : Int) + 1) = ((k + 1 : Nat) : Int) := by rw [wrap_i64]; split <;> omega
    have hrk : rightV D.xs.length (k : Int) = true := by simp [rightV]; omega
    (refine G tt_ok pk4 ?_; repeat (refine G1 tt_ok pk4 ?_; intro _))
    (refine ka rfl rfl (ready17 β d k) ?_; rintro _ _ ⟨b2, b3, rfl, rfl⟩; refine w_ ?_)
    (refine G tt_ok pk4 ?_; repeat (refine G1 tt_ok pk4 ?_; intro _))
    have hI := iterR β d b2 b3 ok k
    have hnd := ready_nodup ok hrk
    have htg : ∀ p ∈ D.readyV k, 32 ≤ p.1 → targetV D.sh D.xs p.1 = k := fun p hp h => seen_target ok hrk (readyV_sub hp) h
    have hln := ready_len ok k
    have hidb : ∀ p ∈ D.readyV k, 0 ≤ p.1 ∧ p.1 < 96 := fun p hp => seen_id ok (readyV_sub hp)
    generalize D.readyV k = l at hI hnd htg hln hidb ⊢
    refine CW.rangeA rfl hI (by repeat (first | exact .n | exact Rm.h | apply Tk.c | apply Rm.t)) (fun pre => [exA fun y : Option Addr × Nat => [pt b9 [.slice y.1 (sn ++ spi (pre.map (·.1))).length y.2], own 3 1 (.slice y.1 (sn ++ spi (pre.map (·.1))).length y.2) (sn ++ spi (pre.map (·.1))).length ((sn ++ spi (pre.map (·.1))).flatMap i1C)], pt b6 [.bool false], pt b8 [.pointer (some ⟨d, 0, none⟩)], pt bk [.int .i64 k]]) (fun _ _ => False) ?_ (fun _ => rfl) (by decide) ?_ ?_ ?_
    · rw [show sn ++ spi (([] : List (Int × Ln)).map (·.1)) = sn by simp [spi]]
      refine Ent.trans ((tk_ (As := [pt b9 [.slice q sn.length cp], own 3 1 (.slice q sn.length cp) sn.length (sn.flatMap i1C)]) (Ent.exA (f := fun y : Option Addr × Nat => [pt b9 [.slice y.1 sn.length y.2], own 3 1 (.slice y.1 sn.length y.2) sn.length (sn.flatMap i1C)]) (q, cp)))) ?_
      exact pk_
    · intro pre x hpre lp fm rec1
      have hx : x ∈ l := hpre.subset (by simp)
      have hpl : pre.length < 400 := by have := hpre.length_le; simp at this; omega
      have hnd2 : ((pre ++ [x]).map (·.1)).Nodup := hnd.sublist (List.Sublist.map _ hpre.sublist)
      have hb := hidb x hx
      have ht := htg x hx
      have hS : ∀ pre : List (Int × Ln), spi ((pre ++ [x]).map (·.1)) = if 32 ≤ x.1 then spi (pre.map (·.1)) ++ [x.1] else spi (pre.map (·.1)) := fun pre => by rw [List.map_append]; exact spi_snoc _ _
      have hlen : (sn ++ spi (pre.map (·.1))).length ≤ 100000 := by
        have : (spi (pre.map (·.1))).length ≤ pre.length := by unfold spi; exact Nat.le_trans (List.length_filter_le _ _) (by simp)
        rw [List.length_append]; omega
      have hnot : 32 ≤ x.1 → x.1 ∉ sn ++ spi (pre.map (·.1)) := fun h hm => by
        rcases List.mem_append.1 hm with hm | hm
        · obtain ⟨k', hk', e⟩ := hsn _ hm
          rw [ht h] at e; omega
        · rw [List.map_append, List.nodup_append] at hnd2
          exact hnd2.2.2 x.1 (List.mem_filter.1 hm).1 x.1 (by simp) rfl
      rw [hS]
      generalize hsp : sn ++ spi (pre.map (·.1)) = sp at hlen hnot ⊢
      (refine G tt_ok pk4 ?_; repeat (refine G1 tt_ok pk4 ?_; intro _))
      intro fm2 rec2
      refine CW.open_ fun y => ?_
      obtain ⟨q2, c2⟩ := y
      simp only
      (refine G tt_ok pk4 ?_; repeat (refine G1 tt_ok pk4 ?_; intro _))
      by_cases h32 : 32 ≤ x.1
      · rw [decide_eq_true (show x.1 ≥ 32 by omega), if_pos h32, ← List.append_assoc, hsp]
        (refine G tt_ok pk4 ?_; repeat (refine G1 tt_ok pk4 ?_; intro _))
        refine ke rfl rfl (has18 β slr_own rfl (by omega) x.1) ?_
        rw [decide_eq_false (hnot h32)]
        (refine G tt_ok pk4 ?_; repeat (refine G1 tt_ok pk4 ?_; intro _))
        refine ke rfl rfl (target19 β d D.o0 D.o1 D.sb D.sq D.sc D.sh D.qc D.cc D.xs (by omega) x.1 (by omega)) ?_
        rw [ht h32]
        (refine G tt_ok pk4 ?_; repeat (refine G1 tt_ok pk4 ?_; intro _))
        rw [show ((k : Int) != k) = false by simp]
        (refine G tt_ok pk4 ?_; repeat (refine G1 tt_ok pk4 ?_; intro _))
        rw [decide_eq_true (show x.1 ≥ 32 by omega)]
        (refine G tt_ok pk4 ?_; repeat (refine G1 tt_ok pk4 ?_; intro _))
        (refine SQ.built tt_ok rfl rfl (fun _ => w_ ?_))
        (refine G tt_ok pk4 ?_; repeat (refine G1 tt_ok pk4 ?_; intro _))
        (refine SQ.appA tt_ok rfl rfl (by repeat (first | exact Rm.h | apply Rm.t)) (by repeat (first | exact .h | exact .q | apply At.t)) ([.int .i64 x.1]) rfl rfl rfl (scal_eq rfl) (by omega) (by show (sp.length + 1) * 8 ≤ _; omega) (fun q3 c3 => w_ ?_))
        (refine G tt_ok pk4 ?_; repeat (refine G1 tt_ok pk4 ?_; intro _))
        rw [show (sp ++ [x.1]).length = sp.length + 1 by simp, show (sp ++ [x.1]).flatMap i1C = sp.flatMap i1C ++ [.int .i64 x.1] by simp]
        refine Ent.trans ((tk_ (As := [pt b9 [.slice q3 (sp.length + 1) c3], own 3 1 (.slice q3 (sp.length + 1) c3) (sp.length + 1) (sp.flatMap i1C ++ [.int .i64 x.1])]) (Ent.exA (f := fun y : Option Addr × Nat => [pt b9 [.slice y.1 (sp.length + 1) y.2], own 3 1 (.slice y.1 (sp.length + 1) y.2) (sp.length + 1) (sp.flatMap i1C ++ [.int .i64 x.1])]) (q3, c3)))) ?_
        exact pk_
      · rw [decide_eq_false (show ¬ x.1 ≥ 32 by omega), if_neg h32, hsp]
        (refine G tt_ok pk4 ?_; repeat (refine G1 tt_ok pk4 ?_; intro _))
        rw [decide_eq_false (show ¬ x.1 ≥ 32 by omega)]
        (refine G tt_ok pk4 ?_; repeat (refine G1 tt_ok pk4 ?_; intro _))
        refine Ent.trans ((tk_ (As := [pt b9 [.slice q2 sp.length c2], own 3 1 (.slice q2 sp.length c2) sp.length (sp.flatMap i1C)]) (Ent.exA (f := fun y : Option Addr × Nat => [pt b9 [.slice y.1 sp.length y.2], own 3 1 (.slice y.1 sp.length y.2) sp.length (sp.flatMap i1C)]) (q2, c2)))) ?_
        exact pk_
    · refine CW.open_ fun y => ?_
      obtain ⟨q2, c2⟩ := y
      (refine G tt_ok pk4 ?_; repeat (refine G1 tt_ok pk4 ?_; intro _))
      rename_i bk2
      refine ⟨(k + 1, sn ++ spi (l.map (·.1)), q2, c2, bk2), ⟨by simp; omega, fun i hi => ?_, ?_⟩, by simp; omega, ⟨rfl, rfl, rfl, rfl, trivial⟩, ?_⟩
      · rcases List.mem_append.1 hi with h | h
        · obtain ⟨k', hk', e⟩ := hsn i h
          exact ⟨k', by simp only; omega, e⟩
        · obtain ⟨h3, h4⟩ := List.mem_filter.1 h
          obtain ⟨p, hp, rfl⟩ := List.mem_map.1 h3
          exact ⟨k, by simp only; omega, htg p hp (by simpa using h4)⟩
      · have : (spi (l.map (·.1))).length ≤ l.length := by unfold spi; exact Nat.le_trans (List.length_filter_le _ _) (by simp)
        simp only [List.length_append]; omega
      · simp only
        rw [← hw]
        exact pk_
    · intro _ _ h; exact h.elim
  · rw [decide_eq_false (show ¬ (k : Int) < D.xs.length by omega)]
    (refine G tt_ok pk4 ?_; repeat (refine G1 tt_ok pk4 ?_; intro _))
    refine CW.exit ?_
    (refine G tt_ok pk4 ?_; repeat (refine G1 tt_ok pk4 ?_; intro _))
    exact CW.ret (fin_cells [_] ⟨(by first | exact ⟨_, _, _, _, 0, rfl, rfl, rfl, rfl⟩ | exact ⟨_, _, _, _, 1, rfl, rfl, rfl, rfl⟩ | exact ⟨_, _, _, _, 2, rfl, rfl, rfl, rfl⟩ | exact ⟨_, _, _, _, 3, rfl, rfl, rfl, rfl⟩ | exact ⟨_, _, _, _, 4, rfl, rfl, rfl, rfl⟩ | exact ⟨_, _, _, _, 5, rfl, rfl, rfl, rfl⟩ | exact ⟨_, _, _, _, 6, rfl, rfl, rfl, rfl⟩ | exact ⟨_, _, _, _, 7, rfl, rfl, rfl, rfl⟩ | exact ⟨_, _, _, _, 8, rfl, rfl, rfl, rfl⟩ | exact ⟨_, _, _, _, 9, rfl, rfl, rfl, rfl⟩ | exact ⟨_, _, _, _, 10, rfl, rfl, rfl, rfl⟩ | exact ⟨_, _, _, _, 11, rfl, rfl, rfl, rfl⟩ | exact ⟨_, _, _, _, 12, rfl, rfl, rfl, rfl⟩ | exact ⟨_, _, _, _, 13, rfl, rfl, rfl, rfl⟩ | exact ⟨_, _, _, _, 14, rfl, rfl, rfl, rfl⟩ | exact ⟨_, _, _, _, 15, rfl, rfl, rfl, rfl⟩ | exact ⟨_, _, _, _, 16, rfl, rfl, rfl, rfl⟩ | exact ⟨_, _, _, _, 17, rfl, rfl, rfl, rfl⟩ | exact ⟨_, _, _, _, 18, rfl, rfl, rfl, rfl⟩ | exact ⟨_, _, _, _, 19, rfl, rfl, rfl, rfl⟩ | exact ⟨_, _, _, _, 20, rfl, rfl, rfl, rfl⟩ | exact ⟨_, _, _, _, 21, rfl, rfl, rfl, rfl⟩ | exact ⟨_, _, _, _, 22, rfl, rfl, rfl, rfl⟩ | exact ⟨_, _, _, _, 23, rfl, rfl, rfl, rfl⟩), trivial⟩ (Ent.dropAll _) ⟨rfl, rfl⟩)
end Go.Proofs.YtjphlcfplcacnaaGreat.Sl
namespace Go.Proofs.YtjphlcfplcacnaaGreat.Sl
open Go Go.RowKit Go.Proofs
set_option linter.unusedVariables false
set_option linter.unusedSimpArgs false
attribute [local irreducible] CW Tri OW
set_option maxRecDepth 10000
def cidV (v : Nat) : Int := ((v / 2 ^ 24 % 16 : Nat) : Int)
def tolV (fr : Int) (v : Nat) (k : Nat) : List Int := toL (decide (v / 2 ^ 40 % 2 = 1)) (v % 65536) (oddV v) fr k
def calV (fr : Int) (v : Nat) (k : Nat) : Bool := calledV (decide (v / 2 ^ 40 % 2 = 1)) (v % 65536) (oddV v) fr k
def hitV (xs : List CR) (fr gr : Int) (v : Nat) (i : Nat) : Bool := calV fr v i && (match xs[i]? with | some x => (Bn.getV 0 x.es (cidV v)).1.1.2.2.1 == gr | none => false)
def updX (v : Nat) (x : CR) : CR := { x with es := (Bn.doV 0 x.es (cidV v) 3).1 }
theorem tol_succ (fr : Int) (v k : Nat) : tolV fr v (k + 1) = tolV fr v k ++ if calV fr v k then [(k : Int)] else [] := rfl
theorem call_all (xs : List CR) (fr gr : Int) (v : Nat) : ∀ k, (∀ i : Nat, (callL (cidV v) gr (tolV fr v k) xs).1[i]? = (xs[i]?).map fun x => if i < k ∧ hitV xs fr gr v i = true then updX v x else x) ∧
    (k ≤ xs.length → (callL (cidV v) gr (tolV fr v k) xs).2 = ((List.range k).filter (hitV xs fr gr v)).length)
  | 0 => ⟨fun i => by
      show xs[i]? = _
      cases xs[i]? with
      | none => rfl
      | some x => simp, fun _ => rfl⟩
  | k + 1 => by
    obtain ⟨h1, h2⟩ := call_all xs fr gr v k
    rw [tol_succ]
    cases hc : calV fr v k with
    | false =>
      have hh : hitV xs fr gr v k = false := by unfold hitV; rw [hc]; rfl
      rw [if_neg (by simp), List.append_nil]
      refine ⟨fun i => ?_, fun hk => ?_⟩
      · rw [h1 i]
        congr 1
        funext x
        by_cases e : i = k
        · subst e; rw [hh]; simp
        · have : i < k + 1 ↔ i < k := by omega
          simp only [this]
      · rw [h2 (by omega), List.range_succ, List.filter_append, List.filter_cons_of_neg (by simp [hh])]; simp
    | true =>
      rw [if_pos rfl, callL_snoc]
      generalize callL (cidV v) gr (tolV fr v k) xs = st at h1 h2
      have hk1 := h1 k
      unfold callS
      rw [Int.toNat_natCast, hk1]
      cases hx : xs[k]? with
      | none =>
        simp only [Option.map_none]
        have hh : hitV xs fr gr v k = false := by unfold hitV; rw [hx]; simp
        refine ⟨fun i => ?_, fun hk => ?_⟩
        · rw [h1 i]
          congr 1
          funext x
          by_cases e : i = k
          · subst e; rw [hh]; simp
          · have : i < k + 1 ↔ i < k := by omega
            simp only [this]
        · have := (List.getElem?_eq_none_iff.1 hx); omega
      | some x =>
        rw [hx] at hk1
        simp only [Option.map_some, Nat.lt_irrefl, false_and, if_false] at hk1 ⊢
        have hkl : k < st.1.length := (List.getElem?_eq_some_iff.1 hk1).1
        by_cases hg : (Bn.getV 0 x.es (cidV v)).1.1.2.2.1 = gr
        · have hh : hitV xs fr gr v k = true := by unfold hitV; rw [hc, hx]; simp [hg]
          rw [if_pos hg]
          refine ⟨fun i => ?_, fun hk => ?_⟩
          · by_cases e : k = i
            · subst e
              simp only
              rw [List.getElem?_set_self hkl, hx, hh]
              simp [updX]
            · simp only
              rw [List.getElem?_set_ne e, h1 i]
              congr 1
              funext y
              have : i < k + 1 ↔ i < k := by omega
              simp only [this]
          · simp only
            rw [h2 (by omega), List.range_succ, List.filter_append, List.filter_cons_of_pos hh]; simp
        · have hh : hitV xs fr gr v k = false := by unfold hitV; rw [hc, hx]; simp [hg]
          rw [if_neg hg]
          refine ⟨fun i => ?_, fun hk => ?_⟩
          · rw [h1 i]
            congr 1
            funext x
            by_cases e : i = k
            · subst e; rw [hh]; simp
            · have : i < k + 1 ↔ i < k := by omega
              simp only [this]
          · rw [h2 (by omega), List.range_succ, List.filter_append, List.filter_cons_of_neg (by simp [hh])]; simp
theorem callV_eq {D : DS} {fr : Int} (hr : rightV D.xs.length fr = true) (gr : Int) (v : Nat) : (D.callV fr gr v).1 = { D with xs := (callL (cidV v) gr (tolV fr v D.xs.length) D.xs).1 } ∧ (D.callV fr gr v).2.1 = (((List.range D.xs.length).filter (hitV D.xs fr gr v)).length : Int) ∧ (D.callV fr gr v).2.2 = 0 := by
  unfold DS.callV
  rw [if_pos hr]
  refine ⟨rfl, ?_, rfl⟩
  simp only
  rw [← (call_all D.xs fr gr v D.xs.length).2 (Nat.le_refl _)]; rfl
def latchL (l : Ln) : Ln := ((l.1.1, l.1.2.1, true, l.1.2.2.2), l.2)
theorem doV_get (es : List Bn.En) (id c : Int) (h : (Bn.getV 0 (Bn.doV 0 es c 3).1 id).1.1 ≠ (Bn.getV 0 es id).1.1) : id = c ∧ (Bn.getV 0 (Bn.doV 0 es c 3).1 id).1.1 = latchL (Bn.getV 0 es id).1.1 := by
  unfold Bn.doV at h ⊢
  cases hc : Bn.atE 0 es c with
  | none => rw [hc] at h; exact absurd rfl h
  | some e =>
    rw [hc] at h
    simp only at h ⊢
    obtain ⟨i, hi, hie⟩ := Bn.atE_iff.1 hc
    have hi2 : (c - 0).toNat = i := by omega
    rw [hi2] at h ⊢
    by_cases he : id = c
    · refine ⟨he, ?_⟩
      subst he
      have h1 : Bn.atE 0 (es.set i ((stepI e.1.1 3, e.1.2), e.2)) id = some ((stepI e.1.1 3, e.1.2), e.2) := Bn.atE_iff.2 ⟨i, hi, List.getElem?_set_self (List.getElem?_eq_some_iff.1 hie).1⟩
      unfold Bn.getV
      rw [h1, hc]; rfl
    · exfalso; apply h
      have h1 : Bn.atE 0 (es.set i ((stepI e.1.1 3, e.1.2), e.2)) id = Bn.atE 0 es id := by
        cases ha : Bn.atE 0 es id with
        | none =>
          cases hb : Bn.atE 0 (es.set i ((stepI e.1.1 3, e.1.2), e.2)) id with
          | none => rfl
          | some f =>
            obtain ⟨j, hj, hje⟩ := Bn.atE_iff.1 hb
            rw [List.getElem?_set_ne (by omega)] at hje
            rw [Bn.atE_iff.2 ⟨j, hj, hje⟩] at ha; cases ha
        | some f =>
          obtain ⟨j, hj, hje⟩ := Bn.atE_iff.1 ha
          exact Bn.atE_iff.2 ⟨j, hj, by rw [List.getElem?_set_ne (by omega)]; exact hje⟩
      unfold Bn.getV
      rw [h1]
theorem call_change {R : RS} {D : DS} (ok : OkD R D) {fr gr : Int} {v : Nat} (hr : rightV D.xs.length fr = true) {k : Nat} (hk : k < D.xs.length) {p : Int × Ln} (hp : p ∈ (D.callV fr gr v).1.seenV k) (hne : p.2 ≠ (D.getV k p.1).1) :
    hitV D.xs fr gr v k = true ∧ p.1 = cidV v ∧ p.2.2.2.1 = gr ∧ p.2 = latchL (D.getV k p.1).1 := by
  have ok' := ok.callV fr gr v
  have hg := (seenV_get ok'.es ok'.ok hp).1
  rw [(callV_eq hr gr v).1] at hg
  have hall := (call_all D.xs fr gr v D.xs.length).1
  have hlen : (callL (cidV v) gr (tolV fr v D.xs.length) D.xs).1.length = D.xs.length := (callF_len _ _ _ _).1
  generalize (callL (cidV v) gr (tolV fr v D.xs.length) D.xs).1 = ys at hg hall hlen
  have hrk : rightV D.xs.length (k : Int) = true := by simp [rightV]; omega
  obtain ⟨x, hx⟩ : ∃ x, D.xs[k]? = some x := ⟨_, List.getElem?_eq_getElem hk⟩
  have hy := hall k
  rw [hx] at hy
  simp only [Option.map_some, hk, true_and] at hy
  by_cases h32 : p.1 < 32
  · rw [getV_own (D := { D with xs := ys }) (by simpa [hlen] using hrk) (x := if hitV D.xs fr gr v k = true then updX v x else x) (by simpa using hy) h32] at hg
    rw [getV_own hrk (by simpa using hx) h32] at hne ⊢
    have h1 := congrArg Prod.fst hg
    simp only at h1 hne ⊢
    cases hh : hitV D.xs fr gr v k with
    | false => rw [hh] at h1; simp at h1; exact absurd h1.symm hne
    | true =>
      rw [hh] at h1
      simp only [if_true, updX] at h1
      rw [← h1] at hne ⊢
      obtain ⟨e1, e2⟩ := doV_get x.es p.1 (cidV v) hne
      refine ⟨rfl, e1, ?_, e2⟩
      rw [e2, e1]
      unfold hitV at hh
      rw [hx] at hh
      simp at hh
      exact hh.2
  · rw [getV_sh (D := { D with xs := ys }) (by simpa [hlen] using hrk) h32] at hg
    rw [getV_sh hrk h32] at hne
    exact absurd (congrArg Prod.fst hg).symm hne
theorem one_of {α β : Type} (f : α → β) (c : β) : ∀ {l : List α}, (l.map f).Nodup → (∀ x ∈ l, f x = c) → l.length ≤ 1
  | [], _, _ => by simp
  | [x], _, _ => by simp
  | x :: y :: r, hn, h => by
    exfalso
    have h1 := h x (by simp)
    have h2 := h y (by simp)
    simp only [List.map_cons, List.nodup_cons, List.mem_cons, not_or] at hn
    exact hn.1.1 (by rw [h1, h2])
theorem getV_like {D E : DS} (h : E.like D) (k id : Int) : E.getV k id = D.getV k id := by
  obtain ⟨h1, h2, h3, h4⟩ := h
  have hl : E.xs.length = D.xs.length := by have := congrArg List.length h4; simpa using this
  unfold DS.getV
  rw [h3, hl]
  split
  · split
    · have := congrArg (fun l => l[k.toNat]?) h4
      simp only [List.getElem?_map] at this
      cases hx : D.xs[k.toNat]? with
      | none => rw [hx] at this; cases hy : E.xs[k.toNat]? with
        | none => rfl
        | some y => rw [hy] at this; simp at this
      | some x => rw [hx] at this; cases hy : E.xs[k.toNat]? with
        | none => rw [hy] at this; simp at this
        | some y =>
          rw [hy] at this
          simp [plX] at this
          simp only
          rw [this.1]
    · rfl
  · rfl
end Go.Proofs.YtjphlcfplcacnaaGreat.Sl
namespace Go.Proofs.YtjphlcfplcacnaaGreat.Sl
open Go Go.RowKit Go.Proofs
set_option linter.unusedVariables false
set_option linter.unusedSimpArgs false
attribute [local irreducible] CW Tri OW
set_option maxRecDepth 10000
@[reducible] def pk7 : List (Nat × Plan) := [(15, [(0, 0, []), (1, 0, []), (2, 1, [0]), (3, 0, [])])]
theorem count_step {f : Nat → Bool} (k : Nat) : ((List.range (k + 1)).filter f).length = ((List.range k).filter f).length + if f k then 1 else 0 := by
  rw [List.range_succ, List.filter_append, List.length_append]
  cases h : f k
  · rw [List.filter_cons_of_neg (by simp [h])]; simp
  · rw [List.filter_cons_of_pos h]; simp
theorem coresD (β : Base) (d : Nat) (D : DS) {n : Nat} (h : D.xs.length = n) : Tri Tryz.prog β 16 [.pointer (some ⟨d, 0, none⟩)] (dA d D) (fun v L => v = .int .i64 n ∧ L = dA d D) := by
  subst h
  refine Tri.intro tt_ok Tryz.func16 rfl rfl Tryz.ntmps16 rfl fun F => ?_
  unfold dA
  (refine G tt_ok [] ?_; repeat (refine G1 tt_ok [] ?_; intro _))
  exact CW.ret (fin_ret rfl pk_ ⟨rfl, rfl⟩)
theorem cid_id (v : Nat) (hv : v < 2 ^ 64) : IntKind.i64.wrap (IntKind.u64.wrap ((BitVec.ofInt IntKind.u64.bits ((v : Int).fdiv (2 ^ min 24 IntKind.u64.bits)) &&& BitVec.ofInt IntKind.u64.bits 15).toNat : Int)) = cidV v := by
  have f24 : IntKind.u64.wrap ((BitVec.ofInt IntKind.u64.bits ((v : Int).fdiv (2 ^ min 24 IntKind.u64.bits)) &&& BitVec.ofInt IntKind.u64.bits 15).toNat : Int) = ((v / 2 ^ 24 % 16 : Nat) : Int) := fld hv 24 4 (by omega) (by omega)
  rw [f24, wrap_id (by omega) (by omega)]; rfl
set_option maxHeartbeats 16000000 in
theorem law_calls (β : Base) {p : Option Addr} {n c : Nat} {ts : List Ac} {A : Atom} (hr : RdS β p n 11 (ts.flatMap acC) A) (hn : n ≤ 9223372036854775807) (hid : ∀ t ∈ ts, acOk t) {a : Int} (ha0 : 0 ≤ a) (ha1 : a ≤ 255) (fr gr : Int) (v : Nat) (hv : v < 2 ^ 64) :
    Tri Tryz.prog β 7 [.int .u8 a, .slice p n c, .int .i64 fr, .int .i64 gr, .int .u64 v] [A] (fun v L => v = .bool true ∧ L = []) := by
  refine Tri.intro tt_ok Tryz.func7 rfl rfl Tryz.ntmps7 rfl fun F => ?_
  (refine G tt_ok pk7 ?_; repeat (refine G1 tt_ok pk7 ?_; intro _))
  refine ke rfl rfl (awake10 β) ?_
  (refine G tt_ok pk7 ?_; repeat (refine G1 tt_ok pk7 ?_; intro _))
  (refine ka rfl rfl (played15 β hr hn hid ha0 ha1 (m := 0) (by omega) (by omega)) ?_; rintro _ _ ⟨d, D0, R, rfl, hD, ok0, rfl⟩; refine w_ ?_)
  have ok : OkD R (playV D0 ts) := ok0.play
  generalize playV D0 ts = D at ok ⊢
  have h1 := ok.one
  have h8 := ok.x8
  (refine G tt_ok pk7 ?_; repeat (refine G1 tt_ok pk7 ?_; intro _))
  (refine ka rfl rfl (copy24 β d D ok.x8 ok.sh (fun x hx => (ok.es x hx).1)) ?_; rintro _ _ ⟨cp, E, rfl, rfl, hlike⟩; refine w_ ?_)
  (refine G tt_ok pk7 ?_; repeat (refine G1 tt_ok pk7 ?_; intro _))
  refine ke rfl rfl (call25 β d D fr gr v hv ok.x8) ?_
  rename_i b8 b9 b10 b13
  cases hfr : rightV D.xs.length fr with
  | false =>
    have e : D.callV fr gr v = (D, 0, 130) := by unfold DS.callV; rw [hfr]; rfl
    rw [e]
    (refine G tt_ok pk7 ?_; repeat (refine G1 tt_ok pk7 ?_; intro _))
    by_cases hlt : fr < 0
    · rw [decide_eq_true hlt]
      (refine G tt_ok pk7 ?_; repeat (refine G1 tt_ok pk7 ?_; intro _))
      exact CW.ret (fin_cells [_] ⟨(by first | exact ⟨_, _, _, _, 0, rfl, rfl, rfl, rfl⟩ | exact ⟨_, _, _, _, 1, rfl, rfl, rfl, rfl⟩ | exact ⟨_, _, _, _, 2, rfl, rfl, rfl, rfl⟩ | exact ⟨_, _, _, _, 3, rfl, rfl, rfl, rfl⟩ | exact ⟨_, _, _, _, 4, rfl, rfl, rfl, rfl⟩ | exact ⟨_, _, _, _, 5, rfl, rfl, rfl, rfl⟩ | exact ⟨_, _, _, _, 6, rfl, rfl, rfl, rfl⟩ | exact ⟨_, _, _, _, 7, rfl, rfl, rfl, rfl⟩ | exact ⟨_, _, _, _, 8, rfl, rfl, rfl, rfl⟩ | exact ⟨_, _, _, _, 9, rfl, rfl, rfl, rfl⟩ | exact ⟨_, _, _, _, 10, rfl, rfl, rfl, rfl⟩ | exact ⟨_, _, _, _, 11, rfl, rfl, rfl, rfl⟩ | exact ⟨_, _, _, _, 12, rfl, rfl, rfl, rfl⟩ | exact ⟨_, _, _, _, 13, rfl, rfl, rfl, rfl⟩ | exact ⟨_, _, _, _, 14, rfl, rfl, rfl, rfl⟩ | exact ⟨_, _, _, _, 15, rfl, rfl, rfl, rfl⟩ | exact ⟨_, _, _, _, 16, rfl, rfl, rfl, rfl⟩ | exact ⟨_, _, _, _, 17, rfl, rfl, rfl, rfl⟩ | exact ⟨_, _, _, _, 18, rfl, rfl, rfl, rfl⟩ | exact ⟨_, _, _, _, 19, rfl, rfl, rfl, rfl⟩ | exact ⟨_, _, _, _, 20, rfl, rfl, rfl, rfl⟩ | exact ⟨_, _, _, _, 21, rfl, rfl, rfl, rfl⟩ | exact ⟨_, _, _, _, 22, rfl, rfl, rfl, rfl⟩ | exact ⟨_, _, _, _, 23, rfl, rfl, rfl, rfl⟩), trivial⟩ (Ent.dropAll _) ⟨rfl, rfl⟩)
    · rw [decide_eq_false hlt]
      (refine G tt_ok pk7 ?_; repeat (refine G1 tt_ok pk7 ?_; intro _))
      refine ke rfl rfl (cores16 β d _ _ _ D.qc D.xs.length D.cc) ?_
      (refine G tt_ok pk7 ?_; repeat (refine G1 tt_ok pk7 ?_; intro _))
      have hge : fr ≥ D.xs.length := by simp [rightV] at hfr; omega
      rw [decide_eq_true hge]
      (refine G tt_ok pk7 ?_; repeat (refine G1 tt_ok pk7 ?_; intro _))
      exact CW.ret (fin_cells [_] ⟨(by first | exact ⟨_, _, _, _, 0, rfl, rfl, rfl, rfl⟩ | exact ⟨_, _, _, _, 1, rfl, rfl, rfl, rfl⟩ | exact ⟨_, _, _, _, 2, rfl, rfl, rfl, rfl⟩ | exact ⟨_, _, _, _, 3, rfl, rfl, rfl, rfl⟩ | exact ⟨_, _, _, _, 4, rfl, rfl, rfl, rfl⟩ | exact ⟨_, _, _, _, 5, rfl, rfl, rfl, rfl⟩ | exact ⟨_, _, _, _, 6, rfl, rfl, rfl, rfl⟩ | exact ⟨_, _, _, _, 7, rfl, rfl, rfl, rfl⟩ | exact ⟨_, _, _, _, 8, rfl, rfl, rfl, rfl⟩ | exact ⟨_, _, _, _, 9, rfl, rfl, rfl, rfl⟩ | exact ⟨_, _, _, _, 10, rfl, rfl, rfl, rfl⟩ | exact ⟨_, _, _, _, 11, rfl, rfl, rfl, rfl⟩ | exact ⟨_, _, _, _, 12, rfl, rfl, rfl, rfl⟩ | exact ⟨_, _, _, _, 13, rfl, rfl, rfl, rfl⟩ | exact ⟨_, _, _, _, 14, rfl, rfl, rfl, rfl⟩ | exact ⟨_, _, _, _, 15, rfl, rfl, rfl, rfl⟩ | exact ⟨_, _, _, _, 16, rfl, rfl, rfl, rfl⟩ | exact ⟨_, _, _, _, 17, rfl, rfl, rfl, rfl⟩ | exact ⟨_, _, _, _, 18, rfl, rfl, rfl, rfl⟩ | exact ⟨_, _, _, _, 19, rfl, rfl, rfl, rfl⟩ | exact ⟨_, _, _, _, 20, rfl, rfl, rfl, rfl⟩ | exact ⟨_, _, _, _, 21, rfl, rfl, rfl, rfl⟩ | exact ⟨_, _, _, _, 22, rfl, rfl, rfl, rfl⟩ | exact ⟨_, _, _, _, 23, rfl, rfl, rfl, rfl⟩), trivial⟩ (Ent.dropAll _) ⟨rfl, rfl⟩)
  | true =>
    have ok' := ok.callV fr gr v
    obtain ⟨e1, e2, e3⟩ := callV_eq hfr gr v
    have hch : ∀ {k : Nat}, k < D.xs.length → ∀ p ∈ (D.callV fr gr v).1.seenV k, p.2 ≠ (D.getV k p.1).1 → hitV D.xs fr gr v k = true ∧ p.1 = cidV v ∧ p.2.2.2.1 = gr ∧ p.2 = latchL (D.getV k p.1).1 := fun hk p hp => call_change ok hfr hk hp
    have hlen : (D.callV fr gr v).1.xs.length = D.xs.length := by rw [e1]; exact (callF_len _ _ _ _).1
    rw [e2, e3]
    generalize (D.callV fr gr v).1 = D' at ok' hch hlen ⊢
    generalize hN : ((List.range D.xs.length).filter (hitV D.xs fr gr v)).length = N
    (refine G tt_ok pk7 ?_; repeat (refine G1 tt_ok pk7 ?_; intro _))
    rename_i b16 b17
    refine CW.loop (α := Nat × Nat × Nat) (fun x => x.1 ≤ D.xs.length ∧ x.2.1 ≤ ((List.range x.1).filter (hitV D.xs fr gr v)).length) (fun x => [(17, .pointer (some ⟨x.2.2, 0, none⟩)), (16, .pointer (some ⟨b16, 0, none⟩)), (13, .pointer (some ⟨b13, 0, none⟩)), (10, .pointer (some ⟨b10, 0, none⟩)), (9, .pointer (some ⟨b9, 0, none⟩)), (8, .pointer (some ⟨b8, 0, none⟩)), (12, .pointer (some ⟨d, 0, none⟩)), (14, .int .i64 N)])
      (fun x => [pt b8 [.int .i64 gr], pt b9 [.int .u64 v], pt b10 [.bool false], pt b13 [.pointer (some ⟨cp, 0, none⟩)], pt b16 [.int .i64 x.2.1], pt x.2.2 [.int .i64 x.1]] ++ dA d D' ++ dA cp E) (fun x => D.xs.length - x.1) (0, 0, b17) ⟨by simp, by simp⟩ ⟨rfl, rfl, rfl, rfl, rfl, rfl, rfl, rfl, trivial⟩ pk_ ?_
    rintro ⟨k, m, bk⟩ ⟨hk, hm⟩
    simp only at hk hm ⊢
    have hcl : ((List.range k).filter (hitV D.xs fr gr v)).length ≤ k := by have := List.length_filter_le (hitV D.xs fr gr v) (List.range k); simpa using this
    (refine G tt_ok pk7 ?_; repeat (refine G1 tt_ok pk7 ?_; intro _))
    refine ke rfl rfl (coresD β d D' hlen) ?_
    (refine G tt_ok pk7 ?_; repeat (refine G1 tt_ok pk7 ?_; intro _))
    by_cases hlt : k < D.xs.length
    · rw [decide_eq_true (show (k : Int) < D.xs.length by omega)]
      have hw : IntKind.i64.wrap ((k : Int) + 1) = ((k + 1 : Nat) : Int) := by rw [wrap_i64]; split <;> omega
      have hrk : rightV D'.xs.length (k : Int) = true := by simp [rightV]; omega
      (refine G tt_ok pk7 ?_; repeat (refine G1 tt_ok pk7 ?_; intro _))
      (refine ka rfl rfl (seen26 β d k) ?_; rintro _ _ ⟨b2, b3, rfl, rfl⟩; refine w_ ?_)
      (refine G tt_ok pk7 ?_; repeat (refine G1 tt_ok pk7 ?_; intro _))
      have hI := iterS β d b2 b3 ok' k
      have hnd := seen_nodup ok' hrk
      have hidb : ∀ p ∈ D'.seenV k, 0 ≤ p.1 ∧ p.1 < 96 := fun p hp => seen_id ok' hp
      have hchk := hch hlt
      have hlnn : (D'.seenV k).length ≤ 400 := by have := seenV_len (k := (k : Int)) ok'.es; have := ok'.sh; omega
      generalize D'.seenV k = l at hI hnd hidb hchk hlnn ⊢
      refine CW.rangeA rfl hI (by repeat (first | exact .n | exact Rm.h | apply Tk.c | apply Rm.t)) (fun pre => [pt b16 [.int .i64 ((m + (pre.filter fun p => decide (p.2 ≠ (D.getV k p.1).1)).length : Nat) : Int)], pt b8 [.int .i64 gr], pt b9 [.int .u64 v], pt b10 [.bool false], pt b13 [.pointer (some ⟨cp, 0, none⟩)], pt bk [.int .i64 k]] ++ dA cp E) (fun _ _ => False) pk_ (fun _ => rfl) (by decide) ?_ ?_ ?_
      · intro pre x hpre lp fm rec1
        have hx : x ∈ l := hpre.subset (by simp)
        have hpl : pre.length < 400 := by have := hpre.length_le; simp at this; omega
        have hfl := List.length_filter_le (fun p : Int × Ln => decide (p.2 ≠ (D.getV k p.1).1)) pre
        have hb := hidb x hx
        have hcx := hchk x hx
        have hgl := getV_like hlike k x.1
        have hflt : ((pre ++ [x]).filter fun p => decide (p.2 ≠ (D.getV k p.1).1)).length = (pre.filter fun p => decide (p.2 ≠ (D.getV k p.1).1)).length + if x.2 = (D.getV k x.1).1 then 0 else 1 := by
          rw [List.filter_append, List.length_append]
          by_cases h : x.2 = (D.getV k x.1).1
          · rw [if_pos h, List.filter_cons_of_neg (by simp [h])]; simp
          · rw [if_neg h, List.filter_cons_of_pos (by simp [h])]; simp
        rw [hflt]
        generalize (pre.filter fun p => decide (p.2 ≠ (D.getV k p.1).1)).length = z at hfl ⊢
        (refine G tt_ok pk7 ?_; repeat (refine G1 tt_ok pk7 ?_; intro _))
        intro fm2 rec2
        (refine G tt_ok pk7 ?_; repeat (refine G1 tt_ok pk7 ?_; intro _))
        have hg := get21' β cp E k x.1 (by omega)
        rw [hgl] at hg
        refine ke rfl rfl (hg) ?_
        generalize (D.getV (k : Int) x.1).1 = w at hcx ⊢
        (refine G tt_ok pk7 ?_; repeat (refine G1 tt_ok pk7 ?_; intro _))
        by_cases he : x.2 = w
        · subst he
          refine SQ.eqn tt_ok [53, 35] ⟨by kernel_rfl, by kernel_rfl, trivial⟩ rfl rfl (by kernel_rfl) true (by simp) ?_
          (refine G tt_ok pk7 ?_; repeat (refine G1 tt_ok pk7 ?_; intro _))
          refine CW.exit ?_
          (refine G tt_ok pk7 ?_; repeat (refine G1 tt_ok pk7 ?_; intro _))
          rw [if_pos rfl, Nat.add_zero]
          exact pk_
        · obtain ⟨g1, g2, g3, g4⟩ := hcx he
          rw [if_neg he]
          refine SQ.eqn tt_ok [53, 35] ⟨by kernel_rfl, by kernel_rfl, trivial⟩ rfl rfl (by kernel_rfl) false (by
            obtain ⟨xi, ⟨i1, i2, i3, i4⟩, en, gg, pr⟩ := x
            obtain ⟨⟨j1, j2, j3, j4⟩, en2, gg2, pr2⟩ := w
            simp at he ⊢
            intro h1 h2 h3 h4 h5 h6; exact he h1 h2 h3 h4 h5 h6) ?_
          (refine G tt_ok pk7 ?_; repeat (refine G1 tt_ok pk7 ?_; intro _))
          refine SQ.eqn tt_ok [53, 35] ⟨by kernel_rfl, by kernel_rfl, trivial⟩ rfl rfl (by kernel_rfl) false (by rw [g4]; simp [latchL]) ?_
          (refine G tt_ok pk7 ?_; repeat (refine G1 tt_ok pk7 ?_; intro _))
          rw [cid_id v hv, g2, show (cidV v != cidV v) = false by simp]
          (refine G tt_ok pk7 ?_; repeat (refine G1 tt_ok pk7 ?_; intro _))
          rw [g3, show (gr != gr) = false by simp]
          (refine G tt_ok pk7 ?_; repeat (refine G1 tt_ok pk7 ?_; intro _))
          rw [wrap_id (show -9223372036854775808 ≤ (((m + z : Nat) : Int) + 1) by omega) (by omega), show ((m + z : Nat) : Int) + 1 = ((m + (z + 1) : Nat) : Int) by omega]
          exact pk_
      · (refine G tt_ok pk7 ?_; repeat (refine G1 tt_ok pk7 ?_; intro _))
        rename_i bk2
        have hmm : ∀ x ∈ (l.filter fun p => decide (p.2 ≠ (D.getV k p.1).1)), x.1 = cidV v ∧ hitV D.xs fr gr v k = true := fun x hx => by
          obtain ⟨h1, h2⟩ := List.mem_filter.1 hx
          obtain ⟨g1, g2, _⟩ := hchk x h1 (by simpa using h2)
          exact ⟨g2, g1⟩
        have h1le : (l.filter fun p => decide (p.2 ≠ (D.getV k p.1).1)).length ≤ 1 := one_of (fun p : Int × Ln => p.1) (cidV v) (hnd.sublist (List.Sublist.map _ List.filter_sublist)) fun x hx => (hmm x hx).1
        have hcs := count_step (f := hitV D.xs fr gr v) k
        have hle : (l.filter fun p => decide (p.2 ≠ (D.getV k p.1).1)).length ≤ if hitV D.xs fr gr v k = true then 1 else 0 := by
          split
          · exact h1le
          · rename_i hf
            rw [List.length_eq_zero_iff.2]
            · exact Nat.le_refl 0
            · apply List.eq_nil_iff_forall_not_mem.2
              intro x hx
              exact hf (hmm x hx).2
        generalize (l.filter fun p => decide (p.2 ≠ (D.getV k p.1).1)).length = z at hle ⊢
        refine ⟨(k + 1, m + z, bk2), ⟨by simp; omega, by simp only; omega⟩, by simp; omega, ⟨rfl, rfl, rfl, rfl, rfl, rfl, rfl, rfl, trivial⟩, ?_⟩
        simp only
        rw [← hw]
        exact pk_
      · intro _ _ h; exact h.elim
    · rw [decide_eq_false (show ¬ (k : Int) < D.xs.length by omega)]
      (refine G tt_ok pk7 ?_; repeat (refine G1 tt_ok pk7 ?_; intro _))
      refine CW.exit ?_
      (refine G tt_ok pk7 ?_; repeat (refine G1 tt_ok pk7 ?_; intro _))
      obtain rfl : k = D.xs.length := by omega
      rw [decide_eq_true (show (m : Int) ≤ (N : Int) by omega)]
      (refine G tt_ok pk7 ?_; repeat (refine G1 tt_ok pk7 ?_; intro _))
      refine ke rfl rfl (coresD β d D' hlen) ?_
      (refine G tt_ok pk7 ?_; repeat (refine G1 tt_ok pk7 ?_; intro _))
      rw [decide_eq_true (show (N : Int) ≤ (D.xs.length : Int) by omega)]
      (refine G tt_ok pk7 ?_; repeat (refine G1 tt_ok pk7 ?_; intro _))
      exact CW.ret (fin_cells [_] ⟨(by first | exact ⟨_, _, _, _, 0, rfl, rfl, rfl, rfl⟩ | exact ⟨_, _, _, _, 1, rfl, rfl, rfl, rfl⟩ | exact ⟨_, _, _, _, 2, rfl, rfl, rfl, rfl⟩ | exact ⟨_, _, _, _, 3, rfl, rfl, rfl, rfl⟩ | exact ⟨_, _, _, _, 4, rfl, rfl, rfl, rfl⟩ | exact ⟨_, _, _, _, 5, rfl, rfl, rfl, rfl⟩ | exact ⟨_, _, _, _, 6, rfl, rfl, rfl, rfl⟩ | exact ⟨_, _, _, _, 7, rfl, rfl, rfl, rfl⟩ | exact ⟨_, _, _, _, 8, rfl, rfl, rfl, rfl⟩ | exact ⟨_, _, _, _, 9, rfl, rfl, rfl, rfl⟩ | exact ⟨_, _, _, _, 10, rfl, rfl, rfl, rfl⟩ | exact ⟨_, _, _, _, 11, rfl, rfl, rfl, rfl⟩ | exact ⟨_, _, _, _, 12, rfl, rfl, rfl, rfl⟩ | exact ⟨_, _, _, _, 13, rfl, rfl, rfl, rfl⟩ | exact ⟨_, _, _, _, 14, rfl, rfl, rfl, rfl⟩ | exact ⟨_, _, _, _, 15, rfl, rfl, rfl, rfl⟩ | exact ⟨_, _, _, _, 16, rfl, rfl, rfl, rfl⟩ | exact ⟨_, _, _, _, 17, rfl, rfl, rfl, rfl⟩ | exact ⟨_, _, _, _, 18, rfl, rfl, rfl, rfl⟩ | exact ⟨_, _, _, _, 19, rfl, rfl, rfl, rfl⟩ | exact ⟨_, _, _, _, 20, rfl, rfl, rfl, rfl⟩ | exact ⟨_, _, _, _, 21, rfl, rfl, rfl, rfl⟩ | exact ⟨_, _, _, _, 22, rfl, rfl, rfl, rfl⟩ | exact ⟨_, _, _, _, 23, rfl, rfl, rfl, rfl⟩), trivial⟩ (Ent.dropAll _) ⟨rfl, rfl⟩)
end Go.Proofs.YtjphlcfplcacnaaGreat.Sl
namespace Go.Proofs.YtjphlcfplcacnaaGreat.Sl
open Go Go.RowKit Go.Proofs
set_option linter.unusedVariables false
set_option linter.unusedSimpArgs false
attribute [local irreducible] CW Tri OW
set_option maxRecDepth 10000
@[reducible] def pk13 : List (Nat × Plan) := [(1, [(0, 0, []), (2, 0, []), (3, 0, []), (4, 0, []), (5, 0, []), (6, 0, []), (1, 1, [2, 5]), (7, 0, [])]), (4, [(0, 0, []), (1, 0, []), (2, 0, []), (3, 0, []), (4, 0, []), (5, 0, []), (6, 0, [])]), (6, [(0, 0, []), (1, 0, []), (3, 0, []), (4, 0, []), (5, 0, []), (6, 0, []), (7, 0, []), (8, 0, []), (9, 0, []), (2, 1, [1, 3, 6, 7, 9]), (10, 0, []), (11, 0, []), (12, 0, []), (13, 0, []), (15, 0, []), (16, 0, []), (14, 1, [1, 3, 6, 7, 9, 13, 15, 16]), (17, 1, [1, 3, 6, 7, 9, 13, 15, 16]), (18, 0, []), (19, 0, []), (20, 0, []), (21, 0, []), (22, 0, []), (25, 0, []), (26, 0, []), (23, 1, [1, 3, 6, 7, 9, 13, 15, 16, 22, 25, 26]), (24, 1, [1, 3, 6, 7, 9, 13, 15, 16, 22, 25, 26]), (27, 1, [1, 3, 6, 7, 9, 13, 15, 16, 22, 25, 26]), (28, 1, [1, 3, 6, 7, 9, 13, 15, 16, 22, 25, 26]), (29, 0, []), (30, 0, []), (31, 0, []), (32, 0, []), (33, 0, []), (36, 0, []), (37, 0, []), (34, 1, [1, 3, 6, 7, 9, 13, 15, 16, 22, 25, 26, 33, 36, 37]), (35, 1, [1, 3, 6, 7, 9, 13, 15, 16, 22, 25, 26, 33, 36, 37]), (38, 1, [1, 3, 6, 7, 9, 13, 15, 16, 22, 25, 26, 33, 36, 37]), (39, 1, [1, 3, 6, 7, 9, 13, 15, 16, 22, 25, 26, 33, 36, 37]), (40, 0, []), (41, 0, [])]), (21, [(0, 0, []), (1, 0, []), (2, 0, []), (3, 0, []), (4, 0, []), (5, 0, []), (6, 0, []), (7, 0, []), (8, 0, []), (9, 0, []), (11, 0, []), (12, 0, []), (10, 1, [3, 4, 11]), (13, 1, [3, 4, 11]), (14, 0, []), (15, 0, [])])]
theorem getR_in {D : DS} {id : Int} (h1 : 1 ≤ D.xs.length) (h32 : 32 ≤ id) (hlt : id < 32 + D.sh.length) : (D.getV 0 id).2 = 0 := by
  rw [getV_sh (by simp [rightV]; omega) (by omega)]
  obtain ⟨e, he⟩ : ∃ e, D.sh[(id - 32).toNat]? = some e := ⟨_, List.getElem?_eq_getElem (show (id - 32).toNat < D.sh.length by omega)⟩
  unfold Br.getV
  rw [Br.atE_iff.2 ⟨(id - 32).toNat, by omega, he⟩]
set_option maxHeartbeats 16000000 in
theorem alike13 (β : Base) (d r : Nat) (R : RS) (D : DS) (ok : OkD R D) : Tri Tryz.prog β 13 [.pointer (some ⟨d, 0, none⟩), .pointer (some ⟨r, 0, none⟩)] (dA d D ++ rD r R D) (fun v L => v = .bool true ∧ L = dA d D ++ rD r R D) := by
  have h1 := ok.one
  have h8 := ok.x8
  have hsh := ok.sh
  refine Tri.intro tt_ok Tryz.func13 rfl rfl Tryz.ntmps13 rfl fun F => ?_
  (refine G tt_ok pk13 ?_; repeat (refine G1 tt_ok pk13 ?_; intro _))
  rename_i b3 b4
  refine ke rfl rfl (coresD β d D rfl) ?_
  (refine G tt_ok pk13 ?_; repeat (refine G1 tt_ok pk13 ?_; intro _))
  rw [show ((D.xs.length : Int) != D.xs.length) = false by simp]
  (refine G tt_ok pk13 ?_; repeat (refine G1 tt_ok pk13 ?_; intro _))
  rename_i b5
  refine CW.loop (α := Nat × Nat) (fun x => x.1 ≤ D.xs.length) (fun x => [(5, .pointer (some ⟨x.2, 0, none⟩)), (4, .pointer (some ⟨b4, 0, none⟩)), (3, .pointer (some ⟨b3, 0, none⟩)), (0, .pointer (some ⟨d, 0, none⟩))])
    (fun x => [pt b3 [.pointer (some ⟨r, 0, none⟩)], pt b4 [.bool false], pt x.2 [.int .i64 x.1]] ++ dA d D ++ rD r R D) (fun x => D.xs.length - x.1) (0, b5) (by simp) ⟨rfl, rfl, rfl, rfl, trivial⟩ pk_ ?_
  rintro ⟨k, bk⟩ hk
  simp only at hk ⊢
  (refine G tt_ok pk13 ?_; repeat (refine G1 tt_ok pk13 ?_; intro _))
  by_cases hlt : k < D.xs.length
  · rw [decide_eq_true (show (k : Int) < D.xs.length by omega)]
    have hw : IntKind.i64.wrap ((k : Int) + 1) = ((k + 1 : Nat) : Int) := by rw [wrap_i64]; split <;> omega
    have hrk : rightV D.xs.length (k : Int) = true := by simp [rightV]; omega
    obtain ⟨x, hx⟩ : ∃ x, D.xs[k]? = some x := ⟨_, List.getElem?_eq_getElem hlt⟩
    have hasl : asleepV D.xs k = x.sl := by unfold asleepV; rw [if_pos hrk]; simp only [Int.toNat_natCast]; rw [hx]
    (refine G tt_ok pk13 ?_; repeat (refine G1 tt_ok pk13 ?_; intro _))
    (refine SQ.idxR tt_ok rfl rfl (by repeat (first | exact .h | apply AtR.t)) (k) (rfl) (hlt) rfl ?_)
    (refine G tt_ok pk13 ?_; repeat (refine G1 tt_ok pk13 ?_; intro _))
    (refine SQ.ldR tt_ok rfl rfl (by repeat (first | exact .h | apply AtR.t)) (by omega) (rd_slp hx) ?_)
    (refine G tt_ok pk13 ?_; repeat (refine G1 tt_ok pk13 ?_; intro _))
    (refine SQ.callA rfl rfl (asleep22 β d D k) (by repeat (first | exact .n | exact Rm.h | exact Rm.of own_row | exact Rm.of row_close0 | apply Tk.c | apply Rm.t)) ?_; rintro _ _ ⟨rfl, rfl⟩; refine ⟨(by repeat (first | exact trivial | refine ⟨trivial, ?_⟩ | refine ⟨RdAt.row (by repeat (first | exact .h | apply AtR.t)) (by omega) (rd_slp hx), ?_⟩ | refine ⟨wk (by repeat (first | exact .h | exact .q | apply At.t)) (by rfl), ?_⟩)), ?_⟩)
    rw [hasl]
    (refine G tt_ok pk13 ?_; repeat (refine G1 tt_ok pk13 ?_; intro _))
    rw [show (!x.sl == x.sl) = false by simp]
    (refine G tt_ok pk13 ?_; repeat (refine G1 tt_ok pk13 ?_; intro _))
    (refine SQ.callA rfl rfl (bestIs β d R D ok k) (by repeat (first | exact .n | exact Rm.h | exact Rm.of own_row | exact Rm.of row_close0 | apply Tk.c | apply Rm.t)) ?_; rintro _ _ ⟨rfl, rfl⟩; refine ⟨(by repeat (first | exact trivial | refine ⟨trivial, ?_⟩ | refine ⟨RdAt.row (by repeat (first | exact .h | apply AtR.t)) (by omega) (rd_slp hx), ?_⟩ | refine ⟨wk (by repeat (first | exact .h | exact .q | apply At.t)) (by rfl), ?_⟩)), ?_⟩)
    (refine G tt_ok pk13 ?_; repeat (refine G1 tt_ok pk13 ?_; intro _))
    (refine SQ.callA rfl rfl (refBest41 β r R D ok k) (by repeat (first | exact .n | exact Rm.h | exact Rm.of own_row | exact Rm.of row_close0 | apply Tk.c | apply Rm.t)) ?_; rintro _ _ ⟨rfl, rfl⟩; refine ⟨(by repeat (first | exact trivial | refine ⟨trivial, ?_⟩ | refine ⟨RdAt.row (by repeat (first | exact .h | apply AtR.t)) (by omega) (rd_slp hx), ?_⟩ | refine ⟨wk (by repeat (first | exact .h | exact .q | apply At.t)) (by rfl), ?_⟩)), ?_⟩)
    (refine G tt_ok pk13 ?_; repeat (refine G1 tt_ok pk13 ?_; intro _))
    (refine SQ.eqs' tt_ok rfl rfl rfl (by kernel_rfl) (by kernel_rfl) false (by simp) ?_)
    (refine G tt_ok pk13 ?_; repeat (refine G1 tt_ok pk13 ?_; intro _))
    (refine SQ.callA rfl rfl (seen26 β d k) (by repeat (first | exact .n | exact Rm.h | exact Rm.of own_row | exact Rm.of row_close0 | apply Tk.c | apply Rm.t)) ?_; rintro _ _ ⟨e2, e3, rfl, rfl⟩; refine ⟨(by repeat (first | exact trivial | refine ⟨trivial, ?_⟩ | refine ⟨RdAt.row (by repeat (first | exact .h | apply AtR.t)) (by omega) (rd_slp hx), ?_⟩ | refine ⟨wk (by repeat (first | exact .h | exact .q | apply At.t)) (by rfl), ?_⟩)), ?_⟩)
    (refine G tt_ok pk13 ?_; repeat (refine G1 tt_ok pk13 ?_; intro _))
    have hsl : (D.seenV k).length ≤ 400 := by have := seenV_len (k := (k : Int)) ok.es; omega
    (refine SQ.callA rfl rfl (ids28 β (iterS β d e2 e3 ok k) hsl) (by repeat (first | exact .n | exact Rm.h | exact Rm.of own_row | exact Rm.of row_close0 | apply Tk.c | apply Rm.t)) ?_; rintro _ _ ⟨q1, c1, rfl, rfl⟩; refine ⟨(by repeat (first | exact trivial | refine ⟨trivial, ?_⟩ | refine ⟨RdAt.row (by repeat (first | exact .h | apply AtR.t)) (by omega) (rd_slp hx), ?_⟩ | refine ⟨wk (by repeat (first | exact .h | exact .q | apply At.t)) (by rfl), ?_⟩)), ?_⟩)
    (refine G tt_ok pk13 ?_; repeat (refine G1 tt_ok pk13 ?_; intro _))
    (refine SQ.callA rfl rfl (refSeen42 β r R D ok k) (by repeat (first | exact .n | exact Rm.h | exact Rm.of own_row | exact Rm.of row_close0 | apply Tk.c | apply Rm.t)) ?_; rintro _ _ ⟨q2, c2, rfl, rfl⟩; refine ⟨(by repeat (first | exact trivial | refine ⟨trivial, ?_⟩ | refine ⟨RdAt.row (by repeat (first | exact .h | apply AtR.t)) (by omega) (rd_slp hx), ?_⟩ | refine ⟨wk (by repeat (first | exact .h | exact .q | apply At.t)) (by rfl), ?_⟩)), ?_⟩)
    (refine G tt_ok pk13 ?_; repeat (refine G1 tt_ok pk13 ?_; intro _))
    (refine SQ.callA rfl rfl (same30 β (l := (D.seenV k).map (·.1)) (n := (D.seenV k).length) (by simp) (by omega)) (by repeat (first | exact .n | exact Rm.h | exact Rm.of own_row | exact Rm.of row_close0 | apply Tk.c | apply Rm.t)) ?_; rintro _ _ ⟨rfl, rfl⟩; refine ⟨(by repeat (first | exact trivial | refine ⟨trivial, ?_⟩ | refine ⟨RdAt.row (by repeat (first | exact .h | apply AtR.t)) (by omega) (rd_slp hx), ?_⟩ | refine ⟨wk (by repeat (first | exact .h | exact .q | apply At.t)) (by rfl), ?_⟩)), ?_⟩)
    (refine G tt_ok pk13 ?_; repeat (refine G1 tt_ok pk13 ?_; intro _))
    (refine SQ.callA rfl rfl (ready17 β d k) (by repeat (first | exact .n | exact Rm.h | exact Rm.of own_row | exact Rm.of row_close0 | apply Tk.c | apply Rm.t)) ?_; rintro _ _ ⟨b22, b23, rfl, rfl⟩; refine ⟨(by repeat (first | exact trivial | refine ⟨trivial, ?_⟩ | refine ⟨RdAt.row (by repeat (first | exact .h | apply AtR.t)) (by omega) (rd_slp hx), ?_⟩ | refine ⟨wk (by repeat (first | exact .h | exact .q | apply At.t)) (by rfl), ?_⟩)), ?_⟩)
    (refine G tt_ok pk13 ?_; repeat (refine G1 tt_ok pk13 ?_; intro _))
    have hrl := ready_len ok k
    (refine SQ.callA rfl rfl (ids28 β (iterR β d b22 b23 ok k) hrl) (by repeat (first | exact .n | exact Rm.h | exact Rm.of own_row | exact Rm.of row_close0 | apply Tk.c | apply Rm.t)) ?_; rintro _ _ ⟨q3, c3, rfl, rfl⟩; refine ⟨(by repeat (first | exact trivial | refine ⟨trivial, ?_⟩ | refine ⟨RdAt.row (by repeat (first | exact .h | apply AtR.t)) (by omega) (rd_slp hx), ?_⟩ | refine ⟨wk (by repeat (first | exact .h | exact .q | apply At.t)) (by rfl), ?_⟩)), ?_⟩)
    (refine G tt_ok pk13 ?_; repeat (refine G1 tt_ok pk13 ?_; intro _))
    (refine SQ.callA rfl rfl (refReady43 β r R D ok k) (by repeat (first | exact .n | exact Rm.h | exact Rm.of own_row | exact Rm.of row_close0 | apply Tk.c | apply Rm.t)) ?_; rintro _ _ ⟨q4, c4, rfl, rfl⟩; refine ⟨(by repeat (first | exact trivial | refine ⟨trivial, ?_⟩ | refine ⟨RdAt.row (by repeat (first | exact .h | apply AtR.t)) (by omega) (rd_slp hx), ?_⟩ | refine ⟨wk (by repeat (first | exact .h | exact .q | apply At.t)) (by rfl), ?_⟩)), ?_⟩)
    (refine G tt_ok pk13 ?_; repeat (refine G1 tt_ok pk13 ?_; intro _))
    (refine SQ.callA rfl rfl (same30 β (l := (D.readyV k).map (·.1)) (n := (D.readyV k).length) (by simp) (by omega)) (by repeat (first | exact .n | exact Rm.h | exact Rm.of own_row | exact Rm.of row_close0 | apply Tk.c | apply Rm.t)) ?_; rintro _ _ ⟨rfl, rfl⟩; refine ⟨(by repeat (first | exact trivial | refine ⟨trivial, ?_⟩ | refine ⟨RdAt.row (by repeat (first | exact .h | apply AtR.t)) (by omega) (rd_slp hx), ?_⟩ | refine ⟨wk (by repeat (first | exact .h | exact .q | apply At.t)) (by rfl), ?_⟩)), ?_⟩)
    (refine G tt_ok pk13 ?_; repeat (refine G1 tt_ok pk13 ?_; intro _))
    (refine ka rfl rfl (seen26 β d k) ?_; rintro _ _ ⟨b12, b13, rfl, rfl⟩; refine w_ ?_)
    (refine G tt_ok pk13 ?_; repeat (refine G1 tt_ok pk13 ?_; intro _))
    have hI := iterS β d b12 b13 ok k
    have hget : ∀ p ∈ D.seenV k, D.getV k p.1 = (p.2, 0) := fun p hp => (seenV_get ok.es ok.ok hp).1
    generalize D.seenV k = l at hI hget ⊢
    refine CW.rangeA rfl hI (by repeat (first | exact .n | exact Rm.h | apply Tk.c | apply Rm.t)) (fun pre => [pt b3 [.pointer (some ⟨r, 0, none⟩)], pt b4 [.bool false], pt bk [.int .i64 k]] ++ rD r R D) (fun _ _ => False) pk_ (fun _ => rfl) (by decide) ?_ ?_ ?_
    · intro pre y hpre lp fm rec1
      have hy : y ∈ l := hpre.subset (by simp)
      have hg := refGet44 β r R D ok k y.1
      rw [hget y hy] at hg
      (refine G tt_ok pk13 ?_; repeat (refine G1 tt_ok pk13 ?_; intro _))
      intro fm2 rec2
      (refine G tt_ok pk13 ?_; repeat (refine G1 tt_ok pk13 ?_; intro _))
      refine ke rfl rfl (hg) ?_
      (refine G tt_ok pk13 ?_; repeat (refine G1 tt_ok pk13 ?_; intro _))
      refine SQ.eqn tt_ok [53, 35] ⟨by kernel_rfl, by kernel_rfl, trivial⟩ rfl rfl (by kernel_rfl) false (by simp) ?_
      (refine G tt_ok pk13 ?_; repeat (refine G1 tt_ok pk13 ?_; intro _))
      exact pk_
    · (refine G tt_ok pk13 ?_; repeat (refine G1 tt_ok pk13 ?_; intro _))
      rename_i bk2
      refine ⟨(k + 1, bk2), by simp; omega, by simp; omega, ⟨rfl, rfl, rfl, rfl, trivial⟩, ?_⟩
      simp only
      rw [← hw]
      exact pk_
    · intro _ _ h; exact h.elim
  · rw [decide_eq_false (show ¬ (k : Int) < D.xs.length by omega)]
    (refine G tt_ok pk13 ?_; repeat (refine G1 tt_ok pk13 ?_; intro _))
    refine CW.exit ?_
    (refine G tt_ok pk13 ?_; repeat (refine G1 tt_ok pk13 ?_; intro _))
    refine CW.loop (α := Nat) (fun x => x ≤ D.sh.length) (fun x => [(10, .int .i64 ((32 + x : Nat) : Int)), (4, .pointer (some ⟨b4, 0, none⟩)), (3, .pointer (some ⟨b3, 0, none⟩)), (0, .pointer (some ⟨d, 0, none⟩))])
      (fun x => [pt b3 [.pointer (some ⟨r, 0, none⟩)], pt b4 [.bool false]] ++ dA d D ++ rD r R D) (fun x => D.sh.length - x) 0 (by simp) ⟨rfl, rfl, rfl, rfl, trivial⟩ pk_ ?_
    intro j hj
    (refine G tt_ok pk13 ?_; repeat (refine G1 tt_ok pk13 ?_; intro _))
    rw [wrap_id (show -9223372036854775808 ≤ 32 + (D.sh.length : Int) by omega) (by omega)]
    by_cases hlt2 : j < D.sh.length
    · rw [decide_eq_true (show ((32 + j : Nat) : Int) < 32 + (D.sh.length : Int) by omega)]
      have hw : IntKind.i64.wrap (((32 + j : Nat) : Int) + 1) = ((32 + (j + 1) : Nat) : Int) := by rw [wrap_i64]; split <;> omega
      have hgd := get21' β d D 0 ((32 + j : Nat) : Int) (by omega)
      have hgr := refGet44 β r R D ok 0 ((32 + j : Nat) : Int)
      rw [getR_in h1 (by omega) (by omega)] at hgd
      (refine G tt_ok pk13 ?_; repeat (refine G1 tt_ok pk13 ?_; intro _))
      refine ke rfl rfl (hgd) ?_
      (refine G tt_ok pk13 ?_; repeat (refine G1 tt_ok pk13 ?_; intro _))
      refine ke rfl rfl (hgr) ?_
      (refine G tt_ok pk13 ?_; repeat (refine G1 tt_ok pk13 ?_; intro _))
      refine SQ.eqn tt_ok [53, 35] ⟨by kernel_rfl, by kernel_rfl, trivial⟩ rfl rfl (by kernel_rfl) false (by simp) ?_
      (refine G tt_ok pk13 ?_; repeat (refine G1 tt_ok pk13 ?_; intro _))
      refine ke rfl rfl (target19 β d D.o0 D.o1 D.sb D.sq D.sc D.sh D.qc D.cc D.xs (by omega) ((32 + j : Nat) : Int) (by omega)) ?_
      (refine G tt_ok pk13 ?_; repeat (refine G1 tt_ok pk13 ?_; intro _))
      refine ke rfl rfl (refTarget45 β r R D ok ((32 + j : Nat) : Int)) ?_
      (refine G tt_ok pk13 ?_; repeat (refine G1 tt_ok pk13 ?_; intro _))
      rw [show (targetV D.sh D.xs ((32 + j : Nat) : Int) != targetV D.sh D.xs ((32 + j : Nat) : Int)) = false by simp]
      (refine G tt_ok pk13 ?_; repeat (refine G1 tt_ok pk13 ?_; intro _))
      exact ⟨j + 1, by omega, by omega, ⟨by rw [← hw]; rfl, rfl, rfl, rfl, trivial⟩, pk_⟩
    · rw [decide_eq_false (show ¬ ((32 + j : Nat) : Int) < 32 + (D.sh.length : Int) by omega)]
      (refine G tt_ok pk13 ?_; repeat (refine G1 tt_ok pk13 ?_; intro _))
      refine CW.exit ?_
      (refine G tt_ok pk13 ?_; repeat (refine G1 tt_ok pk13 ?_; intro _))
      exact CW.ret (fin_cells [_] ⟨(by first | exact ⟨_, _, _, _, 0, rfl, rfl, rfl, rfl⟩ | exact ⟨_, _, _, _, 1, rfl, rfl, rfl, rfl⟩ | exact ⟨_, _, _, _, 2, rfl, rfl, rfl, rfl⟩ | exact ⟨_, _, _, _, 3, rfl, rfl, rfl, rfl⟩ | exact ⟨_, _, _, _, 4, rfl, rfl, rfl, rfl⟩ | exact ⟨_, _, _, _, 5, rfl, rfl, rfl, rfl⟩ | exact ⟨_, _, _, _, 6, rfl, rfl, rfl, rfl⟩ | exact ⟨_, _, _, _, 7, rfl, rfl, rfl, rfl⟩ | exact ⟨_, _, _, _, 8, rfl, rfl, rfl, rfl⟩ | exact ⟨_, _, _, _, 9, rfl, rfl, rfl, rfl⟩ | exact ⟨_, _, _, _, 10, rfl, rfl, rfl, rfl⟩ | exact ⟨_, _, _, _, 11, rfl, rfl, rfl, rfl⟩ | exact ⟨_, _, _, _, 12, rfl, rfl, rfl, rfl⟩ | exact ⟨_, _, _, _, 13, rfl, rfl, rfl, rfl⟩ | exact ⟨_, _, _, _, 14, rfl, rfl, rfl, rfl⟩ | exact ⟨_, _, _, _, 15, rfl, rfl, rfl, rfl⟩ | exact ⟨_, _, _, _, 16, rfl, rfl, rfl, rfl⟩ | exact ⟨_, _, _, _, 17, rfl, rfl, rfl, rfl⟩ | exact ⟨_, _, _, _, 18, rfl, rfl, rfl, rfl⟩ | exact ⟨_, _, _, _, 19, rfl, rfl, rfl, rfl⟩ | exact ⟨_, _, _, _, 20, rfl, rfl, rfl, rfl⟩ | exact ⟨_, _, _, _, 21, rfl, rfl, rfl, rfl⟩ | exact ⟨_, _, _, _, 22, rfl, rfl, rfl, rfl⟩ | exact ⟨_, _, _, _, 23, rfl, rfl, rfl, rfl⟩), trivial⟩ (A := dA d D ++ rD r R D) pk_ ⟨rfl, rfl⟩)
end Go.Proofs.YtjphlcfplcacnaaGreat.Sl
namespace Go.Proofs.YtjphlcfplcacnaaGreat.Sl
open Go Go.RowKit Go.Proofs
set_option linter.unusedVariables false
set_option linter.unusedSimpArgs false
attribute [local irreducible] CW Tri OW
set_option maxRecDepth 10000
@[reducible] def pk14 : List (Nat × Plan) := [(1, [(0, 0, []), (1, 0, []), (2, 0, []), (3, 0, []), (4, 1, [2, 3]), (5, 1, [2, 3]), (6, 0, []), (7, 0, []), (8, 0, []), (9, 0, []), (10, 0, [])]), (2, [(0, 0, []), (1, 0, []), (2, 0, []), (3, 0, []), (4, 1, [2, 3]), (5, 1, [2, 3]), (6, 0, []), (7, 0, []), (8, 0, []), (9, 0, []), (10, 0, [])]), (5, [(0, 0, []), (1, 0, []), (2, 0, []), (3, 0, []), (4, 0, []), (5, 0, []), (6, 0, []), (7, 0, []), (8, 0, []), (9, 0, []), (10, 0, []), (11, 0, []), (12, 0, []), (13, 0, []), (14, 0, []), (15, 0, []), (16, 0, []), (17, 0, []), (18, 0, []), (19, 0, []), (20, 0, []), (21, 0, []), (23, 0, []), (24, 0, []), (25, 0, []), (22, 1, [9, 10, 21, 25]), (26, 1, [9, 10, 21, 25]), (27, 0, []), (28, 0, []), (29, 0, []), (30, 0, []), (31, 0, []), (32, 0, []), (34, 0, []), (35, 0, []), (36, 0, []), (33, 1, [9, 10, 21, 25, 32, 36]), (37, 1, [9, 10, 21, 25, 32, 36]), (38, 0, []), (39, 0, []), (40, 0, []), (41, 0, []), (42, 0, []), (43, 0, []), (44, 0, []), (45, 0, []), (46, 0, []), (47, 0, []), (48, 0, []), (49, 0, []), (50, 0, [])])]
set_option maxHeartbeats 16000000 in
theorem asks14 (β : Base) (d r : Nat) (R : RS) (D : DS) (ok : OkD R D) (x : Ac) (hx : acOk x) : Tri Tryz.prog β 14 [.pointer (some ⟨d, 0, none⟩), .pointer (some ⟨r, 0, none⟩), .agg #[.int .i64 x.1, .int .i64 x.2.1, .int .i64 x.2.2.1, .int .i64 x.2.2.2.1, .int .u64 (x.2.2.2.2.1 : Int), .int .i64 x.2.2.2.2.2.1, .bool x.2.2.2.2.2.2.1.1, .bool x.2.2.2.2.2.2.1.2.1, .bool x.2.2.2.2.2.2.1.2.2.1, .bool x.2.2.2.2.2.2.1.2.2.2, .bool x.2.2.2.2.2.2.2]] (dA d D ++ rD r R D) (fun v L => v = .bool true ∧ L = dA d D ++ rD r R D) := by
  have h1 := ok.one
  have h8 := ok.x8
  obtain ⟨x0, off, K, id, v, ac, s, hi⟩ := x
  obtain ⟨hid, hv⟩ := hx
  simp only at hid hv ⊢
  refine Tri.intro tt_ok Tryz.func14 rfl rfl Tryz.ntmps14 rfl fun F => ?_
  (refine G tt_ok pk14 ?_; repeat (refine G1 tt_ok pk14 ?_; intro _))
  refine ke rfl rfl (wide46 β (x0, off, K, id, v, ac, s, hi)) ?_
  (refine G tt_ok pk14 ?_; repeat (refine G1 tt_ok pk14 ?_; intro _))
  refine ke rfl rfl (read34 β d D h1 h8 ok.sh ok.rt off (wideV hi)) ?_
  (refine G tt_ok pk14 ?_; repeat (refine G1 tt_ok pk14 ?_; intro _))
  refine ke rfl rfl (wide46 β (x0, off, K, id, v, ac, s, hi)) ?_
  (refine G tt_ok pk14 ?_; repeat (refine G1 tt_ok pk14 ?_; intro _))
  refine ke rfl rfl (refRead47 β r R D ok off (wideV hi) (distV_w off hi)) ?_
  (refine G tt_ok pk14 ?_; repeat (refine G1 tt_ok pk14 ?_; intro _))
  generalize D.rdV off (wideV hi) = z
  refine ke rfl rfl (get21' β d D K id hid) ?_
  (refine G tt_ok pk14 ?_; repeat (refine G1 tt_ok pk14 ?_; intro _))
  refine ke rfl rfl (refGet44 β r R D ok K id) ?_
  (refine G tt_ok pk14 ?_; repeat (refine G1 tt_ok pk14 ?_; intro _))
  rw [show (z.1 != z.1) = false by simp]
  (refine G tt_ok pk14 ?_; repeat (refine G1 tt_ok pk14 ?_; intro _))
  rw [show (z.2 != z.2) = false by simp]
  (refine G tt_ok pk14 ?_; repeat (refine G1 tt_ok pk14 ?_; intro _))
  refine SQ.eqn tt_ok [53, 35] ⟨by kernel_rfl, by kernel_rfl, trivial⟩ rfl rfl (by kernel_rfl) false (by simp) ?_
  (refine G tt_ok pk14 ?_; repeat (refine G1 tt_ok pk14 ?_; intro _))
  rw [show ((D.getV K id).2 != (D.getV K id).2) = false by simp]
  (refine G tt_ok pk14 ?_; repeat (refine G1 tt_ok pk14 ?_; intro _))
  refine ke rfl rfl (target19 β d D.o0 D.o1 D.sb D.sq D.sc D.sh D.qc D.cc D.xs (by omega) id hid) ?_
  (refine G tt_ok pk14 ?_; repeat (refine G1 tt_ok pk14 ?_; intro _))
  refine ke rfl rfl (refTarget45 β r R D ok id) ?_
  (refine G tt_ok pk14 ?_; repeat (refine G1 tt_ok pk14 ?_; intro _))
  rw [show (targetV D.sh D.xs id != targetV D.sh D.xs id) = false by simp]
  (refine G tt_ok pk14 ?_; repeat (refine G1 tt_ok pk14 ?_; intro _))
  refine ke rfl rfl (asleep22 β d D K) ?_
  (refine G tt_ok pk14 ?_; repeat (refine G1 tt_ok pk14 ?_; intro _))
  refine ke rfl rfl (there48 β r _ _ _ rfl rfl rfl R.qk R.qa R.qo R.qs D.sh.length D.sh.length D.xs.length D.xs.length R.ck R.ca R.co R.cs K) ?_
  (refine G tt_ok pk14 ?_; repeat (refine G1 tt_ok pk14 ?_; intro _))
  cases hr : rightV D.xs.length K with
  | false =>
    have ha : asleepV D.xs K = true := by unfold asleepV; rw [hr]; rfl
    rw [ha]
    (refine G tt_ok pk14 ?_; repeat (refine G1 tt_ok pk14 ?_; intro _))
    refine ke rfl rfl (refRedist49 β off 4) ?_
    (refine G tt_ok pk14 ?_; repeat (refine G1 tt_ok pk14 ?_; intro _))
    have hle := redist_le off
    generalize redistV off 4 = y at hle ⊢
    obtain ⟨⟨pr, pf, pc⟩, e⟩ := y
    simp only at hle ⊢
    by_cases h0 : e = 0
    · subst h0
      (refine G tt_ok pk14 ?_; repeat (refine G1 tt_ok pk14 ?_; intro _))
      refine ke rfl rfl (rdOwn29 β d D K pr pf pc) ?_
      (refine G tt_ok pk14 ?_; repeat (refine G1 tt_ok pk14 ?_; intro _))
      refine ke rfl rfl (refRdOwn50 β r R D ok K pr pf pc hle) ?_
      generalize D.rdOwnV K pr pf pc = w
      (refine G tt_ok pk14 ?_; repeat (refine G1 tt_ok pk14 ?_; intro _))
      rw [show (w.1 == w.1) = true by simp]
      (refine G tt_ok pk14 ?_; repeat (refine G1 tt_ok pk14 ?_; intro _))
      exact CW.ret (fin_ret rfl (A := dA d D ++ rD r R D) pk_ ⟨by simp [packV], rfl⟩)
    · rw [show (e != 0) = true by simp [h0]]
      (refine G tt_ok pk14 ?_; repeat (refine G1 tt_ok pk14 ?_; intro _))
      exact CW.ret (fin_ret rfl (A := dA d D ++ rD r R D) pk_ ⟨rfl, rfl⟩)
  | true =>
    obtain ⟨y, hy, hyl, hyk⟩ := right_at hr
    have ha : asleepV D.xs K = y.sl := by unfold asleepV; rw [if_pos hr, hy]
    rw [ha]
    (refine G tt_ok pk14 ?_; repeat (refine G1 tt_ok pk14 ?_; intro _))
    (refine SQ.idxR tt_ok rfl rfl (by repeat (first | exact .h | apply AtR.t)) (K.toNat) (hyk) (hyl) rfl ?_)
    (refine G tt_ok pk14 ?_; repeat (refine G1 tt_ok pk14 ?_; intro _))
    (refine SQ.ldR tt_ok rfl rfl (by repeat (first | exact .h | apply AtR.t)) (by omega) (rd_slp hy) ?_)
    (refine G tt_ok pk14 ?_; repeat (refine G1 tt_ok pk14 ?_; intro _))
    rw [show (!y.sl == y.sl) = false by simp]
    (refine G tt_ok pk14 ?_; repeat (refine G1 tt_ok pk14 ?_; intro _))
    refine ke rfl rfl (refRedist49 β off 4) ?_
    (refine G tt_ok pk14 ?_; repeat (refine G1 tt_ok pk14 ?_; intro _))
    have hle := redist_le off
    generalize redistV off 4 = y at hle ⊢
    obtain ⟨⟨pr, pf, pc⟩, e⟩ := y
    simp only at hle ⊢
    by_cases h0 : e = 0
    · subst h0
      (refine G tt_ok pk14 ?_; repeat (refine G1 tt_ok pk14 ?_; intro _))
      refine ke rfl rfl (rdOwn29 β d D K pr pf pc) ?_
      (refine G tt_ok pk14 ?_; repeat (refine G1 tt_ok pk14 ?_; intro _))
      refine ke rfl rfl (refRdOwn50 β r R D ok K pr pf pc hle) ?_
      generalize D.rdOwnV K pr pf pc = w
      (refine G tt_ok pk14 ?_; repeat (refine G1 tt_ok pk14 ?_; intro _))
      rw [show (w.1 == w.1) = true by simp]
      (refine G tt_ok pk14 ?_; repeat (refine G1 tt_ok pk14 ?_; intro _))
      exact CW.ret (fin_ret rfl (A := dA d D ++ rD r R D) pk_ ⟨by simp [packV], rfl⟩)
    · rw [show (e != 0) = true by simp [h0]]
      (refine G tt_ok pk14 ?_; repeat (refine G1 tt_ok pk14 ?_; intro _))
      exact CW.ret (fin_ret rfl (A := dA d D ++ rD r R D) pk_ ⟨rfl, rfl⟩)
end Go.Proofs.YtjphlcfplcacnaaGreat.Sl
namespace Go.Proofs.YtjphlcfplcacnaaGreat.Sl
open Go Go.RowKit Go.Proofs
set_option linter.unusedVariables false
set_option linter.unusedSimpArgs false
attribute [local irreducible] CW Tri OW
set_option maxRecDepth 10000
theorem OkD.like {R : RS} {D E : DS} (ok : OkD R D) (h : E.like D) : OkD R E := by
  obtain ⟨h1, h2, h3, h4⟩ := h
  have hl : E.xs.length = D.xs.length := by have := congrArg List.length h4; simpa using this
  refine ⟨by rw [hl]; exact ok.one, by rw [hl]; exact ok.x8, fun x hx => ?_, by rw [h3]; exact ok.sh, by rw [h3]; exact ok.ok, by rw [hl]; exact ok.os, by rw [h3]; exact ok.rt⟩
  have : plX x ∈ E.xs.map plX := List.mem_map_of_mem hx
  rw [h4] at this
  obtain ⟨y, hy, e⟩ := List.mem_map.1 this
  have := ok.es y hy
  simp [plX] at e
  rw [e.1] at this; exact this
set_option maxHeartbeats 16000000 in
theorem law_does (β : Base) {p : Option Addr} {n c : Nat} {ts : List Ac} {A : Atom} (hr : RdS β p n 11 (ts.flatMap acC) A) (hn : n ≤ 9223372036854775807) (hid : ∀ t ∈ ts, acOk t) {a m : Int} (ha0 : 0 ≤ a) (ha1 : a ≤ 255) (hm0 : 0 ≤ m) (hm1 : m ≤ 255) :
    Tri Tryz.prog β 9 [.int .u8 a, .int .u8 m, .slice p n c] [A] (fun v L => v = .bool true ∧ L = []) := by
  have htl : ts.length = n := by have := hr.1; rw [flatE_len (sz := 11) (fun _ => rfl)] at this; omega
  refine Tri.intro tt_ok Tryz.func9 rfl rfl Tryz.ntmps9 rfl fun F => ?_
  (refine G tt_ok [] ?_; repeat (refine G1 tt_ok [] ?_; intro _))
  refine ke rfl rfl (awake10 β) ?_
  (refine G tt_ok [] ?_; repeat (refine G1 tt_ok [] ?_; intro _))
  (refine ka rfl rfl (both31 β ha0 ha1 hm0 hm1) ?_; rintro _ _ ⟨d, D, r, R, rfl, rfl, hD, ok⟩; refine w_ ?_)
  (refine G tt_ok [] ?_; repeat (refine G1 tt_ok [] ?_; intro _))
  refine CW.loop (α := Nat × Nat × DS) (fun x => x.1 ≤ n ∧ OkD R x.2.2) (fun x => [(10, .int .i64 x.1), (9, .pointer (some ⟨r, 0, none⟩)), (8, .pointer (some ⟨x.2.1, 0, none⟩)), (2, .slice p n c)])
    (fun x => dA x.2.1 x.2.2 ++ rD r R x.2.2 ++ [A]) (fun x => n - x.1) (0, d, D) ⟨by simp, ok⟩ ⟨rfl, rfl, rfl, rfl, trivial⟩ pk_ ?_
  rintro ⟨k, d', E⟩ ⟨hk, okE⟩
  simp only at hk okE ⊢
  (refine G tt_ok [] ?_; repeat (refine G1 tt_ok [] ?_; intro _))
  by_cases hlt : k < n
  · rw [decide_eq_true (show (k : Int) < n by omega)]
    have hw : IntKind.i64.wrap ((k : Int) + 1) = ((k + 1 : Nat) : Int) := by rw [wrap_i64]; split <;> omega
    obtain ⟨t, ht⟩ : ∃ t, ts[k]? = some t := ⟨_, List.getElem?_eq_getElem (by omega)⟩
    (refine G tt_ok [] ?_; repeat (refine G1 tt_ok [] ?_; intro _))
    (refine SQ.idxG tt_ok rfl rfl (hr.slr) (by repeat (first | exact .h | apply AtA.t)) (k) (rfl) (hlt) rfl ?_)
    (refine SQ.ldG tt_ok rfl rfl (hr.slr) (by repeat (first | exact .h | apply AtA.t)) (by omega) (fun cur hcs => rd_ac hcs ht) ?_)
    (refine G tt_ok [] ?_; repeat (refine G1 tt_ok [] ?_; intro _))
    by_cases h7 : t.1 = 7
    · rw [show (t.1 == 7) = true by simp [h7]]
      have hv := (hid t (List.mem_of_getElem? ht)).2
      (refine G tt_ok [] ?_; repeat (refine G1 tt_ok [] ?_; intro _))
      (refine ka rfl rfl (copy24 β d' E okE.x8 okE.sh (fun x hx => (okE.es x hx).1)) ?_; rintro _ _ ⟨cp, E', rfl, rfl, hlike⟩; refine w_ ?_)
      (refine G tt_ok [] ?_; repeat (refine G1 tt_ok [] ?_; intro _))
      refine ke rfl rfl (do23 β d' E 0 3 3 (by omega)) ?_
      (refine G tt_ok [] ?_; repeat (refine G1 tt_ok [] ?_; intro _))
      refine ke rfl rfl (write32 β d' (E.doV 0 3 3).1 256 4 4294967295 (by decide)) ?_
      (refine G tt_ok [] ?_; repeat (refine G1 tt_ok [] ?_; intro _))
      refine ke rfl rfl (write32 β d' ((E.doV 0 3 3).1.wrV 256 4 4294967295).1 0 4 t.2.2.2.2.1 hv) ?_
      (refine G tt_ok [] ?_; repeat (refine G1 tt_ok [] ?_; intro _))
      have okE' := okE.like hlike
      rw [rD_congr (D := E) (D' := E') hlike.1.symm hlike.2.1.symm hlike.2.2.1.symm hlike.2.2.2.symm]
      (refine G tt_ok [] ?_; repeat (refine G1 tt_ok [] ?_; intro _))
      refine ke rfl rfl (does33 β cp r R E' okE' t (hid t (List.mem_of_getElem? ht))) ?_
      (refine G tt_ok [] ?_; repeat (refine G1 tt_ok [] ?_; intro _))
      refine ke rfl rfl (alike13 β cp r R (actV E' t) (okE'.act t)) ?_
      (refine G tt_ok [] ?_; repeat (refine G1 tt_ok [] ?_; intro _))
      refine ke rfl rfl (asks14 β cp r R (actV E' t) (okE'.act t) t (hid t (List.mem_of_getElem? ht))) ?_
      (refine G tt_ok [] ?_; repeat (refine G1 tt_ok [] ?_; intro _))
      exact ⟨(k + 1, cp, actV E' t), ⟨by simp; omega, okE'.act t⟩, by simp; omega, ⟨by rw [← hw]; rfl, rfl, rfl, rfl, trivial⟩, pk_⟩
    · rw [show (t.1 == 7) = false by simp [h7]]
      (refine G tt_ok [] ?_; repeat (refine G1 tt_ok [] ?_; intro _))
      refine ke rfl rfl (does33 β d' r R E okE t (hid t (List.mem_of_getElem? ht))) ?_
      (refine G tt_ok [] ?_; repeat (refine G1 tt_ok [] ?_; intro _))
      refine ke rfl rfl (alike13 β d' r R (actV E t) (okE.act t)) ?_
      (refine G tt_ok [] ?_; repeat (refine G1 tt_ok [] ?_; intro _))
      refine ke rfl rfl (asks14 β d' r R (actV E t) (okE.act t) t (hid t (List.mem_of_getElem? ht))) ?_
      (refine G tt_ok [] ?_; repeat (refine G1 tt_ok [] ?_; intro _))
      exact ⟨(k + 1, d', actV E t), ⟨by simp; omega, okE.act t⟩, by simp; omega, ⟨by rw [← hw]; rfl, rfl, rfl, rfl, trivial⟩, pk_⟩
  · rw [decide_eq_false (show ¬ (k : Int) < n by omega)]
    (refine G tt_ok [] ?_; repeat (refine G1 tt_ok [] ?_; intro _))
    refine CW.exit ?_
    (refine G tt_ok [] ?_; repeat (refine G1 tt_ok [] ?_; intro _))
    exact CW.ret (fin_ret rfl (Ent.dropAll _) ⟨rfl, rfl⟩)
theorem new11_bad (β : Base) {n s : Int} (h : ¬ (1 ≤ n ∧ n ≤ 8 ∧ 0 ≤ s ∧ s ≤ 64)) : Tri Tryz.prog β 11 [.int .i64 n, .int .i64 s] [] (fun v L => v = .tuple #[.pointer none, .int .i64 1] ∧ L = []) := by
  refine Tri.intro tt_ok Tryz.func11 rfl rfl Tryz.ntmps11 rfl fun F => ?_
  (refine G tt_ok [] ?_; repeat (refine G1 tt_ok [] ?_; intro _))
  by_cases h1 : n < 1
  · rw [decide_eq_true h1]
    (refine G tt_ok [] ?_; repeat (refine G1 tt_ok [] ?_; intro _))
    exact CW.ret (fin_ret rfl (Ent.dropAll _) ⟨rfl, rfl⟩)
  rw [decide_eq_false h1]
  (refine G tt_ok [] ?_; repeat (refine G1 tt_ok [] ?_; intro _))
  by_cases h2 : n > 8
  · rw [decide_eq_true h2]
    (refine G tt_ok [] ?_; repeat (refine G1 tt_ok [] ?_; intro _))
    exact CW.ret (fin_ret rfl (Ent.dropAll _) ⟨rfl, rfl⟩)
  rw [decide_eq_false h2]
  (refine G tt_ok [] ?_; repeat (refine G1 tt_ok [] ?_; intro _))
  by_cases h3 : s < 0
  · rw [decide_eq_true h3]
    (refine G tt_ok [] ?_; repeat (refine G1 tt_ok [] ?_; intro _))
    exact CW.ret (fin_ret rfl (Ent.dropAll _) ⟨rfl, rfl⟩)
  rw [decide_eq_false h3]
  (refine G tt_ok [] ?_; repeat (refine G1 tt_ok [] ?_; intro _))
  rw [decide_eq_true (show s > 64 by omega)]
  (refine G tt_ok [] ?_; repeat (refine G1 tt_ok [] ?_; intro _))
  exact CW.ret (fin_ret rfl (Ent.dropAll _) ⟨rfl, rfl⟩)
theorem new12_bad (β : Base) {n s : Int} (h : ¬ (1 ≤ n ∧ n ≤ 8 ∧ 0 ≤ s ∧ s ≤ 64)) : Tri Tryz.prog β 12 [.int .i64 n, .int .i64 s] [] (fun v L => v = .tuple #[.pointer none, .bool false] ∧ L = []) := by
  refine Tri.intro tt_ok Tryz.func12 rfl rfl Tryz.ntmps12 rfl fun F => ?_
  (refine G tt_ok [] ?_; repeat (refine G1 tt_ok [] ?_; intro _))
  by_cases h1 : n < 1
  · rw [decide_eq_true h1]
    (refine G tt_ok [] ?_; repeat (refine G1 tt_ok [] ?_; intro _))
    exact CW.ret (fin_ret rfl (Ent.dropAll _) ⟨rfl, rfl⟩)
  rw [decide_eq_false h1]
  (refine G tt_ok [] ?_; repeat (refine G1 tt_ok [] ?_; intro _))
  by_cases h2 : n > 8
  · rw [decide_eq_true h2]
    (refine G tt_ok [] ?_; repeat (refine G1 tt_ok [] ?_; intro _))
    exact CW.ret (fin_ret rfl (Ent.dropAll _) ⟨rfl, rfl⟩)
  rw [decide_eq_false h2]
  (refine G tt_ok [] ?_; repeat (refine G1 tt_ok [] ?_; intro _))
  by_cases h3 : s < 0
  · rw [decide_eq_true h3]
    (refine G tt_ok [] ?_; repeat (refine G1 tt_ok [] ?_; intro _))
    exact CW.ret (fin_ret rfl (Ent.dropAll _) ⟨rfl, rfl⟩)
  rw [decide_eq_false h3]
  (refine G tt_ok [] ?_; repeat (refine G1 tt_ok [] ?_; intro _))
  rw [decide_eq_true (show s > 64 by omega)]
  (refine G tt_ok [] ?_; repeat (refine G1 tt_ok [] ?_; intro _))
  exact CW.ret (fin_ret rfl (Ent.dropAll _) ⟨rfl, rfl⟩)
theorem law_news (β : Base) (n s off : Int) :
    Tri Tryz.prog β 3 [.int .i64 n, .int .i64 s, .int .i64 off] [] (fun v L => v = .bool true ∧ L = []) := by
  refine Tri.intro tt_ok Tryz.func3 rfl rfl Tryz.ntmps3 rfl fun F => ?_
  (refine G tt_ok [] ?_; repeat (refine G1 tt_ok [] ?_; intro _))
  refine ke rfl rfl (awake10 β) ?_
  (refine G tt_ok [] ?_; repeat (refine G1 tt_ok [] ?_; intro _))
  by_cases h : 1 ≤ n ∧ n ≤ 8 ∧ 0 ≤ s ∧ s ≤ 64
  · obtain ⟨N, rfl⟩ : ∃ N : Nat, n = (N : Int) := ⟨n.toNat, by omega⟩
    obtain ⟨S, rfl⟩ : ∃ S : Nat, s = (S : Int) := ⟨s.toNat, by omega⟩
    have hN1 : 1 ≤ N := by omega
    have hN8 : N ≤ 8 := by omega
    have hS : S ≤ 64 := by omega
    (refine ka rfl rfl (new11' β hN1 hN8 hS) ?_; rintro _ _ ⟨d, D, rfl, rfl, hD⟩; refine w_ ?_)
    (refine G tt_ok [] ?_; repeat (refine G1 tt_ok [] ?_; intro _))
    (refine ka rfl rfl (refNew12 β hN1 hN8 hS) ?_; rintro _ _ ⟨r, R, rfl, hos, hR⟩; refine w_ ?_)
    rw [hR D hD.1 hD.2.1 hD.2.2.1 hD.2.2.2.1 hD.2.2.2.2]
    have ok := newD_ok hD hN1 hN8 hS hos
    (refine G tt_ok [] ?_; repeat (refine G1 tt_ok [] ?_; intro _))
    refine ke rfl rfl (alike13 β d r R D ok) ?_
    (refine G tt_ok [] ?_; repeat (refine G1 tt_ok [] ?_; intro _))
    refine ke rfl rfl (asks14 β d r R D ok (0, off, 0, 0, 0, 0, (false, false, false, false), false) ⟨by simp, by simp⟩) ?_
    (refine G tt_ok [] ?_; repeat (refine G1 tt_ok [] ?_; intro _))
    exact CW.ret (fin_ret rfl (Ent.dropAll _) ⟨rfl, rfl⟩)
  · refine ke rfl rfl (new11_bad β h) ?_
    (refine G tt_ok [] ?_; repeat (refine G1 tt_ok [] ?_; intro _))
    refine ke rfl rfl (new12_bad β h) ?_
    (refine G tt_ok [] ?_; repeat (refine G1 tt_ok [] ?_; intro _))
    exact CW.ret (fin_ret rfl (Ent.dropAll _) ⟨rfl, rfl⟩)
end Go.Proofs.YtjphlcfplcacnaaGreat.Sl
