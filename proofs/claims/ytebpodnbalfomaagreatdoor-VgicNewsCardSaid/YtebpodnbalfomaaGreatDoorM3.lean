/-
  Part 3 of the proof: contracts of the code's functions, and what is plain.
-/
import Derived.Test.YtebpodnbalfomaaGreatDoorM2
import Derived.Test.YtebpodnbalfomaaGreatDoorL9
import Derived.Test.YtebpodnbalfomaaGreatDoorM1
import Derived.Shelf.GgSortFunc.InsertionK
import Derived.Shelf.SlSortCmp.WholeK
import Derived.Shelf.SlicesG.Cmp
import Derived.Shelf.Small.Bits
namespace Go.Proofs.YtebpodnbalfomaaGreatDoor.Sl
open Go Go.RowKit Go.Proofs
set_option linter.unusedVariables false
set_option linter.unusedSimpArgs false
attribute [local irreducible] CW Tri OW
set_option maxRecDepth 10000
/-- What a distributor, and where the document's lies, keep to. -/
structure OkD (R : RS) (D : DS) : Prop where
  one : 1 ≤ D.xs.length
  x8 : D.xs.length ≤ 8
  es : ∀ x ∈ D.xs, x.es.length = 32 ∧ Bn.okL x.es
  sh : D.sh.length ≤ 64
  ok : Br.okL D.sh
  os : R.os.length = D.xs.length
  rt : ∀ e ∈ D.sh, 0 ≤ e.2.1 ∧ e.2.1 ≤ 255
theorem OB.at_len {o : OB} {first : Int} {ls ls' : List Ln} (h : ls'.length = ls.length) : rbA o.b first o.q o.c (.slice o.q2 ls.length o.c2) ls' = o.at_ first ls' := by unfold OB.at_; rw [h]
theorem doN (β : Base) (o : OB) {first : Int} (id x : Int) (es : List Bn.En) (hf0 : 0 ≤ first) (hf1 : first ≤ 16384) (hn : es.length ≤ 16384) :
    Tri Tryz.prog β 145 [.pointer (some ⟨o.b, 0, none⟩), .int .i64 id, .int .i64 x] (o.at_ first (Bn.lsV es)) (fun v L => v = .int .i64 (Bn.doV first es id x).2 ∧ L = o.at_ first (Bn.lsV (Bn.doV first es id x).1)) := by
  have := do36 β o.b (first := first) id x o.q o.c (.slice o.q2 (Bn.lsV es).length o.c2) (Bn.lsV es) hf0 hf1 (by rw [Bn.lsV_len]; exact hn) rfl
  rw [Bn.doD_lsV] at this
  simp only at this
  rw [OB.at_len (ls' := Bn.lsV (Bn.doV first es id x).1) (by rw [Bn.lsV_len, Bn.lsV_len, Bn.doV_len])] at this
  exact this
theorem zip_at {os : List OB} {xs : List CR} {k : Nat} {o : OB} {x : CR} (ho : os[k]? = some o) (hx : xs[k]? = some x) : (os.zip xs)[k]? = some (o, x) := by
  rw [List.getElem?_zip_eq_some]; exact ⟨ho, hx⟩
theorem rd_slp {xs : List CR} {k : Nat} {x : CR} (h : xs[k]? = some x) (X : List Value) : rdv ti4 (xs.flatMap slC ++ X) (0 + k * 1) = some (.bool x.sl) :=
  rd_partR (enc := slC) (sz := 1) (fun _ => rfl) h 0 (i := ti4) rfl (by decide) (by omega) (by decide) X
theorem putN_set {first id : Int} {es : List Bn.En} {e : Bn.En} (ok : Bn.okL es) (h : Bn.atE first es id = some e) (s : Iq) : Bn.putV first es id ((s, e.1.2), ()) = (es.set (id - first).toNat ((s, e.1.2), e.2), 0) := by
  obtain ⟨i, hi, he⟩ := Bn.atE_iff.1 h
  obtain ⟨g1, g2, g3, g4, g5⟩ := Bn.okL_at ok he
  unfold Bn.putV
  rw [h]
  simp only
  rw [if_neg (by omega), g5]
theorem putR_set {first id : Int} {es : List Br.En} {e : Br.En} (ok : Br.okL es) (h : Br.atE first es id = some e) (s : Iq) : Br.putV first es id ((s, e.1.2), e.2) = (es.set (id - first).toNat ((s, e.1.2), e.2), 0) := by
  obtain ⟨i, hi, he⟩ := Br.atE_iff.1 h
  obtain ⟨g1, g2, g3, g4, g5⟩ := Br.okL_at ok he
  unfold Br.putV
  rw [h]
  simp only
  rw [if_neg (by omega), g5]
theorem atD_N {first id : Int} {es : List Bn.En} : (∀ e, Bn.atE first es id = some e → atD first (Bn.lsV es).length id = id - first ∧ (Bn.lsV es)[(id - first).toNat]? = some e.1 ∧ 0 ≤ id - first ∧ (id - first).toNat < es.length ∧ ((id - first).toNat : Int) = id - first) ∧ (Bn.atE first es id = none → atD first (Bn.lsV es).length id = -1) := by
  rw [Bn.lsV_len]
  refine ⟨fun e h => ?_, fun h => ?_⟩
  · obtain ⟨g1, g2, g3, g4, g5⟩ := Bn.atE_some h
    unfold atD
    rw [if_pos (by omega)]
    exact ⟨rfl, by unfold Bn.lsV; rw [List.getElem?_map, g3]; rfl, by omega, g2, g4⟩
  · have := Bn.atE_none h
    unfold atD
    rw [if_neg (by simp at this; omega)]
theorem atD_R {first id : Int} {es : List Br.En} : (∀ e, Br.atE first es id = some e → atD first (Br.lsV es).length id = id - first ∧ (Br.lsV es)[(id - first).toNat]? = some e.1 ∧ 0 ≤ id - first ∧ (id - first).toNat < es.length ∧ ((id - first).toNat : Int) = id - first) ∧ (Br.atE first es id = none → atD first (Br.lsV es).length id = -1) := by
  rw [Br.lsV_len]
  refine ⟨fun e h => ?_, fun h => ?_⟩
  · obtain ⟨g1, g2, g3, g4, g5⟩ := Br.atE_some h
    unfold atD
    rw [if_pos (by omega)]
    exact ⟨rfl, by unfold Br.lsV; rw [List.getElem?_map, g3]; rfl, by omega, g2, g4⟩
  · have := Br.atE_none h
    unfold atD
    rw [if_neg (by simp at this; omega)]
theorem ob_open {os : List OB} {xs : List CR} {k : Nat} {o : OB} {x : CR} (ho : os[k]? = some o) (hx : xs[k]? = some x) : Ent [pkA obF (os.zip xs)] ([pt o.b [.int .i64 0, .slice o.q (Bn.lsV x.es).length o.c, .slice o.q2 (Bn.lsV x.es).length o.c2], rowA o.q (Bn.lsV x.es).length ((Bn.lsV x.es).flatMap lnC)] ++ [pkA obF ((os.zip xs).eraseIdx k)]) := pk_open (zip_at ho hx)
theorem ob_close {os : List OB} {xs : List CR} {k : Nat} {o : OB} {x : CR} (ho : os[k]? = some o) (hx : xs[k]? = some x) (es' : List Bn.En) (hl : es'.length = x.es.length) : Ent ([pt o.b [.int .i64 0, .slice o.q (Bn.lsV x.es).length o.c, .slice o.q2 (Bn.lsV x.es).length o.c2], rowA o.q (Bn.lsV x.es).length ((Bn.lsV es').flatMap lnC)] ++ [pkA obF ((os.zip xs).eraseIdx k)]) [pkA obF ((os.zip xs).set k (o, { x with es := es' }))] := by
  have := pk_close (f := obF) (l := os.zip xs) (k := k) (o, { x with es := es' }) (List.getElem?_eq_some_iff.1 (zip_at ho hx)).1
  have e1 : obF (o, { x with es := es' }) = [pt o.b [.int .i64 0, .slice o.q (Bn.lsV x.es).length o.c, .slice o.q2 (Bn.lsV x.es).length o.c2], rowA o.q (Bn.lsV x.es).length ((Bn.lsV es').flatMap lnC)] := by
    unfold obF OB.at_ rbA
    simp only [Bn.lsV_len, hl]
  rw [e1] at this
  exact this
theorem ob_shut {os : List OB} {xs : List CR} {k : Nat} {o : OB} {x : CR} (ho : os[k]? = some o) (hx : xs[k]? = some x) : Ent ([pt o.b [.int .i64 0, .slice o.q (Bn.lsV x.es).length o.c, .slice o.q2 (Bn.lsV x.es).length o.c2], rowA o.q (Bn.lsV x.es).length ((Bn.lsV x.es).flatMap lnC)] ++ [pkA obF ((os.zip xs).eraseIdx k)]) [pkA obF (os.zip xs)] := by
  have := ob_close ho hx x.es rfl
  rw [show (os.zip xs).set k (o, { x with es := x.es }) = os.zip xs from Bn.set_same (zip_at ho hx)] at this
  exact this
theorem rd_rc {sh : List Br.En} {k : Nat} {e : Br.En} (h : sh[k]? = some e) (X : List Value) : rdv ti3 (sh.flatMap rcC ++ X) (0 + k * 1) = some (.int .i64 e.2.1) :=
  rd_partR (enc := rcC) (sz := 1) (fun _ => rfl) h 0 (i := ti3) rfl (by decide) (by omega) (by decide) X
theorem rd_ra {sh : List Br.En} {k : Nat} {e : Br.En} (h : sh[k]? = some e) (X : List Value) : rdv ti4 (sh.flatMap raC ++ X) (0 + k * 1) = some (.bool e.2.2) :=
  rd_partR (enc := raC) (sz := 1) (fun _ => rfl) h 0 (i := ti4) rfl (by decide) (by omega) (by decide) X
theorem putR_route {first id : Int} {es : List Br.En} {e : Br.En} (ok : Br.okL es) (h : Br.atE first es id = some e) (t : Int × Bool) : Br.putV first es id (e.1, t) = (es.set (id - first).toNat (e.1, t), 0) := by
  obtain ⟨i, hi, he⟩ := Br.atE_iff.1 h
  obtain ⟨g1, g2, g3, g4, g5⟩ := Br.okL_at ok he
  unfold Br.putV
  rw [h]
  simp only
  rw [if_neg (by omega), g5]
set_option maxHeartbeats 4000000 in
theorem refGet44 (β : Base) (r : Nat) (R : RS) (D : DS) (ok : OkD R D) (k id : Int) : Tri Tryz.prog β 152 [.pointer (some ⟨r, 0, none⟩), .int .i64 k, .int .i64 id] (rD r R D) (fun v L => v = .tuple #[.agg #[.bool (D.getV k id).1.1.1, .bool (D.getV k id).1.1.2.1, .bool (D.getV k id).1.1.2.2.1, .bool (D.getV k id).1.1.2.2.2, .bool (D.getV k id).1.2.1, .int .i64 (D.getV k id).1.2.2.1, .int .i64 (D.getV k id).1.2.2.2], .int .i64 (D.getV k id).2] ∧ L = rD r R D) := by
  obtain ⟨h1, h8, hes, hsh, hok, hos⟩ := ok
  refine Tri.intro tt_ok Tryz.func152 rfl rfl Tryz.ntmps152 rfl fun F => ?_
  unfold rD
  (refine G tt_ok [] ?_; repeat (refine G1 tt_ok [] ?_; intro _))
  refine ke rfl rfl (there48 β r _ _ _ rfl rfl rfl R.qk R.qa R.qo R.qs D.sh.length D.sh.length D.xs.length D.xs.length R.ck R.ca R.co R.cs k) ?_
  cases hr : rightV D.xs.length k with
  | false =>
    (refine G tt_ok [] ?_; repeat (refine G1 tt_ok [] ?_; intro _))
    have hd : D.getV k id = (zeroL, 130) := by unfold DS.getV; rw [hr]; rfl
    rw [hd]
    exact CW.ret (fin_cells [_, _] ⟨⟨_, _, _, _, 1, rfl, rfl, rfl, rfl⟩, rfl, trivial⟩ (A := rD r R D) pk_ ⟨rfl, rfl⟩)
  | true =>
    rw [← hos] at hr ⊢
    (refine G tt_ok [] ?_; repeat (refine G1 tt_ok [] ?_; intro _))
    refine ke rfl rfl (bank89 β r _ _ rfl rfl R R.qk R.qa R.qs D.sh.length D.sh.length R.os.length R.ck R.ca R.cs k id hr) ?_
    unfold bankB
    obtain ⟨x, hx, hl, hk⟩ := right_at (xs := D.xs) (k := k) (by rw [← hos]; exact hr)
    obtain ⟨o, ho⟩ : ∃ o, R.os[k.toNat]? = some o := ⟨_, List.getElem?_eq_getElem (show k.toNat < R.os.length by omega)⟩
    have hx32 := hes x (List.mem_of_getElem? hx)
    have hgv : D.getV k id = if id < 32 then ((Bn.getV 0 x.es id).1.1, (Bn.getV 0 x.es id).2) else ((Br.getV 32 D.sh id).1.1, (Br.getV 32 D.sh id).2) := by
      unfold DS.getV
      rw [← hos, hr, hx]; rfl
    rw [ho]
    by_cases h32 : id < 32
    · rw [if_pos h32]
      rw [if_pos h32] at hgv
      rw [hgv]
      refine SQ.ent _ (rm_ (A := pkA obF (R.os.zip D.xs)) (ob_open ho hx)) ?_
      (refine G tt_ok [] ?_; repeat (refine G1 tt_ok [] ?_; intro _))
      refine ke rfl rfl (at37d β o.b (first := 0) id o.q (n := (Bn.lsV x.es).length) o.c _ (by omega) (by omega) (by rw [Bn.lsV_len]; omega) rfl) ?_
      (refine G tt_ok [] ?_; repeat (refine G1 tt_ok [] ?_; intro _))
      have hsh := ob_shut ho hx
      cases ha : Bn.atE 0 x.es id with
      | none =>
        rw [show Bn.getV 0 x.es id = (Bn.zeroE, 90) by unfold Bn.getV; rw [ha], atD_N.2 ha]
        (refine G tt_ok [] ?_; repeat (refine G1 tt_ok [] ?_; intro _))
        refine CW.ret (fin_cells [_, _] ⟨cl_, rfl, trivial⟩ (A := rD r R D) ?_ ⟨rfl, by unfold rD; rw [← hos]⟩)
        unfold rD
        rw [← hos]
        refine Ent.trans (tk_ (As := [pt o.b [.int .i64 0, .slice o.q (Bn.lsV x.es).length o.c, .slice o.q2 (Bn.lsV x.es).length o.c2], rowA o.q (Bn.lsV x.es).length ((Bn.lsV x.es).flatMap lnC)] ++ [pkA obF ((R.os.zip D.xs).eraseIdx k.toNat)]) (hsh)) ?_
        exact pk_
      | some e =>
        obtain ⟨ga, gx, g0, gs, gt⟩ := atD_N.1 e ha
        rw [show Bn.getV 0 x.es id = (e, 0) by unfold Bn.getV; rw [ha], ga, decide_eq_false (show ¬ id - 0 < 0 by omega)]
        have hn0 : 0 < (Bn.lsV x.es).length := by rw [Bn.lsV_len]; omega
        obtain ⟨ob, oq, oc, oq2, oc2⟩ := o
        simp only at hsh ⊢
        (refine CW.ent (Rm.to (A := rowA oq ((Bn.lsV x.es).length) ((Bn.lsV x.es).flatMap lnC)) (by repeat (first | exact Rm.h | apply Rm.t)) (row_open (by omega))) ?_; refine CW.open_ fun y => ?_; obtain ⟨g, rest⟩ := y; refine CW.pure_ fun hv => ?_; simp only at hv; subst hv)
        (refine G tt_ok [] ?_; repeat (refine G1 tt_ok [] ?_; intro _))
        refine SQ.idx tt_ok rfl rfl (id - 0).toNat gt.symm (by rw [Bn.lsV_len]; exact gs) (o' := 0 + (id - 0).toNat * 7) rfl ?_
        (refine G tt_ok [] ?_; repeat (refine G1 tt_ok [] ?_; intro _))
        (refine SQ.ldA tt_ok rfl rfl (by repeat (first | exact .h | exact .q | apply At.t)) (rd_ln gx rest) ?_)
        (refine G tt_ok [] ?_; repeat (refine G1 tt_ok [] ?_; intro _))
        refine CW.ret (fin_cells [_, _] ⟨cl_, rfl, trivial⟩ (A := rD r R D) ?_ ⟨rfl, by unfold rD; rw [← hos]⟩)
        unfold rD
        rw [← hos]
        refine Ent.trans (rm_ (A := pt g ((Bn.lsV x.es).flatMap lnC ++ rest)) (row_close (n := (Bn.lsV x.es).length))) ?_
        refine Ent.trans ((tk_ (As := [pt ob [.int .i64 0, .slice (some ⟨g, 0, none⟩) (Bn.lsV x.es).length oc, .slice oq2 (Bn.lsV x.es).length oc2], rowA (some ⟨g, 0, none⟩) (Bn.lsV x.es).length ((Bn.lsV x.es).flatMap lnC)] ++ [pkA obF ((R.os.zip D.xs).eraseIdx k.toNat)]) (hsh))) ?_
        exact pk_
    · rw [if_neg h32]
      rw [if_neg h32] at hgv
      rw [hgv]
      have hsd : R.s.at_ 32 (Br.lsV D.sh) = [pt R.s.b [.int .i64 32, .slice R.s.q (Br.lsV D.sh).length R.s.c, .slice R.s.q2 (Br.lsV D.sh).length R.s.c2], rowA R.s.q (Br.lsV D.sh).length ((Br.lsV D.sh).flatMap lnC)] := rfl
      rw [hsd]
      (refine G tt_ok [] ?_; repeat (refine G1 tt_ok [] ?_; intro _))
      refine ke rfl rfl (at37d β R.s.b (first := 32) id R.s.q (n := (Br.lsV D.sh).length) R.s.c _ (by omega) (by omega) (by rw [Br.lsV_len]; omega) rfl) ?_
      (refine G tt_ok [] ?_; repeat (refine G1 tt_ok [] ?_; intro _))
      cases ha : Br.atE 32 D.sh id with
      | none =>
        rw [show Br.getV 32 D.sh id = (Br.zeroE, 90) by unfold Br.getV; rw [ha], atD_R.2 ha]
        (refine G tt_ok [] ?_; repeat (refine G1 tt_ok [] ?_; intro _))
        refine CW.ret (fin_cells [_, _] ⟨cl_, rfl, trivial⟩ (A := rD r R D) ?_ ⟨rfl, by unfold rD; rw [← hos]; rfl⟩)
        unfold rD
        rw [← hos, hsd]
        exact pk_
      | some e =>
        obtain ⟨ga, gx, g0, gs, gt⟩ := atD_R.1 e ha
        rw [show Br.getV 32 D.sh id = (e, 0) by unfold Br.getV; rw [ha], ga, decide_eq_false (show ¬ id - 32 < 0 by omega)]
        have hn0 : 0 < (Br.lsV D.sh).length := by rw [Br.lsV_len]; omega
        obtain ⟨⟨ob, oq, oc, oq2, oc2⟩, qk, ck, qa, ca, qo, co, qs, cs, os⟩ := R
        simp only at hos ho hsd ⊢
        (refine CW.ent (Rm.to (A := rowA oq ((Br.lsV D.sh).length) ((Br.lsV D.sh).flatMap lnC)) (by repeat (first | exact Rm.h | apply Rm.t)) (row_open (by omega))) ?_; refine CW.open_ fun y => ?_; obtain ⟨g, rest⟩ := y; refine CW.pure_ fun hv => ?_; simp only at hv; subst hv)
        (refine G tt_ok [] ?_; repeat (refine G1 tt_ok [] ?_; intro _))
        refine SQ.idx tt_ok rfl rfl (id - 32).toNat gt.symm (by rw [Br.lsV_len]; exact gs) (o' := 0 + (id - 32).toNat * 7) rfl ?_
        (refine G tt_ok [] ?_; repeat (refine G1 tt_ok [] ?_; intro _))
        (refine SQ.ldA tt_ok rfl rfl (by repeat (first | exact .h | exact .q | apply At.t)) (rd_ln gx rest) ?_)
        (refine G tt_ok [] ?_; repeat (refine G1 tt_ok [] ?_; intro _))
        refine CW.ret (fin_cells [_, _] ⟨cl_, rfl, trivial⟩ (A := rD r ⟨⟨ob, some ⟨g, 0, none⟩, oc, oq2, oc2⟩, qk, ck, qa, ca, qo, co, qs, cs, os⟩ D) ?_ ⟨rfl, by unfold rD; rw [← hos]; rfl⟩)
        unfold rD
        rw [← hos, hsd]
        refine Ent.trans (rm_ (A := pt g ((Br.lsV D.sh).flatMap lnC ++ rest)) (row_close (n := (Br.lsV D.sh).length))) ?_
        exact pk_
set_option maxHeartbeats 4000000 in
theorem refTarget45 (β : Base) (r : Nat) (R : RS) (D : DS) (ok : OkD R D) (id : Int) : Tri Tryz.prog β 154 [.pointer (some ⟨r, 0, none⟩), .int .i64 id] (rD r R D) (fun v L => v = .int .i64 (targetV D.sh D.xs id) ∧ L = rD r R D) := by
  obtain ⟨h1, h8, hes, hsh, hok, hos⟩ := ok
  refine Tri.intro tt_ok Tryz.func154 rfl rfl Tryz.ntmps154 rfl fun F => ?_
  have hsd : R.s.at_ 32 (Br.lsV D.sh) = [pt R.s.b [.int .i64 32, .slice R.s.q (Br.lsV D.sh).length R.s.c, .slice R.s.q2 (Br.lsV D.sh).length R.s.c2], rowA R.s.q (Br.lsV D.sh).length ((Br.lsV D.sh).flatMap lnC)] := rfl
  unfold rD
  rw [hsd]
  refine G tt_ok [] ?_
  refine ke rfl rfl (at37d β R.s.b (first := 32) id R.s.q (n := (Br.lsV D.sh).length) R.s.c _ (by omega) (by omega) (by rw [Br.lsV_len]; omega) rfl) ?_
  refine G tt_ok [] ?_
  unfold targetV
  cases ha : Br.atE 32 D.sh id with
  | none =>
    rw [atD_R.2 ha]
    refine G tt_ok [] ?_
    exact CW.ret (fin_ret rfl (A := rD r R D) pk_ ⟨rfl, rfl⟩)
  | some e =>
    obtain ⟨ga, gx, g0, gs, gt⟩ := atD_R.1 e ha
    have hat := (Br.atE_some ha).2.2.1
    simp only
    rw [ga, decide_eq_false (show ¬ id - 32 < 0 by omega)]
    obtain ⟨s, qk, ck, qa, ca, qo, co, qs, cs, os⟩ := R
    simp only at hos hsd ⊢
    (refine CW.ent (Rm.to (A := rowA qa (D.sh.length) (D.sh.flatMap raC)) (by repeat (first | exact Rm.h | apply Rm.t)) (row_open (by omega))) ?_; refine CW.open_ fun y => ?_; obtain ⟨g2, rest2⟩ := y; refine CW.pure_ fun hv => ?_; simp only at hv; subst hv)
    refine G tt_ok [] ?_
    refine SQ.idx tt_ok rfl rfl (id - 32).toNat gt.symm gs (o' := 0 + (id - 32).toNat * 1) rfl ?_
    (refine SQ.ldA tt_ok rfl rfl (by repeat (first | exact .h | exact .q | apply At.t)) (rd_ra hat rest2) ?_)
    refine G tt_ok [] ?_
    have hclose : Ent [pt g2 (D.sh.flatMap raC ++ rest2)] [rowA (some ⟨g2, 0, none⟩) D.sh.length (D.sh.flatMap raC)] := row_close (n := D.sh.length)
    cases hany : e.2.2 with
    | false =>
      rw [if_neg (by simp)]
      (refine CW.ent (Rm.to (A := rowA qk (D.sh.length) (D.sh.flatMap rcC)) (by repeat (first | exact Rm.h | apply Rm.t)) (row_open (by omega))) ?_; refine CW.open_ fun y => ?_; obtain ⟨g, rest⟩ := y; refine CW.pure_ fun hv => ?_; simp only at hv; subst hv)
      refine G tt_ok [] ?_
      refine SQ.idx tt_ok rfl rfl (id - 32).toNat gt.symm gs (o' := 0 + (id - 32).toNat * 1) rfl ?_
      (refine SQ.ldA tt_ok rfl rfl (by repeat (first | exact .h | exact .q | apply At.t)) (rd_rc hat rest) ?_)
      refine G tt_ok [] ?_
      refine ke rfl rfl (there48 β r _ _ _ rfl rfl rfl _ _ _ _ _ _ _ _ _ _ _ _ e.2.1) ?_
      cases hr : rightV D.xs.length e.2.1 with
      | true =>
        refine G tt_ok [] ?_
        refine SQ.idx tt_ok rfl rfl (id - 32).toNat gt.symm gs (o' := 0 + (id - 32).toNat * 1) rfl ?_
        (refine SQ.ldA tt_ok rfl rfl (by repeat (first | exact .h | exact .q | apply At.t)) (rd_rc hat rest) ?_)
        refine G tt_ok [] ?_
        refine CW.ret (fin_ret rfl (A := rD r ⟨s, some ⟨g, 0, none⟩, ck, some ⟨g2, 0, none⟩, ca, qo, co, qs, cs, os⟩ D) ?_ ⟨by simp [packV, hr], rfl⟩)
        refine Ent.trans (rm_ (A := pt g2 (D.sh.flatMap raC ++ rest2)) (hclose)) ?_
        refine Ent.trans (rm_ (A := pt g (D.sh.flatMap rcC ++ rest)) (row_close (n := D.sh.length))) ?_
        exact pk_
      | false =>
        refine G tt_ok [] ?_
        refine CW.ret (fin_ret rfl (A := rD r ⟨s, some ⟨g, 0, none⟩, ck, some ⟨g2, 0, none⟩, ca, qo, co, qs, cs, os⟩ D) ?_ ⟨by simp [packV, hr], rfl⟩)
        refine Ent.trans (rm_ (A := pt g2 (D.sh.flatMap raC ++ rest2)) (hclose)) ?_
        refine Ent.trans (rm_ (A := pt g (D.sh.flatMap rcC ++ rest)) (row_close (n := D.sh.length))) ?_
        exact pk_
    | true =>
      rw [if_pos rfl]
      (refine CW.ent (Rm.to (A := rowA qs (D.xs.length) (D.xs.flatMap slC)) (by repeat (first | exact Rm.h | apply Rm.t)) (row_open (by omega))) ?_; refine CW.open_ fun y => ?_; obtain ⟨g, rest⟩ := y; refine CW.pure_ fun hv => ?_; simp only at hv; subst hv)
      refine G tt_ok [] ?_
      refine CW.ent (L' := rD r ⟨s, qk, ck, some ⟨g2, 0, none⟩, ca, qo, co, some ⟨g, 0, none⟩, cs, os⟩ D) ?_ ?_
      · refine Ent.trans (rm_ (A := pt g2 (D.sh.flatMap raC ++ rest2)) (hclose)) ?_
        refine Ent.trans (rm_ (A := pt g (D.xs.flatMap slC ++ rest)) (row_close (n := D.xs.length))) ?_
        exact pk_
      refine CW.loop (α := Nat) (fun k => k ≤ D.xs.length ∧ leastV D.xs 0 = leastV (D.xs.drop k) k) (fun k => [(0, .pointer (some ⟨r, 0, none⟩)), (6, .int .i64 k)])
        (fun k => rD r ⟨s, qk, ck, some ⟨g2, 0, none⟩, ca, qo, co, some ⟨g, 0, none⟩, cs, os⟩ D) (fun k => D.xs.length - k) 0 ⟨by omega, rfl⟩ ⟨rfl, rfl, trivial⟩ (Ent.refl _) ?_
      rintro k ⟨hk, hv0⟩
      unfold rD
      refine G tt_ok [] ?_
      generalize e1 : decide ((k : Int) < (D.xs.length : Int)) = c
      cases c
      · have : k = D.xs.length := by simp at e1; omega
        subst this
        refine G tt_ok [] ?_
        refine CW.exit ?_
        refine G tt_ok [] ?_
        rw [hv0, List.drop_length]
        exact CW.ret (fin_ret rfl (A := rD r ⟨s, qk, ck, some ⟨g2, 0, none⟩, ca, qo, co, some ⟨g, 0, none⟩, cs, os⟩ D) pk_ ⟨rfl, rfl⟩)
      · have hlt : k < D.xs.length := by simp at e1; omega
        have hw : IntKind.i64.wrap ((k : Int) + 1) = ((k + 1 : Nat) : Int) := by rw [wrap_i64]; split <;> omega
        obtain ⟨x, hx⟩ : ∃ x, D.xs[k]? = some x := ⟨_, List.getElem?_eq_getElem hlt⟩
        have hst := leastV_step hx
        refine CW.ent (rm_ (A := rowA (some ⟨g, 0, none⟩) D.xs.length (D.xs.flatMap slC)) (row_open (by omega))) ?_
        refine CW.open_ fun y => ?_
        obtain ⟨g', rest'⟩ := y
        refine CW.pure_ fun hv => ?_
        simp only at hv
        injection hv with hv
        injection hv with hv
        subst hv
        refine G tt_ok [] ?_
        refine SQ.idx tt_ok rfl rfl k rfl hlt (o' := 0 + k * 1) rfl ?_
        (refine SQ.ldA tt_ok rfl rfl (by repeat (first | exact .h | exact .q | apply At.t)) (rd_slp hx rest') ?_)
        refine G tt_ok [] ?_
        cases hs : x.sl with
        | true =>
          rw [hs] at hst
          refine G tt_ok [] ?_
          refine ⟨k + 1, ⟨by omega, by rw [hv0, hst]; rfl⟩, by omega, ⟨rfl, by rw [← hw]; rfl, trivial⟩, ?_⟩
          exact Ent.trans (rm_ (A := pt g (D.xs.flatMap slC ++ rest')) (row_close (n := D.xs.length))) pk_
        | false =>
          rw [hs] at hst
          refine G tt_ok [] ?_
          rw [hv0, hst]
          refine CW.ret (fin_ret rfl (A := rD r ⟨s, qk, ck, some ⟨g2, 0, none⟩, ca, qo, co, some ⟨g, 0, none⟩, cs, os⟩ D) ?_ ⟨rfl, rfl⟩)
          exact Ent.trans (rm_ (A := pt g (D.xs.flatMap slC ++ rest')) (row_close (n := D.xs.length))) pk_
@[reducible] def pk161 : List (Nat × Plan) := [(5, [(0, 0, []), (1, 0, []), (2, 0, []), (3, 0, []), (4, 0, []), (5, 0, []), (6, 0, []), (7, 0, []), (8, 1, [3, 6, 7]), (9, 0, []), (10, 0, [])])]
theorem one91 (β : Base) (a : Bool) (n : Int) : Tri Tryz.prog β 222 [.bool a, .int .u64 n] [] (fun v L => v = .int .u64 (if a then n else 0) ∧ L = []) := by
  refine Tri.intro tt_ok Tryz.func222 rfl rfl Tryz.ntmps222 rfl fun F => ?_
  cases a
  · refine G tt_ok [] ?_
    exact CW.ret (fin_ret rfl (Ent.refl _) ⟨rfl, rfl⟩)
  · refine G tt_ok [] ?_
    exact CW.ret (fin_ret rfl (Ent.refl _) ⟨rfl, rfl⟩)
theorem rdN (β : Base) (o : OB) {first : Int} (es : List Bn.En) (hf0 : 0 ≤ first) (hf1 : first ≤ 16384) (hn : es.length ≤ 16384) (r f cnt : Int) (hc : cnt ≤ 16384) :
    Tri Tryz.prog β 223 [.pointer (some ⟨o.b, 0, none⟩), .agg #[.int .i64 r, .int .i64 f, .int .i64 cnt]] (o.at_ first (Bn.lsV es)) (fun u L => u = .int .u64 (Bn.rdK first es r f cnt (cntV cnt)) ∧ L = o.at_ first (Bn.lsV es)) :=
  Bn.read19 β o.b (first := first) o.q o.c (.slice o.q2 (Bn.lsV es).length o.c2) es hf0 hf1 hn rfl r f cnt hc
set_option maxHeartbeats 4000000 in
theorem refRdOwn50 (β : Base) (r : Nat) (R : RS) (D : DS) (ok : OkD R D) (k pr pf pc : Int) (hc : pc ≤ 16384) : Tri Tryz.prog β 161 [.pointer (some ⟨r, 0, none⟩), .int .i64 k, .agg #[.int .i64 pr, .int .i64 pf, .int .i64 pc]] (rD r R D) (fun u L => u = .tuple #[.int .u64 (D.rdOwnV k pr pf pc).1, .int .i64 (D.rdOwnV k pr pf pc).2] ∧ L = rD r R D) := by
  obtain ⟨h1, h8, hes, hsh, hok, hos⟩ := ok
  refine Tri.intro tt_ok Tryz.func161 rfl rfl Tryz.ntmps161 rfl fun F => ?_
  unfold DS.rdOwnV
  unfold rD
  (refine G tt_ok pk161 ?_; repeat (refine G1 tt_ok pk161 ?_; intro _))
  refine ke rfl rfl (there48 β r _ _ _ rfl rfl rfl R.qk R.qa R.qo R.qs D.sh.length D.sh.length D.xs.length D.xs.length R.ck R.ca R.co R.cs k) ?_
  cases hr : rightV D.xs.length k with
  | false =>
    (refine G tt_ok pk161 ?_; repeat (refine G1 tt_ok pk161 ?_; intro _))
    exact CW.ret (fin_ret rfl (A := rD r R D) pk_ ⟨rfl, rfl⟩)
  | true =>
    (refine G tt_ok pk161 ?_; repeat (refine G1 tt_ok pk161 ?_; intro _))
    rw [if_pos rfl]
    obtain ⟨x, hx, hl, hk⟩ := right_at hr
    obtain ⟨o, ho⟩ : ∃ o, R.os[k.toNat]? = some o := ⟨_, List.getElem?_eq_getElem (show k.toNat < R.os.length by omega)⟩
    have hx32 := hes x (List.mem_of_getElem? hx)
    rw [hx]
    obtain ⟨s, qk, ck, qa, ca, qo, co, qs, cs, os⟩ := R
    simp only at hos ho ⊢
    by_cases h3 : pr = 3
    · subst h3
      rw [if_pos rfl]
      (refine CW.ent (Rm.to (A := rowA qs (D.xs.length) (D.xs.flatMap slC)) (by repeat (first | exact Rm.h | apply Rm.t)) (row_open (by omega))) ?_; refine CW.open_ fun y => ?_; obtain ⟨g, rest⟩ := y; refine CW.pure_ fun hv => ?_; simp only at hv; subst hv)
      (refine G tt_ok pk161 ?_; repeat (refine G1 tt_ok pk161 ?_; intro _))
      refine SQ.idx tt_ok rfl rfl k.toNat hk hl (o' := 0 + k.toNat * 1) rfl ?_
      (refine SQ.ldA tt_ok rfl rfl (by repeat (first | exact .h | exact .q | apply At.t)) (rd_slp hx rest) ?_)
      (refine G tt_ok pk161 ?_; repeat (refine G1 tt_ok pk161 ?_; intro _))
      refine ke rfl rfl (one91 β x.sl 6) ?_
      (refine G tt_ok pk161 ?_; repeat (refine G1 tt_ok pk161 ?_; intro _))
      refine CW.ret (fin_ret rfl (A := rD r ⟨s, qk, ck, qa, ca, qo, co, some ⟨g, 0, none⟩, cs, os⟩ D) ?_ ⟨rfl, rfl⟩)
      exact Ent.trans (rm_ (A := pt g (D.xs.flatMap slC ++ rest)) (row_close (n := D.xs.length))) pk_
    · rw [if_neg h3, show (pr == 3) = false by simp [h3]]
      (refine CW.ent (Rm.to (A := rowA qo (D.xs.length) (os.flatMap opC)) (by repeat (first | exact Rm.h | apply Rm.t)) (row_open (by omega))) ?_; refine CW.open_ fun y => ?_; obtain ⟨g, rest⟩ := y; refine CW.pure_ fun hv => ?_; simp only at hv; subst hv)
      refine CW.ent (rm_ (A := pkA obF (os.zip D.xs)) (pk_open (zip_at ho hx))) ?_
      (refine G tt_ok pk161 ?_; repeat (refine G1 tt_ok pk161 ?_; intro _))
      refine SQ.idx tt_ok rfl rfl k.toNat hk hl (o' := 0 + k.toNat * 1) rfl ?_
      (refine SQ.ldA tt_ok rfl rfl (by repeat (first | exact .h | exact .q | apply At.t)) (rd_op ho rest) ?_)
      (refine G tt_ok pk161 ?_; repeat (refine G1 tt_ok pk161 ?_; intro _))
      (refine ka rfl rfl (rdN β o (first := 0) x.es (by omega) (by omega) (by omega) pr pf pc hc) ?_; rintro _ _ ⟨rfl, rfl⟩; refine ⟨(by repeat (first | exact trivial | refine ⟨trivial, ?_⟩ | refine ⟨wk (by repeat (first | exact .h | exact .q | apply At.t)) (rd_op ho rest), ?_⟩ | refine ⟨wk (by repeat (first | exact .h | exact .q | apply At.t)) (by rfl), ?_⟩)), ?_⟩)
      (refine G tt_ok pk161 ?_; repeat (refine G1 tt_ok pk161 ?_; intro _))
      refine CW.ret (fin_ret rfl (A := rD r ⟨s, qk, ck, qa, ca, some ⟨g, 0, none⟩, co, qs, cs, os⟩ D) ?_ ⟨rfl, rfl⟩)
      refine Ent.trans (rm_ (A := pt g (os.flatMap opC ++ rest)) (row_close (n := D.xs.length))) ?_
      refine Ent.trans (tk_ (As := [pt o.b [.int .i64 0, .slice o.q (Bn.lsV x.es).length o.c, .slice o.q2 (Bn.lsV x.es).length o.c2], rowA o.q (Bn.lsV x.es).length ((Bn.lsV x.es).flatMap lnC)] ++ [pkA obF ((os.zip D.xs).eraseIdx k.toNat)]) (ob_shut ho hx)) ?_
      exact pk_
/-- What the distributor's frame shows. -/
def DS.rdV (D : DS) (off w : Int) : Int × Int :=
  if (distV off w).2 ≠ 0 then (0, (distV off w).2) else
  if (distV off w).1.1 = 1 then (80 + (if D.o0 then 1 else 0) + (if D.o1 then 2 else 0), 0)
  else if (distV off w).1.1 = 2 then ((D.sh.length + 31) / 32 + 32 * (D.xs.length - 1) + 131072, 0)
  else if (distV off w).1.1 = 13 then (match Br.atE 32 D.sh (distV off w).1.2.1 with
     | some e => (e.2.1 + (if e.2.2 then 2147483648 else 0), 0)
     | none => (0, 0))
  else (Br.rdK 32 D.sh (distV off w).1.1 (distV off w).1.2.1 (distV off w).1.2.2 (cntV (distV off w).1.2.2), 0)
theorem wrap_u {x : Int} (h0 : 0 ≤ x) (h1 : x < 18446744073709551616) : IntKind.u64.wrap x = x := by rw [wrap_u64]; omega
@[reducible] def pk58 : List (Nat × Plan) := [(1, [(0, 0, []), (1, 0, []), (2, 0, []), (3, 0, []), (4, 0, []), (5, 1, [1, 4]), (6, 0, []), (7, 0, [])])]
@[reducible] def pk20 : List (Nat × Plan) := [(6, [(0, 0, []), (1, 0, []), (2, 0, []), (3, 0, []), (4, 0, []), (6, 0, []), (7, 0, []), (8, 0, []), (9, 0, []), (10, 0, []), (5, 1, [4, 10]), (11, 1, [4, 10]), (12, 0, []), (13, 0, []), (14, 0, []), (15, 0, []), (16, 0, [])]), (8, [(0, 0, []), (5, 0, []), (6, 0, []), (7, 0, []), (8, 0, []), (9, 0, []), (10, 0, []), (11, 0, []), (12, 0, []), (1, 1, [8]), (2, 0, []), (3, 0, []), (4, 0, []), (13, 0, []), (14, 0, []), (15, 0, []), (16, 0, [])]), (10, [(0, 0, []), (1, 0, []), (2, 0, []), (3, 0, []), (4, 0, []), (5, 0, []), (6, 1, [3, 5]), (7, 0, []), (8, 0, []), (9, 0, []), (10, 2, []), (11, 1, []), (12, 0, [])]), (14, [(0, 0, []), (1, 0, []), (2, 0, []), (3, 0, []), (4, 0, []), (5, 1, [3, 4]), (6, 0, []), (7, 0, [])])]
@[reducible] def pl20_1 : Plan := [(0, 0, []), (5, 0, []), (6, 0, []), (7, 0, []), (8, 0, []), (9, 0, []), (10, 0, []), (11, 0, []), (12, 0, []), (1, 1, [8]), (2, 0, []), (3, 0, []), (4, 0, []), (13, 0, []), (14, 0, []), (15, 0, []), (16, 0, [])]
@[reducible] def pl20_2 : Plan := [(0, 0, []), (1, 0, []), (2, 0, []), (3, 0, []), (4, 0, []), (5, 0, []), (6, 1, [3, 5]), (7, 0, []), (8, 0, []), (9, 0, []), (10, 2, []), (11, 1, []), (12, 0, [])]
@[reducible] def pl20_3 : Plan := [(0, 0, []), (1, 0, []), (2, 0, []), (3, 0, []), (4, 0, []), (5, 1, [3, 4]), (6, 0, []), (7, 0, [])]
theorem routed81 (β : Base) (t : Int × Bool) (h0 : 0 ≤ t.1) (h1 : t.1 ≤ 255) : Tri Tryz.prog β 58 [.agg #[.int .i64 t.1, .bool t.2]] [] (fun u L => u = .int .u64 (t.1 + (if t.2 then 2147483648 else 0)) ∧ L = []) := by
  refine Tri.intro tt_ok Tryz.func58 rfl rfl Tryz.ntmps58 rfl fun F => ?_
  obtain ⟨c, a⟩ := t
  simp only at h0 h1 ⊢
  (refine G tt_ok pk58 ?_; repeat (refine G1 tt_ok pk58 ?_; intro _))
  refine ke rfl rfl (flag67 β a 31) ?_
  (refine G tt_ok pk58 ?_; repeat (refine G1 tt_ok pk58 ?_; intro _))
  refine CW.ret (fin_ret rfl (Ent.dropAll _) ⟨?_, rfl⟩)
  obtain ⟨n, rfl⟩ : ∃ n : Nat, c = n := ⟨c.toNat, by omega⟩
  have e1 : IntKind.u64.wrap (n : Int) = (n : Int) := wrap_u (by omega) (by omega)
  have hn : n < 2 ^ 31 := by omega
  rw [e1]
  cases a
  · have := or64 (a := n) (b := 0) (by omega) (by omega)
    rw [show n ||| 0 = n from Nat.or_zero n] at this
    unfold packV
    simp only [Bool.false_eq_true, if_false]
    rw [show IntKind.u64.wrap ((BitVec.ofInt IntKind.u64.bits (n : Int) ||| BitVec.ofInt IntKind.u64.bits 0).toNat : Int) = (n : Int) from this]
    simp
  · have := or64 (a := n) (b := 2147483648) (by omega) (by omega)
    rw [show n ||| 2147483648 = n + 2147483648 by have h := Nat.two_pow_add_eq_or_of_lt hn 1; simp at h; rw [Nat.or_comm, ← h]; omega] at this
    unfold packV
    simp only [if_true]
    rw [show IntKind.u64.wrap (1 * 2 ^ min 31 IntKind.u64.bits) = ((2147483648 : Nat) : Int) from rfl, this]
    simp
theorem count115 (β : Base) {gf : Nat} {cap : Array Value} {A : List Atom} {ps : List (Int × Br.En)} (hI : Iter Tryz.prog β gf cap.toList A Br.peC ps) (hl : ps.length ≤ 100000) :
    Tri Tryz.prog β 124 [.func (.func gf) #[] cap] A (fun v L => v = .int .i64 ps.length ∧ L = A) := by
  refine Tri.intro tt_ok Tryz.func124 rfl rfl Tryz.ntmps124 rfl fun F => ?_
  (refine G tt_ok [] ?_; repeat (refine G1 tt_ok [] ?_; intro _))
  rename_i b3
  refine CW.ent (L' := A ++ [pt b3 [.int .i64 0]]) (Ent.perm (List.perm_append_comm (l₁ := [_]))) ?_
  refine CW.rangeFunc rfl hI (List.replicate A.length 0) (sel_front A) (fun pre => [pt b3 [.int .i64 pre.length]])
    (fun _ _ => False) (Ent.refl _) (fun _ => rfl) (by decide) ?_ ?_ (fun _ _ h => h.elim)
  · intro pre p hpre lp fm rec1
    have hpl : pre.length < 100000 := by have := hpre.length_le; simp at this; omega
    have hw : IntKind.i64.wrap ((pre.length : Int) + 1) = ((pre ++ [p]).length : Int) := by rw [wrap_id (by omega) (by omega)]; simp
    (refine G tt_ok [] ?_; repeat (refine G1 tt_ok [] ?_; intro _))
    intro fm2 rec2
    (refine G tt_ok [] ?_; repeat (refine G1 tt_ok [] ?_; intro _))
    rw [hw]
    exact Ent.refl _
  · (refine G tt_ok [] ?_; repeat (refine G1 tt_ok [] ?_; intro _))
    exact CW.ret (fin_ret rfl (A := A) (Ent.append (L := [_]) (L' := []) (Ent.dropAll _) (Ent.refl A)) ⟨rfl, rfl⟩)
set_option maxHeartbeats 4000000 in
theorem lines80 (β : Base) (d : Nat) (a b c : Value) (sb : Nat) (sq : Option Addr) (sc : Nat) (sh : List Br.En) (hn : sh.length ≤ 16384) (ha : vcells a = [a]) (hb : vcells b = [b]) (hc : vcells c = [c]) : Tri Tryz.prog β 57 [.pointer (some ⟨d, 0, none⟩)] ([pt d [a, b, .pointer (some ⟨sb, 0, none⟩), c]] ++ Br.bkA sb sq sc 32 sh)
    (fun v L => v = .int .i64 sh.length ∧ L = [pt d [a, b, .pointer (some ⟨sb, 0, none⟩), c]] ++ Br.bkA sb sq sc 32 sh) := by
  refine Tri.intro tt_ok Tryz.func57 rfl rfl Tryz.ntmps57 rfl fun F => ?_
  refine G tt_ok [] ?_
  (refine ka rfl rfl (Br.all21 β sb sq sc 32 sh hn) ?_; rintro _ _ ⟨e1, e3, q2, n2, rfl, rfl⟩; refine w_ ?_)
  refine G tt_ok [] ?_
  refine SQ.ent _ (rm_ (A := rowA q2 sh.length (sh.flatMap Br.enC)) (row_rd β (sz := 9) (flatE_len (sz := 9) (fun _ => rfl) sh))) ?_
  refine SQ.open_ fun B2 => SQ.pure_ fun hB2 => ?_
  refine ke rfl rfl (count115 β (cap := #[.pointer (some ⟨e3, 0, none⟩), .pointer (some ⟨e1, 0, none⟩)]) (Br.iter43 β sb e1 e3 (first := 32) (c1 := n2) (S := .slice sq sh.length sc) hB2 (by omega) (by omega) hn rfl) (by rw [Br.allV_len]; omega)) ?_
  refine G tt_ok [] ?_
  rw [Br.allV_len]
  exact CW.ret (fin_ret rfl (A := [pt d [a, b, .pointer (some ⟨sb, 0, none⟩), c]] ++ Br.bkA sb sq sc 32 sh) pk_ ⟨rfl, rfl⟩)
theorem typer_bits : ∀ a : Fin 3, ∀ b : Fin 8, IntKind.u64.wrap ((BitVec.ofInt IntKind.u64.bits (IntKind.u64.wrap ((BitVec.ofInt IntKind.u64.bits ((a.val : Nat) : Int) ||| BitVec.ofInt IntKind.u64.bits (IntKind.u64.wrap (((b.val : Nat) : Int) * 2 ^ min 5 IntKind.u64.bits))).toNat : Int)) ||| BitVec.ofInt IntKind.u64.bits 131072).toNat : Int) = ((a.val : Nat) : Int) + 32 * ((b.val : Nat) : Int) + 131072 := by decide +kernel
set_option maxHeartbeats 8000000 in
theorem read34 (β : Base) (d : Nat) (D : DS) (h1 : 1 ≤ D.xs.length) (h8 : D.xs.length ≤ 8) (hsh : D.sh.length ≤ 64) (hrt : ∀ e ∈ D.sh, 0 ≤ e.2.1 ∧ e.2.1 ≤ 255) (off w : Int) : Tri Tryz.prog β 20 [.pointer (some ⟨d, 0, none⟩), .int .i64 off, .int .i64 w] (dA d D) (fun u L => u = .tuple #[.int .u64 (D.rdV off w).1, .int .i64 (D.rdV off w).2] ∧ L = dA d D) := by
  obtain ⟨o0, o1, sb, sq, sc, sh, qc, cc, xs⟩ := D
  refine Tri.intro tt_ok Tryz.func20 rfl rfl Tryz.ntmps20 rfl fun F => ?_
  unfold dA DS.rdV
  simp only at h1 h8 hsh hrt ⊢
  have hD := regsDist69 β off w
  have hpid := distV_id off w
  generalize distV off w = P at hD hpid ⊢
  obtain ⟨⟨pr, pf, pc⟩, e⟩ := P
  simp only at hD hpid ⊢
  (refine G tt_ok pk20 ?_; repeat (refine G1 tt_ok pk20 ?_; intro _))
  refine ke rfl rfl (hD) ?_
  (refine G tt_ok pk20 ?_; repeat (refine G1 tt_ok pk20 ?_; intro _))
  by_cases he : e = 0
  · subst he
    rw [if_neg (by simp)]
    (refine G tt_ok pk20 ?_; repeat (refine G1 tt_ok pk20 ?_; intro _))
    by_cases hp1 : pr = 1
    · subst hp1
      rw [if_pos rfl]
      (refine G tt_ok pk20 ?_; repeat (refine G1 tt_ok pk20 ?_; intro _))
      refine SQ.idx tt_ok rfl rfl 0 rfl (by decide) (o' := 0) rfl ?_
      (refine G tt_ok pk20 ?_; repeat (refine G1 tt_ok pk20 ?_; intro _))
      refine SQ.idx tt_ok rfl rfl 1 rfl (by decide) (o' := 1) rfl ?_
      (refine G tt_ok pk20 ?_; repeat (refine G1 tt_ok pk20 ?_; intro _))
      refine ke rfl rfl (flag67 β o0 0) ?_
      (refine G tt_ok pk20 ?_; repeat (refine G1 tt_ok pk20 ?_; intro _))
      refine ke rfl rfl (flag67 β o1 1) ?_
      (refine G tt_ok pk20 ?_; repeat (refine G1 tt_ok pk20 ?_; intro _))
      refine CW.ret (fin_ret rfl (A := dA d ⟨o0, o1, sb, sq, sc, sh, qc, cc, xs⟩) pk_ ⟨?_, rfl⟩)
      cases o0 <;> cases o1 <;> rfl
    · rw [if_neg hp1, show (pr == 1) = false by simp [hp1]]
      (refine G tt_ok pk20 ?_; repeat (refine G1 tt_ok pk20 ?_; intro _))
      by_cases hp2 : pr = 2
      · subst hp2
        rw [if_pos rfl]
        (repeat (first | refine CW.seq ?_ | refine CW.region tt_ok rfl ?_ | refine CW.regionD tt_ok (by kernel_rfl) pl20_1 (by decide +kernel) ?_ | refine CW.block ?_ | refine CW.skip ?_ | refine SQ.nil ?_ | refine SQ.pures1 tt_ok rfl ?_ | refine SQ.pure1 tt_ok rfl ?_ | refine SQ.new _ _ rfl rfl (fun _ => ?_) | refine SQ.ldA tt_ok rfl rfl (by repeat (first | exact .h | exact .q | apply At.t)) (by rfl) ?_ | refine SQ.stA tt_ok rfl rfl (by repeat (first | apply Up.h | apply Up.t)) (by rfl) (by rfl) (by repeat (first | exact trivial | refine ⟨trivial, ?_⟩ | refine ⟨wk (by repeat (first | exact .h | exact .q | apply At.t)) (by rfl), ?_⟩)) ?_ | refine CW.cond_tt rfl ?_ | refine CW.cond_ff rfl ?_))
        refine ke rfl rfl (lines80 β d _ _ _ sb sq sc sh (by omega) rfl rfl rfl) ?_
        (repeat (first | refine CW.seq ?_ | refine CW.region tt_ok rfl ?_ | refine CW.regionD tt_ok (by kernel_rfl) pl20_1 (by decide +kernel) ?_ | refine CW.block ?_ | refine CW.skip ?_ | refine SQ.nil ?_ | refine SQ.pures1 tt_ok rfl ?_ | refine SQ.pure1 tt_ok rfl ?_ | refine SQ.new _ _ rfl rfl (fun _ => ?_) | refine SQ.ldA tt_ok rfl rfl (by repeat (first | exact .h | exact .q | apply At.t)) (by rfl) ?_ | refine SQ.stA tt_ok rfl rfl (by repeat (first | apply Up.h | apply Up.t)) (by rfl) (by rfl) (by repeat (first | exact trivial | refine ⟨trivial, ?_⟩ | refine ⟨wk (by repeat (first | exact .h | exact .q | apply At.t)) (by rfl), ?_⟩)) ?_ | refine CW.cond_tt rfl ?_ | refine CW.cond_ff rfl ?_))
        refine CW.ret (fin_ret rfl (A := dA d ⟨o0, o1, sb, sq, sc, sh, qc, cc, xs⟩) pk_ ⟨?_, rfl⟩)
        have ht := typer_bits ⟨(sh.length + 31) / 32, by omega⟩ ⟨xs.length - 1, by omega⟩
        simp only at ht
        rw [wrap_id (x := (sh.length : Int) + 31) (by omega) (by omega), wrap_u (x := (sh.length : Int) + 31) (by omega) (by omega), Int.tdiv_eq_ediv_of_nonneg (by omega), wrap_u (x := ((sh.length : Int) + 31) / 32) (by omega) (by omega),
          wrap_id (x := (xs.length : Int) - 1) (by omega) (by omega), wrap_u (x := (xs.length : Int) - 1) (by omega) (by omega)]
        have e1 : ((sh.length : Int) + 31) / 32 = (((sh.length + 31) / 32 : Nat) : Int) := by omega
        have e2 : (xs.length : Int) - 1 = ((xs.length - 1 : Nat) : Int) := by omega
        rw [e1, e2, ht]
        rfl
      · rw [if_neg hp2, show (pr == 2) = false by simp [hp2]]
        (refine G tt_ok pk20 ?_; repeat (refine G1 tt_ok pk20 ?_; intro _))
        by_cases h13 : pr = 13
        · subst h13
          rw [if_pos rfl]
          (repeat (first | refine CW.seq ?_ | refine CW.region tt_ok rfl ?_ | refine CW.regionD tt_ok (by kernel_rfl) pl20_2 (by decide +kernel) ?_ | refine CW.block ?_ | refine CW.skip ?_ | refine SQ.nil ?_ | refine SQ.pures1 tt_ok rfl ?_ | refine SQ.pure1 tt_ok rfl ?_ | refine SQ.new _ _ rfl rfl (fun _ => ?_) | refine SQ.ldA tt_ok rfl rfl (by repeat (first | exact .h | exact .q | apply At.t)) (by rfl) ?_ | refine SQ.stA tt_ok rfl rfl (by repeat (first | apply Up.h | apply Up.t)) (by rfl) (by rfl) (by repeat (first | exact trivial | refine ⟨trivial, ?_⟩ | refine ⟨wk (by repeat (first | exact .h | exact .q | apply At.t)) (by rfl), ?_⟩)) ?_ | refine CW.cond_tt rfl ?_ | refine CW.cond_ff rfl ?_))
          cases ha : Br.atE 32 sh pf with
          | none =>
            refine ke rfl rfl (getR_none β sb sq sc (first := 32) (id := pf) (es := sh) (by omega) (by omega) hpid ha) ?_
            (repeat (first | refine CW.seq ?_ | refine CW.region tt_ok rfl ?_ | refine CW.regionD tt_ok (by kernel_rfl) pl20_2 (by decide +kernel) ?_ | refine CW.block ?_ | refine CW.skip ?_ | refine SQ.nil ?_ | refine SQ.pures1 tt_ok rfl ?_ | refine SQ.pure1 tt_ok rfl ?_ | refine SQ.new _ _ rfl rfl (fun _ => ?_) | refine SQ.ldA tt_ok rfl rfl (by repeat (first | exact .h | exact .q | apply At.t)) (by rfl) ?_ | refine SQ.stA tt_ok rfl rfl (by repeat (first | apply Up.h | apply Up.t)) (by rfl) (by rfl) (by repeat (first | exact trivial | refine ⟨trivial, ?_⟩ | refine ⟨wk (by repeat (first | exact .h | exact .q | apply At.t)) (by rfl), ?_⟩)) ?_ | refine CW.cond_tt rfl ?_ | refine CW.cond_ff rfl ?_))
            exact CW.ret (fin_ret rfl (A := dA d ⟨o0, o1, sb, sq, sc, sh, qc, cc, xs⟩) pk_ ⟨rfl, rfl⟩)
          | some en =>
            have hrte := hrt en (List.mem_of_getElem? (Br.atE_some ha).2.2.1)
            refine ke rfl rfl (getR_some β sb sq sc (first := 32) (id := pf) (es := sh) (by omega) (by omega) hpid ha) ?_
            (repeat (first | refine CW.seq ?_ | refine CW.region tt_ok rfl ?_ | refine CW.regionD tt_ok (by kernel_rfl) pl20_2 (by decide +kernel) ?_ | refine CW.block ?_ | refine CW.skip ?_ | refine SQ.nil ?_ | refine SQ.pures1 tt_ok rfl ?_ | refine SQ.pure1 tt_ok rfl ?_ | refine SQ.new _ _ rfl rfl (fun _ => ?_) | refine SQ.ldA tt_ok rfl rfl (by repeat (first | exact .h | exact .q | apply At.t)) (by rfl) ?_ | refine SQ.stA tt_ok rfl rfl (by repeat (first | apply Up.h | apply Up.t)) (by rfl) (by rfl) (by repeat (first | exact trivial | refine ⟨trivial, ?_⟩ | refine ⟨wk (by repeat (first | exact .h | exact .q | apply At.t)) (by rfl), ?_⟩)) ?_ | refine CW.cond_tt rfl ?_ | refine CW.cond_ff rfl ?_))
            refine ke rfl rfl (routed81 β en.2 hrte.1 hrte.2) ?_
            (repeat (first | refine CW.seq ?_ | refine CW.region tt_ok rfl ?_ | refine CW.regionD tt_ok (by kernel_rfl) pl20_2 (by decide +kernel) ?_ | refine CW.block ?_ | refine CW.skip ?_ | refine SQ.nil ?_ | refine SQ.pures1 tt_ok rfl ?_ | refine SQ.pure1 tt_ok rfl ?_ | refine SQ.new _ _ rfl rfl (fun _ => ?_) | refine SQ.ldA tt_ok rfl rfl (by repeat (first | exact .h | exact .q | apply At.t)) (by rfl) ?_ | refine SQ.stA tt_ok rfl rfl (by repeat (first | apply Up.h | apply Up.t)) (by rfl) (by rfl) (by repeat (first | exact trivial | refine ⟨trivial, ?_⟩ | refine ⟨wk (by repeat (first | exact .h | exact .q | apply At.t)) (by rfl), ?_⟩)) ?_ | refine CW.cond_tt rfl ?_ | refine CW.cond_ff rfl ?_))
            exact CW.ret (fin_ret rfl (A := dA d ⟨o0, o1, sb, sq, sc, sh, qc, cc, xs⟩) pk_ ⟨rfl, rfl⟩)
        · rw [if_neg h13, show (pr == 13) = false by simp [h13]]
          (repeat (first | refine CW.seq ?_ | refine CW.region tt_ok rfl ?_ | refine CW.regionD tt_ok (by kernel_rfl) pl20_3 (by decide +kernel) ?_ | refine CW.block ?_ | refine CW.skip ?_ | refine SQ.nil ?_ | refine SQ.pures1 tt_ok rfl ?_ | refine SQ.pure1 tt_ok rfl ?_ | refine SQ.new _ _ rfl rfl (fun _ => ?_) | refine SQ.ldA tt_ok rfl rfl (by repeat (first | exact .h | exact .q | apply At.t)) (by rfl) ?_ | refine SQ.stA tt_ok rfl rfl (by repeat (first | apply Up.h | apply Up.t)) (by rfl) (by rfl) (by repeat (first | exact trivial | refine ⟨trivial, ?_⟩ | refine ⟨wk (by repeat (first | exact .h | exact .q | apply At.t)) (by rfl), ?_⟩)) ?_ | refine CW.cond_tt rfl ?_ | refine CW.cond_ff rfl ?_))
          refine ke rfl rfl (Br.read12 β sb sq sc (first := 32) (es := sh) (by omega) (by omega) pr pf pc) ?_
          (repeat (first | refine CW.seq ?_ | refine CW.region tt_ok rfl ?_ | refine CW.regionD tt_ok (by kernel_rfl) pl20_3 (by decide +kernel) ?_ | refine CW.block ?_ | refine CW.skip ?_ | refine SQ.nil ?_ | refine SQ.pures1 tt_ok rfl ?_ | refine SQ.pure1 tt_ok rfl ?_ | refine SQ.new _ _ rfl rfl (fun _ => ?_) | refine SQ.ldA tt_ok rfl rfl (by repeat (first | exact .h | exact .q | apply At.t)) (by rfl) ?_ | refine SQ.stA tt_ok rfl rfl (by repeat (first | apply Up.h | apply Up.t)) (by rfl) (by rfl) (by repeat (first | exact trivial | refine ⟨trivial, ?_⟩ | refine ⟨wk (by repeat (first | exact .h | exact .q | apply At.t)) (by rfl), ?_⟩)) ?_ | refine CW.cond_tt rfl ?_ | refine CW.cond_ff rfl ?_))
          exact CW.ret (fin_ret rfl (A := dA d ⟨o0, o1, sb, sq, sc, sh, qc, cc, xs⟩) pk_ ⟨rfl, rfl⟩)
  · rw [if_pos he, show (e != 0) = true by simp [he]]
    (refine G tt_ok pk20 ?_; repeat (refine G1 tt_ok pk20 ?_; intro _))
    exact CW.ret (fin_ret rfl (A := dA d ⟨o0, o1, sb, sq, sc, sh, qc, cc, xs⟩) pk_ ⟨rfl, rfl⟩)
theorem callS_es {id gr : Int} {st : List CR × Nat} {k : Int} (h : ∀ x ∈ st.1, x.es.length = 32 ∧ Bn.okL x.es) : ∀ x ∈ (callS id gr st k).1, x.es.length = 32 ∧ Bn.okL x.es := by
  unfold callS
  split
  · rename_i x hx
    split
    · intro y hy
      rcases List.mem_or_eq_of_mem_set hy with h2 | rfl
      · exact h y h2
      · have := h x (List.mem_of_getElem? hx)
        exact ⟨by rw [Bn.doV_len]; exact this.1, Bn.doV_ok this.2⟩
    · exact h
  · exact h
theorem callF_es {id gr : Int} : ∀ (l : List Int) (st : List CR × Nat), (∀ x ∈ st.1, x.es.length = 32 ∧ Bn.okL x.es) → ∀ x ∈ (l.foldl (callS id gr) st).1, x.es.length = 32 ∧ Bn.okL x.es
  | [], st, h => h
  | x :: r, st, h => callF_es r (callS id gr st x) (callS_es h)
@[reducible] def pk151 : List (Nat × Plan) := [(8, [(0, 0, []), (1, 0, []), (2, 0, []), (3, 0, []), (4, 0, []), (5, 0, []), (6, 0, []), (7, 0, []), (8, 0, []), (9, 0, []), (10, 0, []), (11, 0, []), (12, 0, []), (13, 0, []), (14, 1, [1, 5, 9, 13]), (15, 0, [])])]
theorem allN_mem {f : Int} {es : List Bn.En} {q : Int × Bn.En} (h : q ∈ Bn.allV f es) : ∃ (i : Nat) (e : Bn.En), es[i]? = some e ∧ q = (f + i, e) := by
  obtain ⟨i, hi, e⟩ := List.getElem_of_mem h
  rw [Bn.allV_len] at hi
  have h2 := Bn.allV_at (first := f) (List.getElem?_eq_getElem hi)
  refine ⟨i, _, List.getElem?_eq_getElem hi, ?_⟩
  rw [List.getElem?_eq_getElem (by rw [Bn.allV_len]; exact hi), e] at h2
  exact Option.some.inj h2
theorem allR_mem {f : Int} {es : List Br.En} {q : Int × Br.En} (h : q ∈ Br.allV f es) : ∃ (i : Nat) (e : Br.En), es[i]? = some e ∧ q = (f + i, e) := by
  obtain ⟨i, hi, e⟩ := List.getElem_of_mem h
  rw [Br.allV_len] at hi
  have h2 := Br.allV_at (first := f) (List.getElem?_eq_getElem hi)
  refine ⟨i, _, List.getElem?_eq_getElem hi, ?_⟩
  rw [List.getElem?_eq_getElem (by rw [Br.allV_len]; exact hi), e] at h2
  exact Option.some.inj h2
theorem allN_ids (f : Int) (es : List Bn.En) : (Bn.allV f es).map (·.1) = (List.range es.length).map fun (i : Nat) => f + (i : Int) := by
  apply List.ext_getElem?
  intro i
  rw [List.getElem?_map, List.getElem?_map]
  by_cases hi : i < es.length
  · rw [Bn.allV_at (List.getElem?_eq_getElem hi), List.getElem?_range hi]; rfl
  · rw [List.getElem?_eq_none (by rw [Bn.allV_len]; omega), List.getElem?_eq_none (by rw [List.length_range]; omega)]; rfl
theorem allR_ids (f : Int) (es : List Br.En) : (Br.allV f es).map (·.1) = (List.range es.length).map fun (i : Nat) => f + (i : Int) := by
  apply List.ext_getElem?
  intro i
  rw [List.getElem?_map, List.getElem?_map]
  by_cases hi : i < es.length
  · rw [Br.allV_at (List.getElem?_eq_getElem hi), List.getElem?_range hi]; rfl
  · rw [List.getElem?_eq_none (by rw [Br.allV_len]; omega), List.getElem?_eq_none (by rw [List.length_range]; omega)]; rfl
/-- The numbers below m that a processor may have to do with. -/
def sidsV (sh : List Br.En) (xs : List CR) (k : Int) (m : Nat) : List Int := ((List.range m).filter fun (i : Nat) => decide ((i : Int) < 32) || targetV sh xs i == k).map fun (i : Nat) => (i : Int)
theorem sids_step (sh : List Br.En) (xs : List CR) (k : Int) (m : Nat) : sidsV sh xs k (m + 1) = sidsV sh xs k m ++ if (decide ((m : Int) < 32) || targetV sh xs m == k) = true then [(m : Int)] else [] := by
  unfold sidsV
  rw [List.range_succ, List.filter_append, List.map_append]
  congr 1
  simp only [List.filter_cons, List.filter_nil]
  split <;> rfl
theorem sids_len (sh : List Br.En) (xs : List CR) (k : Int) (m : Nat) : (sidsV sh xs k m).length ≤ m := by
  unfold sidsV
  rw [List.length_map]
  exact Nat.le_trans (List.length_filter_le _ _) (by simp)
theorem sids_all (sh : List Br.En) (xs : List CR) (k : Int) {es : List Bn.En} (h : es.length = 32) : sidsV sh xs k (32 + sh.length) = (seenA es ++ seenB sh xs k (Br.allV 32 sh)).map (·.1) := by
  have e1 : (seenA es).map (·.1) = (List.range 32).map fun (i : Nat) => (i : Int) := by
    unfold seenA
    rw [List.map_map, show ((fun p : Int × Ln => p.1) ∘ fun p : Int × Bn.En => (p.1, p.2.1)) = fun p => p.1 from rfl, allN_ids, h]
    apply List.map_congr_left
    intro i _; omega
  have e2 : (seenB sh xs k (Br.allV 32 sh)).map (·.1) = (((List.range sh.length).map fun (i : Nat) => (32 : Int) + (i : Int)).filter fun i => targetV sh xs i == k) := by
    unfold seenB
    rw [List.map_map, ← allR_ids, List.filter_map]
    rfl
  rw [List.map_append, e1, e2]
  unfold sidsV
  have a1 : (List.range 32).filter (fun (i : Nat) => decide ((i : Int) < 32) || targetV sh xs i == k) = List.range 32 := by
    rw [List.filter_eq_self]
    intro i hi
    have := List.mem_range.1 hi
    simp; omega
  have a2 : ((fun i : Nat => decide ((i : Int) < 32) || targetV sh xs i == k) ∘ fun x => 32 + x) = ((fun i => targetV sh xs i == k) ∘ fun (i : Nat) => (32 : Int) + (i : Int)) := by
    funext i
    show (decide (((32 + i : Nat) : Int) < 32) || targetV sh xs ((32 + i : Nat) : Int) == k) = (targetV sh xs (32 + (i : Int)) == k)
    rw [decide_eq_false (by omega), Bool.false_or, show ((32 + i : Nat) : Int) = 32 + (i : Int) by omega]
  rw [List.range_add, List.filter_append, List.map_append, a1, List.filter_map, List.filter_map, List.map_map, a2]
  rfl
theorem seenV_ids {D : DS} {k : Int} (hr : rightV D.xs.length k = true) (hes : ∀ x ∈ D.xs, x.es.length = 32 ∧ Bn.okL x.es) : (D.seenV k).map (·.1) = sidsV D.sh D.xs k (32 + D.sh.length) := by
  obtain ⟨x, hx, hl, hk⟩ := right_at hr
  unfold DS.seenV
  rw [if_pos hr, hx, sids_all D.sh D.xs k (hes x (List.mem_of_getElem? hx)).1]
/-- What is seen is what is got, and may be held. -/
theorem seenV_get {D : DS} {k : Int} (hes : ∀ x ∈ D.xs, x.es.length = 32 ∧ Bn.okL x.es) (hok : Br.okL D.sh) {p : Int × Ln} (h : p ∈ D.seenV k) : D.getV k p.1 = (p.2, 0) ∧ 0 ≤ p.2.2.2.1 ∧ p.2.2.2.1 ≤ 1 := by
  unfold DS.seenV at h
  cases hr : rightV D.xs.length k with
  | false => rw [hr] at h; simp at h
  | true =>
    obtain ⟨x, hx, hl, hk⟩ := right_at hr
    have hx32 := hes x (List.mem_of_getElem? hx)
    rw [if_pos hr, hx] at h
    simp only [List.mem_append] at h
    unfold DS.getV
    rw [if_pos hr, hx]
    rcases h with h | h
    · unfold seenA at h
      obtain ⟨q, hq, rfl⟩ := List.mem_map.1 h
      obtain ⟨i, e, he, rfl⟩ := allN_mem hq
      have hi := (List.getElem?_eq_some_iff.1 he).1
      simp only
      rw [if_pos (by omega), show Bn.getV 0 x.es (0 + (i : Int)) = (e, 0) by unfold Bn.getV; rw [Bn.atE_iff.2 ⟨i, rfl, he⟩]]
      obtain ⟨g1, g2, _⟩ := Bn.okL_at hx32.2 he
      exact ⟨rfl, g1, g2⟩
    · unfold seenB at h
      obtain ⟨q, hq, rfl⟩ := List.mem_map.1 h
      obtain ⟨i, e, he, rfl⟩ := allR_mem (List.mem_filter.1 hq).1
      simp only
      rw [if_neg (by omega), show Br.getV 32 D.sh (32 + (i : Int)) = (e, 0) by unfold Br.getV; rw [Br.atE_iff.2 ⟨i, rfl, he⟩]]
      obtain ⟨g1, g2, _⟩ := Br.okL_at hok he
      exact ⟨rfl, g1, g2⟩
theorem seenV_len {D : DS} {k : Int} (hes : ∀ x ∈ D.xs, x.es.length = 32 ∧ Bn.okL x.es) : (D.seenV k).length ≤ 32 + D.sh.length := by
  cases hr : rightV D.xs.length k with
  | false => unfold DS.seenV; rw [hr]; simp
  | true =>
    have h := congrArg List.length (seenV_ids hr hes)
    rw [List.length_map] at h
    rw [h]
    exact sids_len _ _ _ _
set_option maxHeartbeats 8000000 in
theorem refSeen42 (β : Base) (r : Nat) (R : RS) (D : DS) (ok : OkD R D) (k : Int) : Tri Tryz.prog β 150 [.pointer (some ⟨r, 0, none⟩), .int .i64 k] (rD r R D) (fun v L => ∃ q c, v = .slice q (D.seenV k).length c ∧ L = rowA q (D.seenV k).length (((D.seenV k).map (·.1)).flatMap i1C) :: rD r R D) := by
  have ok' := ok
  obtain ⟨h1, h8, hes, hsh, hok, hos, hrt⟩ := ok'
  refine Tri.intro tt_ok Tryz.func150 rfl rfl Tryz.ntmps150 rfl fun F => ?_
  unfold rD
  refine G tt_ok [] ?_
  refine ke rfl rfl (there48 β r _ _ _ rfl rfl rfl R.qk R.qa R.qo R.qs D.sh.length D.sh.length D.xs.length D.xs.length R.ck R.ca R.co R.cs k) ?_
  cases hr : rightV D.xs.length k with
  | false =>
    refine G tt_ok [] ?_
    have hn : D.seenV k = [] := by unfold DS.seenV; rw [hr]; rfl
    rw [hn]
    refine CW.ent row_nil ?_
    exact CW.ret (fin_ret rfl (A := rowA none 0 [] :: rD r R D) pk_ ⟨none, 0, rfl, rfl⟩)
  | true =>
    have hids := seenV_ids hr hes
    have hlen : (D.seenV k).length = (sidsV D.sh D.xs k (32 + D.sh.length)).length := by rw [← hids, List.length_map]
    rw [hids, hlen]
    refine G tt_ok [] ?_
    refine CW.loop (α := Nat × Option Addr × Nat) (fun x => x.1 ≤ 32 + D.sh.length) (fun x => [(0, .pointer (some ⟨r, 0, none⟩)), (1, .int .i64 k), (5, .slice x.2.1 (sidsV D.sh D.xs k x.1).length x.2.2), (6, .int .i64 x.1)])
      (fun x => own 3 1 (.slice x.2.1 (sidsV D.sh D.xs k x.1).length x.2.2) (sidsV D.sh D.xs k x.1).length ((sidsV D.sh D.xs k x.1).flatMap i1C) :: rD r R D) (fun x => 32 + D.sh.length - x.1) (0, none, 0) (by simp) ⟨rfl, rfl, rfl, rfl, trivial⟩ (Ent.trans (own_nil 3 1) pk_) ?_
    rintro ⟨m, q, c⟩ hm
    simp only at hm ⊢
    have hl := sids_len D.sh D.xs k m
    have hst := sids_step D.sh D.xs k m
    have hw0 : IntKind.i64.wrap (32 + (D.sh.length : Int)) = ((32 + D.sh.length : Nat) : Int) := by rw [wrap_id (by omega) (by omega)]; omega
    rw [show rD r R D = [pt r [.bool D.o0, .bool D.o1, .pointer (some ⟨R.s.b, 0, none⟩), .slice R.qk D.sh.length R.ck, .slice R.qa D.sh.length R.ca, .slice R.qo D.xs.length R.co, .slice R.qs D.xs.length R.cs],
      rowA R.qk D.sh.length (D.sh.flatMap rcC), rowA R.qa D.sh.length (D.sh.flatMap raC), rowA R.qo D.xs.length (R.os.flatMap opC), rowA R.qs D.xs.length (D.xs.flatMap slC), pkA obF (R.os.zip D.xs)] ++ R.s.at_ 32 (Br.lsV D.sh) from rfl]
    refine G tt_ok [] ?_
    rw [hw0]
    by_cases hlt : m < 32 + D.sh.length
    · rw [decide_eq_true (show (m : Int) < ((32 + D.sh.length : Nat) : Int) by omega)]
      have hw : IntKind.i64.wrap ((m : Int) + 1) = ((m + 1 : Nat) : Int) := by rw [wrap_i64]; split <;> omega
      refine G tt_ok [] ?_
      by_cases h32 : m < 32
      · have hd : decide ((m : Int) < 32) = true := decide_eq_true (by omega)
        rw [hd, Bool.true_or, if_pos rfl] at hst
        rw [hd]
        refine G tt_ok [] ?_
        (refine SQ.built tt_ok rfl rfl (fun _ => w_ ?_))
        refine G tt_ok [] ?_
        (refine SQ.append tt_ok rfl rfl 1 rfl 0 (q := true) rfl ([.int .i64 (m : Int)]) rfl rfl rfl (scal_eq rfl) (by omega) (by show ((sidsV D.sh D.xs k m).length + 1) * 8 ≤ _; omega) (fun v' => w_ ?_); refine SQ.ent _ (Ent.head (own_shape _ _ _ _ _)) ?_; refine SQ.open_ fun s => ?_; refine SQ.pure_ fun hv => ?_; subst hv)
        refine G tt_ok [] ?_
        refine ⟨(m + 1, s.1, s.2), by simp; omega, by simp; omega, ⟨rfl, rfl, by rw [hst, List.length_append]; rfl, by rw [← hw]; rfl, trivial⟩, ?_⟩
        simp only
        rw [hst, List.flatMap_append, List.length_append]
        exact pk_
      · have hd : decide ((m : Int) < 32) = false := decide_eq_false (by omega)
        rw [hd, Bool.false_or] at hst
        rw [hd]
        refine G tt_ok [] ?_
        refine ke rfl rfl (refTarget45 β r R D ok (m : Int)) ?_
        refine SQ.ent (own 3 1 (.slice q (sidsV D.sh D.xs k m).length c) (sidsV D.sh D.xs k m).length ((sidsV D.sh D.xs k m).flatMap i1C) :: rD r R D) pk_ ?_
        refine G tt_ok [] ?_
        cases hz : (targetV D.sh D.xs m == k) with
        | false =>
          rw [hz] at hst
          simp only [Bool.false_eq_true, if_false, List.append_nil] at hst
          refine G tt_ok [] ?_
          refine ⟨(m + 1, q, c), by simp; omega, by simp; omega, ⟨rfl, rfl, by rw [hst]; rfl, by rw [← hw]; rfl, trivial⟩, ?_⟩
          simp only
          rw [hst]
          exact pk_
        | true =>
          rw [hz, if_pos rfl] at hst
          refine G tt_ok [] ?_
          (refine SQ.built tt_ok rfl rfl (fun _ => w_ ?_))
          refine G tt_ok [] ?_
          (refine SQ.append tt_ok rfl rfl 1 rfl 0 (q := true) rfl ([.int .i64 (m : Int)]) rfl rfl rfl (scal_eq rfl) (by omega) (by show ((sidsV D.sh D.xs k m).length + 1) * 8 ≤ _; omega) (fun v' => w_ ?_); refine SQ.ent _ (Ent.head (own_shape _ _ _ _ _)) ?_; refine SQ.open_ fun s => ?_; refine SQ.pure_ fun hv => ?_; subst hv)
          refine G tt_ok [] ?_
          refine ⟨(m + 1, s.1, s.2), by simp; omega, by simp; omega, ⟨rfl, rfl, by rw [hst, List.length_append]; rfl, by rw [← hw]; rfl, trivial⟩, ?_⟩
          simp only
          rw [hst, List.flatMap_append, List.length_append]
          exact pk_
    · rw [decide_eq_false (show ¬ (m : Int) < ((32 + D.sh.length : Nat) : Int) by omega)]
      refine G tt_ok [] ?_
      refine CW.exit ?_
      refine G tt_ok [] ?_
      obtain rfl : m = 32 + D.sh.length := by omega
      refine CW.ent (Ent.head own_row) ?_
      refine CW.ret (fin_ret rfl (A := rowA q (sidsV D.sh D.xs k (32 + D.sh.length)).length ((sidsV D.sh D.xs k (32 + D.sh.length)).flatMap i1C) :: rD r R D) pk_ ?_)
      exact ⟨q, c, rfl, rfl⟩
theorem pendIs (β : Base) (i : Iq) : Tri Tryz.prog β 224 [.agg #[.bool i.1, .bool i.2.1, .bool i.2.2.1, .bool i.2.2.2]] [] (fun v L => v = .bool (pendI i) ∧ L = []) := pending58 β _ _ _ _
theorem refReady88 (β : Base) (i : Iq) : Tri Tryz.prog β 216 [.agg #[.bool i.1, .bool i.2.1, .bool i.2.2.1, .bool i.2.2.2]] [] (fun v L => v = .bool (readyI i) ∧ L = []) := by
  refine Tri.intro tt_ok Tryz.func216 rfl rfl Tryz.ntmps216 rfl fun F => ?_
  (refine G tt_ok [] ?_; repeat (refine G1 tt_ok [] ?_; intro _))
  refine ke rfl rfl (pendIs β i) ?_
  unfold readyI
  cases hp : pendI i with
  | false =>
    (refine G tt_ok [] ?_; repeat (refine G1 tt_ok [] ?_; intro _))
    exact CW.ret (fin_ret rfl (Ent.dropAll _) ⟨rfl, rfl⟩)
  | true =>
    (refine G tt_ok [] ?_; repeat (refine G1 tt_ok [] ?_; intro _))
    exact CW.ret (fin_ret rfl (Ent.dropAll _) ⟨rfl, rfl⟩)
theorem rd_on7 {o0 o1 : Bool} {u1 u2 u3 u4 u5 : Value} {g : Int} (h0 : 0 ≤ g) (h1 : g ≤ 1) : rdv ti4 [.bool o0, .bool o1, u1, u2, u3, u4, u5] (0 + g.toNat * 1) = some (.bool (if g = 0 then o0 else o1)) := by
  have : g = 0 ∨ g = 1 := by omega
  rcases this with rfl | rfl <;> rfl
theorem filter_step {α : Type} (f : α → Bool) {l : List α} {j : Nat} {a : α} (h : l[j]? = some a) : (l.take (j + 1)).filter f = (l.take j).filter f ++ if f a = true then [a] else [] := by
  rw [List.take_add_one, h, List.filter_append]
  congr 1
  simp only [Option.toList, List.filter_cons, List.filter_nil]
set_option maxHeartbeats 8000000 in
theorem refReady43 (β : Base) (r : Nat) (R : RS) (D : DS) (ok : OkD R D) (k : Int) : Tri Tryz.prog β 151 [.pointer (some ⟨r, 0, none⟩), .int .i64 k] (rD r R D) (fun v L => ∃ q c, v = .slice q (D.readyV k).length c ∧ L = rowA q (D.readyV k).length (((D.readyV k).map (·.1)).flatMap i1C) :: rD r R D) := by
  have ok' := ok
  obtain ⟨h1, h8, hes, hsh, hok, hos, hrt⟩ := ok'
  refine Tri.intro tt_ok Tryz.func151 rfl rfl Tryz.ntmps151 rfl fun F => ?_
  have hu : rD r R D = [pt r [.bool D.o0, .bool D.o1, .pointer (some ⟨R.s.b, 0, none⟩), .slice R.qk D.sh.length R.ck, .slice R.qa D.sh.length R.ca, .slice R.qo D.xs.length R.co, .slice R.qs D.xs.length R.cs],
      rowA R.qk D.sh.length (D.sh.flatMap rcC), rowA R.qa D.sh.length (D.sh.flatMap raC), rowA R.qo D.xs.length (R.os.flatMap opC), rowA R.qs D.xs.length (D.xs.flatMap slC), pkA obF (R.os.zip D.xs)] ++ R.s.at_ 32 (Br.lsV D.sh) := rfl
  rw [hu]
  (refine G tt_ok pk151 ?_; repeat (refine G1 tt_ok pk151 ?_; intro _))
  refine ke rfl rfl (there48 β r _ _ _ rfl rfl rfl R.qk R.qa R.qo R.qs D.sh.length D.sh.length D.xs.length D.xs.length R.ck R.ca R.co R.cs k) ?_
  cases hr : rightV D.xs.length k with
  | false =>
    (refine G tt_ok pk151 ?_; repeat (refine G1 tt_ok pk151 ?_; intro _))
    have hn : D.readyV k = [] := by unfold DS.readyV asleepV; rw [hr]; rfl
    rw [hn]
    refine CW.ent row_nil ?_
    exact CW.ret (fin_ret rfl (A := rowA none 0 [] :: rD r R D) pk_ ⟨none, 0, rfl, by rw [hu]; rfl⟩)
  | true =>
    obtain ⟨x, hx, hl, hk⟩ := right_at hr
    have hsl : asleepV D.xs k = x.sl := by unfold asleepV; rw [if_pos hr, hx]
    obtain ⟨s, qk, ck, qa, ca, qo, co, qs, cs, os⟩ := R
    simp only at hos hu ⊢
    (refine SQ.ent _ (Rm.to (A := rowA qs (D.xs.length) (D.xs.flatMap slC)) (by repeat (first | exact Rm.h | apply Rm.t)) (row_open (by omega))) ?_; refine SQ.open_ fun y => ?_; obtain ⟨g, rest⟩ := y; refine SQ.pure_ fun hv => ?_; simp only at hv; subst hv)
    (refine G tt_ok pk151 ?_; repeat (refine G1 tt_ok pk151 ?_; intro _))
    refine SQ.idx tt_ok rfl rfl k.toNat hk hl (o' := 0 + k.toNat * 1) rfl ?_
    (refine SQ.ldA tt_ok rfl rfl (by repeat (first | exact .h | exact .q | apply At.t)) (rd_slp hx rest) ?_)
    (refine G tt_ok pk151 ?_; repeat (refine G1 tt_ok pk151 ?_; intro _))
    refine CW.ent (L' := rD r ⟨s, qk, ck, qa, ca, qo, co, some ⟨g, 0, none⟩, cs, os⟩ D) (Ent.trans (rm_ (A := pt g (D.xs.flatMap slC ++ rest)) (row_close (n := D.xs.length))) pk_) ?_
    cases hs : x.sl with
    | true =>
      (refine G tt_ok pk151 ?_; repeat (refine G1 tt_ok pk151 ?_; intro _))
      have hn : D.readyV k = [] := by unfold DS.readyV; rw [hsl, hs]; rfl
      rw [hn]
      refine CW.ent row_nil ?_
      exact CW.ret (fin_ret rfl (A := rowA none 0 [] :: rD r ⟨s, qk, ck, qa, ca, qo, co, some ⟨g, 0, none⟩, cs, os⟩ D) pk_ ⟨none, 0, rfl, by rw [hu]; rfl⟩)
    | false =>
      have hn : D.readyV k = (D.seenV k).filter (takeP D.o0 D.o1) := by unfold DS.readyV; rw [hsl, hs]; rfl
      rw [hn]
      (refine G tt_ok pk151 ?_; repeat (refine G1 tt_ok pk151 ?_; intro _))
      (refine ka rfl rfl (refSeen42 β r ⟨s, qk, ck, qa, ca, qo, co, some ⟨g, 0, none⟩, cs, os⟩ D ok k) ?_; rintro _ _ ⟨q2, c2, rfl, rfl⟩; refine w_ ?_)
      have hmem : ∀ p ∈ D.seenV k, D.getV k p.1 = (p.2, 0) ∧ 0 ≤ p.2.2.2.1 ∧ p.2.2.2.1 ≤ 1 := fun p hp => seenV_get hes hok hp
      have hln := seenV_len (k := k) hes
      generalize D.seenV k = l at hmem hln ⊢
      have htk : takeP D.o0 D.o1 = fun p => p.2.2.1 && ((if p.2.2.2.1 = 0 then D.o0 else D.o1) && readyI p.2.1) := rfl
      generalize takeP D.o0 D.o1 = tk at htk ⊢
      (refine G tt_ok pk151 ?_; repeat (refine G1 tt_ok pk151 ?_; intro _))
      refine CW.ent (rm_ (A := rowA q2 l.length ((l.map (·.1)).flatMap i1C)) (row_rd β (sz := 1) (by rw [flatE_len (sz := 1) (fun _ => rfl), List.length_map]))) ?_
      refine CW.open_ fun B => CW.pure_ fun hB => ?_
      refine CW.loop (α := Nat × Option Addr × Nat) (fun x => x.1 ≤ l.length) (fun x => [(0, .pointer (some ⟨r, 0, none⟩)), (1, .int .i64 k), (5, .slice x.2.1 ((l.take x.1).filter tk).length x.2.2), (25, .slice q2 l.length c2), (26, .int .i64 l.length), (27, .int .i64 x.1)])
        (fun x => own 3 1 (.slice x.2.1 ((l.take x.1).filter tk).length x.2.2) ((l.take x.1).filter tk).length ((((l.take x.1).filter tk).map (·.1)).flatMap i1C) :: B :: rD r ⟨s, qk, ck, qa, ca, qo, co, some ⟨g, 0, none⟩, cs, os⟩ D) (fun x => l.length - x.1) (0, none, 0) (by simp) ⟨rfl, rfl, rfl, rfl, rfl, rfl, trivial⟩ (Ent.trans (own_nil 3 1) pk_) ?_
      rintro ⟨j, q, c⟩ hj
      simp only at hj ⊢
      have hfl : ((l.take j).filter tk).length ≤ j := Nat.le_trans (List.length_filter_le _ _) (by rw [List.length_take]; omega)
      (refine G tt_ok pk151 ?_; repeat (refine G1 tt_ok pk151 ?_; intro _))
      by_cases hlt : j < l.length
      · rw [decide_eq_true (show (j : Int) < l.length by omega)]
        have hw : IntKind.i64.wrap ((j : Int) + 1) = ((j + 1 : Nat) : Int) := by rw [wrap_i64]; split <;> omega
        obtain ⟨p, hp⟩ : ∃ p, l[j]? = some p := ⟨_, List.getElem?_eq_getElem hlt⟩
        obtain ⟨hget, hg0, hg1⟩ := hmem p (List.mem_of_getElem? hp)
        have hst := filter_step tk hp
        have hid : (l.map (·.1))[j]? = some p.1 := by rw [List.getElem?_map, hp]; rfl
        obtain ⟨id, iq, en, g1, pr⟩ := p
        rw [show tk (id, iq, en, g1, pr) = (en && ((if g1 = 0 then D.o0 else D.o1) && readyI iq)) by rw [htk]] at hst
        simp only at hget hg0 hg1 hid
        obtain ⟨bs, os', qs', cs', rfl, rfl, hcs⟩ := hB.2.resolve_left (by omega)
        (refine G tt_ok pk151 ?_; repeat (refine G1 tt_ok pk151 ?_; intro _))
        refine SQ.idx tt_ok rfl rfl j rfl hlt (o' := os' + j * 1) rfl ?_
        (refine SQ.ldA tt_ok rfl rfl (by repeat (first | exact .h | exact .q | apply At.t)) (rd_i1 hcs hid) ?_)
        (refine G tt_ok pk151 ?_; repeat (refine G1 tt_ok pk151 ?_; intro _))
        have hgc := refGet44 β r ⟨s, qk, ck, qa, ca, qo, co, some ⟨g, 0, none⟩, cs, os⟩ D ok k id
        rw [hget] at hgc
        refine ke rfl rfl (hgc) ?_
        (refine G tt_ok pk151 ?_; repeat (refine G1 tt_ok pk151 ?_; intro _))
        rw [hu]
        simp only
        cases en with
        | false =>
          simp only [Bool.false_and, Bool.false_eq_true, if_false, List.append_nil] at hst
          (refine G tt_ok pk151 ?_; repeat (refine G1 tt_ok pk151 ?_; intro _))
          refine ⟨(j + 1, q, c), by simp; omega, by simp; omega, ⟨rfl, rfl, by rw [hst]; rfl, rfl, rfl, by rw [← hw]; rfl, trivial⟩, ?_⟩
          simp only
          rw [hst]
          exact pk_
        | true =>
          simp only [Bool.true_and] at hst
          (refine G tt_ok pk151 ?_; repeat (refine G1 tt_ok pk151 ?_; intro _))
          refine SQ.idx tt_ok rfl rfl g1.toNat (by omega) (by omega) (o' := 0 + g1.toNat * 1) rfl ?_
          (refine SQ.ldA tt_ok rfl rfl (by repeat (first | exact .h | exact .q | apply At.t)) (rd_on7 hg0 hg1) ?_)
          (refine G tt_ok pk151 ?_; repeat (refine G1 tt_ok pk151 ?_; intro _))
          have hon := fun u1 u2 u3 u4 u5 => rd_on7 (o0 := D.o0) (o1 := D.o1) (u1 := u1) (u2 := u2) (u3 := u3) (u4 := u4) (u5 := u5) hg0 hg1
          generalize (if g1 = 0 then D.o0 else D.o1) = on at hst hon ⊢
          cases on with
          | false =>
            simp only [Bool.false_and, Bool.false_eq_true, if_false, List.append_nil] at hst
            (refine G tt_ok pk151 ?_; repeat (refine G1 tt_ok pk151 ?_; intro _))
            refine ⟨(j + 1, q, c), by simp; omega, by simp; omega, ⟨rfl, rfl, by rw [hst]; rfl, rfl, rfl, by rw [← hw]; rfl, trivial⟩, ?_⟩
            simp only
            rw [hst]
            exact pk_
          | true =>
            simp only [Bool.true_and] at hst
            (refine G tt_ok pk151 ?_; repeat (refine G1 tt_ok pk151 ?_; intro _))
            (refine ka rfl rfl (refReady88 β iq) ?_; rintro _ _ ⟨rfl, rfl⟩; refine ⟨(by repeat (first | exact trivial | refine ⟨trivial, ?_⟩ | refine ⟨wk (by repeat (first | exact .h | exact .q | apply At.t)) (hon _ _ _ _ _), ?_⟩ | refine ⟨wk (by repeat (first | exact .h | exact .q | apply At.t)) (by rfl), ?_⟩)), ?_⟩)
            generalize readyI iq = rd at hst ⊢
            cases rd with
            | false =>
              simp only [Bool.false_eq_true, if_false, List.append_nil] at hst
              (refine G tt_ok pk151 ?_; repeat (refine G1 tt_ok pk151 ?_; intro _))
              refine ⟨(j + 1, q, c), by simp; omega, by simp; omega, ⟨rfl, rfl, by rw [hst]; rfl, rfl, rfl, by rw [← hw]; rfl, trivial⟩, ?_⟩
              simp only
              rw [hst]
              exact pk_
            | true =>
              simp only [if_true] at hst
              (refine G tt_ok pk151 ?_; repeat (refine G1 tt_ok pk151 ?_; intro _))
              (refine SQ.built tt_ok rfl rfl (fun _ => w_ ?_))
              (refine G tt_ok pk151 ?_; repeat (refine G1 tt_ok pk151 ?_; intro _))
              refine SQ.ent (_ :: own 3 1 (.slice q ((l.take j).filter tk).length c) ((l.take j).filter tk).length ((((l.take j).filter tk).map (·.1)).flatMap i1C) :: pq β qs' bs cs' :: rD r ⟨s, qk, ck, qa, ca, qo, co, some ⟨g, 0, none⟩, cs, os⟩ D) pk_ ?_
              (refine SQ.append tt_ok rfl rfl 1 rfl 0 (q := true) rfl ([.int .i64 id]) rfl rfl rfl (scal_eq rfl) (by omega) (by show (((l.take j).filter tk).length + 1) * 8 ≤ _; omega) (fun v' => w_ ?_); refine SQ.ent _ (Ent.head (own_shape _ _ _ _ _)) ?_; refine SQ.open_ fun s2 => ?_; refine SQ.pure_ fun hv => ?_; subst hv)
              (refine G tt_ok pk151 ?_; repeat (refine G1 tt_ok pk151 ?_; intro _))
              refine ⟨(j + 1, s2.1, s2.2), by simp; omega, by simp; omega, ⟨rfl, rfl, by rw [hst, List.length_append]; rfl, rfl, rfl, by rw [← hw]; rfl, trivial⟩, ?_⟩
              simp only
              rw [hst, List.map_append, List.flatMap_append, List.length_append]
              exact pk_
      · rw [decide_eq_false (show ¬ (j : Int) < l.length by omega)]
        (refine G tt_ok pk151 ?_; repeat (refine G1 tt_ok pk151 ?_; intro _))
        refine CW.exit ?_
        (refine G tt_ok pk151 ?_; repeat (refine G1 tt_ok pk151 ?_; intro _))
        obtain rfl : j = l.length := by omega
        rw [List.take_length]
        refine CW.ent (Ent.head own_row) ?_
        refine CW.ret (fin_ret rfl (A := rowA q (l.filter tk).length (((l.filter tk).map (·.1)).flatMap i1C) :: rD r ⟨s, qk, ck, qa, ca, qo, co, some ⟨g, 0, none⟩, cs, os⟩ D) pk_ ?_)
        exact ⟨q, c, rfl, rfl⟩
theorem refBefore87 (β : Base) (p i q j : Int) : Tri Tryz.prog β 14 [.int .i64 p, .int .i64 i, .int .i64 q, .int .i64 j] [] (fun v L => v = .bool (beforeV p i q j) ∧ L = []) := by
  refine Tri.intro tt_ok Tryz.func14 rfl rfl Tryz.ntmps14 rfl fun F => ?_
  refine G tt_ok [] ?_
  by_cases h : p = q
  · subst h
    rw [show (p != p) = false by simp]
    refine G tt_ok [] ?_
    refine CW.ret (fin_ret rfl (Ent.refl _) ⟨?_, rfl⟩)
    unfold beforeV
    simp [packV]
  · rw [show (p != q) = true by simp [h]]
    refine G tt_ok [] ?_
    refine CW.ret (fin_ret rfl (Ent.refl _) ⟨?_, rfl⟩)
    unfold beforeV
    rw [show (p == q) = false by simp [h]]
    simp [packV]
theorem readyV_sub {D : DS} {k : Int} {p : Int × Ln} (h : p ∈ D.readyV k) : p ∈ D.seenV k := by
  unfold DS.readyV at h
  split at h
  · cases h
  · exact (List.mem_filter.1 h).1
theorem readyV_len (D : DS) (k : Int) : (D.readyV k).length ≤ (D.seenV k).length := by
  unfold DS.readyV
  split
  · simp
  · exact List.length_filter_le _ _
set_option maxHeartbeats 8000000 in
theorem refBest41 (β : Base) (r : Nat) (R : RS) (D : DS) (ok : OkD R D) (k : Int) : Tri Tryz.prog β 148 [.pointer (some ⟨r, 0, none⟩), .int .i64 k] (rD r R D) (fun v L => v = .agg #[.int .i64 (bestL (D.readyV k)).1, .int .i64 (bestL (D.readyV k)).2.1, .int .i64 (bestL (D.readyV k)).2.2.1, .bool (bestL (D.readyV k)).2.2.2] ∧ L = rD r R D) := by
  have ok' := ok
  obtain ⟨h1, h8, hes, hsh, hok, hos, hrt⟩ := ok'
  refine Tri.intro tt_ok Tryz.func148 rfl rfl Tryz.ntmps148 rfl fun F => ?_
  (refine G tt_ok [] ?_; repeat (refine G1 tt_ok [] ?_; intro _))
  rename_i b4 b5
  (refine ka rfl rfl (refReady43 β r R D ok k) ?_; rintro _ _ ⟨q2, c2, rfl, rfl⟩; refine w_ ?_)
  have hmem : ∀ p ∈ D.readyV k, D.getV k p.1 = (p.2, 0) ∧ 0 ≤ p.2.2.2.1 ∧ p.2.2.2.1 ≤ 1 := fun p hp => seenV_get hes hok (readyV_sub hp)
  have hln := readyV_len D k
  have hln2 := seenV_len (k := k) hes
  generalize D.readyV k = l at hmem hln ⊢
  (refine G tt_ok [] ?_; repeat (refine G1 tt_ok [] ?_; intro _))
  refine CW.ent (rm_ (A := rowA q2 l.length ((l.map (·.1)).flatMap i1C)) (row_rd β (sz := 1) (by rw [flatE_len (sz := 1) (fun _ => rfl), List.length_map]))) ?_
  refine CW.open_ fun B => CW.pure_ fun hB => ?_
  refine CW.loop (α := Nat) (fun j => j ≤ l.length) (fun j => [(0, .pointer (some ⟨r, 0, none⟩)), (1, .int .i64 k), (4, .pointer (some ⟨b4, 0, none⟩)), (5, .pointer (some ⟨b5, 0, none⟩)), (12, .slice q2 l.length c2), (13, .int .i64 l.length), (14, .int .i64 j)])
    (fun j => pt b5 [.int .i64 (bestL (l.take j)).1, .int .i64 (bestL (l.take j)).2.1, .int .i64 (bestL (l.take j)).2.2.1, .bool (bestL (l.take j)).2.2.2] :: pt b4 [.int .i64 0, .int .i64 0, .int .i64 0, .bool false] :: B :: rD r R D) (fun j => l.length - j) 0 (by omega) ⟨rfl, rfl, rfl, rfl, rfl, rfl, rfl, trivial⟩ pk_ ?_
  intro j hj
  (refine G tt_ok [] ?_; repeat (refine G1 tt_ok [] ?_; intro _))
  by_cases hlt : j < l.length
  · rw [decide_eq_true (show (j : Int) < l.length by omega)]
    have hw : IntKind.i64.wrap ((j : Int) + 1) = ((j + 1 : Nat) : Int) := by rw [wrap_i64]; split <;> omega
    obtain ⟨p, hp⟩ : ∃ p, l[j]? = some p := ⟨_, List.getElem?_eq_getElem hlt⟩
    obtain ⟨hget, hg0, hg1⟩ := hmem p (List.mem_of_getElem? hp)
    have hst : bestL (l.take (j + 1)) = bestS (bestL (l.take j)) p := by unfold bestL; rw [List.take_add_one, hp, List.foldl_append]; rfl
    have hid : (l.map (·.1))[j]? = some p.1 := by rw [List.getElem?_map, hp]; rfl
    generalize bestL (l.take j) = cd at hst ⊢
    obtain ⟨ci, cp, cg, cis⟩ := cd
    obtain ⟨id, iq, en, g1, pr⟩ := p
    unfold bestS at hst
    simp only at hget hg0 hg1 hid hst
    obtain ⟨bs, os', qs', cs', rfl, rfl, hcs⟩ := hB.2.resolve_left (by omega)
    (refine G tt_ok [] ?_; repeat (refine G1 tt_ok [] ?_; intro _))
    refine SQ.idx tt_ok rfl rfl j rfl hlt (o' := os' + j * 1) rfl ?_
    (refine SQ.ldA tt_ok rfl rfl (by repeat (first | exact .h | exact .q | apply At.t)) (rd_i1 hcs hid) ?_)
    (refine G tt_ok [] ?_; repeat (refine G1 tt_ok [] ?_; intro _))
    have hgc := refGet44 β r R D ok k id
    rw [hget] at hgc
    refine ke rfl rfl (hgc) ?_
    (refine G tt_ok [] ?_; repeat (refine G1 tt_ok [] ?_; intro _))
    cases cis with
    | false =>
      simp only [Bool.not_false, Bool.true_or, if_true] at hst
      (refine G tt_ok [] ?_; repeat (refine G1 tt_ok [] ?_; intro _))
      refine ⟨j + 1, by omega, by omega, ⟨rfl, rfl, rfl, rfl, rfl, rfl, by rw [← hw]; rfl, trivial⟩, ?_⟩
      rw [hst]
      exact pk_
    | true =>
      simp only [Bool.not_true, Bool.false_or] at hst
      (refine G tt_ok [] ?_; repeat (refine G1 tt_ok [] ?_; intro _))
      refine ke rfl rfl (refBefore87 β pr id cp ci) ?_
      generalize beforeV pr id cp ci = z at hst ⊢
      cases z with
      | true =>
        simp only [if_true] at hst
        (refine G tt_ok [] ?_; repeat (refine G1 tt_ok [] ?_; intro _))
        refine ⟨j + 1, by omega, by omega, ⟨rfl, rfl, rfl, rfl, rfl, rfl, by rw [← hw]; rfl, trivial⟩, ?_⟩
        rw [hst]
        exact pk_
      | false =>
        simp only [Bool.false_eq_true, if_false] at hst
        (refine G tt_ok [] ?_; repeat (refine G1 tt_ok [] ?_; intro _))
        refine ⟨j + 1, by omega, by omega, ⟨rfl, rfl, rfl, rfl, rfl, rfl, by rw [← hw]; rfl, trivial⟩, ?_⟩
        rw [hst]
        exact pk_
  · rw [decide_eq_false (show ¬ (j : Int) < l.length by omega)]
    (refine G tt_ok [] ?_; repeat (refine G1 tt_ok [] ?_; intro _))
    refine CW.exit ?_
    (refine G tt_ok [] ?_; repeat (refine G1 tt_ok [] ?_; intro _))
    obtain rfl : j = l.length := by omega
    rw [List.take_length]
    refine CW.ret (fin_cells [_] ⟨cl_, trivial⟩ (A := rD r R D) pk_ ⟨rfl, rfl⟩)
/-- The document's table of a redistributor. -/
def redistRw : List Rw := [(0, 4, 4, 1, 0, 0, 1), (8, 16, 8, 2, 0, 0, 1), (20, 24, 4, 3, 0, 0, 1), (112, 120, 8, 14, 0, 0, 1), (120, 128, 8, 15, 0, 0, 1), (160, 168, 8, 16, 0, 0, 1), (176, 184, 8, 17, 0, 0, 1), (192, 196, 4, 18, 0, 0, 1)] ++ bitsRw 65664 4 128 7 ++ [(66560, 66592, 4, 11, 0, 1, 1), (68608, 68616, 4, 12, 0, 4, 1)]
theorem scal_redist : scal ((bitsRw 65664 4 128 7).flatMap rwC) = true := by kernel_rfl
set_option maxHeartbeats 4000000 in
theorem redist94 (β : Base) : Tri Tryz.prog β 221 [] [] (fun v L => ∃ q c, v = .slice q 17 c ∧ L = [rowA q 17 (redistRw.flatMap rwC)]) := by
  refine Tri.intro tt_ok Tryz.func221 rfl rfl Tryz.ntmps221 rfl fun F => ?_
  refine G tt_ok [] ?_
  refine SQ.builtO tt_ok rfl rfl rfl rfl (fun b => ⟨(by repeat (first | exact trivial | refine ⟨trivial, ?_⟩ | refine ⟨wk (by repeat (first | exact .h | exact .q | apply At.t)) (by rfl), ?_⟩)), ?_⟩)
  refine G tt_ok [] ?_
  (refine SQ.call rfl rfl (bits52 β 65664 4 128) [] rfl ?_; rintro _ _ ⟨q, c, rfl, rfl⟩; refine w_ ?_)
  refine SQ.ent _ (Ent.head (Ent.trans own_row (row_open (by omega)))) ?_
  refine SQ.open_ fun x => ?_
  obtain ⟨g, rest⟩ := x
  refine SQ.pure_ fun hv => ?_
  simp only at hv
  subst hv
  refine G tt_ok [] ?_
  refine SQ.append tt_ok rfl rfl 1 rfl 0 (q := true) rfl ((bitsRw 65664 4 128 7).flatMap rwC) rfl rfl rfl (scal_eq scal_redist) (by omega) (by decide) (fun v' => ⟨(by repeat (first | exact trivial | refine ⟨trivial, ?_⟩ | refine ⟨wk (by repeat (first | exact .h | exact .q | apply At.t)) (by rfl), ?_⟩)), ?_⟩)
  refine SQ.ent _ (Ent.head (own_shape _ _ _ _ _)) ?_
  refine SQ.open_ fun x => ?_
  refine SQ.pure_ fun hv => ?_
  subst hv
  refine G tt_ok [] ?_
  (refine SQ.built tt_ok rfl rfl (fun _ => w_ ?_))
  refine G tt_ok [] ?_
  refine SQ.append tt_ok rfl rfl 1 rfl 0 (q := true) rfl ([(66560, 66592, 4, 11, 0, 1, 1), (68608, 68616, 4, 12, 0, 4, 1)].flatMap rwC) rfl rfl rfl (scal_eq rfl) (by omega) (by decide) (fun v' => ⟨(by repeat (first | exact trivial | refine ⟨trivial, ?_⟩ | refine ⟨wk (by repeat (first | exact .h | exact .q | apply At.t)) (by rfl), ?_⟩)), ?_⟩)
  refine SQ.ent _ (Ent.head (own_shape _ _ _ _ _)) ?_
  refine SQ.open_ fun y => ?_
  refine SQ.pure_ fun hv => ?_
  subst hv
  refine G tt_ok [] ?_
  refine CW.ret (fin_ret rfl (Ent.trans (Ent.sel (is := [0]) rfl) own_row) ?_)
  refine ⟨y.1, y.2, rfl, ?_⟩
  rfl
def redistV (off w : Int) : (Int × Int × Int) × Int := findV redistRw 131072 off w
theorem redistRw_all : (redistRw.all fun r => decide (0 ≤ r.1) && decide (r.1 ≤ 131072) && decide (0 ≤ r.2.2.2.2.1) && decide (r.2.2.2.2.1 ≤ 32) && (r.2.2.2.2.2.1 == 0 || r.2.2.2.2.2.1 == 1 || r.2.2.2.2.2.1 == 4 || r.2.2.2.2.2.1 == 8) && (r.2.2.2.2.2.2 == 1)) = true := by kernel_rfl
theorem redistRw_per : ∀ r ∈ redistRw, r.2.2.2.2.2.2 ≠ 0 := by
  intro r hr
  have := List.all_eq_true.1 redistRw_all r hr
  simp only [Bool.and_eq_true, beq_iff_eq] at this
  omega
theorem redist_le (off : Int) : (redistV off 4).1.2.2 ≤ 16384 := by
  unfold redistV findV
  split
  · simp
  · split
    · simp
    · split
      · simp
      · split
        · rename_i h1 h2 h3 x r hr
          unfold outV
          split
          · have := List.all_eq_true.1 redistRw_all r (List.mem_of_find?_eq_some hr)
            simp only [Bool.and_eq_true, Bool.or_eq_true, decide_eq_true_eq, beq_iff_eq] at this
            obtain ⟨⟨⟨⟨⟨a1, a2⟩, a3⟩, a4⟩, a5⟩, a6⟩ := this
            simp only [plV]
            rw [a6, Int.tdiv_one]
            rcases a5 with ((g | g) | g) | g <;> rw [g] <;> decide
          · simp
        · simp
set_option maxHeartbeats 4000000 in
theorem refRedist49 (β : Base) (off w : Int) : Tri Tryz.prog β 159 [.int .i64 off, .int .i64 w] [] (fun v L => v = .tuple #[.agg #[.int .i64 (redistV off w).1.1, .int .i64 (redistV off w).1.2.1, .int .i64 (redistV off w).1.2.2], .int .i64 (redistV off w).2] ∧ L = []) := by
  refine Tri.intro tt_ok Tryz.func159 rfl rfl Tryz.ntmps159 rfl fun F => ?_
  (refine G tt_ok [] ?_; repeat (refine G1 tt_ok [] ?_; intro _))
  (refine SQ.call rfl rfl (redist94 β) [] rfl ?_; rintro _ _ ⟨q, c, rfl, rfl⟩; refine w_ ?_)
  (refine G tt_ok [] ?_; repeat (refine G1 tt_ok [] ?_; intro _))
  refine SQ.ent _ (Ent.head (row_rd β (sz := 7) (flatE_len (sz := 7) (fun _ => rfl) redistRw))) ?_
  refine SQ.open_ fun B => SQ.pure_ fun hB => ?_
  refine ke rfl rfl (find31 β hB (by omega) redistRw_per (size := 131072) (by omega) (by omega) off w) ?_
  (refine G tt_ok [] ?_; repeat (refine G1 tt_ok [] ?_; intro _))
  refine CW.ret (fin_cells [_, _] ⟨cl_, rfl, trivial⟩ (Ent.dropAll _) ⟨rfl, rfl⟩)
end Go.Proofs.YtebpodnbalfomaaGreatDoor.Sl
namespace Go.Proofs.YtebpodnbalfomaaGreatDoor.Sl
open Go Go.RowKit Go.Proofs
set_option linter.unusedVariables false
set_option linter.unusedSimpArgs false
section
variable {P : Program} {β : Base} {cx : Cx} {rnd : Option (Nat × Loop)} {N : Nat} {env : Env} {L : List Atom} {K : Env → List Atom → Prop} {ops : Array Oper} {T : TT}
theorem wpI_of_any {F : Fence} {n : Nat} {Q : Exit → Act → World → Prop} {E : Nat → Bool} : ∀ (fuel : Nat) (listed : Array Bool) (a : Act) (w : World), wpAnyIn F n P .any ops Q fuel listed a w → wpI F n P ops Q E [] fuel listed a w
  | 0, _, _, _, h => ⟨fun i x hl => by simp [lookO] at hl, h⟩
  | fuel + 1, _, _, _, h => ⟨fun i x hl => by simp [lookO] at hl, h.1, fun i hi => wpOpIn_mono (fun a' w' h' => wpI_of_any fuel _ a' w' h') (h.2 i hi)⟩
def floatsOk (ops : Array Oper) : List Nat → Array Bool → Bool
  | [], _ => true
  | i :: r, l => (Region.ready .any ops l).contains i && Region.free .any ops l i && floatsOk ops r (l.setIfInBounds i true)
def FQ (P : Program) (β : Base) (rnd : Option (Nat × Loop)) (N : Nat) (T : TT) (ops : Array Oper) (K : Env → List Atom → Prop) : List Nat → Nat → Array Bool → Env → List Atom → Prop
  | [], f, l, env, L => BQ P β rnd N T ops K f l env L
  | _ :: _, 0, _, _, _ => False
  | i :: r, f + 1, l, env, L => ∃ o v, ops[i]? = some o ∧ wants ops env o = some true ∧ dstOk N o.dst = true ∧ pureOp T env o.op = some v ∧ FQ P β rnd N T ops K r f (l.setIfInBounds i true) (bind_ o.dst v env) L
theorem FQ.sound (hT : TTok P T) {Q : Post} (hK : ∀ env L, K env L → Q .normal env L) (n : Nat) (hsd : ∀ (j : Nat) (o : Oper), ops[j]? = some o → noSD o = true) : ∀ (fl : List Nat) (f : Nat) (listed : Array Bool) {env : Env} {L : List Atom},
    FQ P β cx.rnd N T ops K fl f listed env L → floatsOk ops fl listed = true → Closed ops listed → ∀ (a : Act) (w : World), St β cx N env L a w → wpAnyIn (Fr cx) n P .any ops (up β cx N Q) f listed a w
  | [], f, listed, env, L, h, _, _, a, w, s => BQ.sound hT hK n f listed h a w s
  | _ :: _, 0, _, _, _, h, _, _, _, _, _ => h.elim
  | i :: r, f + 1, listed, env, L, h, hf, hc, a, w, s => by
    obtain ⟨o, v, ho, hw, hd, hp, hq⟩ := h
    simp only [floatsOk, Bool.and_eq_true, List.contains_iff_mem] at hf
    obtain ⟨⟨h1, h2⟩, h3⟩ := hf
    have ih := FQ.sound hT hK n hsd r f (listed.setIfInBounds i true) hq h3 (hc.set h1) (a.put o.dst v) w (s.put hd)
    refine wpAnyIn_of_wpI (E := fun _ => false) (obs := []) _ _ _ _ ?_
    refine wpI_take (x := none) (Fr_fn cx) ho hsd (fun c a w h => h) rfl rfl f listed a w (fun j oj hj hne hun hno => Region.free_spec ho h2 j oj hj hne hun hno) hc h1 (.inl ⟨wants_ok hw s.1, fun w' _ => pureOp_run hT (fun x u hx => s.1.eval hx) hp w'⟩) trivial ?_
    exact wpI_of_any f _ _ _ ih
/-- **SOME FLOAT, THE REST IN EVERY ORDER.** -/
theorem CW.regionF (hT : TTok P T) {Q : Post} {id : Nat} (hm : P.follows .mixedOrders = true) (fl : List Nat) (hs : (noSDs ops.toList && floatsOk ops fl (Array.replicate ops.size false)) = true) {α : Type} (E : α → Env) (A : α → List Atom)
    (h : FQ P β cx.rnd N T ops (fun env L => ∃ x, covers env (E x) ∧ Ent L (A x)) fl ops.size (Array.replicate ops.size false) env L)
    (k : ∀ x, Q .normal (E x) (A x)) : CW P β cx N (.region id ops true) env L Q := fun n a w s => by
  simp only [Bool.and_eq_true] at hs
  have hsd : ∀ (j : Nat) (o : Oper), ops[j]? = some o → noSD o = true := fun j o hj => noSDs_eq hs.1 o (Array.mem_toList_iff.2 (Array.mem_of_getElem? hj))
  have s2 : St β cx N env L a w.drew := by obtain ⟨h1, Ds, hd, st⟩ := s; exact ⟨h1, Ds, hd, st.drew⟩
  let Q0 : Post := fun e env L => match e with
    | .normal => ∃ x, covers env (E x) ∧ Ent L (A x)
    | _ => False
  have h2 := FQ.sound hT (Q := Q0) (fun _ _ h => h) n hsd fl _ _ h hs.2 (fun j oj hj hl2 => by
      simp only [Array.getD_eq_getD_getElem?, Array.getElem?_replicate] at hl2
      split at hl2 <;> cases hl2) a w.drew s2
  refine wpIn_mono (wpIn_region_any hm h2) fun e a w q => ?_
  cases e with
  | normal =>
    obtain ⟨env', L', st, x, hc, hE⟩ := q
    exact ⟨E x, A x, st.conseq hc hE, k x⟩
  | panic _ => exact q
  | outgrown => exact q
  | exit _ => obtain ⟨_, _, _, q⟩ := q; exact q.elim
  | goto _ => obtain ⟨_, _, _, q⟩ := q; exact q.elim
  | ret => obtain ⟨_, _, _, q⟩ := q; exact q.elim
theorem BQ.abs {F : Nat} {l0 : Array Bool} {e0 : Env} {L0 : List Atom}
    (h : ∀ B : Nat → Array Bool → Env → List Atom → Prop, (∀ f listed env L (l' : List Nat), (Region.ready .any ops listed == l' && !l'.isEmpty) = true → AllL (fun i => ∃ o, ops[i]? = some o ∧ noSD o = true ∧ SQ P β rnd N T ops (B f (listed.setIfInBounds i true)) [⟨i, o, 1, []⟩] [] env L) l' → B (f + 1) listed env L) →
      (∀ listed env L, Region.ready .any ops listed = [] ∧ K env L → B 0 listed env L) → B F l0 e0 L0) : BQ P β rnd N T ops K F l0 e0 L0 :=
  h (BQ P β rnd N T ops K) (fun f listed env L l' hl ha => by
    simp only [Bool.and_eq_true, beq_iff_eq] at hl
    obtain ⟨h1, h2⟩ := hl
    refine ⟨?_, fun i hi => all_of l' h1 ha i hi⟩
    rw [h1]
    intro e
    subst e
    simp at h2) (fun _ _ _ h => h)
/-- The first atom moves to place k. -/
theorem mv_ {A : Atom} {L M : List Atom} (k : Nat) (h : L.take k ++ A :: L.drop k = M) : Ent (A :: L) M := by
  subst h
  refine Ent.perm ?_
  have := (List.perm_middle (a := A) (l₁ := L.take k) (l₂ := L.drop k)).symm
  rwa [List.take_append_drop] at this
theorem dp_ {B : Nat → Array Bool → Env → List Atom → Prop} {f : Nat} {l l' : Array Bool} {obs : Obs} {E : Env} {A : List Atom} (hb : B f l' E A) (hl : l = l' := by decide +kernel)
    (hc : covers env E := by repeat (first | exact trivial | refine ⟨rfl, ?_⟩)) (hA : Ent L A := by exact pk_) : SQ P β rnd N T ops (B f l) [] obs env L :=
  SQ.env_ E hc.look (SQ.ent _ hA (SQ.nil (by rw [hl]; exact hb)))
end
end Go.Proofs.YtebpodnbalfomaaGreatDoor.Sl
namespace Go.Proofs.YtebpodnbalfomaaGreatDoor.Sl
open Go Go.RowKit Go.Proofs
set_option linter.unusedVariables false
set_option linter.unusedSimpArgs false
attribute [local irreducible] CW Tri OW
set_option maxRecDepth 10000
/-- What counts of a processor. -/
def plX (x : CR) : List Bn.En × Bool := (x.es, x.sl)
theorem rD_congr {r : Nat} {R : RS} {D D' : DS} (h0 : D.o0 = D'.o0) (h1 : D.o1 = D'.o1) (h2 : D.sh = D'.sh) (h3 : D.xs.map plX = D'.xs.map plX) : rD r R D = rD r R D' := by
  have e0 : D.xs.length = D'.xs.length := by have := congrArg List.length h3; simpa using this
  have e1 : ∀ l : List CR, l.flatMap slC = (l.map plX).flatMap fun t => [.bool t.2] := fun l => by simp [List.flatMap_map, plX]
  have e2 : ∀ l : List CR, (R.os.zip l).flatMap obF = (R.os.zip (l.map plX)).flatMap fun t => t.1.at_ 0 (Bn.lsV t.2.1) := fun l => by rw [List.zip_map_right, List.flatMap_map]; rfl
  unfold rD pkA
  rw [h0, h1, h2, e0, e1 D.xs, e1 D'.xs, e2 D.xs, e2 D'.xs, h3]
def x0 : CR := ⟨0, none, 0, ownK 16, false⟩
theorem newCR_pl {xs : List CR} {n : Nat} (hl : xs.length = n) (h : ∀ x ∈ xs, newCR x) : xs.map plX = (List.replicate n x0).map plX := by
  subst hl
  rw [List.map_replicate]
  induction xs with
  | nil => rfl
  | cons x xs ih =>
    rw [List.map_cons, List.length_cons, List.replicate_succ, ih fun y hy => h y (List.mem_cons_of_mem _ hy)]
    obtain ⟨a, b⟩ := h x (List.mem_cons_self ..)
    unfold plX
    rw [a, b]; rfl
theorem ownK_len : ∀ k, (ownK k).length = 32
  | 0 => by simp [ownK]
  | k + 1 => by unfold ownK; rw [Bn.doV_len]; exact ownK_len k
@[reducible] def lsD (l : List Nat) : Array Bool := ((List.range 9).map fun i => l.contains i || [0, 2, 4].contains i).toArray
@[reducible] def vD (b n : Nat) : Value := .slice (some ⟨b, 0, none⟩) n n
@[reducible] def mD (t : TI) (b n : Nat) : Atom := pt b (madeCells t.zero.cells (n * t.size)).toList
@[reducible] def beD (n s : Nat) : Env := [(27, .int .i64 s), (29, .int .i64 s), (31, .int .i64 n), (0, .int .i64 n), (1, .int .i64 s)]
set_option maxHeartbeats 8000000 in
theorem refNew12 (β : Base) {n s : Nat} (hn0 : 1 ≤ n) (hn1 : n ≤ 8) (hs1 : s ≤ 64) : Tri Tryz.prog β 83 [.int .i64 n, .int .i64 s] [] (fun v L => ∃ r R, v = .tuple #[.pointer (some ⟨r, 0, none⟩), .bool true] ∧ R.os.length = n ∧ ∀ D : DS, D.o0 = false → D.o1 = false → D.sh = List.replicate s (Br.zeroE.1, (0, false)) → D.xs.length = n → (∀ x ∈ D.xs, newCR x) → L = rD r R D) := by
  refine Tri.intro tt_ok Tryz.func83 rfl rfl Tryz.ntmps83 rfl fun F => ?_
  (refine G tt_ok [] ?_; repeat (refine G1 tt_ok [] ?_; intro _))
  rw [decide_eq_false (show ¬ (n : Int) < 1 by omega)]
  (refine G tt_ok [] ?_; repeat (refine G1 tt_ok [] ?_; intro _))
  rw [decide_eq_false (show ¬ (n : Int) > 8 by omega)]
  (refine G tt_ok [] ?_; repeat (refine G1 tt_ok [] ?_; intro _))
  rw [decide_eq_false (show ¬ (s : Int) < 0 by omega)]
  (refine G tt_ok [] ?_; repeat (refine G1 tt_ok [] ?_; intro _))
  rw [decide_eq_false (show ¬ (s : Int) > 64 by omega)]
  (refine G tt_ok [] ?_; repeat (refine G1 tt_ok [] ?_; intro _))
  have hs4 : s * 1 ≤ 16777216 := by omega
  have hn4 : n * 1 ≤ 16777216 := by omega
  have hs8 : 8 * s ≤ 281474976710656 := by omega
  have hs9 : 1 * s ≤ 281474976710656 := by omega
  have hn9 : 1 * n ≤ 281474976710656 := by omega
  have hs63 : s ≤ 9223372036854775807 := by omega
  have hn63 : n ≤ 9223372036854775807 := by omega
  refine CW.regionF tt_ok (by kernel_rfl) [0, 2, 4] (by decide +kernel) (fun x : Nat × Nat × Nat × Nat => [(0, .int .i64 n), (1, .int .i64 s), (6, .pointer (some ⟨x.1, 0, none⟩))])
    (fun x => [pt x.1 [.bool false, .bool false, .pointer none, .slice (some ⟨x.2.1, 0, none⟩) s s, .slice (some ⟨x.2.2.1, 0, none⟩) s s, .slice none 0 0, .slice (some ⟨x.2.2.2, 0, none⟩) n n],
      pt x.2.1 (madeCells ti3.zero.cells (s * ti3.size)).toList, pt x.2.2.1 (madeCells ti4.zero.cells (s * ti4.size)).toList, pt x.2.2.2 (madeCells ti4.zero.cells (n * ti4.size)).toList]) ?_ ?_
  · refine ⟨_, _, rfl, rfl, rfl, rfl, _, _, rfl, rfl, rfl, rfl, _, _, rfl, rfl, rfl, rfl, ?_⟩
    show BQ _ _ _ _ _ _ _ 6 (lsD []) _ _
    refine BQ.abs fun B1 hs hz => ?_
    have b1_3_5 : ∀ x : Nat × Nat × Nat, B1 3 (lsD [1, 3, 5]) ([(28, vD x.1 s), (30, vD x.2.1 s), (32, vD x.2.2 n)] ++ beD n s) ([mD ti3 x.1 s, mD ti4 x.2.1 s, mD ti4 x.2.2 n] ++ []) := fun x => by
      refine hs _ _ _ _ [6] (by decide +kernel) ⟨⟨_, rfl, rfl, ?_⟩, trivial⟩
      refine SQ.pures1 tt_ok rfl ?_
      refine SQ.nil ?_
      refine hs _ _ _ _ [7] (by decide +kernel) ⟨⟨_, rfl, rfl, ?_⟩, trivial⟩
      refine SQ.new _ _ rfl rfl fun p => ?_
      refine SQ.nil ?_
      refine hs _ _ _ _ [8] (by decide +kernel) ⟨⟨_, rfl, rfl, ?_⟩, trivial⟩
      refine SQ.pures1 tt_ok rfl ?_
      refine SQ.nil ?_
      exact hz _ _ _ ⟨by decide +kernel, (p, x.1, x.2.1, x.2.2), ⟨rfl, rfl, rfl, trivial⟩, Ent.refl _⟩
    have b1_3 : ∀ x : Nat × Nat × Nat, B1 4 (lsD [1, 3]) ([(28, vD x.1 s), (30, vD x.2.1 s)] ++ beD n s) ([mD ti3 x.1 s, mD ti4 x.2.1 s] ++ []) := fun x => by
      refine hs _ _ _ _ [5] (by decide +kernel) ⟨⟨_, rfl, rfl, ?_⟩, trivial⟩
      · exact SQ.make tt_ok rfl rfl n rfl rfl hn4 hn9 hn63 fun g => ⟨trivial, dp_ (b1_3_5 (x.1, x.2.1, g)) (hA := mv_ 2 rfl)⟩
    have b1_5 : ∀ x : Nat × Nat × Nat, B1 4 (lsD [1, 5]) ([(28, vD x.1 s), (32, vD x.2.2 n)] ++ beD n s) ([mD ti3 x.1 s, mD ti4 x.2.2 n] ++ []) := fun x => by
      refine hs _ _ _ _ [3] (by decide +kernel) ⟨⟨_, rfl, rfl, ?_⟩, trivial⟩
      · exact SQ.make tt_ok rfl rfl s rfl rfl hs4 hs9 hs63 fun g => ⟨trivial, dp_ (b1_3_5 (x.1, g, x.2.2)) (hA := mv_ 1 rfl)⟩
    have b3_5 : ∀ x : Nat × Nat × Nat, B1 4 (lsD [3, 5]) ([(30, vD x.2.1 s), (32, vD x.2.2 n)] ++ beD n s) ([mD ti4 x.2.1 s, mD ti4 x.2.2 n] ++ []) := fun x => by
      refine hs _ _ _ _ [1] (by decide +kernel) ⟨⟨_, rfl, rfl, ?_⟩, trivial⟩
      · exact SQ.make tt_ok rfl rfl s rfl rfl hs4 hs8 hs63 fun g => ⟨trivial, dp_ (b1_3_5 (g, x.2)) (hA := mv_ 0 rfl)⟩
    have b1 : ∀ x : Nat × Nat × Nat, B1 5 (lsD [1]) ([(28, vD x.1 s)] ++ beD n s) ([mD ti3 x.1 s] ++ []) := fun x => by
      refine hs _ _ _ _ [3, 5] (by decide +kernel) ⟨⟨_, rfl, rfl, ?_⟩, ⟨_, rfl, rfl, ?_⟩, trivial⟩
      · exact SQ.make tt_ok rfl rfl s rfl rfl hs4 hs9 hs63 fun g => ⟨trivial, dp_ (b1_3 (x.1, g, x.2.2)) (hA := mv_ 1 rfl)⟩
      · exact SQ.make tt_ok rfl rfl n rfl rfl hn4 hn9 hn63 fun g => ⟨trivial, dp_ (b1_5 (x.1, x.2.1, g)) (hA := mv_ 1 rfl)⟩
    have b3 : ∀ x : Nat × Nat × Nat, B1 5 (lsD [3]) ([(30, vD x.2.1 s)] ++ beD n s) ([mD ti4 x.2.1 s] ++ []) := fun x => by
      refine hs _ _ _ _ [1, 5] (by decide +kernel) ⟨⟨_, rfl, rfl, ?_⟩, ⟨_, rfl, rfl, ?_⟩, trivial⟩
      · exact SQ.make tt_ok rfl rfl s rfl rfl hs4 hs8 hs63 fun g => ⟨trivial, dp_ (b1_3 (g, x.2)) (hA := mv_ 0 rfl)⟩
      · exact SQ.make tt_ok rfl rfl n rfl rfl hn4 hn9 hn63 fun g => ⟨trivial, dp_ (b3_5 (x.1, x.2.1, g)) (hA := mv_ 1 rfl)⟩
    have b5 : ∀ x : Nat × Nat × Nat, B1 5 (lsD [5]) ([(32, vD x.2.2 n)] ++ beD n s) ([mD ti4 x.2.2 n] ++ []) := fun x => by
      refine hs _ _ _ _ [1, 3] (by decide +kernel) ⟨⟨_, rfl, rfl, ?_⟩, ⟨_, rfl, rfl, ?_⟩, trivial⟩
      · exact SQ.make tt_ok rfl rfl s rfl rfl hs4 hs8 hs63 fun g => ⟨trivial, dp_ (b1_5 (g, x.2)) (hA := mv_ 0 rfl)⟩
      · exact SQ.make tt_ok rfl rfl s rfl rfl hs4 hs9 hs63 fun g => ⟨trivial, dp_ (b3_5 (x.1, g, x.2.2)) (hA := mv_ 0 rfl)⟩
    have x : Nat × Nat × Nat := (0, 0, 0)
    refine hs _ _ _ _ [1, 3, 5] (by decide +kernel) ⟨⟨_, rfl, rfl, ?_⟩, ⟨_, rfl, rfl, ?_⟩, ⟨_, rfl, rfl, ?_⟩, trivial⟩
    · exact SQ.make tt_ok rfl rfl s rfl rfl hs4 hs8 hs63 fun g => ⟨trivial, dp_ (b1 (g, x.2)) (hA := mv_ 0 rfl)⟩
    · exact SQ.make tt_ok rfl rfl s rfl rfl hs4 hs9 hs63 fun g => ⟨trivial, dp_ (b3 (x.1, g, x.2.2)) (hA := mv_ 0 rfl)⟩
    · exact SQ.make tt_ok rfl rfl n rfl rfl hn4 hn9 hn63 fun g => ⟨trivial, dp_ (b5 (x.1, x.2.1, g)) (hA := mv_ 0 rfl)⟩
  · rintro ⟨d, g1, g2, g3⟩
    simp only
    (refine G tt_ok [] ?_; repeat (refine G1 tt_ok [] ?_; intro _))
    (refine ka rfl rfl (new33 β (first := 32) (n := s) (by omega) (by omega) (by omega) _) ?_; rintro _ _ ⟨sb, sq, sc, sq2, sc2, rfl, rfl⟩; refine w_ ?_)
    (refine G tt_ok [] ?_; repeat (refine G1 tt_ok [] ?_; intro _))
    refine CW.loop (α := List OB × Option Addr × Nat) (fun x => x.1.length ≤ n) (fun x => [(9, .int .i64 x.1.length), (0, .int .i64 n), (6, .pointer (some ⟨d, 0, none⟩))])
      (fun x => [pt d [.bool false, .bool false, .pointer (some ⟨sb, 0, none⟩), .slice (some ⟨g1, 0, none⟩) s s, .slice (some ⟨g2, 0, none⟩) s s, .slice x.2.1 x.1.length x.2.2, .slice (some ⟨g3, 0, none⟩) n n], own 233 1 (.slice x.2.1 x.1.length x.2.2) x.1.length (x.1.flatMap opC), pkA obF (x.1.zip (List.replicate x.1.length x0))] ++
        [pt sb [.int .i64 32, .slice sq (s : Int).toNat sc, .slice sq2 (s : Int).toNat sc2], rowA sq (s : Int).toNat ((List.replicate (s : Int).toNat zeroL).flatMap lnC), pt g1 (madeCells ti3.zero.cells (s * ti3.size)).toList, pt g2 (madeCells ti4.zero.cells (s * ti4.size)).toList, pt g3 (madeCells ti4.zero.cells (n * ti4.size)).toList]) (fun x => n - x.1.length) ([], none, 0) (by simp) ⟨rfl, rfl, rfl, trivial⟩ ?_ ?_
    · refine Ent.trans ((own_nil 233 1).trans (pk_nil (f := obF))) ?_
      exact pk_
    rintro ⟨os, qc, cc⟩ hl
    simp only at hl ⊢
    (refine G tt_ok [] ?_; repeat (refine G1 tt_ok [] ?_; intro _))
    by_cases hlt : os.length < n
    · rw [decide_eq_true (show (os.length : Int) < n by omega)]
      have hw : IntKind.i64.wrap ((os.length : Int) + 1) = ((os.length + 1 : Nat) : Int) := by rw [wrap_i64]; split <;> omega
      (refine G tt_ok [] ?_; repeat (refine G1 tt_ok [] ?_; intro _))
      (refine ka rfl rfl (new33 β (first := 0) (n := 32) (by omega) (by omega) (by omega) _) ?_; rintro _ _ ⟨b, bq, bc, bq2, bc2, rfl, rfl⟩; refine w_ ?_)
      (refine G tt_ok [] ?_; repeat (refine G1 tt_ok [] ?_; intro _))
      refine CW.loop (α := Nat) (fun j => j ≤ 16) (fun j => [(12, .int .i64 j), (10, .pointer (some ⟨b, 0, none⟩)), (9, .int .i64 os.length), (0, .int .i64 n), (6, .pointer (some ⟨d, 0, none⟩))])
        (fun j => OB.at_ ⟨b, bq, bc, bq2, bc2⟩ 0 (Bn.lsV (ownK j)) ++ ([pt d [.bool false, .bool false, .pointer (some ⟨sb, 0, none⟩), .slice (some ⟨g1, 0, none⟩) s s, .slice (some ⟨g2, 0, none⟩) s s, .slice qc os.length cc, .slice (some ⟨g3, 0, none⟩) n n], own 233 1 (.slice qc os.length cc) os.length (os.flatMap opC), pkA obF (os.zip (List.replicate os.length x0))] ++
        [pt sb [.int .i64 32, .slice sq (s : Int).toNat sc, .slice sq2 (s : Int).toNat sc2], rowA sq (s : Int).toNat ((List.replicate (s : Int).toNat zeroL).flatMap lnC), pt g1 (madeCells ti3.zero.cells (s * ti3.size)).toList, pt g2 (madeCells ti4.zero.cells (s * ti4.size)).toList, pt g3 (madeCells ti4.zero.cells (n * ti4.size)).toList])) (fun j => 16 - j) 0 (by omega) ⟨rfl, rfl, rfl, rfl, rfl, trivial⟩ pk_ ?_
      intro j hj
      (refine G tt_ok [] ?_; repeat (refine G1 tt_ok [] ?_; intro _))
      generalize e1 : decide ((j : Int) < 16) = cc2
      cases cc2
      · have : j = 16 := by simp at e1; omega
        subst this
        (refine G tt_ok [] ?_; repeat (refine G1 tt_ok [] ?_; intro _))
        refine CW.exit ?_
        (refine G tt_ok [] ?_; repeat (refine G1 tt_ok [] ?_; intro _))
        (refine SQ.built tt_ok rfl rfl (fun _ => w_ ?_))
        (refine G tt_ok [] ?_; repeat (refine G1 tt_ok [] ?_; intro _))
        refine SQ.append tt_ok rfl rfl 4 rfl 0 (q := true) rfl (opC ⟨b, bq, bc, bq2, bc2⟩) rfl rfl rfl (scal_eq rfl) (by omega) (by show (os.length + 1) * 8 ≤ _; omega) (fun v' => ⟨(by repeat (first | exact trivial | refine ⟨trivial, ?_⟩ | refine ⟨wk (by repeat (first | exact .h | exact .q | apply At.t)) (by rfl), ?_⟩)), ?_⟩)
        refine SQ.ent _ (Ent.head (own_shape _ _ _ _ _)) ?_
        refine SQ.open_ fun z => ?_
        refine SQ.pure_ fun hv => ?_
        subst hv
        (refine G tt_ok [] ?_; repeat (refine G1 tt_ok [] ?_; intro _))
        have hlen : (os ++ [(⟨b, bq, bc, bq2, bc2⟩ : OB)]).length = os.length + 1 := by simp
        refine ⟨(os ++ [⟨b, bq, bc, bq2, bc2⟩], z.1, z.2), by simp; omega, by simp; omega, ⟨by rw [hlen, ← hw]; rfl, rfl, rfl, trivial⟩, ?_⟩
        simp only
        rw [hlen, show (os ++ [(⟨b, bq, bc, bq2, bc2⟩ : OB)]).flatMap opC = os.flatMap opC ++ opC ⟨b, bq, bc, bq2, bc2⟩ by simp,
          show (os ++ [(⟨b, bq, bc, bq2, bc2⟩ : OB)]).zip (List.replicate (os.length + 1) x0) = os.zip (List.replicate os.length x0) ++ [(⟨b, bq, bc, bq2, bc2⟩, x0)] by rw [List.replicate_succ', List.zip_append (by simp)]; rfl]
        refine Ent.trans ((tk_ (As := obF (⟨b, bq, bc, bq2, bc2⟩, x0) ++ [pkA obF (os.zip (List.replicate os.length x0))]) (pk_snoc))) ?_
        exact pk_
      · have hlt2 : j < 16 := by simp at e1; omega
        have hw2 : IntKind.i64.wrap ((j : Int) + 1) = ((j + 1 : Nat) : Int) := by rw [wrap_i64]; split <;> omega
        (refine G tt_ok [] ?_; repeat (refine G1 tt_ok [] ?_; intro _))
        refine ke rfl rfl (doN β ⟨b, bq, bc, bq2, bc2⟩ (first := 0) (j : Int) 8 (ownK j) (by omega) (by omega) (by rw [ownK_len]; omega)) ?_
        (refine G tt_ok [] ?_; repeat (refine G1 tt_ok [] ?_; intro _))
        exact ⟨j + 1, by omega, by omega, ⟨by rw [← hw2]; rfl, rfl, rfl, rfl, rfl, trivial⟩, pk_⟩
    · rw [decide_eq_false (show ¬ (os.length : Int) < n by omega)]
      (refine G tt_ok [] ?_; repeat (refine G1 tt_ok [] ?_; intro _))
      refine CW.exit ?_
      (refine G tt_ok [] ?_; repeat (refine G1 tt_ok [] ?_; intro _))
      obtain rfl : os.length = n := by omega
      let R : RS := ⟨⟨sb, sq, sc, sq2, sc2⟩, some ⟨g1, 0, none⟩, s, some ⟨g2, 0, none⟩, s, qc, cc, some ⟨g3, 0, none⟩, os.length, os⟩
      let D : DS := ⟨false, false, 0, none, 0, List.replicate s (Br.zeroE.1, (0, false)), none, 0, List.replicate os.length x0⟩
      refine CW.ret (fin_ret rfl (A := rD d R D) ?_ ?_)
      · have hD1 : D.sh.length = s := by simp [D]
        have hD2 : D.xs.length = os.length := by simp [D]
        have f1 : (madeCells ti3.zero.cells (s * ti3.size)).toList = D.sh.flatMap rcC := Bn.made_flat_of (enc := rcC) (a := (Br.zeroE.1, (0, false))) ti3.zero.cells rfl (by decide) _
        have f2 : (madeCells ti4.zero.cells (s * ti4.size)).toList = D.sh.flatMap raC := Bn.made_flat_of (enc := raC) (a := (Br.zeroE.1, (0, false))) ti4.zero.cells rfl (by decide) _
        have f3 : (madeCells ti4.zero.cells (os.length * ti4.size)).toList = D.xs.flatMap slC := Bn.made_flat_of (enc := slC) (a := x0) ti4.zero.cells rfl (by decide) _
        rw [f1, f2, f3]
        unfold rD OB.at_ rbA
        simp only [R, hD1, hD2, Br.lsV_len]
        have hls : Br.lsV D.sh = List.replicate s zeroL := by simp [D, Br.lsV, List.map_replicate]; exact .inr rfl
        rw [hls]
        refine Ent.trans ((rm_ (A := own 233 1 (.slice qc os.length cc) os.length (os.flatMap opC)) (own_row))) ?_
        refine Ent.trans ((rm_ (A := pt g1 (D.sh.flatMap rcC)) (row_close0 (n := s)))) ?_
        refine Ent.trans ((rm_ (A := pt g2 (D.sh.flatMap raC)) (row_close0 (n := s)))) ?_
        refine Ent.trans ((rm_ (A := pt g3 (D.xs.flatMap slC)) (row_close0 (n := os.length)))) ?_
        exact pk_
      · refine ⟨d, R, rfl, rfl, fun D' a1 a2 a3 a4 a5 => ?_⟩
        exact rD_congr a1.symm a2.symm a3.symm (newCR_pl a4 a5).symm
/-- An act of the script. -/
abbrev Ac := Int × Int × Int × Int × Nat × Int × Iq × Bool
@[reducible] def acC (x : Ac) : List Value := [.int .i64 x.1, .int .i64 x.2.1, .int .i64 x.2.2.1, .int .i64 x.2.2.2.1, .int .u64 (x.2.2.2.2.1 : Int), .int .i64 x.2.2.2.2.2.1, .bool x.2.2.2.2.2.2.1.1, .bool x.2.2.2.2.2.2.1.2.1, .bool x.2.2.2.2.2.2.1.2.2.1, .bool x.2.2.2.2.2.2.1.2.2.2, .bool x.2.2.2.2.2.2.2]
def acOk (x : Ac) : Prop := x.2.2.2.1 < 9223372036854775808 ∧ x.2.2.2.2.1 < 2 ^ 64
def wideV (hi : Bool) : Int := if hi then 8 else 4
theorem rt_texts {sh sh' : List Br.En} (h : sh'.map (·.2) = sh.map (·.2)) (hr : ∀ e ∈ sh, 0 ≤ e.2.1 ∧ e.2.1 ≤ 255) : ∀ e ∈ sh', 0 ≤ e.2.1 ∧ e.2.1 ≤ 255 := by
  intro e he
  have : e.2 ∈ sh'.map (·.2) := List.mem_map_of_mem he
  rw [h] at this
  obtain ⟨e2, h2, h3⟩ := List.mem_map.1 this
  have := hr e2 h2
  rw [h3] at this; exact this
theorem okE_t {e : Br.En} {t : Int × Bool} (h : Br.okE e) : Br.okE (e.1, t) := h
section
variable {R : RS} {D : DS}
theorem OkD.at_ (ok : OkD R D) {k : Int} {x : CR} (hx : D.xs[k.toNat]? = some x) : x.es.length = 32 ∧ Bn.okL x.es := ok.es x (List.mem_of_getElem? hx)
theorem OkD.set_x (ok : OkD R D) {k : Nat} {x : CR} (h : x.es.length = 32 ∧ Bn.okL x.es) : OkD R { D with xs := D.xs.set k x } :=
  ⟨by simpa using ok.one, by simpa using ok.x8, fun y hy => by rcases List.mem_or_eq_of_mem_set hy with g | rfl; exact ok.es y g; exact h, ok.sh, ok.ok, by simpa using ok.os, ok.rt⟩
theorem OkD.set_sh (ok : OkD R D) {sh' : List Br.En} (h1 : sh'.length = D.sh.length) (h2 : Br.okL sh') (h3 : ∀ e ∈ sh', 0 ≤ e.2.1 ∧ e.2.1 ≤ 255) : OkD R { D with sh := sh' } :=
  ⟨ok.one, ok.x8, ok.es, by simp only [h1]; exact ok.sh, h2, ok.os, h3⟩
theorem OkD.doV (ok : OkD R D) (k id a : Int) : OkD R (D.doV k id a).1 := by
  unfold DS.doV
  split
  · split
    · split
      · rename_i x hx
        have := ok.at_ hx
        exact ok.set_x ⟨by simp only [Bn.doV_len]; exact this.1, Bn.doV_ok this.2⟩
      · exact ok
    · exact ok.set_sh (Br.doV_len _ _ _ _) (Br.doV_ok ok.ok) (rt_texts (Br.doV_texts _ _ _ _) ok.rt)
  · exact ok
theorem OkD.wrOwnV (ok : OkD R D) (k r f c : Int) (v : Nat) : OkD R (D.wrOwnV k r f c v).1 := by
  unfold DS.wrOwnV
  split
  · split
    · rename_i x hx
      have := ok.at_ hx
      simp only
      split
      · exact ok.set_x this
      · exact ok.set_x ⟨by simp only [Bn.wrK_len]; exact this.1, Bn.wrK_ok this.2 _⟩
    · exact ok
  · exact ok
theorem routeV_rt (v : Nat) : 0 ≤ (routeV v).1 ∧ (routeV v).1 ≤ 255 := by unfold routeV; simp only; omega
theorem OkD.wrV (ok : OkD R D) (off w : Int) (v : Nat) : OkD R (D.wrV off w v).1 := by
  unfold DS.wrV
  split
  · exact ok
  · simp only
    split
    · exact ⟨ok.one, ok.x8, ok.es, ok.sh, ok.ok, ok.os, ok.rt⟩
    · split
      · split
        · rename_i e he
          rw [putR_route ok.ok he]
          obtain ⟨i, hi, hie⟩ := Br.atE_iff.1 he
          refine ok.set_sh (by simp) (Br.okL_set ok.ok (okE_t (Br.okL_at ok.ok hie)) _) fun e2 h2 => ?_
          rcases List.mem_or_eq_of_mem_set h2 with g | rfl
          · exact ok.rt e2 g
          · exact routeV_rt v
        · exact ok
      · exact ok.set_sh (Br.wrK_len _ _ _ _ _ _ _) (Br.wrK_ok ok.ok _) (rt_texts (Br.wrK_texts _ _ _ _ _ _ _) ok.rt)
theorem putV_cases (ok : OkD R D) (k id : Int) (s : Iq) : (D.putV k id s).1 = D ∨ (∃ x e, rightV D.xs.length k = true ∧ id < 32 ∧ D.xs[k.toNat]? = some x ∧ Bn.atE 0 x.es id = some e ∧ (D.putV k id s).1 = { D with xs := D.xs.set k.toNat { x with es := x.es.set (id - 0).toNat ((s, e.1.2), e.2) } }) ∨
    ∃ e, rightV D.xs.length k = true ∧ ¬ id < 32 ∧ Br.atE 32 D.sh id = some e ∧ (D.putV k id s).1 = { D with sh := D.sh.set (id - 32).toNat ((s, e.1.2), e.2) } := by
  cases hr : rightV D.xs.length k with
  | false => left; unfold DS.putV DS.getV; rw [hr]; rfl
  | true =>
    obtain ⟨x, hx, hl, hk⟩ := right_at hr
    have hgv : D.getV k id = if id < 32 then ((Bn.getV 0 x.es id).1.1, (Bn.getV 0 x.es id).2) else ((Br.getV 32 D.sh id).1.1, (Br.getV 32 D.sh id).2) := by
      unfold DS.getV
      rw [hr, hx]; rfl
    by_cases h32 : id < 32
    · rw [if_pos h32] at hgv
      cases ha : Bn.atE 0 x.es id with
      | none =>
        rw [show Bn.getV 0 x.es id = (Bn.zeroE, 90) by unfold Bn.getV; rw [ha]] at hgv
        left; unfold DS.putV; rw [hgv]; rfl
      | some e =>
        rw [show Bn.getV 0 x.es id = (e, 0) by unfold Bn.getV; rw [ha]] at hgv
        right; left
        refine ⟨x, e, rfl, h32, hx, ha, ?_⟩
        unfold DS.putV
        rw [hgv, hx]
        simp only
        rw [if_neg (by simp), if_pos h32, putN_set (ok.at_ hx).2 ha]
    · rw [if_neg h32] at hgv
      cases ha : Br.atE 32 D.sh id with
      | none =>
        rw [show Br.getV 32 D.sh id = (Br.zeroE, 90) by unfold Br.getV; rw [ha]] at hgv
        left; unfold DS.putV; rw [hgv]; rfl
      | some e =>
        have hge : Br.getV 32 D.sh id = (e, 0) := by unfold Br.getV; rw [ha]
        rw [hge] at hgv
        right; right
        refine ⟨e, rfl, h32, rfl, ?_⟩
        unfold DS.putV
        rw [hgv, hge]
        simp only
        rw [if_neg (by simp), if_neg h32, putR_set ok.ok ha]
theorem OkD.putV (ok : OkD R D) (k id : Int) (s : Iq) : OkD R (D.putV k id s).1 := by
  rcases putV_cases ok k id s with h | ⟨x, e, hr, h32, hx, ha, h⟩ | ⟨e, hr, h32, ha, h⟩ <;> rw [h]
  · exact ok
  · have := ok.at_ hx
    obtain ⟨i, hi, hie⟩ := Bn.atE_iff.1 ha
    exact ok.set_x ⟨by simp only [List.length_set]; exact this.1, Bn.okL_set this.2 (by have := Bn.okL_at this.2 hie; exact this) _⟩
  · obtain ⟨i, hi, hie⟩ := Br.atE_iff.1 ha
    refine ok.set_sh (by simp) (Br.okL_set ok.ok (by have := Br.okL_at ok.ok hie; exact this) _) fun e2 h2 => ?_
    rcases List.mem_or_eq_of_mem_set h2 with g | rfl
    · exact ok.rt e2 g
    · exact ok.rt e (List.mem_of_getElem? hie)
theorem OkD.callV (ok : OkD R D) (fr gr : Int) (v : Nat) : OkD R (D.callV fr gr v).1 := by
  unfold DS.callV
  split
  · have h := fun l => callF_es (id := ((v / 2 ^ 24 % 16 : Nat) : Int)) (gr := gr) l (D.xs, 0) ok.es
    have hl := fun l => (callF_len ((v / 2 ^ 24 % 16 : Nat) : Int) gr l (D.xs, 0)).1
    exact ⟨by simp only [callL, hl]; exact ok.one, by simp only [callL, hl]; exact ok.x8, h _, ok.sh, ok.ok, by simp only [callL, hl]; exact ok.os, ok.rt⟩
  · exact ok
end
def actV (D : DS) (x : Ac) : DS :=
  if x.1 = 1 then (D.wrV x.2.1 (wideV x.2.2.2.2.2.2.2) x.2.2.2.2.1).1
  else if x.1 = 2 then (if (redistV x.2.1 4).2 = 0 then (D.wrOwnV x.2.2.1 (redistV x.2.1 4).1.1 (redistV x.2.1 4).1.2.1 (redistV x.2.1 4).1.2.2 x.2.2.2.2.1).1 else D)
  else if x.1 = 3 then (if x.2.2.2.1 < 16 then D else (D.doV x.2.2.1 x.2.2.2.1 (if x.2.2.2.2.2.2.2 then 1 else 2)).1)
  else if x.1 = 4 then (D.doV x.2.2.1 x.2.2.2.1 x.2.2.2.2.2.1).1
  else if x.1 = 5 then (D.putV x.2.2.1 x.2.2.2.1 x.2.2.2.2.2.2.1).1
  else if x.1 = 6 then (D.callV x.2.2.1 x.2.2.2.1 x.2.2.2.2.1).1
  else D
theorem OkD.act {R : RS} {D : DS} (ok : OkD R D) (x : Ac) : OkD R (actV D x) := by
  unfold actV
  repeat' split
  all_goals first | exact ok | exact ok.wrV _ _ _ | exact ok.wrOwnV _ _ _ _ _ | exact ok.doV _ _ _ | exact ok.putV _ _ _ | exact ok.callV _ _ _
@[reducible] def pk31 : List (Nat × Plan) := [(6, [(0, 0, []), (1, 0, []), (2, 0, []), (3, 0, []), (4, 0, []), (5, 0, []), (6, 0, []), (7, 0, []), (8, 0, [])])]
theorem rd_i1r {l : List Int} {k : Nat} {x : Int} (h : l[k]? = some x) (X : List Value) : rdv ti3 (l.flatMap i1C ++ X) (0 + k * 1) = some (.int .i64 x) :=
  rd_partR (enc := i1C) (sz := 1) (fun _ => rfl) h 0 (i := ti3) rfl (by decide) (by omega) (by decide) X
theorem same30 (β : Base) {q1 q2 : Option Addr} {n c1 c2 : Nat} {l : List Int} (hl : l.length = n) (hn : n ≤ 1000000) :
    Tri Tryz.prog β 31 [.slice q1 n c1, .slice q2 n c2] [rowA q1 n (l.flatMap i1C), rowA q2 n (l.flatMap i1C)] (fun v L => v = .bool true ∧ L = [rowA q1 n (l.flatMap i1C), rowA q2 n (l.flatMap i1C)]) := by
  refine Tri.intro tt_ok Tryz.func31 rfl rfl Tryz.ntmps31 rfl fun F => ?_
  refine G tt_ok pk31 ?_
  rw [show ((n : Int) != n) = false by simp]
  refine G tt_ok pk31 ?_
  refine CW.loop (α := Nat) (fun k => k ≤ n) (fun k => [(5, .int .i64 k), (0, .slice q1 n c1), (1, .slice q2 n c2)]) (fun k => [rowA q1 n (l.flatMap i1C), rowA q2 n (l.flatMap i1C)]) (fun k => n - k) 0 (by omega) ⟨rfl, rfl, rfl, trivial⟩ pk_ ?_
  intro k hk
  refine G tt_ok pk31 ?_
  by_cases hlt : k < n
  · rw [decide_eq_true (show (k : Int) < n by omega)]
    have hw : IntKind.i64.wrap ((k : Int) + 1) = ((k + 1 : Nat) : Int) := by rw [wrap_i64]; split <;> omega
    obtain ⟨x, hx⟩ : ∃ x, l[k]? = some x := ⟨_, List.getElem?_eq_getElem (by omega)⟩
    refine G tt_ok pk31 ?_
    refine ir_ tt_ok rfl rfl (k) (rfl) rfl ?_ (hlt := hlt)
    refine G tt_ok pk31 ?_
    refine lr_ tt_ok rfl rfl (rd_i1r hx) ?_
    refine G tt_ok pk31 ?_
    refine ir_ tt_ok rfl rfl (k) (rfl) rfl ?_ (hlt := hlt)
    refine G tt_ok pk31 ?_
    refine lr_ tt_ok rfl rfl (rd_i1r hx) ?_
    refine G tt_ok pk31 ?_
    rw [show (x != x) = false by simp]
    refine G tt_ok pk31 ?_
    exact ⟨k + 1, by omega, by omega, ⟨by rw [← hw]; rfl, rfl, rfl, trivial⟩, pk_⟩
  · rw [decide_eq_false (show ¬ (k : Int) < n by omega)]
    refine G tt_ok pk31 ?_
    refine CW.exit ?_
    refine G tt_ok pk31 ?_
    exact CW.ret (fin_ret rfl pk_ ⟨rfl, rfl⟩)
/-- A distributor that is new. -/
def newD (D : DS) (n s : Nat) : Prop := D.o0 = false ∧ D.o1 = false ∧ D.sh = List.replicate s (Br.zeroE.1, (0, false)) ∧ D.xs.length = n ∧ ∀ x ∈ D.xs, newCR x
theorem ownK_ok : ∀ k, Bn.okL (ownK k)
  | 0 => Bn.okL_new 32 ()
  | k + 1 => by unfold ownK; exact Bn.doV_ok (ownK_ok k)
theorem newD_ok {R : RS} {D : DS} {n s : Nat} (h : newD D n s) (h1 : 1 ≤ n) (h8 : n ≤ 8) (hs : s ≤ 64) (ho : R.os.length = n) : OkD R D := by
  obtain ⟨a, b, c, d, e⟩ := h
  refine ⟨by omega, by omega, fun x hx => ?_, by rw [c]; simpa using hs, by rw [c]; exact Br.okL_new s (0, false), by omega, fun y hy => ?_⟩
  · rw [(e x hx).1]; exact ⟨ownK_len 16, ownK_ok 16⟩
  · rw [c] at hy; rw [List.eq_of_mem_replicate hy]; decide
theorem new11' (β : Base) {n s : Nat} (hn0 : 1 ≤ n) (hn1 : n ≤ 8) (hs1 : s ≤ 64) : Tri Tryz.prog β 82 [.int .i64 n, .int .i64 s] [] (fun v L => ∃ d D, v = .tuple #[.pointer (some ⟨d, 0, none⟩), .int .i64 0] ∧ L = dA d D ∧ newD D n s) :=
  (new11 β (n := n) (s := s) (by omega) (by omega) (by omega) (by omega)).mono fun v L h => by
    obtain ⟨d, D, h1, h2, h3, h4, h5, h6, h7⟩ := h
    exact ⟨d, D, h1, h2, h3, h4, by simpa using h5, by omega, h7⟩
theorem seen_gr {R : RS} {D : DS} (ok : OkD R D) (k : Int) : ∀ p ∈ D.seenV k, 0 ≤ p.2.2.2.1 ∧ p.2.2.2.1 ≤ 1 := fun p hp => (seenV_get ok.es ok.ok hp).2
theorem bestIs (β : Base) (d : Nat) (R : RS) (D : DS) (ok : OkD R D) (k : Int) : Tri Tryz.prog β 147 [.pointer (some ⟨d, 0, none⟩), .int .i64 k] (dA d D) (fun v L => v = .agg #[.int .i64 (bestL (D.readyV k)).1, .int .i64 (bestL (D.readyV k)).2.1, .int .i64 (bestL (D.readyV k)).2.2.1, .bool (bestL (D.readyV k)).2.2.2] ∧ L = dA d D) :=
  best20 β d D k ok.x8 ok.sh (fun x hx => (ok.es x hx).1) (seen_gr ok k)
theorem coresD (β : Base) (d : Nat) (D : DS) {n : Nat} (h : D.xs.length = n) : Tri Tryz.prog β 146 [.pointer (some ⟨d, 0, none⟩)] (dA d D) (fun v L => v = .int .i64 n ∧ L = dA d D) := by
  subst h
  refine Tri.intro tt_ok Tryz.func146 rfl rfl Tryz.ntmps146 rfl fun F => ?_
  unfold dA
  refine G tt_ok [] ?_
  exact CW.ret (fin_ret rfl pk_ ⟨rfl, rfl⟩)
theorem getV_own {D : DS} {k id : Int} {x : CR} (hr : rightV D.xs.length k = true) (hx : D.xs[k.toNat]? = some x) (h : id < 32) : D.getV k id = ((Bn.getV 0 x.es id).1.1, (Bn.getV 0 x.es id).2) := by
  unfold DS.getV; rw [if_pos hr, if_pos h, hx]
theorem getV_sh {D : DS} {k id : Int} (hr : rightV D.xs.length k = true) (h : ¬ id < 32) : D.getV k id = ((Br.getV 32 D.sh id).1.1, (Br.getV 32 D.sh id).2) := by
  unfold DS.getV; rw [if_pos hr, if_neg h]
theorem doV_getN (es : List Bn.En) (id a : Int) : (Bn.getV 0 (Bn.doV 0 es id a).1 id).2 = (Bn.doV 0 es id a).2 ∧ (Bn.getV 0 es id).2 = (Bn.doV 0 es id a).2 := by
  unfold Bn.doV
  cases ha : Bn.atE 0 es id with
  | none => simp only; constructor <;> (unfold Bn.getV; rw [ha])
  | some e =>
    simp only
    have he := ha
    obtain ⟨i, hi, hie⟩ := Bn.atE_iff.1 ha
    have hi2 : (id - 0).toNat = i := by omega
    constructor
    · unfold Bn.getV
      rw [hi2, Bn.atE_iff.2 ⟨i, hi, List.getElem?_set_self (List.getElem?_eq_some_iff.1 hie).1⟩]
    · unfold Bn.getV; rw [ha]
theorem doV_getR (es : List Br.En) (id a : Int) : (Br.getV 32 (Br.doV 32 es id a).1 id).2 = (Br.doV 32 es id a).2 ∧ (Br.getV 32 es id).2 = (Br.doV 32 es id a).2 := by
  unfold Br.doV
  cases ha : Br.atE 32 es id with
  | none => simp only; constructor <;> (unfold Br.getV; rw [ha])
  | some e =>
    simp only
    obtain ⟨i, hi, hie⟩ := Br.atE_iff.1 ha
    have hi2 : (id - 32).toNat = i := by omega
    constructor
    · unfold Br.getV
      rw [hi2, Br.atE_iff.2 ⟨i, hi, List.getElem?_set_self (List.getElem?_eq_some_iff.1 hie).1⟩]
    · unfold Br.getV; rw [ha]
theorem getV_wrong {D : DS} {k : Int} (h : rightV D.xs.length k = false) (id : Int) : D.getV k id = (zeroL, 130) := by unfold DS.getV; rw [h]; rfl
theorem apart {D : DS} {k K id a : Int} (hk : rightV D.xs.length k = true) : (D.getV k id).2 = ((D.doV K id a).1.getV k id).2 ∧ (D.doV K id a).2 = ((D.doV K id a).1.getV K id).2 ∧
    (¬ id < 32 → (D.doV K id a).2 = 0 → ((D.doV K id a).1.getV K id).1 = ((D.doV K id a).1.getV k id).1) ∧ (id < 32 → k ≠ K → (D.getV k id).1 = ((D.doV K id a).1.getV k id).1) := by
  obtain ⟨y, hy, hyl, hkk⟩ := right_at hk
  cases hK : rightV D.xs.length K with
  | false =>
    have e : D.doV K id a = (D, 130) := by unfold DS.doV; rw [hK]; rfl
    rw [e]
    exact ⟨rfl, by rw [getV_wrong hK], fun _ h => by simp at h, fun _ _ => rfl⟩
  | true =>
    obtain ⟨x, hx, hxl, hKK⟩ := right_at hK
    by_cases h32 : id < 32
    · have e : D.doV K id a = ({ D with xs := D.xs.set K.toNat { x with es := (Bn.doV 0 x.es id a).1 } }, (Bn.doV 0 x.es id a).2) := by unfold DS.doV; rw [if_pos hK, if_pos h32, hx]
      rw [e]
      have hK2 : rightV (D.xs.set K.toNat { x with es := (Bn.doV 0 x.es id a).1 }).length K = true := by simpa using hK
      have hk2 : rightV (D.xs.set K.toNat { x with es := (Bn.doV 0 x.es id a).1 }).length k = true := by simpa using hk
      have e2 := getV_own (D := { D with xs := D.xs.set K.toNat { x with es := (Bn.doV 0 x.es id a).1 } }) hK2 (List.getElem?_set_self hxl) h32
      simp only at e2 ⊢
      by_cases hkK : k = K
      · subst hkK
        rw [e2, getV_own hk hx h32]
        exact ⟨by rw [(doV_getN _ _ _).2, (doV_getN _ _ _).1], (doV_getN _ _ _).1.symm, fun h => absurd h32 h, fun _ h => absurd rfl h⟩
      · have e3 := getV_own (D := { D with xs := D.xs.set K.toNat { x with es := (Bn.doV 0 x.es id a).1 } }) hk2 (x := y) (by simp only; rw [List.getElem?_set_ne (by omega)]; exact hy) h32
        rw [e2, e3, getV_own hk hy h32]
        exact ⟨rfl, (doV_getN _ _ _).1.symm, fun h => absurd h32 h, fun _ _ => rfl⟩
    · have e : D.doV K id a = ({ D with sh := (Br.doV 32 D.sh id a).1 }, (Br.doV 32 D.sh id a).2) := by unfold DS.doV; rw [if_pos hK, if_neg h32]
      rw [e]
      simp only
      rw [getV_sh (D := { D with sh := (Br.doV 32 D.sh id a).1 }) (k := k) hk h32, getV_sh (D := { D with sh := (Br.doV 32 D.sh id a).1 }) (k := K) hK h32, getV_sh hk h32]
      exact ⟨by rw [(doV_getR _ _ _).2, (doV_getR _ _ _).1], (doV_getR _ _ _).1.symm, fun _ _ => rfl, fun h => absurd h h32⟩
theorem ready_len {R : RS} {D : DS} (ok : OkD R D) (k : Int) : (D.readyV k).length ≤ 400 := by
  have := readyV_len D k
  have := seenV_len (k := k) ok.es
  have := ok.sh
  omega
theorem iterR (β : Base) (d b2 b3 : Nat) {R : RS} {D : DS} (ok : OkD R D) (k : Int) :
    Iter Tryz.prog β 114 [.pointer (some ⟨b2, 0, none⟩), .pointer (some ⟨b3, 0, none⟩)] ([pt b2 [.pointer (some ⟨d, 0, none⟩)], pt b3 [.int .i64 k]] ++ dA d D) ilC (D.readyV k) :=
  iter51 β d b2 b3 D k ok.x8 ok.sh (fun x hx => (ok.es x hx).1) (seen_gr ok k)
theorem iterS (β : Base) (d b2 b3 : Nat) {R : RS} {D : DS} (ok : OkD R D) (k : Int) :
    Iter Tryz.prog β 139 [.pointer (some ⟨b2, 0, none⟩), .pointer (some ⟨b3, 0, none⟩)] ([pt b2 [.pointer (some ⟨d, 0, none⟩)], pt b3 [.int .i64 k]] ++ dA d D) ilC (D.seenV k) :=
  iter63 β d b2 b3 D k ok.x8 ok.sh (fun x hx => (ok.es x hx).1)
theorem seen_id {R : RS} {D : DS} (ok : OkD R D) {k : Int} {p : Int × Ln} (h : p ∈ D.seenV k) : 0 ≤ p.1 ∧ p.1 < 96 := by
  cases hr : rightV D.xs.length k with
  | false => unfold DS.seenV at h; rw [hr] at h; simp at h
  | true =>
    have e := seenV_ids hr ok.es
    have hm : p.1 ∈ (D.seenV k).map (·.1) := List.mem_map_of_mem h
    rw [e] at hm
    unfold sidsV at hm
    obtain ⟨i, hi, he⟩ := List.mem_map.1 hm
    have := List.mem_range.1 (List.mem_filter.1 hi).1
    have := ok.sh
    omega
theorem seen_nodup {R : RS} {D : DS} (ok : OkD R D) {k : Int} (hr : rightV D.xs.length k = true) : ((D.seenV k).map (·.1)).Nodup := by
  rw [seenV_ids hr ok.es]
  unfold sidsV
  have h := List.Pairwise.filter (fun (i : Nat) => decide ((i : Int) < 32) || targetV D.sh D.xs i == k) (List.nodup_range (n := 32 + D.sh.length))
  exact List.pairwise_map.2 (List.Pairwise.imp (fun h e => h (Int.ofNat.inj e)) h)
theorem ready_nodup {R : RS} {D : DS} (ok : OkD R D) {k : Int} (hr : rightV D.xs.length k = true) : ((D.readyV k).map (·.1)).Nodup := by
  unfold DS.readyV
  split
  · simp
  · exact (seen_nodup ok hr).sublist (List.Sublist.map _ List.filter_sublist)
@[reducible] def pk84 : List (Nat × Plan) := [(1, [(0, 0, []), (2, 0, []), (3, 0, []), (4, 0, []), (5, 0, []), (6, 0, []), (1, 1, [2, 5]), (7, 0, [])]), (4, [(0, 0, []), (1, 0, []), (2, 0, []), (3, 0, []), (4, 0, []), (5, 0, []), (6, 0, [])]), (6, [(0, 0, []), (1, 0, []), (3, 0, []), (4, 0, []), (5, 0, []), (6, 0, []), (7, 0, []), (8, 0, []), (9, 0, []), (2, 1, [1, 3, 6, 7, 9]), (10, 0, []), (11, 0, []), (12, 0, []), (13, 0, []), (15, 0, []), (16, 0, []), (14, 1, [1, 3, 6, 7, 9, 13, 15, 16]), (17, 1, [1, 3, 6, 7, 9, 13, 15, 16]), (18, 0, []), (19, 0, []), (20, 0, []), (21, 0, []), (22, 0, []), (25, 0, []), (26, 0, []), (23, 1, [1, 3, 6, 7, 9, 13, 15, 16, 22, 25, 26]), (24, 1, [1, 3, 6, 7, 9, 13, 15, 16, 22, 25, 26]), (27, 1, [1, 3, 6, 7, 9, 13, 15, 16, 22, 25, 26]), (28, 1, [1, 3, 6, 7, 9, 13, 15, 16, 22, 25, 26]), (29, 0, []), (30, 0, []), (31, 0, []), (32, 0, []), (33, 0, []), (36, 0, []), (37, 0, []), (34, 1, [1, 3, 6, 7, 9, 13, 15, 16, 22, 25, 26, 33, 36, 37]), (35, 1, [1, 3, 6, 7, 9, 13, 15, 16, 22, 25, 26, 33, 36, 37]), (38, 1, [1, 3, 6, 7, 9, 13, 15, 16, 22, 25, 26, 33, 36, 37]), (39, 1, [1, 3, 6, 7, 9, 13, 15, 16, 22, 25, 26, 33, 36, 37]), (40, 0, []), (41, 0, [])]), (21, [(0, 0, []), (1, 0, []), (2, 0, []), (3, 0, []), (4, 0, []), (5, 0, []), (6, 0, []), (7, 0, []), (8, 0, []), (9, 0, []), (11, 0, []), (12, 0, []), (10, 1, [3, 4, 11]), (13, 1, [3, 4, 11]), (14, 0, []), (15, 0, [])])]
theorem getR_in {D : DS} {id : Int} (h1 : 1 ≤ D.xs.length) (h32 : 32 ≤ id) (hlt : id < 32 + D.sh.length) : (D.getV 0 id).2 = 0 := by
  rw [getV_sh (by simp [rightV]; omega) (by omega)]
  obtain ⟨e, he⟩ : ∃ e, D.sh[(id - 32).toNat]? = some e := ⟨_, List.getElem?_eq_getElem (show (id - 32).toNat < D.sh.length by omega)⟩
  unfold Br.getV
  rw [Br.atE_iff.2 ⟨(id - 32).toNat, by omega, he⟩]
set_option maxHeartbeats 16000000 in
theorem alike13 (β : Base) (d r : Nat) (R : RS) (D : DS) (ok : OkD R D) : Tri Tryz.prog β 84 [.pointer (some ⟨d, 0, none⟩), .pointer (some ⟨r, 0, none⟩)] (dA d D ++ rD r R D) (fun v L => v = .bool true ∧ L = dA d D ++ rD r R D) := by
  have h1 := ok.one
  have h8 := ok.x8
  have hsh := ok.sh
  refine Tri.intro tt_ok Tryz.func84 rfl rfl Tryz.ntmps84 rfl fun F => ?_
  (refine G tt_ok pk84 ?_; repeat (refine G1 tt_ok pk84 ?_; intro _))
  rename_i b3 b4
  refine ke rfl rfl (coresD β d D rfl) ?_
  (refine G tt_ok pk84 ?_; repeat (refine G1 tt_ok pk84 ?_; intro _))
  rw [show ((D.xs.length : Int) != D.xs.length) = false by simp]
  (refine G tt_ok pk84 ?_; repeat (refine G1 tt_ok pk84 ?_; intro _))
  rename_i b5
  refine CW.loop (α := Nat × Nat) (fun x => x.1 ≤ D.xs.length) (fun x => [(5, .pointer (some ⟨x.2, 0, none⟩)), (4, .pointer (some ⟨b4, 0, none⟩)), (3, .pointer (some ⟨b3, 0, none⟩)), (0, .pointer (some ⟨d, 0, none⟩))])
    (fun x => [pt b3 [.pointer (some ⟨r, 0, none⟩)], pt b4 [.bool false], pt x.2 [.int .i64 x.1]] ++ dA d D ++ rD r R D) (fun x => D.xs.length - x.1) (0, b5) (by simp) ⟨rfl, rfl, rfl, rfl, trivial⟩ pk_ ?_
  rintro ⟨k, bk⟩ hk
  simp only at hk ⊢
  (refine G tt_ok pk84 ?_; repeat (refine G1 tt_ok pk84 ?_; intro _))
  by_cases hlt : k < D.xs.length
  · rw [decide_eq_true (show (k : Int) < D.xs.length by omega)]
    have hw : IntKind.i64.wrap ((k : Int) + 1) = ((k + 1 : Nat) : Int) := by rw [wrap_i64]; split <;> omega
    have hrk : rightV D.xs.length (k : Int) = true := by simp [rightV]; omega
    obtain ⟨x, hx⟩ : ∃ x, D.xs[k]? = some x := ⟨_, List.getElem?_eq_getElem hlt⟩
    have hasl : asleepV D.xs k = x.sl := by unfold asleepV; rw [if_pos hrk]; simp only [Int.toNat_natCast]; rw [hx]
    (refine G tt_ok pk84 ?_; repeat (refine G1 tt_ok pk84 ?_; intro _))
    refine ir_ tt_ok rfl rfl (k) (rfl) rfl ?_ (hlt := hlt)
    (refine G tt_ok pk84 ?_; repeat (refine G1 tt_ok pk84 ?_; intro _))
    refine lr_ tt_ok rfl rfl (rd_slp hx) ?_
    (refine G tt_ok pk84 ?_; repeat (refine G1 tt_ok pk84 ?_; intro _))
    (refine ka rfl rfl (asleep22 β d D k) ?_; rintro _ _ ⟨rfl, rfl⟩; refine ⟨(by repeat (first | exact trivial | refine ⟨trivial, ?_⟩ | refine ⟨rr_ (rd_slp hx), ?_⟩ | refine ⟨wk (by repeat (first | exact .h | exact .q | apply At.t)) (by rfl), ?_⟩)), ?_⟩)
    rw [hasl]
    (refine G tt_ok pk84 ?_; repeat (refine G1 tt_ok pk84 ?_; intro _))
    rw [show (!x.sl == x.sl) = false by simp]
    (refine G tt_ok pk84 ?_; repeat (refine G1 tt_ok pk84 ?_; intro _))
    (refine ka rfl rfl (bestIs β d R D ok k) ?_; rintro _ _ ⟨rfl, rfl⟩; refine ⟨(by repeat (first | exact trivial | refine ⟨trivial, ?_⟩ | refine ⟨rr_ (rd_slp hx), ?_⟩ | refine ⟨wk (by repeat (first | exact .h | exact .q | apply At.t)) (by rfl), ?_⟩)), ?_⟩)
    (refine G tt_ok pk84 ?_; repeat (refine G1 tt_ok pk84 ?_; intro _))
    (refine ka rfl rfl (refBest41 β r R D ok k) ?_; rintro _ _ ⟨rfl, rfl⟩; refine ⟨(by repeat (first | exact trivial | refine ⟨trivial, ?_⟩ | refine ⟨rr_ (rd_slp hx), ?_⟩ | refine ⟨wk (by repeat (first | exact .h | exact .q | apply At.t)) (by rfl), ?_⟩)), ?_⟩)
    (refine G tt_ok pk84 ?_; repeat (refine G1 tt_ok pk84 ?_; intro _))
    (refine SQ.eqs' tt_ok rfl rfl rfl (by kernel_rfl) (by kernel_rfl) false (by simp) ?_)
    (refine G tt_ok pk84 ?_; repeat (refine G1 tt_ok pk84 ?_; intro _))
    (refine ka rfl rfl (seen26 β d k) ?_; rintro _ _ ⟨e2, e3, rfl, rfl⟩; refine ⟨(by repeat (first | exact trivial | refine ⟨trivial, ?_⟩ | refine ⟨rr_ (rd_slp hx), ?_⟩ | refine ⟨wk (by repeat (first | exact .h | exact .q | apply At.t)) (by rfl), ?_⟩)), ?_⟩)
    (refine G tt_ok pk84 ?_; repeat (refine G1 tt_ok pk84 ?_; intro _))
    have hsl : (D.seenV k).length ≤ 400 := by have := seenV_len (k := (k : Int)) ok.es; omega
    (refine ka rfl rfl (ids28 β (iterS β d e2 e3 ok k) hsl) ?_; rintro _ _ ⟨q1, c1, rfl, rfl⟩; refine ⟨(by repeat (first | exact trivial | refine ⟨trivial, ?_⟩ | refine ⟨rr_ (rd_slp hx), ?_⟩ | refine ⟨wk (by repeat (first | exact .h | exact .q | apply At.t)) (by rfl), ?_⟩)), ?_⟩)
    (refine G tt_ok pk84 ?_; repeat (refine G1 tt_ok pk84 ?_; intro _))
    (refine ka rfl rfl (refSeen42 β r R D ok k) ?_; rintro _ _ ⟨q2, c2, rfl, rfl⟩; refine ⟨(by repeat (first | exact trivial | refine ⟨trivial, ?_⟩ | refine ⟨rr_ (rd_slp hx), ?_⟩ | refine ⟨wk (by repeat (first | exact .h | exact .q | apply At.t)) (by rfl), ?_⟩)), ?_⟩)
    (refine G tt_ok pk84 ?_; repeat (refine G1 tt_ok pk84 ?_; intro _))
    (refine ka rfl rfl (same30 β (l := (D.seenV k).map (·.1)) (n := (D.seenV k).length) (by simp) (by omega)) ?_; rintro _ _ ⟨rfl, rfl⟩; refine ⟨(by repeat (first | exact trivial | refine ⟨trivial, ?_⟩ | refine ⟨rr_ (rd_slp hx), ?_⟩ | refine ⟨wk (by repeat (first | exact .h | exact .q | apply At.t)) (by rfl), ?_⟩)), ?_⟩)
    (refine G tt_ok pk84 ?_; repeat (refine G1 tt_ok pk84 ?_; intro _))
    (refine ka rfl rfl (ready17 β d k) ?_; rintro _ _ ⟨b22, b23, rfl, rfl⟩; refine ⟨(by repeat (first | exact trivial | refine ⟨trivial, ?_⟩ | refine ⟨rr_ (rd_slp hx), ?_⟩ | refine ⟨wk (by repeat (first | exact .h | exact .q | apply At.t)) (by rfl), ?_⟩)), ?_⟩)
    (refine G tt_ok pk84 ?_; repeat (refine G1 tt_ok pk84 ?_; intro _))
    have hrl := ready_len ok k
    (refine ka rfl rfl (ids28 β (iterR β d b22 b23 ok k) hrl) ?_; rintro _ _ ⟨q3, c3, rfl, rfl⟩; refine ⟨(by repeat (first | exact trivial | refine ⟨trivial, ?_⟩ | refine ⟨rr_ (rd_slp hx), ?_⟩ | refine ⟨wk (by repeat (first | exact .h | exact .q | apply At.t)) (by rfl), ?_⟩)), ?_⟩)
    (refine G tt_ok pk84 ?_; repeat (refine G1 tt_ok pk84 ?_; intro _))
    (refine ka rfl rfl (refReady43 β r R D ok k) ?_; rintro _ _ ⟨q4, c4, rfl, rfl⟩; refine ⟨(by repeat (first | exact trivial | refine ⟨trivial, ?_⟩ | refine ⟨rr_ (rd_slp hx), ?_⟩ | refine ⟨wk (by repeat (first | exact .h | exact .q | apply At.t)) (by rfl), ?_⟩)), ?_⟩)
    (refine G tt_ok pk84 ?_; repeat (refine G1 tt_ok pk84 ?_; intro _))
    (refine ka rfl rfl (same30 β (l := (D.readyV k).map (·.1)) (n := (D.readyV k).length) (by simp) (by omega)) ?_; rintro _ _ ⟨rfl, rfl⟩; refine ⟨(by repeat (first | exact trivial | refine ⟨trivial, ?_⟩ | refine ⟨rr_ (rd_slp hx), ?_⟩ | refine ⟨wk (by repeat (first | exact .h | exact .q | apply At.t)) (by rfl), ?_⟩)), ?_⟩)
    (refine G tt_ok pk84 ?_; repeat (refine G1 tt_ok pk84 ?_; intro _))
    (refine ka rfl rfl (seen26 β d k) ?_; rintro _ _ ⟨b12, b13, rfl, rfl⟩; refine w_ ?_)
    (refine G tt_ok pk84 ?_; repeat (refine G1 tt_ok pk84 ?_; intro _))
    have hI := iterS β d b12 b13 ok k
    have hget : ∀ p ∈ D.seenV k, D.getV k p.1 = (p.2, 0) := fun p hp => (seenV_get ok.es ok.ok hp).1
    generalize D.seenV k = l at hI hget ⊢
    refine CW.rangeA rfl hI (by repeat (first | exact .n | exact Rm.h | apply Tk.c | apply Rm.t)) (fun pre => [pt b3 [.pointer (some ⟨r, 0, none⟩)], pt b4 [.bool false], pt bk [.int .i64 k]] ++ rD r R D) (fun _ _ => False) pk_ (fun _ => rfl) (by decide) ?_ ?_ ?_
    · intro pre y hpre lp fm rec1
      have hy : y ∈ l := hpre.subset (by simp)
      have hg := refGet44 β r R D ok k y.1
      rw [hget y hy] at hg
      (refine G tt_ok pk84 ?_; repeat (refine G1 tt_ok pk84 ?_; intro _))
      intro fm2 rec2
      (refine G tt_ok pk84 ?_; repeat (refine G1 tt_ok pk84 ?_; intro _))
      refine ke rfl rfl (hg) ?_
      (refine G tt_ok pk84 ?_; repeat (refine G1 tt_ok pk84 ?_; intro _))
      refine SQ.eqn tt_ok [110, 77] ⟨by kernel_rfl, by kernel_rfl, trivial⟩ rfl rfl (by kernel_rfl) false (by simp) ?_
      (refine G tt_ok pk84 ?_; repeat (refine G1 tt_ok pk84 ?_; intro _))
      exact pk_
    · (refine G tt_ok pk84 ?_; repeat (refine G1 tt_ok pk84 ?_; intro _))
      rename_i bk2
      refine ⟨(k + 1, bk2), by simp; omega, by simp; omega, ⟨rfl, rfl, rfl, rfl, trivial⟩, ?_⟩
      simp only
      rw [← hw]
      exact pk_
    · intro _ _ h; exact h.elim
  · rw [decide_eq_false (show ¬ (k : Int) < D.xs.length by omega)]
    (refine G tt_ok pk84 ?_; repeat (refine G1 tt_ok pk84 ?_; intro _))
    refine CW.exit ?_
    (refine G tt_ok pk84 ?_; repeat (refine G1 tt_ok pk84 ?_; intro _))
    refine CW.loop (α := Nat) (fun x => x ≤ D.sh.length) (fun x => [(10, .int .i64 ((32 + x : Nat) : Int)), (4, .pointer (some ⟨b4, 0, none⟩)), (3, .pointer (some ⟨b3, 0, none⟩)), (0, .pointer (some ⟨d, 0, none⟩))])
      (fun x => [pt b3 [.pointer (some ⟨r, 0, none⟩)], pt b4 [.bool false]] ++ dA d D ++ rD r R D) (fun x => D.sh.length - x) 0 (by simp) ⟨rfl, rfl, rfl, rfl, trivial⟩ pk_ ?_
    intro j hj
    (refine G tt_ok pk84 ?_; repeat (refine G1 tt_ok pk84 ?_; intro _))
    rw [wrap_id (show -9223372036854775808 ≤ 32 + (D.sh.length : Int) by omega) (by omega)]
    by_cases hlt2 : j < D.sh.length
    · rw [decide_eq_true (show ((32 + j : Nat) : Int) < 32 + (D.sh.length : Int) by omega)]
      have hw : IntKind.i64.wrap (((32 + j : Nat) : Int) + 1) = ((32 + (j + 1) : Nat) : Int) := by rw [wrap_i64]; split <;> omega
      have hgd := get21' β d D 0 ((32 + j : Nat) : Int) (by omega)
      have hgr := refGet44 β r R D ok 0 ((32 + j : Nat) : Int)
      rw [getR_in h1 (by omega) (by omega)] at hgd
      (refine G tt_ok pk84 ?_; repeat (refine G1 tt_ok pk84 ?_; intro _))
      refine ke rfl rfl (hgd) ?_
      (refine G tt_ok pk84 ?_; repeat (refine G1 tt_ok pk84 ?_; intro _))
      refine ke rfl rfl (hgr) ?_
      (refine G tt_ok pk84 ?_; repeat (refine G1 tt_ok pk84 ?_; intro _))
      refine SQ.eqn tt_ok [110, 77] ⟨by kernel_rfl, by kernel_rfl, trivial⟩ rfl rfl (by kernel_rfl) false (by simp) ?_
      (refine G tt_ok pk84 ?_; repeat (refine G1 tt_ok pk84 ?_; intro _))
      refine ke rfl rfl (target19 β d D.o0 D.o1 D.sb D.sq D.sc D.sh D.qc D.cc D.xs (by omega) ((32 + j : Nat) : Int) (by omega)) ?_
      (refine G tt_ok pk84 ?_; repeat (refine G1 tt_ok pk84 ?_; intro _))
      refine ke rfl rfl (refTarget45 β r R D ok ((32 + j : Nat) : Int)) ?_
      (refine G tt_ok pk84 ?_; repeat (refine G1 tt_ok pk84 ?_; intro _))
      rw [show (targetV D.sh D.xs ((32 + j : Nat) : Int) != targetV D.sh D.xs ((32 + j : Nat) : Int)) = false by simp]
      (refine G tt_ok pk84 ?_; repeat (refine G1 tt_ok pk84 ?_; intro _))
      exact ⟨j + 1, by omega, by omega, ⟨by rw [← hw]; rfl, rfl, rfl, rfl, trivial⟩, pk_⟩
    · rw [decide_eq_false (show ¬ ((32 + j : Nat) : Int) < 32 + (D.sh.length : Int) by omega)]
      (refine G tt_ok pk84 ?_; repeat (refine G1 tt_ok pk84 ?_; intro _))
      refine CW.exit ?_
      (refine G tt_ok pk84 ?_; repeat (refine G1 tt_ok pk84 ?_; intro _))
      exact CW.ret (fin_cells [_] ⟨cl_, trivial⟩ (A := dA d D ++ rD r R D) pk_ ⟨rfl, rfl⟩)
end Go.Proofs.YtebpodnbalfomaaGreatDoor.Sl
namespace Go.Proofs.YtebpodnbalfomaaGreatDoor.Sl
open Go Go.RowKit Go.Proofs
set_option linter.unusedVariables false
set_option linter.unusedSimpArgs false
attribute [local irreducible] CW Tri OW
attribute [local irreducible] wlen
set_option maxRecDepth 10000
@[reducible] def pk15 : List (Nat × Plan) := []
@[reducible] def pk16 : List (Nat × Plan) := []
@[reducible] def pk25 : List (Nat × Plan) := []
/-- What a controller has for a processor: its interface, its messages that wait (where they lie), whether messages come, its tables' addresses. -/
structure SdS where
  f : Fc
  S : Nat
  W : Option Nat
  on : Bool
  pr : Nat
  pe : Nat
@[reducible] def sdC (s : SdS) : List Value := [.int .i64 s.f.m, .int .i64 s.f.p0, .int .i64 s.f.p1, .bool s.f.on0, .bool s.f.on1, .bool s.f.sp, .int .u32 s.f.b0, .int .u32 s.f.b1, .pointer (some ⟨s.S, 0, none⟩), .bool s.on, .int .u64 s.pr, .int .u64 s.pe]
def sdA (s : SdS) : List Atom := [exA fun x : Option Addr × Nat => setL s.S x.1 x.2 s.W]
/-- A guest's controller. -/
structure GS where
  d : Nat
  D : DS
  qc : Option Addr
  cc : Nat
  cf : List Nat
  qs : Option Addr
  cs : Nat
  ss : List SdS
@[reducible] def gC (d : Nat) (qc : Option Addr) (nc cc : Nat) (qs : Option Addr) (ns cs : Nat) : List Value := [.pointer (some ⟨d, 0, none⟩), .slice qc nc cc, .slice qs ns cs]
def gA (g : Nat) (G : GS) : List Atom := [pt g (gC G.d G.qc G.cf.length G.cc G.qs G.ss.length G.cs), rowA G.qc G.cf.length (G.cf.flatMap byC), rowA G.qs G.ss.length (G.ss.flatMap sdC), pkA sdA G.ss] ++ dA G.d G.D
theorem ghas46 (β : Base) (g d : Nat) (qc qs : Option Addr) (nc cc n c : Nat) (k : Int) : Tri Tryz.prog β 46 [.pointer (some ⟨g, 0, none⟩), .int .i64 k] [pt g (gC d qc nc cc qs n c)] (fun v L => v = .bool (rightV n k) ∧ L = [pt g (gC d qc nc cc qs n c)]) := by
  refine Tri.intro tt_ok Tryz.func46 rfl rfl Tryz.ntmps46 rfl fun F => ?_
  (repeat' (first | refine CW.seq ?_ | refine CW.region tt_ok rfl ?_ | refine CW.block ?_ | refine CW.skip ?_ | refine SQ.nil ?_ | refine SQ.pures1 tt_ok rfl ?_ | refine SQ.pure1 tt_ok rfl ?_ | refine SQ.new _ _ rfl rfl (fun _ => ?_) | refine SQ.ldA tt_ok rfl rfl (by repeat (first | exact .h | exact .q | apply At.t)) (by rfl) ?_ | refine SQ.stA tt_ok rfl rfl (by repeat (first | apply Up.h | apply Up.t)) (by rfl) (by rfl) (by repeat (first | exact trivial | refine ⟨trivial, ?_⟩ | refine ⟨wk (by repeat (first | exact .h | exact .q | apply At.t)) (by rfl), ?_⟩)) ?_ | refine CW.cond_tt rfl ?_ | refine CW.cond_ff rfl ?_ | ((first | refine CW.cond rfl (fun hc => ?_) (fun hc => ?_) | refine SQ.gsplit rfl (fun hc => ?_) (fun hc => ?_)) <;> try (exfalso; simp_all; done))))
  all_goals (refine CW.ret (fin_ret rfl (Ent.refl _) ⟨?_, rfl⟩); simp_all [packV, rightV]; try omega)
/-- Whether a number is a message's interrupt. -/
def msgV (n : Nat) (id : Int) : Bool := decide (id ≥ 8192) && decide (IntKind.i64.wrap (id - 8192) < n)
theorem msg15 (β : Base) (g d : Nat) (qc qs : Option Addr) (nc cc n c : Nat) (id : Int) : Tri Tryz.prog β 15 [.pointer (some ⟨g, 0, none⟩), .int .i64 id] [pt g (gC d qc nc cc qs n c)] (fun v L => v = .bool (msgV nc id) ∧ L = [pt g (gC d qc nc cc qs n c)]) := by
  refine Tri.intro tt_ok Tryz.func15 rfl rfl Tryz.ntmps15 rfl fun F => ?_
  unfold msgV
  by_cases h : id ≥ 8192
  · rw [decide_eq_true h]
    refine G tt_ok pk15 ?_
    rw [decide_eq_true h]
    refine G tt_ok pk15 ?_
    exact CW.ret (fin_ret rfl (Ent.refl _) ⟨rfl, rfl⟩)
  · rw [decide_eq_false h]
    refine G tt_ok pk15 ?_
    rw [decide_eq_false h]
    refine G tt_ok pk15 ?_
    exact CW.ret (fin_ret rfl (Ent.refl _) ⟨rfl, rfl⟩)
theorem lpis16 (β : Base) (g d : Nat) (qc qs : Option Addr) (nc cc n c : Nat) : Tri Tryz.prog β 16 [.pointer (some ⟨g, 0, none⟩)] [pt g (gC d qc nc cc qs n c)] (fun v L => v = .int .i64 nc ∧ L = [pt g (gC d qc nc cc qs n c)]) := by
  refine Tri.intro tt_ok Tryz.func16 rfl rfl Tryz.ntmps16 rfl fun F => ?_
  refine G tt_ok pk16 ?_
  exact CW.ret (fin_ret rfl (Ent.refl _) ⟨rfl, rfl⟩)
theorem msg_at {n : Nat} {id : Int} (hi : id ≤ 9223372036854775807) (h : msgV n id = true) : ∃ j : Nat, j < n ∧ id = ((8192 + j : Nat) : Int) ∧ IntKind.i64.wrap (id - 8192) = (j : Int) := by
  unfold msgV at h
  simp only [Bool.and_eq_true, decide_eq_true_eq] at h
  rw [wrap_id (by omega) (by omega)] at h
  exact ⟨(id - 8192).toNat, by omega, by omega, by rw [wrap_id (by omega) (by omega)]; omega⟩
theorem rd_sd {ss : List SdS} {k : Nat} {s : SdS} (h : ss[k]? = some s) (X : List Value) : rdv ti113 (ss.flatMap sdC ++ X) (0 + k * 12) = some (.agg (sdC s).toArray) :=
  rd_partR (enc := sdC) (sz := 12) (fun _ => rfl) h 0 (i := ti113) rfl (by decide) (by omega) (by decide) X
theorem rd_sdf {ss : List SdS} {k : Nat} {s : SdS} (h : ss[k]? = some s) (X : List Value) : rdv ti69 (ss.flatMap sdC ++ X) (0 + k * 12) = some (fcV s.f) :=
  rd_partR (enc := sdC) (sz := 12) (fun _ => rfl) h 0 (i := ti69) rfl (by decide) (by omega) (by decide) X
theorem rd_sds {ss : List SdS} {k : Nat} {s : SdS} (h : ss[k]? = some s) (X : List Value) : rdv ti111 (ss.flatMap sdC ++ X) (bif Nat.beq (0 + k * 12) 0 then 8 else 0 + k * 12 + 8) = some (.pointer (some ⟨s.S, 0, none⟩)) :=
  rd_partR (enc := sdC) (sz := 12) (fun _ => rfl) h 8 (i := ti111) rfl (by decide) (by rw [off_add]; omega) (by decide) X
theorem rd_sdo {ss : List SdS} {k : Nat} {s : SdS} (h : ss[k]? = some s) (X : List Value) : rdv ti4 (ss.flatMap sdC ++ X) (bif Nat.beq (0 + k * 12) 0 then 9 else 0 + k * 12 + 9) = some (.bool s.on) :=
  rd_partR (enc := sdC) (sz := 12) (fun _ => rfl) h 9 (i := ti4) rfl (by decide) (by rw [off_add]; omega) (by decide) X
theorem rd_sdp {ss : List SdS} {k : Nat} {s : SdS} (h : ss[k]? = some s) (X : List Value) : rdv ti44 (ss.flatMap sdC ++ X) (bif Nat.beq (0 + k * 12) 0 then 10 else 0 + k * 12 + 10) = some (.int .u64 s.pr) :=
  rd_partR (enc := sdC) (sz := 12) (fun _ => rfl) h 10 (i := ti44) rfl (by decide) (by rw [off_add]; omega) (by decide) X
theorem wr_sdo {ss : List SdS} {k : Nat} {s : SdS} (h : ss[k]? = some s) (a : Bool) (X : List Value) : wrv ti4 (ss.flatMap sdC ++ X) (bif Nat.beq (0 + k * 12) 0 then 9 else 0 + k * 12 + 9) (.bool a) = some ((ss.set k { s with on := a }).flatMap sdC ++ X) :=
  wr_encR (enc := sdC) (sz := 12) (fun _ => rfl) h 9 (i := ti4) (by decide) rfl rfl (by rw [off_add]; omega) X
theorem wr_sdp {ss : List SdS} {k : Nat} {s : SdS} (h : ss[k]? = some s) (a : Nat) (X : List Value) : wrv ti44 (ss.flatMap sdC ++ X) (bif Nat.beq (0 + k * 12) 0 then 10 else 0 + k * 12 + 10) (.int .u64 a) = some ((ss.set k { s with pr := a }).flatMap sdC ++ X) :=
  wr_encR (enc := sdC) (sz := 12) (fun _ => rfl) h 10 (i := ti44) (by decide) rfl rfl (by rw [off_add]; omega) X
theorem wr_sde {ss : List SdS} {k : Nat} {s : SdS} (h : ss[k]? = some s) (a : Nat) (X : List Value) : wrv ti44 (ss.flatMap sdC ++ X) (bif Nat.beq (0 + k * 12) 0 then 11 else 0 + k * 12 + 11) (.int .u64 a) = some ((ss.set k { s with pe := a }).flatMap sdC ++ X) :=
  wr_encR (enc := sdC) (sz := 12) (fun _ => rfl) h 11 (i := ti44) (by decide) rfl rfl (by rw [off_add]; omega) X
theorem rights_at {ss : List SdS} {k : Int} (h : rightV ss.length k = true) : ∃ s, ss[k.toNat]? = some s ∧ k.toNat < ss.length ∧ k = (k.toNat : Int) := by
  simp [rightV] at h
  exact ⟨_, List.getElem?_eq_getElem (show k.toNat < ss.length by omega), by omega, by omega⟩
/-- The interface of a processor; a new one, if there is no such. -/
def GS.face (G : GS) (k : Int) : Fc := if rightV G.ss.length k then (match G.ss[k.toNat]? with | some s => s.f | none => fc0) else fc0
def gHd (g : Nat) (G : GS) : List Atom := [pt g (gC G.d G.qc G.cf.length G.cc G.qs G.ss.length G.cs), rowA G.qs G.ss.length (G.ss.flatMap sdC)]
theorem face25 (β : Base) (g : Nat) (G : GS) (k : Int) : Tri Tryz.prog β 25 [.pointer (some ⟨g, 0, none⟩), .int .i64 k] (gHd g G) (fun v L => v = fcV (G.face k) ∧ L = gHd g G) := by
  obtain ⟨d, D, qc, cc, cf, qs, cs, ss⟩ := G
  refine Tri.intro tt_ok Tryz.func25 rfl rfl Tryz.ntmps25 rfl fun F => ?_
  unfold gHd GS.face
  simp only
  (refine G tt_ok pk25 ?_; repeat (refine G1 tt_ok pk25 ?_; intro _))
  refine ke rfl rfl (ghas46 β g d qc qs cf.length cc ss.length cs k) ?_
  cases hr : rightV ss.length k with
  | false =>
    (refine G tt_ok pk25 ?_; repeat (refine G1 tt_ok pk25 ?_; intro _))
    refine ke rfl rfl (fnew73 β) ?_
    (refine G tt_ok pk25 ?_; repeat (refine G1 tt_ok pk25 ?_; intro _))
    exact CW.ret (fin_cells [_] ⟨cl_, trivial⟩ pk_ ⟨rfl, rfl⟩)
  | true =>
    obtain ⟨s, hx, hl, hk⟩ := rights_at hr
    (refine G tt_ok pk25 ?_; repeat (refine G1 tt_ok pk25 ?_; intro _))
    refine ir_ tt_ok rfl rfl (k.toNat) (hk) rfl ?_ (hlt := hl)
    (refine G tt_ok pk25 ?_; repeat (refine G1 tt_ok pk25 ?_; intro _))
    refine lr_ tt_ok rfl rfl (rd_sdf hx) ?_
    (refine G tt_ok pk25 ?_; repeat (refine G1 tt_ok pk25 ?_; intro _))
    simp only [if_pos, hx]
    exact CW.ret (fin_cells [_] ⟨cl_, trivial⟩ pk_ ⟨rfl, rfl⟩)
@[reducible] def pk17 : List (Nat × Plan) := []
@[reducible] def pk96 : List (Nat × Plan) := []
@[reducible] def pk21 : List (Nat × Plan) := []
@[reducible] def pk29 : List (Nat × Plan) := []
@[reducible] def pk85 : List (Nat × Plan) := []
theorem by_rdX {W : List Nat} {k x : Nat} (h : W[k]? = some x) (X : List Value) : rdv ti5 (W.flatMap byC ++ X) (0 + k * 1) = some (.int .u8 (x : Int)) :=
  rd_partR (enc := byC) (sz := 1) (fun _ => rfl) h 0 (i := ti5) rfl (by decide) (by omega) (by decide) X
theorem by_wrX {W : List Nat} {k : Nat} {y : Nat} (h : W[k]? = some y) (x : Nat) (X : List Value) : wrv ti5 (W.flatMap byC ++ X) (0 + k * 1) (.int .u8 (x : Int)) = some ((W.set k x).flatMap byC ++ X) :=
  wr_encR (enc := byC) (sz := 1) (fun _ => rfl) h 0 (i := ti5) (by decide) rfl rfl (by omega) X
/-- A message's interrupt is set up. -/
def GS.setupV (G : GS) (id : Int) (b : Nat) : GS × Int := if msgV G.cf.length id then ({ G with cf := G.cf.set (id - 8192).toNat b }, 0) else (G, 150)
theorem setup17 (β : Base) (g d : Nat) (qc qs : Option Addr) (cc n c : Nat) {cf : List Nat} {id : Int} (hi : id ≤ 9223372036854775807) (b : Nat) : Tri Tryz.prog β 17 [.pointer (some ⟨g, 0, none⟩), .int .i64 id, .int .u8 b] [pt g (gC d qc cf.length cc qs n c), rowA qc cf.length (cf.flatMap byC)]
    (fun v L => v = .int .i64 (if msgV cf.length id then 0 else 150) ∧ L = [pt g (gC d qc cf.length cc qs n c), rowA qc cf.length ((if msgV cf.length id then cf.set (id - 8192).toNat b else cf).flatMap byC)]) := by
  refine Tri.intro tt_ok Tryz.func17 rfl rfl Tryz.ntmps17 rfl fun F => ?_
  refine G tt_ok pk17 ?_
  refine ke rfl rfl (msg15 β g d qc qs cf.length cc n c id) ?_
  cases h : msgV cf.length id with
  | false =>
    refine G tt_ok pk17 ?_
    exact CW.ret (fin_ret rfl pk_ ⟨rfl, rfl⟩)
  | true =>
    obtain ⟨j, hj, e1, e2⟩ := msg_at hi h
    have e3 : (id - 8192).toNat = j := by omega
    rw [e3]
    simp only [if_true]
    refine G tt_ok pk17 ?_
    rw [e2]
    refine ir_ tt_ok rfl rfl (j) (rfl) rfl ?_ (hlt := hj)
    refine G tt_ok pk17 ?_
    refine sr_ tt_ok rfl rfl (by_wrX (List.getElem?_eq_getElem hj) b) ?_
    refine G tt_ok pk17 ?_
    exact CW.ret (fin_ret rfl pk_ ⟨rfl, rfl⟩)
theorem known96 (β : Base) (g d : Nat) (qc qs : Option Addr) (cc n c : Nat) {cf : List Nat} {id : Int} (hi : id ≤ 9223372036854775807) : Tri Tryz.prog β 96 [.pointer (some ⟨g, 0, none⟩), .int .i64 id] [pt g (gC d qc cf.length cc qs n c), rowA qc cf.length (cf.flatMap byC)]
    (fun v L => v = .tuple #[.int .u8 (if msgV cf.length id then ((cf[(id - 8192).toNat]?).getD 0 : Nat) else (0 : Nat)), .int .i64 (if msgV cf.length id then 0 else 150)] ∧ L = [pt g (gC d qc cf.length cc qs n c), rowA qc cf.length (cf.flatMap byC)]) := by
  refine Tri.intro tt_ok Tryz.func96 rfl rfl Tryz.ntmps96 rfl fun F => ?_
  refine G tt_ok pk96 ?_
  refine ke rfl rfl (msg15 β g d qc qs cf.length cc n c id) ?_
  cases h : msgV cf.length id with
  | false =>
    refine G tt_ok pk96 ?_
    exact CW.ret (fin_ret rfl pk_ ⟨rfl, rfl⟩)
  | true =>
    obtain ⟨j, hj, e1, e2⟩ := msg_at hi h
    have e3 : (id - 8192).toNat = j := by omega
    obtain ⟨b, hb⟩ : ∃ b, cf[j]? = some b := ⟨_, List.getElem?_eq_getElem hj⟩
    rw [e3, hb]
    simp only [if_true, Option.getD_some]
    refine G tt_ok pk96 ?_
    rw [e2]
    refine ir_ tt_ok rfl rfl (j) (rfl) rfl ?_ (hlt := hj)
    refine G tt_ok pk96 ?_
    refine lr_ tt_ok rfl rfl (by_rdX hb) ?_
    refine G tt_ok pk96 ?_
    exact CW.ret (fin_ret rfl pk_ ⟨rfl, rfl⟩)
/-- What is let wait for a processor, or not any more. -/
def SdS.letS (s : SdS) (j : Nat) (w : Bool) : SdS := { s with W := if w then putS s.W j else takeS s.W j }
def GS.letV (G : GS) (k id : Int) (w : Bool) : GS × (Bool × Int) :=
  if rightV G.ss.length k then
    if msgV G.cf.length id then (match G.ss[k.toNat]? with
      | some s => ({ G with ss := G.ss.set k.toNat (s.letS (id - 8192).toNat w) }, (hasS s.W (id - 8192).toNat, 0))
      | none => (G, (false, 271)))
    else (G, (false, 150))
  else (G, (false, 271))
/-- What keeps to the sizes. -/
structure OkS (n : Nat) (s : SdS) : Prop where
  f : FcOk s.f
  w : setOk s.W
  lt : ∀ j, j < 64 → hasS s.W j = true → j < n
  pr : s.pr < 2 ^ 64
  pe : s.pe < 2 ^ 64
theorem flat_sd {ss : List SdS} {k : Nat} {s t : SdS} (h : ss[k]? = some s) (e : sdC t = sdC s) : (ss.set k t).flatMap sdC = ss.flatMap sdC := flat_set_same h e
def gL (g : Nat) (G : GS) : List Atom := [pt g (gC G.d G.qc G.cf.length G.cc G.qs G.ss.length G.cs), rowA G.qs G.ss.length (G.ss.flatMap sdC), pkA sdA G.ss]
set_option maxHeartbeats 4000000 in
theorem let21 (β : Base) (g : Nat) (G : GS) (hc : G.cf.length ≤ 64) (hs : ∀ s ∈ G.ss, setOk s.W) (k : Int) {id : Int} (hi : id ≤ 9223372036854775807) (w : Bool) : Tri Tryz.prog β 21 [.pointer (some ⟨g, 0, none⟩), .int .i64 k, .int .i64 id, .bool w] (gL g G)
    (fun v L => v = .tuple #[.bool (G.letV k id w).2.1, .int .i64 (G.letV k id w).2.2] ∧ L = gL g (G.letV k id w).1) := by
  obtain ⟨d, D, qc, cc, cf, qs, cs, ss⟩ := G
  refine Tri.intro tt_ok Tryz.func21 rfl rfl Tryz.ntmps21 rfl fun F => ?_
  unfold gL GS.letV
  simp only at hc hs ⊢
  refine G tt_ok pk21 ?_
  refine ke rfl rfl (ghas46 β g d qc qs cf.length cc ss.length cs k) ?_
  cases hr : rightV ss.length k with
  | false =>
    refine G tt_ok pk21 ?_
    exact CW.ret (fin_ret rfl pk_ ⟨rfl, rfl⟩)
  | true =>
    obtain ⟨s, hx, hl, hk⟩ := rights_at hr
    simp only [if_true, hx]
    refine G tt_ok pk21 ?_
    refine ke rfl rfl (msg15 β g d qc qs cf.length cc ss.length cs id) ?_
    cases h : msgV cf.length id with
    | false =>
      refine G tt_ok pk21 ?_
      exact CW.ret (fin_ret rfl pk_ ⟨rfl, rfl⟩)
    | true =>
      obtain ⟨j, hj, e1, e2⟩ := msg_at hi h
      have e3 : (id - 8192).toNat = j := by omega
      have hj64 : j < 64 := by omega
      have hW := hs s (List.mem_of_getElem? hx)
      rw [e3]
      simp only [if_true, List.length_set]
      refine G tt_ok pk21 ?_
      refine ir_ tt_ok rfl rfl (k.toNat) (hk) rfl ?_ (hlt := hl)
      refine G tt_ok pk21 ?_
      refine lr_ tt_ok rfl rfl (rd_sds hx) ?_
      refine G tt_ok pk21 ?_
      have hop : Ent [pkA sdA ss] [exA (fun x : Option Addr × Nat => setL s.S x.1 x.2 s.W), pkA sdA (ss.eraseIdx k.toNat)] := pk_open hx
      refine SQ.ent _ (Rm.to (A := pkA sdA ss) (by repeat (first | exact Rm.h | apply Rm.t)) hop) ?_
      refine SQ.open_ fun y => ?_
      obtain ⟨q1, c1⟩ := y
      have h60 := has60 β s.S q1 c1 hW hj64
      rw [← e1] at h60
      refine ke rfl rfl (h60) ?_
      have hcl : ∀ t q2 c2, sdC t = sdC s → Ent (setL t.S q2 c2 t.W ++ [pkA sdA (ss.eraseIdx k.toNat), rowA qs ss.length (ss.flatMap sdC)]) [rowA qs ss.length ((ss.set k.toNat t).flatMap sdC), pkA sdA (ss.set k.toNat t)] := fun t q2 c2 e => by
        rw [flat_sd hx e]
        have h1 : Ent (setL t.S q2 c2 t.W) [exA fun x : Option Addr × Nat => setL t.S x.1 x.2 t.W] := Ent.exA (f := fun x : Option Addr × Nat => setL t.S x.1 x.2 t.W) (q2, c2)
        have h2 : Ent (sdA t ++ [pkA sdA (ss.eraseIdx k.toNat)]) [pkA sdA (ss.set k.toNat t)] := pk_close t hl
        refine (Ent.append h1 (Ent.refl _)).trans ?_
        exact (Ent.append (L := sdA t ++ [pkA sdA (ss.eraseIdx k.toNat)]) (M := [rowA qs ss.length (ss.flatMap sdC)]) h2 (Ent.refl _)).trans (Ent.perm (List.Perm.swap _ _ _))
      refine G tt_ok pk21 ?_
      cases w with
      | true =>
        have h61 := put61 β s.S q1 c1 hW hj64
        rw [← e1] at h61
        refine G tt_ok pk21 ?_
        (refine ka rfl rfl (h61) ?_; rintro _ _ ⟨q2, c2, rfl, rfl⟩; refine w_ ?_)
        refine G tt_ok pk21 ?_
        refine CW.ret (fin_ret rfl (Ent.trans (M := pt g (gC d qc cf.length cc qs ss.length cs) :: (setL s.S q2 c2 (putS s.W j) ++ [pkA sdA (ss.eraseIdx k.toNat), rowA qs ss.length (ss.flatMap sdC)])) ?_ (Ent.cons _ (hcl (s.letS j true) q2 c2 rfl))) ⟨rfl, rfl⟩)
        unfold setL
        exact pk_
      | false =>
        have h62 := take62 β s.S q1 c1 hW hj64
        rw [← e1] at h62
        refine G tt_ok pk21 ?_
        refine ke rfl rfl (h62) ?_
        refine G tt_ok pk21 ?_
        refine CW.ret (fin_ret rfl (Ent.trans (M := pt g (gC d qc cf.length cc qs ss.length cs) :: (setL s.S q1 c1 (takeS s.W j) ++ [pkA sdA (ss.eraseIdx k.toNat), rowA qs ss.length (ss.flatMap sdC)])) ?_ (Ent.cons _ (hcl (s.letS j false) q1 c1 rfl))) ⟨rfl, rfl⟩)
        unfold setL
        exact pk_
/-- The messages' interrupts that wait for a processor. -/
def GS.waitsV (G : GS) (k : Int) : List Int := if rightV G.ss.length k then (match G.ss[k.toNat]? with | some s => memS s.W | none => []) else []
set_option maxHeartbeats 4000000 in
theorem waits29 (β : Base) (g : Nat) (G : GS) (k : Int) : Tri Tryz.prog β 29 [.pointer (some ⟨g, 0, none⟩), .int .i64 k] (gL g G)
    (fun v L => ∃ b1 b2 q1 c1 W, (setOk W ∨ ∃ s ∈ G.ss, W = s.W) ∧ memS W = G.waitsV k ∧ v = .func (.func 207) #[] #[.pointer (some ⟨b1, 0, none⟩), .pointer (some ⟨b2, 0, none⟩)] ∧
      L = [pt b1 [.slice q1 (wds W).length c1], rowA q1 (wds W).length ((wds W).flatMap wC), pt b2 [.int .i64 0]] ++ gL g G) := by
  obtain ⟨d, D, qc, cc, cf, qs, cs, ss⟩ := G
  refine Tri.intro tt_ok Tryz.func29 rfl rfl Tryz.ntmps29 rfl fun F => ?_
  unfold gL GS.waitsV
  simp only
  refine G tt_ok pk29 ?_
  refine ke rfl rfl (ghas46 β g d qc qs cf.length cc ss.length cs k) ?_
  cases hr : rightV ss.length k with
  | false =>
    refine G tt_ok pk29 ?_
    (refine ka rfl rfl (of78 β) ?_; rintro _ _ ⟨S, rfl, rfl⟩; refine w_ ?_)
    refine G tt_ok pk29 ?_
    (refine ka rfl rfl (all79 β S none 0 (W := none)) ?_; rintro _ _ ⟨b1, b2, q1, c1, rfl, rfl⟩; refine w_ ?_)
    refine G tt_ok pk29 ?_
    refine CW.ret (fin_ret rfl (A := [pt b1 [.slice q1 (wds none).length c1], rowA q1 (wds none).length ((wds none).flatMap wC), pt b2 [.int .i64 0]] ++ [pt g (gC d qc cf.length cc qs ss.length cs), rowA qs ss.length (ss.flatMap sdC), pkA sdA ss]) ?_ ⟨b1, b2, q1, c1, none, .inl (by intro y h; cases h), rfl, rfl, rfl⟩)
    unfold setL
    exact pk_
  | true =>
    obtain ⟨s, hx, hl, hk⟩ := rights_at hr
    simp only [if_true, hx]
    refine G tt_ok pk29 ?_
    refine ir_ tt_ok rfl rfl (k.toNat) (hk) rfl ?_ (hlt := hl)
    refine G tt_ok pk29 ?_
    refine lr_ tt_ok rfl rfl (rd_sds hx) ?_
    refine G tt_ok pk29 ?_
    have hop : Ent [pkA sdA ss] [exA (fun x : Option Addr × Nat => setL s.S x.1 x.2 s.W), pkA sdA (ss.eraseIdx k.toNat)] := pk_open hx
    refine SQ.ent _ (Rm.to (A := pkA sdA ss) (by repeat (first | exact Rm.h | apply Rm.t)) hop) ?_
    refine SQ.open_ fun y => ?_
    obtain ⟨q1, c1⟩ := y
    (refine ka rfl rfl (all79 β s.S q1 c1 (W := s.W)) ?_; rintro _ _ ⟨b1, b2, q2, c2, rfl, rfl⟩; refine w_ ?_)
    refine G tt_ok pk29 ?_
    have hcl : Ent (setL s.S q1 c1 s.W ++ [pkA sdA (ss.eraseIdx k.toNat)]) [pkA sdA ss] := by
      have h1 : Ent (setL s.S q1 c1 s.W) [exA fun x : Option Addr × Nat => setL s.S x.1 x.2 s.W] := Ent.exA (f := fun x : Option Addr × Nat => setL s.S x.1 x.2 s.W) (q1, c1)
      have h2 : Ent (sdA s ++ [pkA sdA (ss.eraseIdx k.toNat)]) [pkA sdA ss] := pk_shut hx
      exact (Ent.append h1 (Ent.refl _)).trans h2
    refine CW.ret (fin_ret rfl (A := [pt b1 [.slice q2 (wds s.W).length c2], rowA q2 (wds s.W).length ((wds s.W).flatMap wC), pt b2 [.int .i64 0]] ++ [pt g (gC d qc cf.length cc qs ss.length cs), rowA qs ss.length (ss.flatMap sdC), pkA sdA ss]) ?_ ⟨b1, b2, q2, c2, s.W, .inr ⟨s, List.mem_of_getElem? hx, rfl⟩, rfl, rfl, rfl⟩)
    refine Ent.trans (M := [pt b1 [.slice q2 (wds s.W).length c2], rowA q2 (wds s.W).length ((wds s.W).flatMap wC), pt b2 [.int .i64 0]] ++ ([pt g (gC d qc cf.length cc qs ss.length cs), rowA qs ss.length (ss.flatMap sdC)] ++ (setL s.S q1 c1 s.W ++ [pkA sdA (ss.eraseIdx k.toNat)]))) ?_ (Ent.append (Ent.refl _) (Ent.append (Ent.refl _) hcl))
    unfold setL
    exact pk_
theorem prop85 (β : Base) (g d : Nat) (qc qs : Option Addr) (nc cc c : Nat) {ss : List SdS} {s : SdS} (h0 : ss[0]? = some s) (hs : s.pr < 2 ^ 64) : Tri Tryz.prog β 85 [.pointer (some ⟨g, 0, none⟩)] [pt g (gC d qc nc cc qs ss.length c), rowA qs ss.length (ss.flatMap sdC)]
    (fun v L => v = .int .i64 (IntKind.i64.wrap ((clrN 64 s.pr 4095 : Nat) : Int)) ∧ L = [pt g (gC d qc nc cc qs ss.length c), rowA qs ss.length (ss.flatMap sdC)]) := by
  have hl : 0 < ss.length := (List.getElem?_eq_some_iff.1 h0).1
  refine Tri.intro tt_ok Tryz.func85 rfl rfl Tryz.ntmps85 rfl fun F => ?_
  refine G tt_ok pk85 ?_
  refine ir_ tt_ok rfl rfl (0) (rfl) rfl ?_ (hlt := hl)
  refine G tt_ok pk85 ?_
  refine lr_ tt_ok rfl rfl (rd_sdp h0) ?_
  refine G tt_ok pk85 ?_
  have := clr64 s.pr 4095
  rw [show IntKind.u64.wrap ((BitVec.ofInt IntKind.u64.bits (s.pr : Int) &&& ~~~BitVec.ofInt IntKind.u64.bits 4095).toNat : Int) = ((clrN 64 s.pr 4095 : Nat) : Int) from this]
  exact CW.ret (fin_ret rfl pk_ ⟨rfl, rfl⟩)
@[reducible] def pk45 : List (Nat × Plan) := [(2, [(0, 0, []), (1, 0, []), (2, 0, []), (3, 0, []), (4, 0, []), (5, 1, [0, 3, 4])]), (7, [(0, 0, []), (1, 0, []), (2, 0, []), (3, 0, []), (4, 0, []), (5, 0, []), (6, 0, []), (7, 0, []), (8, 0, []), (9, 0, []), (10, 0, []), (11, 0, []), (12, 0, []), (13, 0, []), (14, 0, []), (15, 0, []), (16, 0, []), (17, 0, []), (18, 0, []), (19, 0, []), (20, 1, [0, 3, 4, 7, 15, 18, 19]), (21, 0, [])]), (11, [(0, 0, []), (1, 0, []), (2, 0, []), (3, 0, []), (4, 0, []), (5, 0, []), (6, 0, []), (7, 0, []), (8, 1, [4]), (9, 0, []), (10, 1, []), (11, 0, []), (12, 0, [])])]
@[reducible] def cdC (c : Cd) : List Value := [.agg #[.int .i64 c.1, .int .i64 c.2.1, .int .i64 c.2.2.1, .bool c.2.2.2]]
def candOf (p : Int × Ln) : Cd := (p.1, p.2.2.2.2, p.2.2.2.1, true)
def cfAt (cf : List Nat) (id : Int) : Nat := (cf[(id - 8192).toNat]?).getD 0
def candM (cf : List Nat) (id : Int) : Cd := (id, andI (cfAt cf id : Int) 248, 1, true)
def oddM (cf : List Nat) (id : Int) : Bool := cfAt cf id % 2 == 1
def GS.onV (G : GS) (k : Int) : Bool := (match G.ss[k.toNat]? with | some s => s.on | none => false) && (G.D.o1 && !asleepV G.D.xs k)
def GS.candB (G : GS) (k : Int) : List Cd := if G.onV k then ((G.waitsV k).filter (oddM G.cf)).map (candM G.cf) else []
/-- All that a processor may take, whatever runs. -/
def GS.candV (G : GS) (k : Int) : List Cd := if rightV G.ss.length k then (G.D.readyV k).map candOf ++ G.candB k else []
/-- What a controller keeps to. -/
structure OkG (R : RS) (G : GS) : Prop where
  ok : OkD R G.D
  len : G.ss.length = G.D.xs.length
  n4 : G.ss.length ≤ 4
  lp : G.cf.length ≤ 64
  by_ : ∀ b ∈ G.cf, b < 256
  sd : ∀ s ∈ G.ss, OkS G.cf.length s
/-- The same, of any number of messages. -/
structure OkN (R : RS) (G : GS) : Prop where
  ok : OkD R G.D
  len : G.ss.length = G.D.xs.length
  n4 : G.ss.length ≤ 4
  lp : G.cf.length ≤ 512
  by_ : ∀ b ∈ G.cf, b < 256
  sd : ∀ s ∈ G.ss, OkS G.cf.length s
theorem OkG.n {R : RS} {G : GS} (ok : OkG R G) : OkN R G := ⟨ok.ok, ok.len, ok.n4, Nat.le_trans ok.lp (by decide), ok.by_, ok.sd⟩
theorem OkN.w {R : RS} {G : GS} (ok : OkN R G) : ∀ s ∈ G.ss, setOk s.W := fun s hs => (ok.sd s hs).w
theorem OkG.w {R : RS} {G : GS} (ok : OkG R G) : ∀ s ∈ G.ss, setOk s.W := fun s hs => (ok.sd s hs).w
theorem rdV04 (D : DS) : D.rdV 0 4 = (80 + (if D.o0 then 1 else 0) + (if D.o1 then 2 else 0), 0) := by
  unfold DS.rdV
  rw [show distV 0 4 = ((1, 0, 0), 0) from by kernel_rfl]
  rfl
theorem and2_04 (D : DS) : (IntKind.u64.wrap ((BitVec.ofInt IntKind.u64.bits (D.rdV 0 4).1 &&& BitVec.ofInt IntKind.u64.bits 2).toNat : Int) == 0) = !D.o1 := by
  rw [rdV04]
  cases D.o0 <;> cases D.o1 <;> rfl
theorem waits_memN {R : RS} {G : GS} (ok : OkN R G) {k id : Int} (h : id ∈ G.waitsV k) : ∃ j : Nat, j < G.cf.length ∧ j < 64 ∧ id = ((8192 + j : Nat) : Int) := by
  unfold GS.waitsV at h
  split at h
  · split at h
    · rename_i s hs
      have hm := List.mem_of_getElem? hs
      obtain ⟨j, hj, e, hj2⟩ := (memS_mem (ok.w s hm)).1 h
      exact ⟨j, (ok.sd s hm).lt j hj hj2, hj, e⟩
    · simp at h
  · simp at h
theorem and1_8 (b : Nat) (h : b < 256) : (IntKind.u8.wrap ((BitVec.ofInt IntKind.u8.bits (b : Int) &&& BitVec.ofInt IntKind.u8.bits 1).toNat : Int) == 1) = (b % 2 == 1) := by
  have e : ((BitVec.ofInt 8 (b : Int) &&& BitVec.ofInt 8 ((1 : Nat) : Int)).toNat) = b % 2 := by
    rw [BitVec.toNat_and, oNw (show b < 2 ^ 8 from h), oNw (show 1 < 2 ^ 8 by decide), Nat.and_one_is_mod]
  show (IntKind.u8.wrap ((BitVec.ofInt 8 (b : Int) &&& BitVec.ofInt 8 ((1 : Nat) : Int)).toNat : Int) == 1) = _
  rw [e]
  have : b % 2 = 0 ∨ b % 2 = 1 := by omega
  rcases this with h | h <;> rw [h] <;> rfl
set_option maxHeartbeats 16000000 in
theorem iterCN (β : Base) (hG : TabOk β) (g b2 b3 : Nat) {R : RS} {G : GS} (ok : OkN R G) (k : Int) :
    Iter Tryz.prog β 45 [.pointer (some ⟨b2, 0, none⟩), .pointer (some ⟨b3, 0, none⟩)] ([pt b2 [.pointer (some ⟨g, 0, none⟩)], pt b3 [.int .i64 k]] ++ gA g G) cdC (G.candV k) := by
  intro l J Jx hY
  have hrd := rdV04 G.D
  have hit := fun s2 s3 => iterR β G.d s2 s3 ok.ok k
  have hw29 := waits29 β g G k
  have hread := read34 β G.d G.D ok.ok.one ok.ok.x8 ok.ok.sh ok.ok.rt 0 4
  have hand2 := and2_04 G.D
  have has := asleep22 β G.d G.D k
  have hwm := fun id => waits_memN ok (k := k) (id := id)
  have hcf := ok.by_
  have hWk := ok.w
  have hlp := ok.lp
  have hn4 := ok.n4
  have hcv : G.candV k = if rightV G.ss.length k then (G.D.readyV k).map candOf ++ G.candB k else [] := rfl
  have hcb : G.candB k = if G.onV k then ((G.waitsV k).filter (oddM G.cf)).map (candM G.cf) else [] := rfl
  have hov : G.onV k = ((match G.ss[k.toNat]? with | some s => s.on | none => false) && (G.D.o1 && !asleepV G.D.xs k)) := rfl
  generalize G.candV k = CV at hcv hY ⊢
  generalize G.candB k = CB at hcv hcb
  generalize G.onV k = OV at hcb hov
  generalize G.waitsV k = WV at hcb hw29 hwm
  obtain ⟨d, D, qc, cc, cf, qs, cs, ss⟩ := G
  unfold gL at hw29
  unfold gA at hY ⊢
  simp only at hrd hit hw29 hread hand2 has hwm hcf hWk hlp hn4 hcv hcb hov hY ⊢
  generalize D.rdV 0 4 = RV at hrd hread hand2
  refine Tri.intro tt_ok Tryz.func45 rfl rfl Tryz.ntmps45 rfl fun F => ?_
  (refine G tt_ok pk45 ?_; repeat (refine G1 tt_ok pk45 ?_; intro _))
  rename_i by_
  refine ke rfl rfl (ghas46 β g d qc qs cf.length cc ss.length cs k) ?_
  cases hr : rightV ss.length k with
  | false =>
    rw [hr, if_neg (by simp)] at hcv
    subst hcv
    (refine G tt_ok pk45 ?_; repeat (refine G1 tt_ok pk45 ?_; intro _))
    exact CW.ret (fin_ret rfl (A := J [] :: ([pt b2 [.pointer (some ⟨g, 0, none⟩)], pt b3 [.int .i64 k]] ++ ([pt g (gC d qc cf.length cc qs ss.length cs), rowA qc cf.length (cf.flatMap byC), rowA qs ss.length (ss.flatMap sdC), pkA sdA ss] ++ dA d D))) pk_ (.inl rfl))
  | true =>
    rw [hr, if_pos rfl] at hcv
    obtain ⟨s, hx, hl, hk⟩ := rights_at hr
    (refine G tt_ok pk45 ?_; repeat (refine G1 tt_ok pk45 ?_; intro _))
    (refine ka rfl rfl (ready17 β d k) ?_; rintro _ _ ⟨s2, s3, rfl, rfl⟩; refine w_ ?_)
    (refine G tt_ok pk45 ?_; repeat (refine G1 tt_ok pk45 ?_; intro _))
    have hmono : ∀ pre (p : Int × Ln), (pre ++ [p]) <+: D.readyV k → (pre.map candOf ++ [candOf p]) <+: CV := fun pre p h => by
      rw [hcv]
      have := map_pre candOf h
      rw [List.map_append] at this
      exact this.trans (List.prefix_append _ _)
    refine CW.rangeA rfl (hit s2 s3) (by repeat (first | exact .n | exact Rm.h | apply Tk.c | apply Rm.t))
      (fun pre => [J (pre.map candOf), pt by_ [.func (.yield l) #[] #[]], pt b2 [.pointer (some ⟨g, 0, none⟩)], pt b3 [.int .i64 k], pt g (gC d qc cf.length cc qs ss.length cs), rowA qc cf.length (cf.flatMap byC), rowA qs ss.length (ss.flatMap sdC), pkA sdA ss])
      (fun c M => c = .ret ∧ ∃ pre, M = [Jx pre, pt b2 [.pointer (some ⟨g, 0, none⟩)], pt b3 [.int .i64 k], pt g (gC d qc cf.length cc qs ss.length cs), rowA qc cf.length (cf.flatMap byC), rowA qs ss.length (ss.flatMap sdC), pkA sdA ss]) pk_ (fun _ => rfl) (by decide) ?_ ?_ ?_
    · intro pre p hpre lp fm rec1
      have hp2 := hmono pre p hpre
      rw [show (pre ++ [p]).map candOf = pre.map candOf ++ [candOf p] by simp]
      obtain ⟨id, iq, en, gr, pr⟩ := p
      (refine G tt_ok pk45 ?_; repeat (refine G1 tt_ok pk45 ?_; intro _))
      intro fm2 rec2
      (refine G tt_ok pk45 ?_; repeat (refine G1 tt_ok pk45 ?_; intro _))
      (refine SQ.yieldA rfl rfl (hY (pre.map candOf) (candOf (id, iq, en, gr, pr)) hp2) (by repeat (first | exact .n | exact Rm.h | exact Rm.of own_row | exact Rm.of row_close0 | apply Tk.c | apply Rm.t)) ?_; rintro _ _ (⟨rfl, rfl⟩ | ⟨rfl, rfl⟩) <;> refine w_ ?_)
      · (refine G tt_ok pk45 ?_; repeat (refine G1 tt_ok pk45 ?_; intro _))
        exact pk_
      · (refine G tt_ok pk45 ?_; repeat (refine G1 tt_ok pk45 ?_; intro _))
        exact CW.ret ⟨_, ⟨rfl, _, rfl⟩, pk_⟩
    · (refine G tt_ok pk45 ?_; repeat (refine G1 tt_ok pk45 ?_; intro _))
      refine ke rfl rfl (hread) ?_
      (refine G tt_ok pk45 ?_; repeat (refine G1 tt_ok pk45 ?_; intro _))
      refine ir_ tt_ok rfl rfl (k.toNat) (hk) rfl ?_ (hlt := hl)
      (refine G tt_ok pk45 ?_; repeat (refine G1 tt_ok pk45 ?_; intro _))
      refine lr_ tt_ok rfl rfl (rd_sdo hx) ?_
      (refine G tt_ok pk45 ?_; repeat (refine G1 tt_ok pk45 ?_; intro _))
      rw [hx] at hov
      simp only at hov
      cases hon : s.on with
      | false =>
        rw [hon, Bool.false_and] at hov
        rw [hov, if_neg (by simp)] at hcb
        rw [hcb, List.append_nil] at hcv
        (refine G tt_ok pk45 ?_; repeat (refine G1 tt_ok pk45 ?_; intro _))
        rw [← hcv]
        exact CW.ret (fin_ret rfl (A := J CV :: ([pt b2 [.pointer (some ⟨g, 0, none⟩)], pt b3 [.int .i64 k]] ++ ([pt g (gC d qc cf.length cc qs ss.length cs), rowA qc cf.length (cf.flatMap byC), rowA qs ss.length (ss.flatMap sdC), pkA sdA ss] ++ dA d D))) pk_ (.inl rfl))
      | true =>
        rw [hon, Bool.true_and] at hov
        (refine G tt_ok pk45 ?_; repeat (refine G1 tt_ok pk45 ?_; intro _))
        rw [hand2]
        cases ho1 : D.o1 with
        | false =>
          rw [ho1, Bool.false_and] at hov
          rw [hov, if_neg (by simp)] at hcb
          rw [hcb, List.append_nil] at hcv
          (refine G tt_ok pk45 ?_; repeat (refine G1 tt_ok pk45 ?_; intro _))
          rw [← hcv]
          exact CW.ret (fin_ret rfl (A := J CV :: ([pt b2 [.pointer (some ⟨g, 0, none⟩)], pt b3 [.int .i64 k]] ++ ([pt g (gC d qc cf.length cc qs ss.length cs), rowA qc cf.length (cf.flatMap byC), rowA qs ss.length (ss.flatMap sdC), pkA sdA ss] ++ dA d D))) pk_ (.inl rfl))
        | true =>
          rw [ho1, Bool.true_and] at hov
          (refine G tt_ok pk45 ?_; repeat (refine G1 tt_ok pk45 ?_; intro _))
          (refine ka rfl rfl (has) ?_; rintro _ _ ⟨rfl, rfl⟩; refine ⟨(by repeat (first | exact trivial | refine ⟨trivial, ?_⟩ | refine ⟨rr_ (fun X => (hon ▸ rd_sdo hx X)), ?_⟩ | refine ⟨wk (by repeat (first | exact .h | exact .q | apply At.t)) (by rfl), ?_⟩)), ?_⟩)
          cases hsl : asleepV D.xs k with
          | true =>
            rw [hsl] at hov
            rw [hov, if_neg (by simp)] at hcb
            rw [hcb, List.append_nil] at hcv
            (refine G tt_ok pk45 ?_; repeat (refine G1 tt_ok pk45 ?_; intro _))
            rw [← hcv]
            exact CW.ret (fin_ret rfl (A := J CV :: ([pt b2 [.pointer (some ⟨g, 0, none⟩)], pt b3 [.int .i64 k]] ++ ([pt g (gC d qc cf.length cc qs ss.length cs), rowA qc cf.length (cf.flatMap byC), rowA qs ss.length (ss.flatMap sdC), pkA sdA ss] ++ dA d D))) pk_ (.inl rfl))
          | false =>
            rw [hsl] at hov
            rw [hov, show (!false) = true from rfl, if_pos rfl] at hcb
            (refine G tt_ok pk45 ?_; repeat (refine G1 tt_ok pk45 ?_; intro _))
            (refine ka rfl rfl (hw29) ?_; rintro _ _ ⟨w1, w2, q1, c1, W, hW, hmem, rfl, rfl⟩; refine w_ ?_)
            (refine G tt_ok pk45 ?_; repeat (refine G1 tt_ok pk45 ?_; intro _))
            have hWo : setOk W := by
              rcases hW with h | ⟨s, hs, rfl⟩
              · exact h
              · exact hWk s hs
            have hI := iterW β hG w1 w2 q1 c1 hWo
            rw [hmem] at hI
            refine CW.rangeA rfl hI (by repeat (first | exact .n | exact Rm.h | apply Tk.c | apply Rm.t))
              (fun pre => [J ((D.readyV k).map candOf ++ (pre.filter (oddM cf)).map (candM cf)), pt by_ [.func (.yield l) #[] #[]], pt b2 [.pointer (some ⟨g, 0, none⟩)], pt b3 [.int .i64 k], pt g (gC d qc cf.length cc qs ss.length cs), rowA qc cf.length (cf.flatMap byC), rowA qs ss.length (ss.flatMap sdC), pkA sdA ss] ++ dA d D)
              (fun c M => c = .ret ∧ ∃ pre, M = [Jx pre, pt b2 [.pointer (some ⟨g, 0, none⟩)], pt b3 [.int .i64 k], pt g (gC d qc cf.length cc qs ss.length cs), rowA qc cf.length (cf.flatMap byC), rowA qs ss.length (ss.flatMap sdC), pkA sdA ss] ++ dA d D) ?_ (fun _ => rfl) (by decide) ?_ ?_ ?_
            · rw [List.filter_nil, List.map_nil, List.append_nil]
              exact pk_
            · intro pre id hpre lp fm rec1
              obtain ⟨j, hj, hj64, hid⟩ := hwm id (hpre.subset (by simp))
              obtain ⟨b, hb⟩ : ∃ b, cf[j]? = some b := ⟨_, List.getElem?_eq_getElem hj⟩
              have hb8 := hcf b (List.mem_of_getElem? hb)
              have hat : cfAt cf id = b := by unfold cfAt; rw [show (id - 8192).toNat = j by omega, hb]; rfl
              have hwr : IntKind.i64.wrap (id - 8192) = (j : Int) := by rw [wrap_id (by omega) (by omega)]; omega
              have hp2 : (D.readyV k).map candOf ++ ((pre ++ [id]).filter (oddM cf)).map (candM cf) <+: CV := by
                rw [hcv, hcb]
                exact List.prefix_append_right_inj _ |>.2 (map_pre _ (filter_pre _ hpre))
              have hfl : (pre ++ [id]).filter (oddM cf) = pre.filter (oddM cf) ++ if (b % 2 == 1) = true then [id] else [] := by
                rw [List.filter_append]
                congr 1
                rw [List.filter_cons, List.filter_nil, oddM, hat]
              rw [hfl] at hp2 ⊢
              (refine G tt_ok pk45 ?_; repeat (refine G1 tt_ok pk45 ?_; intro _))
              intro fm2 rec2
              (refine G tt_ok pk45 ?_; repeat (refine G1 tt_ok pk45 ?_; intro _))
              rw [hwr]
              refine ir_ tt_ok rfl rfl (j) (rfl) rfl ?_ (hlt := hj)
              (refine G tt_ok pk45 ?_; repeat (refine G1 tt_ok pk45 ?_; intro _))
              refine lr_ tt_ok rfl rfl (by_rdX hb) ?_
              (refine G tt_ok pk45 ?_; repeat (refine G1 tt_ok pk45 ?_; intro _))
              rw [and1_8 b hb8]
              cases ho : (b % 2 == 1) with
              | false =>
                simp only [ho, Bool.false_eq_true, if_false, List.append_nil] at hp2 ⊢
                (refine G tt_ok pk45 ?_; repeat (refine G1 tt_ok pk45 ?_; intro _))
                exact pk_
              | true =>
                simp only [ho, if_true, List.map_append, List.map_cons, List.map_nil] at hp2 ⊢
                rw [← List.append_assoc] at hp2 ⊢
                rw [show candM cf id = (id, andI (b : Int) 248, 1, true) by unfold candM; rw [hat]] at hp2 ⊢
                (refine G tt_ok pk45 ?_; repeat (refine G1 tt_ok pk45 ?_; intro _))
                rw [show IntKind.i64.wrap ((b : Nat) : Int) = (b : Int) from wrap_id (by omega) (by omega)]
                refine ke rfl rfl (real48 β b) ?_
                (refine G tt_ok pk45 ?_; repeat (refine G1 tt_ok pk45 ?_; intro _))
                (refine SQ.yieldA rfl rfl (hY ((D.readyV k).map candOf ++ (pre.filter (oddM cf)).map (candM cf)) (id, andI (b : Int) 248, 1, true) hp2) (by repeat (first | exact .n | exact Rm.h | exact Rm.of own_row | exact Rm.of row_close0 | apply Tk.c | apply Rm.t)) ?_; rintro _ _ (⟨rfl, rfl⟩ | ⟨rfl, rfl⟩) <;> refine w_ ?_)
                · (refine G tt_ok pk45 ?_; repeat (refine G1 tt_ok pk45 ?_; intro _))
                  exact pk_
                · (refine G tt_ok pk45 ?_; repeat (refine G1 tt_ok pk45 ?_; intro _))
                  exact CW.ret ⟨_, ⟨rfl, _, rfl⟩, pk_⟩
            · rw [← hcb, ← hcv]
              exact fin_normal (vs := []) rfl (A := J CV :: ([pt b2 [.pointer (some ⟨g, 0, none⟩)], pt b3 [.int .i64 k]] ++ ([pt g (gC d qc cf.length cc qs ss.length cs), rowA qc cf.length (cf.flatMap byC), rowA qs ss.length (ss.flatMap sdC), pkA sdA ss] ++ dA d D))) pk_ (.inl rfl)
            · rintro c M ⟨rfl, pre, rfl⟩
              refine CW.ret ?_
              exact fin_ret rfl (A := Jx pre :: ([pt b2 [.pointer (some ⟨g, 0, none⟩)], pt b3 [.int .i64 k]] ++ ([pt g (gC d qc cf.length cc qs ss.length cs), rowA qc cf.length (cf.flatMap byC), rowA qs ss.length (ss.flatMap sdC), pkA sdA ss] ++ dA d D))) pk_ (.inr ⟨pre, rfl⟩)
    · rintro c M ⟨rfl, pre, rfl⟩
      refine CW.ret ?_
      exact fin_ret rfl (A := Jx pre :: ([pt b2 [.pointer (some ⟨g, 0, none⟩)], pt b3 [.int .i64 k]] ++ ([pt g (gC d qc cf.length cc qs ss.length cs), rowA qc cf.length (cf.flatMap byC), rowA qs ss.length (ss.flatMap sdC), pkA sdA ss] ++ dA d D))) pk_ (.inr ⟨pre, rfl⟩)
theorem waits_mem {R : RS} {G : GS} (ok : OkG R G) {k id : Int} (h : id ∈ G.waitsV k) : ∃ j : Nat, j < G.cf.length ∧ j < 64 ∧ id = ((8192 + j : Nat) : Int) := waits_memN ok.n h
end Go.Proofs.YtebpodnbalfomaaGreatDoor.Sl
namespace Go.Proofs.YtebpodnbalfomaaGreatDoor.Sl
open Go Go.RowKit Go.Proofs Go.Sort
set_option linter.unusedVariables false
set_option linter.unusedSimpArgs false
theorem Tri.ofCalls {P : Program} {β : Base} {g : FuncId} {args : List Value} {A : List Atom} {R : Value → List Atom → Prop} (he : Enters P g)
    (h : ∀ F w, Sat β w (F ++ A) → Calls P g args.toArray w fun e w' => ∃ v A', e = .returned v ∧ Sat β w' (F ++ A') ∧ R v A') : Tri P β g args A R :=
  ⟨he, fun F n w s => callsIn_wide.2 (h F w s)⟩
theorem flat_ix {α : Type} [Inhabited α] {enc : α → List Value} {k : Nat} (hk : ∀ x, (enc x).length = k) (d : Array α) (t : Nat) (h : t < d.size * k) : (d.toList.flatMap enc)[t]? = some (flatK enc k d)[t]! := by
  have hk0 : 0 < k := Nat.pos_of_ne_zero fun e => by subst e; omega
  have hq : t / k < d.size := Nat.div_lt_of_lt_mul (by rw [Nat.mul_comm]; exact h)
  have hm : t % k < k := Nat.mod_lt _ hk0
  rw [get_flatK _ _ _ _ h]
  have e : d.toList[t / k]? = some d[t / k]! := by rw [Array.getElem?_toList, Array.getElem?_eq_getElem hq, getElem!_pos d _ hq]
  have := congrArg (·[t % k]?) (flatE_at hk e)
  simp only [List.getElem?_take_of_lt hm, List.getElem?_drop] at this
  rw [show t / k * k + t % k = t by rw [Nat.mul_comm]; exact Nat.div_add_mod t k] at this
  rw [this, List.getElem?_eq_getElem (by rw [hk]; exact hm), getElem!_pos (enc _) _ (by rw [hk]; exact hm)]
/-- From a contract to a call, with the count of draws. -/
theorem Tri.callsB {P : Program} {W : World} {g : FuncId} {args : List Value} {R : Value → List Atom → Prop} (h : Tri P W g args [] R) : Calls P g args.toArray W fun e w' => ∃ v A', e = .returned v ∧ Bel W w' ∧ R v A' := by
  have s0 : Sat W W ([] ++ []) := ⟨⟨Below.refl _ _, Nat.le_refl _⟩, Hp.emp, rfl, fun b o e => by simp [Hp.emp] at e⟩
  exact (callsIn_wide.1 (h.2 [] 0 W s0)).mono fun e w' ⟨v, A', he, hs, hr⟩ => ⟨v, A', he, hs.1, hr⟩
theorem Tri.monoE {P : Program} {β : Base} {g : FuncId} {args : List Value} {A : List Atom} {R R' : Value → List Atom → Prop} (h : Tri P β g args A R) (hr : ∀ v L, R v L → ∃ L', Ent L L' ∧ R' v L') : Tri P β g args A R' :=
  ⟨h.1, fun F n w s => (h.2 F n w s).mono fun e w' ⟨v, A', he, hs, r⟩ => let ⟨L', hE, r'⟩ := hr v A' r; ⟨v, L', he, hs.ent (Ent.append (Ent.refl F) hE), r'⟩⟩
theorem Sat.grow {β : Base} {w : World} {L : List Atom} (s : Sat β w L) (os : Array Obj) : Sat β (Go.Sort.grow w os) L := by
  obtain ⟨hb, h, st, hw⟩ := s
  refine ⟨⟨⟨hb.os, hb.tape, hb.output, ?_, fun k hk => ?_⟩, hb.dr⟩, h, st, fun b o e => ⟨(hw b o e).1, ?_⟩⟩
  · have := hb.size
    show β.heap.size ≤ (w.heap ++ os).size
    simp only [Array.size_append]; omega
  · have hs := hb.size
    show (w.heap ++ os)[k]? = _
    rw [Array.getElem?_append_left (by omega)]
    exact hb.block k hk
  · have := (hw b o e).2
    show (w.heap ++ os)[b]? = _
    rw [Array.getElem?_append_left (Array.getElem?_eq_some_iff.1 this).1]
    exact this
/-- A row of the call's own holds what it holds. -/
theorem Sat.holdsK {α : Type} [Inhabited α] {β : Base} {w : World} {L : List Atom} {enc : α → List Value} {k b : Nat} {d : Array α} {rest : List Value} (s : Sat β w (pt b (d.toList.flatMap enc ++ rest) :: L)) (hk : ∀ x, (enc x).length = k) :
    HoldsK enc k w b 0 d ∧ b < w.heap.size := by
  obtain ⟨_, t, ht⟩ := s.cell_pt (i := 0) rfl
  refine ⟨fun j hj => ⟨?_, ?_⟩, (Array.getElem?_eq_some_iff.1 ht).1⟩
  · rw [size_flatK] at hj
    simp only [World.cell?, ht]
    have h := flat_ix hk d j hj
    simp only [Option.isSome_none, Bool.false_eq_true, if_false, List.getElem?_toArray, Nat.zero_add, id]
    rw [List.getElem?_append_left (by rw [flatE_len hk, Array.length_toList]; exact hj)]
    exact h
  · simp only [World.frozen?, ht]
    simp
/-- A row that has been sorted, of what it held. -/
theorem Sat.sorted {α : Type} [Inhabited α] {β : Base} {w : World} {L : List Atom} {enc : α → List Value} {k b : Nat} {d d' : Array α} {rest : List Value} (s : Sat β w (pt b (d.toList.flatMap enc ++ rest) :: L)) (hk : ∀ x, (enc x).length = k) (hs : d'.size = d.size) (m : Nat) (os : Array Obj) :
    Sat β (sortWorldK enc k w b 0 m d' os) (pt b (d'.toList.flatMap enc ++ rest) :: L) := by
  unfold sortWorldK
  refine Sat.grow ?_ os
  have hl : (d'.toList.flatMap enc ++ rest).toArray = putCells id 0 (flatK enc k d') (d.toList.flatMap enc ++ rest).toArray := by
    apply Array.ext_getElem?
    intro t
    unfold putCells
    rw [Array.getElem?_mapIdx, List.getElem?_toArray, List.getElem?_toArray, size_flatK]
    simp only [Nat.zero_le, true_and, Nat.zero_add, Nat.sub_zero, id]
    by_cases h : t < d'.size * k
    · rw [List.getElem?_append_left (by rw [flatE_len hk, Array.length_toList]; exact h), flat_ix hk d' t h, List.getElem?_append_left (by rw [flatE_len hk, Array.length_toList, ← hs]; exact h), flat_ix hk d t (by rw [← hs]; exact h)]
      simp [h]
    · rw [List.getElem?_append_right (by rw [flatE_len hk, Array.length_toList]; omega), List.getElem?_append_right (by rw [flatE_len hk, Array.length_toList, ← hs]; omega), flatE_len hk, flatE_len hk, Array.length_toList, Array.length_toList, hs]
      simp [hs ▸ h]
  obtain ⟨hb, h, ⟨h1, h2, ⟨t, rfl⟩, st, dj, rfl⟩, hw⟩ := s
  have s' : Sat β w ((fun h => h = Hp.one b (.cells (d.toList.flatMap enc ++ rest).toArray t (0, 0))) :: L) := ⟨hb, _, ⟨_, h2, rfl, st, dj, rfl⟩, hw⟩
  refine Sat.update s' (o' := .cells (d'.toList.flatMap enc ++ rest).toArray t (0, 0)) ⟨t, rfl⟩ (fun j => ?_) ?_ rfl rfl rfl (Nat.le_add_right _ _)
  · have hb2 : w.heap[b]? = some (.cells (d.toList.flatMap enc ++ rest).toArray t (0, 0)) := (hw b _ (by simp [Hp.add, Hp.one])).2
    show (w.heap.modify b (onCells (putCells id 0 (flatK enc k d'))))[j]? = _
    rw [Array.getElem?_modify]
    by_cases e : b = j
    · subst e
      rw [if_pos rfl, if_pos rfl, hb2, hl]
      rfl
    · rw [if_neg e, if_neg (fun h => e h.symm)]
  · show (w.heap.modify b (onCells (putCells id 0 (flatK enc k d')))).size = _
    simp
end Go.Proofs.YtebpodnbalfomaaGreatDoor.Sl
namespace Go.Proofs.YtebpodnbalfomaaGreatDoor.Sl
open Go Go.RowKit Go.Proofs Go.Shelf Go.Lib Go.Sort
set_option linter.unusedVariables false
set_option linter.unusedSimpArgs false
def sortCd_ren : Go.Shelf.Ren := ⟨fun | 6 => 41 | 15 => 112 | 14 => 111 | 28 => 190 | 29 => 191 | 20 => 182 | 21 => 183 | 22 => 184 | 23 => 185 | 24 => 186 | 25 => 187 | 26 => 188 | 27 => 189 | 46 => 237 | 47 => 238 | 48 => 239 | 49 => 240 | 50 => 241 | 57 => 251 | n => n, fun | 22 => 27 | 24 => 34 | 25 => 105 | 3 => 3 | 39 => 45 | 0 => 0 | 53 => 64 | 55 => 44 | 4 => 4 | 46 => 257 | 45 => 256 | 50 => 141 | 5 => 5 | 9 => 9 | 66 => 297 | 70 => 301 | 76 => 309 | 77 => 72 | n => n, fun | n => n⟩
theorem sortCd : Go.Proofs.SlLaysF0.n6 Tryz.prog sortCd_ren := {
  mixed := by kernel_rfl
  f6 := ⟨Tryz.f41.name, by decide, Tryz.func41.trans (congrArg some (by kernel_rfl))⟩
  f14 := ⟨Tryz.f111.name, by decide, Tryz.func111.trans (congrArg some (by kernel_rfl))⟩
  f15 := Tryz.func112.trans (congrArg some (by kernel_rfl))
  f20 := ⟨Tryz.f182.name, by decide, Tryz.func182.trans (congrArg some (by kernel_rfl))⟩
  f21 := ⟨Tryz.f183.name, by decide, Tryz.func183.trans (congrArg some (by kernel_rfl))⟩
  f22 := ⟨Tryz.f184.name, by decide, Tryz.func184.trans (congrArg some (by kernel_rfl))⟩
  f23 := ⟨Tryz.f185.name, by decide, Tryz.func185.trans (congrArg some (by kernel_rfl))⟩
  f24 := ⟨Tryz.f186.name, by decide, Tryz.func186.trans (congrArg some (by kernel_rfl))⟩
  f25 := ⟨Tryz.f187.name, by decide, Tryz.func187.trans (congrArg some (by kernel_rfl))⟩
  f26 := ⟨Tryz.f188.name, by decide, Tryz.func188.trans (congrArg some (by kernel_rfl))⟩
  f27 := ⟨Tryz.f189.name, by decide, Tryz.func189.trans (congrArg some (by kernel_rfl))⟩
  f28 := Tryz.func190.trans (congrArg some (by kernel_rfl))
  f29 := Tryz.func191.trans (congrArg some (by kernel_rfl))
  f46 := ⟨Tryz.f237.name, by decide, Tryz.func237.trans (congrArg some (by kernel_rfl))⟩
  f47 := Tryz.func238.trans (congrArg some (by kernel_rfl))
  f48 := Tryz.func239.trans (congrArg some (by kernel_rfl))
  f49 := ⟨Tryz.f240.name, by decide, Tryz.func240.trans (congrArg some (by kernel_rfl))⟩
  f50 := ⟨Tryz.f241.name, by decide, Tryz.func241.trans (congrArg some (by kernel_rfl))⟩
  f57 := ⟨Tryz.f251.name, by decide, Tryz.func251.trans (congrArg some (by kernel_rfl))⟩
  t0 := Tryz.underlying0
  a0 := Tryz.isAgg0
  z0 := Tryz.sizeOf0
  v0 := Tryz.zeroValue0
  t3 := Tryz.underlying3
  a3 := Tryz.isAgg3
  z3 := Tryz.sizeOf3
  v3 := Tryz.zeroValue3
  t4 := Tryz.underlying4
  a4 := Tryz.isAgg4
  z4 := Tryz.sizeOf4
  v4 := Tryz.zeroValue4
  t5 := Tryz.underlying5
  a5 := Tryz.isAgg5
  z5 := Tryz.sizeOf5
  v5 := Tryz.zeroValue5
  t9 := Tryz.underlying9
  a9 := Tryz.isAgg9
  z9 := Tryz.sizeOf9
  v9 := Tryz.zeroValue9
  t22 := Tryz.underlying27
  a22 := Tryz.isAgg27
  z22 := Tryz.sizeOf27
  v22 := Tryz.zeroValue27
  t25 := Tryz.underlying105
  a25 := Tryz.isAgg105
  z25 := Tryz.sizeOf105
  v25 := Tryz.zeroValue105
  t39 := Tryz.underlying45
  a39 := Tryz.isAgg45
  z39 := Tryz.sizeOf45
  v39 := Tryz.zeroValue45
  t45 := Tryz.underlying256
  a45 := Tryz.isAgg256
  z45 := Tryz.sizeOf256
  v45 := Tryz.zeroValue256
  t46 := Tryz.underlying257
  a46 := Tryz.isAgg257
  z46 := Tryz.sizeOf257
  v46 := Tryz.zeroValue257
  t50 := Tryz.underlying141
  a50 := Tryz.isAgg141
  z50 := Tryz.sizeOf141
  v50 := Tryz.zeroValue141
  t53 := Tryz.underlying64
  a53 := Tryz.isAgg64
  z53 := Tryz.sizeOf64
  v53 := Tryz.zeroValue64
  t55 := Tryz.underlying44
  a55 := Tryz.isAgg44
  z55 := Tryz.sizeOf44
  v55 := Tryz.zeroValue44
  t66 := Tryz.underlying297
  a66 := Tryz.isAgg297
  z66 := Tryz.sizeOf297
  v66 := Tryz.zeroValue297
  t70 := Tryz.underlying301
  a70 := Tryz.isAgg301
  z70 := Tryz.sizeOf301
  v70 := Tryz.zeroValue301
  t76 := Tryz.underlying309
  a76 := Tryz.isAgg309
  z76 := Tryz.sizeOf309
  v76 := Tryz.zeroValue309
  t77 := Tryz.underlying72
  a77 := Tryz.isAgg72
  z77 := Tryz.sizeOf72
  v77 := Tryz.zeroValue72 }
def bitsLenL_ren : Go.Shelf.Ren := ⟨fun | 125 => 112 | 128 => 190 | 129 => 191 | n => n, fun | 46 => 45 | 3 => 3 | 51 => 64 | 53 => 44 | 4 => 4 | 5 => 5 | 9 => 9 | n => n, fun | n => n⟩
theorem bitsLenL : Go.Proofs.Lays.n125 Tryz.prog bitsLenL_ren := {
  mixed := by kernel_rfl
  f125 := Tryz.func112.trans (congrArg some (by kernel_rfl))
  f128 := Tryz.func190.trans (congrArg some (by kernel_rfl))
  f129 := Tryz.func191.trans (congrArg some (by kernel_rfl))
  t3 := Tryz.underlying3
  a3 := Tryz.isAgg3
  z3 := Tryz.sizeOf3
  v3 := Tryz.zeroValue3
  t4 := Tryz.underlying4
  a4 := Tryz.isAgg4
  z4 := Tryz.sizeOf4
  v4 := Tryz.zeroValue4
  t5 := Tryz.underlying5
  a5 := Tryz.isAgg5
  z5 := Tryz.sizeOf5
  v5 := Tryz.zeroValue5
  t9 := Tryz.underlying9
  a9 := Tryz.isAgg9
  z9 := Tryz.sizeOf9
  v9 := Tryz.zeroValue9
  t46 := Tryz.underlying45
  a46 := Tryz.isAgg45
  z46 := Tryz.sizeOf45
  v46 := Tryz.zeroValue45
  t51 := Tryz.underlying64
  a51 := Tryz.isAgg64
  z51 := Tryz.sizeOf64
  v51 := Tryz.zeroValue64
  t53 := Tryz.underlying44
  a53 := Tryz.isAgg44
  z53 := Tryz.sizeOf44
  v53 := Tryz.zeroValue44 }
end Go.Proofs.YtebpodnbalfomaaGreatDoor.Sl
namespace Go.Proofs.YtebpodnbalfomaaGreatDoor.Sl
open Go Go.RowKit Go.Proofs Go.Shelf Go.Lib Go.Sort
set_option linter.unusedVariables false
set_option linter.unusedSimpArgs false
attribute [local irreducible] CW Tri OW
set_option maxRecDepth 10000
@[reducible] def pk113 : List (Nat × Plan) := []
@[reducible] def pk44 : List (Nat × Plan) := []
@[reducible] def pk43 : List (Nat × Plan) := []
@[reducible] def pk42 : List (Nat × Plan) := [(1, [(0, 0, []), (1, 0, []), (2, 0, []), (3, 0, []), (5, 0, []), (6, 0, []), (7, 0, []), (8, 0, []), (4, 1, [1, 3, 6, 8]), (9, 1, [1, 3, 6, 8]), (10, 1, [1, 3, 6, 8]), (11, 1, [1, 3, 6, 8]), (12, 0, [])])]
theorem isNaN113 (β : Base) (x : Int) : Tri Tryz.prog β 113 [.int .i64 x] [] (fun v L => v = .bool false ∧ L = []) := by
  refine Tri.intro tt_ok Tryz.func113 rfl rfl Tryz.ntmps113 rfl fun F => ?_
  refine G tt_ok pk113 ?_
  rw [show (x != x) = false by simp]
  exact CW.ret (fin_ret rfl (Ent.refl _) ⟨rfl, rfl⟩)
theorem compare44 (β : Base) (x y : Int) : Tri Tryz.prog β 44 [.int .i64 x, .int .i64 y] [] (fun v L => v = .int .i64 (Lib.compareInt x y) ∧ L = []) := by
  refine Tri.intro tt_ok Tryz.func44 rfl rfl Tryz.ntmps44 rfl fun F => ?_
  refine G tt_ok pk44 ?_
  refine ke rfl rfl (isNaN113 β x) ?_
  refine G tt_ok pk44 ?_
  refine ke rfl rfl (isNaN113 β y) ?_
  refine G tt_ok pk44 ?_
  unfold Lib.compareInt
  by_cases h : x < y
  · rw [decide_eq_true h, if_pos h]
    refine G tt_ok pk44 ?_
    exact CW.ret (fin_ret rfl (Ent.refl _) ⟨rfl, rfl⟩)
  · rw [decide_eq_false h, if_neg h]
    refine G tt_ok pk44 ?_
    by_cases h2 : x > y
    · rw [decide_eq_true h2, if_pos h2]
      refine G tt_ok pk44 ?_
      exact CW.ret (fin_ret rfl (Ent.refl _) ⟨rfl, rfl⟩)
    · rw [decide_eq_false h2, if_neg h2]
      refine G tt_ok pk44 ?_
      exact CW.ret (fin_ret rfl (Ent.refl _) ⟨rfl, rfl⟩)
theorem or43 (β : Base) (b : Nat) (x y : Int) : Tri Tryz.prog β 43 [.slice (some ⟨b, 0, none⟩) 2 2] [pt b [.int .i64 x, .int .i64 y]] (fun v L => v = .int .i64 (if x = 0 then y else x) ∧ L = [pt b [.int .i64 x, .int .i64 y]]) := by
  refine Tri.intro tt_ok Tryz.func43 rfl rfl Tryz.ntmps43 rfl fun F => ?_
  refine G tt_ok pk43 ?_
  refine CW.loop (α := Nat) (fun k => k ≤ 2 ∧ (1 ≤ k → x = 0) ∧ (k = 2 → y = 0)) (fun k => [(8, .int .i64 k), (7, .int .i64 2), (6, .slice (some ⟨b, 0, none⟩) 2 2), (3, .int .i64 0)]) (fun k => [pt b [.int .i64 x, .int .i64 y]]) (fun k => 2 - k) 0 ⟨by omega, by omega, by omega⟩ ⟨rfl, rfl, rfl, rfl, trivial⟩ pk_ ?_
  rintro k ⟨hk, e0, e1⟩
  have h3 : k = 0 ∨ k = 1 ∨ k = 2 := by omega
  rcases h3 with rfl | rfl | rfl
  · rw [show ((0 : Nat) : Int) = 0 from rfl]
    refine G tt_ok pk43 ?_
    refine SQ.idx tt_ok rfl rfl 0 rfl (by decide) (o' := 0) rfl ?_
    refine G tt_ok pk43 ?_
    by_cases hx : x = 0
    · subst hx
      rw [show ((0 : Int) != 0) = false from rfl]
      refine G tt_ok pk43 ?_
      exact ⟨1, ⟨by omega, fun _ => rfl, by omega⟩, by omega, ⟨rfl, rfl, rfl, rfl, trivial⟩, pk_⟩
    · rw [show (x != 0) = true by simpa using hx, if_neg hx]
      refine G tt_ok pk43 ?_
      exact CW.ret (fin_ret rfl pk_ ⟨rfl, rfl⟩)
  · have hx := e0 (by omega)
    subst hx
    rw [show ((1 : Nat) : Int) = 1 from rfl, if_pos rfl]
    refine G tt_ok pk43 ?_
    refine SQ.idx tt_ok rfl rfl 1 rfl (by decide) (o' := 1) rfl ?_
    refine G tt_ok pk43 ?_
    by_cases hy : y = 0
    · subst hy
      rw [show ((0 : Int) != 0) = false from rfl]
      refine G tt_ok pk43 ?_
      exact ⟨2, ⟨by omega, fun _ => rfl, fun _ => rfl⟩, by omega, ⟨rfl, rfl, rfl, rfl, trivial⟩, pk_⟩
    · rw [show (y != 0) = true by simpa using hy]
      refine G tt_ok pk43 ?_
      exact CW.ret (fin_ret rfl pk_ ⟨rfl, rfl⟩)
  · have hx := e0 (by omega)
    have hy := e1 rfl
    subst hx
    subst hy
    rw [show ((2 : Nat) : Int) = 2 from rfl, if_pos rfl]
    refine G tt_ok pk43 ?_
    refine CW.exit ?_
    refine G tt_ok pk43 ?_
    exact CW.ret (fin_ret rfl pk_ ⟨rfl, rfl⟩)
/-- What the order's closure compares. -/
def cmpV (a b : Cd) : Int := if Lib.compareInt a.2.1 b.2.1 = 0 then Lib.compareInt a.1 b.1 else Lib.compareInt a.2.1 b.2.1
@[reducible] def encC (c : Cd) : List Value := [.int .i64 c.1, .int .i64 c.2.1, .int .i64 c.2.2.1, .bool c.2.2.2]
set_option maxHeartbeats 4000000 in
theorem closure42 (β : Base) (a b : Cd) : Tri Tryz.prog β 42 [.agg #[.int .i64 a.1, .int .i64 a.2.1, .int .i64 a.2.2.1, .bool a.2.2.2], .agg #[.int .i64 b.1, .int .i64 b.2.1, .int .i64 b.2.2.1, .bool b.2.2.2]] [] (fun v L => v = .int .i64 (cmpV a b) ∧ L = []) := by
  obtain ⟨i1, p1, g1, s1⟩ := a
  obtain ⟨i2, p2, g2, s2⟩ := b
  refine Tri.intro tt_ok Tryz.func42 rfl rfl Tryz.ntmps42 rfl fun F => ?_
  unfold cmpV
  simp only
  have h1 := compare44 β p1 p2
  have h2 := compare44 β i1 i2
  generalize Lib.compareInt p1 p2 = r1 at h1 ⊢
  generalize Lib.compareInt i1 i2 = r2 at h2 ⊢
  (refine G tt_ok pk42 ?_; repeat (refine G1 tt_ok pk42 ?_; intro _))
  refine ke rfl rfl (h1) ?_
  (refine G tt_ok pk42 ?_; repeat (refine G1 tt_ok pk42 ?_; intro _))
  refine ke rfl rfl (h2) ?_
  (refine G tt_ok pk42 ?_; repeat (refine G1 tt_ok pk42 ?_; intro _))
  refine SQ.built tt_ok rfl rfl (fun ob => w_ ?_)
  (refine G tt_ok pk42 ?_; repeat (refine G1 tt_ok pk42 ?_; intro _))
  refine ke rfl rfl (or43 β ob r1 r2) ?_
  (refine G tt_ok pk42 ?_; repeat (refine G1 tt_ok pk42 ?_; intro _))
  exact CW.ret (fin_ret rfl (A := []) (Ent.dropAll _) ⟨rfl, rfl⟩)
theorem grown_of {W w' : World} (h : Bel W w') : ∃ q os', w' = Go.Sort.grow (W.drewN q) os' := by
  refine ⟨w'.drawn - W.drawn, w'.heap.extract W.heap.size w'.heap.size, ?_⟩
  have hh : w'.heap = W.heap ++ w'.heap.extract W.heap.size w'.heap.size := by
    apply Array.ext_getElem?
    intro k
    have hs := h.size
    by_cases hk : k < W.heap.size
    · rw [Array.getElem?_append_left hk, h.block k hk]
    · rw [Array.getElem?_append_right (by omega), Array.getElem?_extract]
      split
      · rw [show W.heap.size + (k - W.heap.size) = k by omega]
      · rw [Array.getElem?_eq_none (by omega)]
  have ho := h.os
  have ht := h.tape
  have hu := h.output
  have hd := h.dr
  obtain ⟨heap, tape, drawn, os, output⟩ := w'
  obtain ⟨heap2, tape2, drawn2, os2, output2⟩ := W
  simp only at ho ht hu hd hh
  subst ho ht hu
  unfold Go.Sort.grow World.drewN
  simp only
  congr 1
  omega
theorem cmpLays42 (blk off size : Nat) (w : World) : CmpLays Tryz.prog 42 #[] encC 4 cmpV blk off size w := fun m os dk hs x y =>
  (closure42 (sortWorldK encC 4 w blk off m dk os) x y).callsB.mono fun e w' ⟨v, A', he, hs, hv, _⟩ => ⟨by rw [he, hv], grown_of hs⟩
theorem ltOf_cmp (a b : Cd) : ltOf cmpV a b = ltC a b := by
  rw [Bool.eq_iff_iff, ltC_iff]
  unfold ltOf cmpV Lib.compareInt
  simp only [decide_eq_true_eq]
  by_cases h1 : a.2.1 < b.2.1
  · simp [h1]
  · by_cases h2 : a.2.1 > b.2.1
    · simp [h1, h2]; omega
    · have e : a.2.1 = b.2.1 := by omega
      by_cases h3 : a.1 < b.1
      · simp [e, h3]
      · by_cases h4 : a.1 > b.1
        · simp [e, h3, h4]
        · simp [e, h3, h4]
theorem swoC : SWO (ltOf cmpV) where
  irrefl x := by rw [ltOf_cmp, ltC_not]; omega
  trans x y z h1 h2 := by rw [ltOf_cmp, ltC_iff] at *; omega
  ntrans x y z h1 h2 := by rw [ltOf_cmp, ltC_not] at *; omega
end Go.Proofs.YtebpodnbalfomaaGreatDoor.Sl
namespace Go.Proofs.YtebpodnbalfomaaGreatDoor.Sl
open Go Go.RowKit Go.Proofs
set_option linter.unusedVariables false
set_option linter.unusedSimpArgs false
attribute [local irreducible] CW Tri OW
set_option maxRecDepth 10000
@[reducible] def pk110 : List (Nat × Plan) := []
theorem flat_snoc {α : Type} (enc : α → List Value) (l : List α) (x : α) : (l ++ [x]).flatMap enc = l.flatMap enc ++ enc x := by simp
set_option maxHeartbeats 4000000 in
/-- The candidates that a loop goes through. -/
theorem append110 (β : Base) {gf : Nat} {cap : Array Value} {A : List Atom} {cs : List Cd} (hI : Iter Tryz.prog β gf cap.toList A cdC cs) (hl : cs.length ≤ 1000) :
    Tri Tryz.prog β 110 [.slice none 0 0, .func (.func gf) #[] cap] A (fun v L => ∃ q c, v = .slice q cs.length c ∧ L = rowA q cs.length (cs.flatMap encC) :: A) := by
  refine Tri.intro tt_ok Tryz.func110 rfl rfl Tryz.ntmps110 rfl fun F => ?_
  (refine G tt_ok pk110 ?_; repeat (refine G1 tt_ok pk110 ?_; intro _))
  rename_i b3
  refine CW.ent (L' := A ++ [exA fun x : Option Addr × Nat => [pt b3 [.slice x.1 0 x.2], own 34 4 (.slice x.1 0 x.2) 0 []]]) ?_ ?_
  · refine Ent.trans ?_ (Ent.perm List.perm_append_comm)
    refine Ent.trans (own_nil 34 4) ?_
    exact Ent.append (L := [own 34 4 (.slice none 0 0) 0 [], pt b3 [.slice none 0 0]]) (L' := [exA fun x : Option Addr × Nat => [pt b3 [.slice x.1 0 x.2], own 34 4 (.slice x.1 0 x.2) 0 []]]) (M := A) (M' := A)
      ((Ent.perm (List.Perm.swap _ _ _)).trans (Ent.exA (f := fun x : Option Addr × Nat => [pt b3 [.slice x.1 0 x.2], own 34 4 (.slice x.1 0 x.2) 0 []]) (none, 0))) (Ent.refl _)
  refine CW.rangeFunc rfl hI (List.replicate A.length 0) (sel_front A)
    (fun pre => [exA fun x : Option Addr × Nat => [pt b3 [.slice x.1 pre.length x.2], own 34 4 (.slice x.1 pre.length x.2) pre.length (pre.flatMap encC)]])
    (fun _ _ => False) (Ent.refl _) (fun _ => rfl) (by decide) ?_ ?_ (fun _ _ h => h.elim)
  · intro pre p hpre lp fm rec1
    have hpl : pre.length < 1000 := by have := hpre.length_le; simp at this; omega
    refine CW.open_ fun x => ?_
    obtain ⟨q, c⟩ := x
    (refine G tt_ok pk110 ?_; repeat (refine G1 tt_ok pk110 ?_; intro _))
    intro fm2 rec2
    (refine G tt_ok pk110 ?_; repeat (refine G1 tt_ok pk110 ?_; intro _))
    (refine SQ.built tt_ok rfl rfl (fun _ => w_ ?_))
    (refine G tt_ok pk110 ?_; repeat (refine G1 tt_ok pk110 ?_; intro _))
    (refine SQ.appA tt_ok rfl rfl (by repeat (first | exact Rm.h | apply Rm.t)) (by repeat (first | exact .h | exact .q | apply At.t)) (encC p) rfl rfl rfl (scal_eq rfl) (by omega) (by show (pre.length + 1) * 32 ≤ _; omega) (fun q2 c2 => w_ ?_))
    (refine G tt_ok pk110 ?_; repeat (refine G1 tt_ok pk110 ?_; intro _))
    refine Ent.trans ?_ (Ent.append (L' := [exA fun x : Option Addr × Nat => [pt b3 [.slice x.1 (pre ++ [p]).length x.2], own 34 4 (.slice x.1 (pre ++ [p]).length x.2) (pre ++ [p]).length ((pre ++ [p]).flatMap encC)]]) (M := A) (M' := A) (Ent.exA (f := fun x : Option Addr × Nat => [pt b3 [.slice x.1 (pre ++ [p]).length x.2], own 34 4 (.slice x.1 (pre ++ [p]).length x.2) (pre ++ [p]).length ((pre ++ [p]).flatMap encC)]) (q2, c2)) (Ent.refl _))
    rw [show (pre ++ [p]).length = pre.length + 1 by simp, flat_snoc]
    exact Ent.append (L := [_, _, _, _]) (L' := [pt b3 [.slice q2 (pre.length + 1) c2], own 34 4 (.slice q2 (pre.length + 1) c2) (pre.length + 1) (pre.flatMap encC ++ encC p)]) (M := A) (Ent.sel (is := [3, 0]) rfl) (Ent.refl A)
  · refine CW.open_ fun x => ?_
    obtain ⟨q, c⟩ := x
    (refine G tt_ok pk110 ?_; repeat (refine G1 tt_ok pk110 ?_; intro _))
    refine CW.ret (fin_ret rfl (A := rowA q cs.length (cs.flatMap encC) :: A) (Ent.append (L := [pt b3 [.slice q cs.length c], own 34 4 (.slice q cs.length c) cs.length (cs.flatMap encC)]) (L' := [rowA q cs.length (cs.flatMap encC)]) (M := A) (Ent.trans (Ent.sel (is := [1]) rfl) own_row) (Ent.refl A)) ?_)
    exact ⟨q, c, rfl, rfl⟩
end Go.Proofs.YtebpodnbalfomaaGreatDoor.Sl
namespace Go.Proofs.YtebpodnbalfomaaGreatDoor.Sl
open Go Go.RowKit Go.Proofs Go.Shelf Go.Lib Go.Sort
set_option linter.unusedVariables false
set_option linter.unusedSimpArgs false
attribute [local irreducible] CW Tri OW
set_option maxRecDepth 10000
@[reducible] def pk182 : List (Nat × Plan) := [(4, [(0, 0, []), (1, 0, []), (2, 0, []), (3, 0, []), (4, 0, []), (5, 0, []), (6, 0, []), (7, 0, []), (8, 0, []), (9, 0, []), (10, 0, []), (11, 0, []), (12, 0, []), (13, 0, []), (14, 1, []), (15, 0, []), (16, 0, [])]), (6, [(0, 0, []), (1, 0, []), (2, 0, []), (3, 0, []), (4, 0, []), (5, 0, []), (6, 0, []), (7, 0, []), (8, 0, []), (9, 0, []), (10, 0, []), (11, 0, []), (12, 0, []), (13, 0, []), (14, 0, []), (15, 1, []), (16, 0, []), (17, 1, [])])]
@[reducible] def pk111 : List (Nat × Plan) := [(17, [(0, 0, []), (1, 0, []), (2, 0, []), (3, 0, []), (4, 0, []), (5, 0, []), (6, 0, []), (7, 0, []), (8, 0, []), (9, 0, []), (10, 0, []), (11, 0, []), (12, 0, []), (13, 1, []), (14, 0, []), (15, 0, []), (16, 0, [])])]
@[reducible] def pk41 : List (Nat × Plan) := []
theorem len112 (β : Base) (n : Nat) (hn : n < 2 ^ 63) : Tri Tryz.prog β 112 [.int .u64 n] [] (fun v L => (∃ z : Int, v = .int .i64 z) ∧ L = []) := by
  refine Tri.ofCalls (enters_of Tryz.func112 (by kernel_rfl) rfl) fun F w s => ?_
  exact (Any.bits_Len bitsLenL (n : Int) w (by omega) (by omega)).mono fun e w' ⟨he, hw⟩ => ⟨_, [], he, hw ▸ s, ⟨_, rfl⟩, rfl⟩
theorem ins182 (β : Base) (q : Option Addr) (c : Nat) (fv : Value) : Tri Tryz.prog β 182 [.slice q 0 c, .int .i64 0, .int .i64 0, fv] [] (fun v L => v = .tuple #[] ∧ L = []) := by
  refine Tri.intro tt_ok Tryz.func182 rfl rfl Tryz.ntmps182 rfl fun F => ?_
  refine G tt_ok pk182 ?_
  refine CW.loop (α := Nat) (fun k => k = 0) (fun k => [(8, .int .i64 1), (2, .int .i64 0)]) (fun k => []) (fun k => 0) 0 rfl ⟨rfl, rfl, trivial⟩ pk_ ?_
  intro k _
  refine G tt_ok pk182 ?_
  refine CW.exit ?_
  refine G tt_ok pk182 ?_
  exact fin_normal (vs := []) rfl (Ent.refl _) ⟨rfl, rfl⟩
theorem pdq111 (β : Base) (q : Option Addr) (c : Nat) (lim : Int) (fv : Value) : Tri Tryz.prog β 111 [.slice q 0 c, .int .i64 0, .int .i64 0, .int .i64 lim, fv] [] (fun v L => v = .tuple #[] ∧ L = []) := by
  refine Tri.intro tt_ok Tryz.func111 rfl rfl Tryz.ntmps111 rfl fun F => ?_
  refine G tt_ok pk111 ?_
  refine CW.loop (α := Nat) (fun k => k = 0) (fun k => [(0, .slice q 0 c), (1, .int .i64 0), (2, .int .i64 0), (4, fv)]) (fun k => []) (fun k => 0) 0 rfl ⟨rfl, rfl, rfl, rfl, trivial⟩ pk_ ?_
  intro k _
  refine G tt_ok pk111 ?_
  refine ke rfl rfl (ins182 β q c fv) ?_
  refine G tt_ok pk111 ?_
  exact CW.ret (fin_ret (vs := []) rfl (Ent.refl _) ⟨rfl, rfl⟩)
theorem sort0 (β : Base) (q : Option Addr) (c : Nat) (fv : Value) : Tri Tryz.prog β 41 [.slice q 0 c, fv] [] (fun v L => v = .tuple #[] ∧ L = []) := by
  refine Tri.intro tt_ok Tryz.func41 rfl rfl Tryz.ntmps41 rfl fun F => ?_
  refine G tt_ok pk41 ?_
  (refine ka rfl rfl (len112 β 0 (by omega)) ?_; rintro _ _ ⟨⟨z, rfl⟩, rfl⟩; refine w_ ?_)
  refine G tt_ok pk41 ?_
  refine ke rfl rfl (pdq111 β q c z fv) ?_
  refine G tt_ok pk41 ?_
  exact fin_normal (vs := []) rfl (Ent.refl _) ⟨rfl, rfl⟩
theorem sorted_of {d : Array Cd} {n : Nat} (hn : d.size = n) (h : SortedIn (ltOf cmpV) 0 n d) : Sorted d.toList := by
  unfold Sorted
  rw [List.pairwise_iff_getElem]
  intro i j hi hj hij
  rw [Array.length_toList] at hi hj
  have := h i j (Nat.zero_le _) hij (by omega)
  rw [ltOf_cmp, getElem!_pos d j hj, getElem!_pos d i hi] at this
  simpa using this
theorem perm_of {d d' : Array Cd} (h : PermIn 0 d.size d d') : d'.toList.Perm d.toList := by
  obtain ⟨hs, _, hp⟩ := h
  have e1 : (d'.extract 0 d.size) = d' := by rw [← hs]; simp
  have e2 : (d.extract 0 d.size) = d := by simp
  rw [e1, e2] at hp
  exact hp
theorem sort41 (β : Base) {q : Option Addr} {c : Nat} {l : List Cd} (hu : uniqC l) (hl : l.length ≤ 1000) : Tri Tryz.prog β 41 [.slice q l.length c, .func (.func 42) #[] #[]] [rowA q l.length (l.flatMap encC)] (fun v L => v = .tuple #[] ∧ L = [rowA q l.length ((ordC l).flatMap encC)]) := by
  by_cases h0 : l = []
  · subst h0
    exact ((sort0 β q c (.func (.func 42) #[] #[])).frame [rowA q 0 []]).mono fun v L ⟨A', e, hv, hA⟩ => ⟨hv, by rw [e, hA]; rfl⟩
  · refine Tri.ofCalls (enters_of Tryz.func41 (by kernel_rfl) rfl) fun F w s => ?_
    have s1 : Sat β w (rowA q l.length (l.flatMap encC) :: F) := s.perm List.perm_append_comm
    have s2 := s1.ent (Ent.head (L := F) (row_open (q := q) (cs := l.flatMap encC) (List.length_pos_iff.2 h0)))
    obtain ⟨⟨g, rest⟩, s3⟩ := Sat.exA s2
    obtain ⟨hq, s4⟩ := Sat.pureA s3
    simp only at hq s4
    subst hq
    have s5 : Sat β w (pt g (l.toArray.toList.flatMap encC ++ rest) :: F) := s4
    obtain ⟨hH, hb⟩ := s5.holdsK (k := 4) (fun _ => rfl)
    have eg : ∀ args w, (callFunc 42 args).run Tryz.prog w = .ok (.enter 42 args) w := enters_of Tryz.func42 (by kernel_rfl) rfl
    have hcon := AnyQ.slices_SortFunc sortCd 4 Tryz.isAgg34 Tryz.sizeOf34 encC (fun _ => rfl) (fun x v hv => by simp [encC] at hv; rcases hv with rfl | rfl | rfl | rfl <;> rfl) cmpV swoC 42 #[] g 0 c l.toArray w eg (cmpLays42 g 0 l.toArray.size w) hH hb (by rw [List.size_toArray]; omega)
    change Calls Tryz.prog 41 _ _ _ at hcon
    refine hcon.mono ?_
    rintro e w' ⟨rfl, d', n, os, hp, hs, rfl⟩
    have s6 := s5.sorted (d' := d') (k := 4) (fun _ => rfl) hp.1 n os
    have hd : d'.toList = ordC l := ordC_uniq (by simpa using perm_of hp) (sorted_of (by rw [hp.1]) hs) hu
    rw [hd] at s6
    refine ⟨_, [rowA (some ⟨g, 0, none⟩) l.length ((ordC l).flatMap encC)], rfl, ?_, rfl, rfl⟩
    exact (s6.ent (Ent.head (L := F) (row_close (n := l.length)))).perm List.perm_append_comm
end Go.Proofs.YtebpodnbalfomaaGreatDoor.Sl
namespace Go.Proofs.YtebpodnbalfomaaGreatDoor.Sl
open Go Go.RowKit Go.Proofs
set_option linter.unusedVariables false
set_option linter.unusedSimpArgs false
attribute [local irreducible] CW Tri OW
attribute [local irreducible] wlen
set_option maxRecDepth 10000
@[reducible] def pk13 : List (Nat × Plan) := []
@[reducible] def pk40 : List (Nat × Plan) := []
@[reducible] def pk11 : List (Nat × Plan) := []
@[reducible] def pk24 : List (Nat × Plan) := []
theorem candB_idsN {R : RS} {G : GS} (ok : OkN R G) {k : Int} {c : Cd} (h : c ∈ G.candB k) : c.1 ∈ G.waitsV k ∧ oddM G.cf c.1 = true ∧ c = candM G.cf c.1 := by
  unfold GS.candB at h
  split at h
  · obtain ⟨id, hid, rfl⟩ := List.mem_map.1 h
    rw [List.mem_filter] at hid
    exact ⟨hid.1, hid.2, rfl⟩
  · simp at h
theorem waits_incN {R : RS} {G : GS} (ok : OkN R G) (k : Int) : (G.waitsV k).Pairwise (· < ·) := by
  unfold GS.waitsV
  split
  · split
    · rename_i s hs
      exact memS_inc (ok.w s (List.mem_of_getElem? hs))
    · exact List.Pairwise.nil
  · exact List.Pairwise.nil
theorem waits_lenN {R : RS} {G : GS} (ok : OkN R G) (k : Int) : (G.waitsV k).length ≤ 64 := by
  unfold GS.waitsV
  split
  · split
    · rename_i s hs
      exact memS_len (ok.w s (List.mem_of_getElem? hs))
    · simp
  · simp
theorem right_gN {R : RS} {G : GS} (ok : OkN R G) {k : Int} (h : rightV G.ss.length k = true) : rightV G.D.xs.length k = true := by rw [← ok.len]; exact h
theorem cand_uniqN {R : RS} {G : GS} (ok : OkN R G) (k : Int) : uniqC (G.candV k) := by
  unfold uniqC GS.candV
  cases hr : rightV G.ss.length k with
  | false => simp
  | true =>
    rw [if_pos rfl, List.map_append, List.nodup_append]
    have h1 : ((G.D.readyV k).map candOf).map (·.1) = (G.D.readyV k).map (·.1) := by rw [List.map_map]; rfl
    refine ⟨?_, ?_, ?_⟩
    · rw [h1]; exact ready_nodup ok.ok (right_gN ok hr)
    · unfold GS.candB
      split
      · have h2 : (((G.waitsV k).filter (oddM G.cf)).map (candM G.cf)).map (·.1) = (G.waitsV k).filter (oddM G.cf) := by
          rw [List.map_map]
          exact (List.map_congr_left (fun a _ => rfl)).trans (List.map_id _)
        rw [h2]
        exact (List.Pairwise.imp (fun h => by omega) (waits_incN ok k)).filter _
      · simp
    · intro a ha b hb
      rw [h1] at ha
      obtain ⟨p, hp, rfl⟩ := List.mem_map.1 ha
      obtain ⟨c, hc, rfl⟩ := List.mem_map.1 hb
      have := seen_id ok.ok (readyV_sub hp)
      obtain ⟨j, _, _, e⟩ := waits_memN ok (candB_idsN ok hc).1
      omega
theorem cand_lenN {R : RS} {G : GS} (ok : OkN R G) (k : Int) : (G.candV k).length ≤ 500 := by
  unfold GS.candV
  split
  · have h1 := ready_len ok.ok k
    have h2 : (G.candB k).length ≤ 64 := by
      unfold GS.candB
      split
      · rw [List.length_map]
        exact Nat.le_trans (List.length_filter_le _ _) (waits_lenN ok k)
      · simp
    rw [List.length_append, List.length_map]; omega
  · simp
theorem candidates13 (β : Base) (g : Nat) (k : Int) : Tri Tryz.prog β 13 [.pointer (some ⟨g, 0, none⟩), .int .i64 k] [] (fun v L => ∃ b2 b3, v = .func (.func 45) #[] #[.pointer (some ⟨b2, 0, none⟩), .pointer (some ⟨b3, 0, none⟩)] ∧ L = [pt b2 [.pointer (some ⟨g, 0, none⟩)], pt b3 [.int .i64 k]]) := by
  refine Tri.intro tt_ok Tryz.func13 rfl rfl Tryz.ntmps13 rfl fun F => ?_
  (refine G tt_ok pk13 ?_; repeat (refine G1 tt_ok pk13 ?_; intro _))
  rename_i b2 b3
  exact CW.ret (fin_ret rfl (A := [pt b2 [.pointer (some ⟨g, 0, none⟩)], pt b3 [.int .i64 k]]) pk_ ⟨b2, b3, rfl, rfl⟩)
theorem collect40 (β : Base) {gf : Nat} {cap : Array Value} {A : List Atom} {cs : List Cd} (hI : Iter Tryz.prog β gf cap.toList A cdC cs) (hl : cs.length ≤ 1000) :
    Tri Tryz.prog β 40 [.func (.func gf) #[] cap] A (fun v L => ∃ q c, v = .slice q cs.length c ∧ L = rowA q cs.length (cs.flatMap encC) :: A) := by
  refine Tri.intro tt_ok Tryz.func40 rfl rfl Tryz.ntmps40 rfl fun F => ?_
  refine G tt_ok pk40 ?_
  refine SQ.ent (A ++ []) (by rw [List.append_nil]; exact Ent.refl _) ?_
  refine SQ.call rfl rfl (append110 β hI hl) _ (sel_front A) ?_
  rintro _ _ ⟨q, c, rfl, rfl⟩
  refine w_ ?_
  refine G tt_ok pk40 ?_
  exact CW.ret (fin_ret rfl (A := rowA q cs.length (cs.flatMap encC) :: A) (by rw [List.append_nil]; exact Ent.refl _) ⟨q, c, rfl, rfl⟩)
set_option maxHeartbeats 4000000 in
theorem order11N (β : Base) (hG : TabOk β) (g : Nat) {R : RS} {Z : GS} (ok : OkN R Z) (k : Int) : Tri Tryz.prog β 11 [.pointer (some ⟨g, 0, none⟩), .int .i64 k] (gA g Z)
    (fun v L => ∃ q c, v = .slice q (Z.candV k).length c ∧ L = rowA q (Z.candV k).length ((ordC (Z.candV k)).flatMap encC) :: gA g Z) := by
  refine Tri.intro tt_ok Tryz.func11 rfl rfl Tryz.ntmps11 rfl fun F => ?_
  have hit := fun b2 b3 => iterCN β hG g b2 b3 ok k
  have hun := cand_uniqN ok k
  have hlen := cand_lenN ok k
  generalize Z.candV k = CV at hit hun hlen ⊢
  refine G tt_ok pk11 ?_
  (refine ka rfl rfl (candidates13 β g k) ?_; rintro _ _ ⟨b2, b3, rfl, rfl⟩; refine w_ ?_)
  refine G tt_ok pk11 ?_
  (refine ka rfl rfl (collect40 β (hit b2 b3) (by omega)) ?_; rintro _ _ ⟨q, c, rfl, rfl⟩; refine w_ ?_)
  refine G tt_ok pk11 ?_
  refine ke rfl rfl (sort41 β (c := c) hun (by omega)) ?_
  refine G tt_ok pk11 ?_
  exact CW.ret (fin_ret rfl (A := rowA q CV.length ((ordC CV).flatMap encC) :: gA g Z) pk_ ⟨q, c, rfl, rfl⟩)
theorem rd_cd {l : List Cd} {k : Nat} {x : Cd} (h : l[k]? = some x) (X : List Value) : rdv ti34 (l.flatMap encC ++ X) (0 + k * 4) = some (.agg #[.int .i64 x.1, .int .i64 x.2.1, .int .i64 x.2.2.1, .bool x.2.2.2]) :=
  rd_partR (enc := encC) (sz := 4) (fun _ => rfl) h 0 (i := ti34) rfl (by decide) (by omega) (by decide) X
set_option maxHeartbeats 4000000 in
theorem top24N (β : Base) (hG : TabOk β) (g : Nat) {R : RS} {Z : GS} (ok : OkN R Z) (k : Int) : Tri Tryz.prog β 24 [.pointer (some ⟨g, 0, none⟩), .int .i64 k] (gA g Z)
    (fun v L => v = .agg #[.int .i64 (topC (Z.candV k)).1, .int .i64 (topC (Z.candV k)).2.1, .int .i64 (topC (Z.candV k)).2.2.1, .bool (topC (Z.candV k)).2.2.2] ∧ L = gA g Z) := by
  refine Tri.intro tt_ok Tryz.func24 rfl rfl Tryz.ntmps24 rfl fun F => ?_
  have hor := order11N β hG g ok k
  have hln := ordC_len (Z.candV k)
  unfold topC
  generalize Z.candV k = CV at hor hln ⊢
  generalize ordC CV = O at hor hln ⊢
  (refine G tt_ok pk24 ?_; repeat (refine G1 tt_ok pk24 ?_; intro _))
  rename_i c4
  (refine ka rfl rfl (hor) ?_; rintro _ _ ⟨q, c, rfl, rfl⟩; refine w_ ?_)
  (refine G tt_ok pk24 ?_; repeat (refine G1 tt_ok pk24 ?_; intro _))
  rw [← hln]
  refine CW.loop (α := Nat) (fun k => k = 0) (fun k => [(11, .int .i64 0), (10, .int .i64 O.length), (9, .slice q O.length c), (4, .pointer (some ⟨c4, 0, none⟩))]) (fun k => [pt c4 [.int .i64 0, .int .i64 0, .int .i64 0, .bool false], rowA q O.length (O.flatMap encC)] ++ gA g Z) (fun k => 0) 0 rfl ⟨rfl, rfl, rfl, rfl, trivial⟩ pk_ ?_
  intro i _
  (refine G tt_ok pk24 ?_; repeat (refine G1 tt_ok pk24 ?_; intro _))
  match O with
  | [] =>
    rw [show decide ((0 : Int) < (([] : List Cd).length : Nat)) = false from rfl]
    (refine G tt_ok pk24 ?_; repeat (refine G1 tt_ok pk24 ?_; intro _))
    refine CW.exit ?_
    (refine G tt_ok pk24 ?_; repeat (refine G1 tt_ok pk24 ?_; intro _))
    exact CW.ret (fin_cells [_] ⟨cl_, trivial⟩ (A := gA g Z) pk_ ⟨rfl, rfl⟩)
  | x :: r =>
    rw [show decide ((0 : Int) < ((x :: r).length : Nat)) = true by first | (simp; done) | (simp; omega)]
    (refine G tt_ok pk24 ?_; repeat (refine G1 tt_ok pk24 ?_; intro _))
    refine ir_ tt_ok rfl rfl (0) (rfl) rfl ?_ (hlt := by simp)
    (refine G tt_ok pk24 ?_; repeat (refine G1 tt_ok pk24 ?_; intro _))
    refine lr_ tt_ok rfl rfl (rd_cd (l := x :: r) (k := 0) rfl) ?_ (hn := by simp)
    (refine G tt_ok pk24 ?_; repeat (refine G1 tt_ok pk24 ?_; intro _))
    exact CW.ret (fin_cells [_] ⟨cl_, trivial⟩ (A := gA g Z) pk_ ⟨rfl, rfl⟩)
theorem candB_ids {R : RS} {G : GS} (ok : OkG R G) {k : Int} {c : Cd} (h : c ∈ G.candB k) : c.1 ∈ G.waitsV k ∧ oddM G.cf c.1 = true ∧ c = candM G.cf c.1 := candB_idsN ok.n h
theorem top24 (β : Base) (hG : TabOk β) (g : Nat) {R : RS} {Z : GS} (ok : OkG R Z) (k : Int) : Tri Tryz.prog β 24 [.pointer (some ⟨g, 0, none⟩), .int .i64 k] (gA g Z)
    (fun v L => v = .agg #[.int .i64 (topC (Z.candV k)).1, .int .i64 (topC (Z.candV k)).2.1, .int .i64 (topC (Z.candV k)).2.2.1, .bool (topC (Z.candV k)).2.2.2] ∧ L = gA g Z) := top24N β hG g ok.n k
end Go.Proofs.YtebpodnbalfomaaGreatDoor.Sl
namespace Go.Proofs.YtebpodnbalfomaaGreatDoor.Sl
open Go Go.RowKit Go.Proofs
set_option linter.unusedVariables false
set_option linter.unusedSimpArgs false
attribute [local irreducible] CW Tri OW
set_option maxRecDepth 10000
@[reducible] def pk64 : List (Nat × Plan) := [(1, [(0, 0, []), (1, 0, []), (2, 0, []), (3, 0, []), (4, 1, [2, 3]), (5, 0, []), (6, 0, []), (7, 0, []), (8, 0, []), (9, 0, []), (10, 0, []), (11, 0, [])]), (3, [(0, 0, []), (1, 0, []), (2, 0, []), (3, 0, []), (4, 0, []), (5, 0, []), (6, 0, []), (7, 0, []), (8, 0, []), (9, 0, []), (10, 0, []), (11, 0, []), (12, 1, [4, 7, 10]), (13, 0, []), (14, 1, [4, 7, 10]), (15, 0, []), (16, 0, []), (17, 1, [])])]
theorem rd_sdl {ss : List SdS} {k : Nat} {s : SdS} (h : ss[k]? = some s) (X : List Value) : rdv ti67 (ss.flatMap sdC ++ X) (bif Nat.beq (0 + k * 12) 0 then 6 else 0 + k * 12 + 6) = some (.agg #[.int .u32 s.f.b0, .int .u32 s.f.b1]) :=
  rd_partR (enc := sdC) (sz := 12) (fun _ => rfl) h 6 (i := ti67) rfl (by decide) (by rw [off_add]; omega) (by decide) X
theorem wr_sdl {ss : List SdS} {k : Nat} {s : SdS} (h : ss[k]? = some s) (b0 b1 : Nat) (X : List Value) : wrv ti67 (ss.flatMap sdC ++ X) (bif Nat.beq (0 + k * 12) 0 then 6 else 0 + k * 12 + 6) (.agg #[.int .u32 b0, .int .u32 b1]) = some ((ss.set k { s with f := { s.f with b0 := b0, b1 := b1 } }).flatMap sdC ++ X) :=
  wr_encR (enc := sdC) (sz := 12) (fun _ => rfl) h 6 (i := ti67) (by decide) rfl rfl (by rw [off_add]; omega) X
theorem maskN_le {g p : Nat} (hp : p ≤ 7) : maskN g p ≤ 255 := by
  have h2 : p = 0 ∨ p = 1 ∨ p = 2 ∨ p = 3 ∨ p = 4 ∨ p = 5 ∨ p = 6 ∨ p = 7 := by omega
  unfold maskN
  rcases h2 with rfl | rfl | rfl | rfl | rfl | rfl | rfl | rfl <;> split <;> simp
theorem msk_le {f : Fc} (ok : FcOk f) (g : Nat) : f.msk g ≤ 255 := by
  unfold Fc.msk
  split
  · exact maskN_le ok.p0
  · exact maskN_le ok.p1
/-- The interface that has taken an interrupt. -/
def Fc.push (f : Fc) (k p : Nat) : Fc := { f with b0 := (pushV f.b0 f.b1 k (p &&& f.msk k)).1, b1 := (pushV f.b0 f.b1 k (p &&& f.msk k)).2 }
def Fc.takes (f : Fc) (p g : Nat) (is : Bool) (k : Nat) : Bool := f.may p g is && (g == k)
def Fc.takeF (f : Fc) (p g : Nat) (is : Bool) (k : Nat) : Fc := if f.takes p g is k then f.push k p else f
theorem and_le255 {p m : Nat} (hp : p ≤ 255) : p &&& m ≤ 255 := Nat.le_trans Nat.and_le_left hp
theorem push_ok {f : Fc} (ok : FcOk f) {k p : Nat} (hp : p ≤ 255) : FcOk (f.push k p) :=
  have h := push_lt (g := k) ok.b0 ok.b1 (and_le255 (m := f.msk k) hp)
  ⟨ok.m, ok.p0, ok.p1, h.1, h.2⟩
theorem takeF_ok {f : Fc} (ok : FcOk f) {p : Nat} (hp : p ≤ 255) (g : Nat) (is : Bool) (k : Nat) : FcOk (f.takeF p g is k) := by
  unfold Fc.takeF; split
  · exact push_ok ok hp
  · exact ok
set_option maxHeartbeats 8000000 in
theorem take64 (β : Base) {q : Option Addr} {ss : List SdS} {j : Nat} {s : SdS} (hx : ss[j]? = some s) (ok : FcOk s.f) (id : Int) {p g k : Nat} (hp : p ≤ 255) (hg : g ≤ 1) (is : Bool) (hk : k ≤ 1) :
    Tri Tryz.prog β 64 [.pointer (some ⟨gb q, 0 + j * 12, none⟩), .agg #[.int .i64 id, .int .i64 p, .int .i64 g, .bool is], .int .i64 k] [rowA q ss.length (ss.flatMap sdC)]
    (fun v L => v = .tuple #[.int .i64 (if s.f.takes p g is k then id else 1023), .bool (s.f.takes p g is k)] ∧ L = [rowA q ss.length ((ss.set j { s with f := s.f.takeF p g is k }).flatMap sdC)]) := by
  have hl : j < ss.length := (List.getElem?_eq_some_iff.1 hx).1
  have hn0 : 0 < ss.length := by omega
  refine Tri.intro tt_ok Tryz.func64 rfl rfl Tryz.ntmps64 rfl fun F => ?_
  unfold Fc.takeF Fc.takes
  have hmay := may26 β ok id p hg is
  (refine G tt_ok pk64 ?_; repeat (refine G1 tt_ok pk64 ?_; intro _))
  refine lr_ tt_ok rfl rfl (rd_sdf hx) ?_ (hn := hn0)
  (refine G tt_ok pk64 ?_; repeat (refine G1 tt_ok pk64 ?_; intro _))
  (refine ka rfl rfl (hmay) ?_; rintro _ _ ⟨rfl, rfl⟩; refine ⟨(by repeat (first | exact trivial | refine ⟨trivial, ?_⟩ | refine ⟨rr_ (rd_sdf hx), ?_⟩ | refine ⟨wk (by repeat (first | exact .h | exact .q | apply At.t)) (by rfl), ?_⟩)), ?_⟩)
  cases hm : s.f.may p g is with
  | false =>
    have hs : ss.set j { s with f := s.f } = ss := set_same_ hx
    simp only [Bool.false_and, Bool.false_eq_true, if_false]
    rw [hs]
    (refine G tt_ok pk64 ?_; repeat (refine G1 tt_ok pk64 ?_; intro _))
    exact CW.ret (fin_ret rfl (A := [rowA q ss.length (ss.flatMap sdC)]) pk_ ⟨rfl, rfl⟩)
  | true =>
    simp only [Bool.true_and]
    by_cases hgk : g = k
    · subst hgk
      rw [show (g == g) = true by simp]
      simp only [if_true]
      (refine G tt_ok pk64 ?_; repeat (refine G1 tt_ok pk64 ?_; intro _))
      rw [show ((g : Int) != (g : Int)) = false by simp]
      (refine G tt_ok pk64 ?_; repeat (refine G1 tt_ok pk64 ?_; intro _))
      refine lr_ tt_ok rfl rfl (rd_sdl hx) ?_ (hn := hn0)
      (refine G tt_ok pk64 ?_; repeat (refine G1 tt_ok pk64 ?_; intro _))
      refine lr_ tt_ok rfl rfl (rd_sdf hx) ?_ (hn := hn0)
      (refine G tt_ok pk64 ?_; repeat (refine G1 tt_ok pk64 ?_; intro _))
      (refine ka rfl rfl (fmask76 β ok hg) ?_; rintro _ _ ⟨rfl, rfl⟩; refine ⟨(by repeat (first | exact trivial | refine ⟨trivial, ?_⟩ | refine ⟨rr_ (rd_sdl hx), ?_⟩ | refine ⟨rr_ (rd_sdf hx), ?_⟩ | refine ⟨wk (by repeat (first | exact .h | exact .q | apply At.t)) (by rfl), ?_⟩)), ?_⟩)
      (refine G tt_ok pk64 ?_; repeat (refine G1 tt_ok pk64 ?_; intro _))
      rw [show IntKind.i64.wrap ((BitVec.ofInt IntKind.i64.bits (p : Int) &&& BitVec.ofInt IntKind.i64.bits ((s.f.msk g : Nat) : Int)).toNat : Int) = ((p &&& s.f.msk g : Nat) : Int) from andI_nat (by omega) (by have := msk_le ok g; omega)]
      (refine ka rfl rfl (push128 β ok.b0 ok.b1 hg (and_le255 (m := s.f.msk g) hp)) ?_; rintro _ _ ⟨rfl, rfl⟩; refine ⟨(by repeat (first | exact trivial | refine ⟨trivial, ?_⟩ | refine ⟨rr_ (rd_sdl hx), ?_⟩ | refine ⟨rr_ (rd_sdf hx), ?_⟩ | refine ⟨wk (by repeat (first | exact .h | exact .q | apply At.t)) (by rfl), ?_⟩)), ?_⟩)
      (refine G tt_ok pk64 ?_; repeat (refine G1 tt_ok pk64 ?_; intro _))
      refine sr_ tt_ok rfl rfl (wr_sdl hx _ _) ?_ (hn := hn0)
      (refine G tt_ok pk64 ?_; repeat (refine G1 tt_ok pk64 ?_; intro _))
      exact CW.ret (fin_ret rfl (A := [rowA q ss.length ((ss.set j { s with f := s.f.push g p }).flatMap sdC)]) pk_ ⟨rfl, rfl⟩)
    · have hs : ss.set j { s with f := s.f } = ss := set_same_ hx
      rw [show (g == k) = false by simpa using hgk]
      simp only [Bool.false_eq_true, if_false]
      rw [hs]
      (refine G tt_ok pk64 ?_; repeat (refine G1 tt_ok pk64 ?_; intro _))
      rw [show ((g : Int) != (k : Int)) = true by simp; omega]
      (refine G tt_ok pk64 ?_; repeat (refine G1 tt_ok pk64 ?_; intro _))
      exact CW.ret (fin_ret rfl (A := [rowA q ss.length (ss.flatMap sdC)]) pk_ ⟨rfl, rfl⟩)
@[reducible] def pk69 : List (Nat × Plan) := []
@[reducible] def pk71 : List (Nat × Plan) := []
/-- The interface whose highest priority has been let go. -/
def Fc.drops (f : Fc) (k : Nat) : Bool := !(f.run.1 == 255 || f.run.2 != k)
def Fc.dropF (f : Fc) (k : Nat) : Fc := if f.drops k then { f with b0 := (dropV f.b0 f.b1).1, b1 := (dropV f.b0 f.b1).2 } else f
theorem dropF_ok {f : Fc} (ok : FcOk f) (k : Nat) : FcOk (f.dropF k) := by
  unfold Fc.dropF; split
  · have h := drop_lt ok.b0 ok.b1
    exact ⟨ok.m, ok.p0, ok.p1, h.1, h.2⟩
  · exact ok
set_option maxHeartbeats 8000000 in
theorem drop69 (β : Base) {q : Option Addr} {ss : List SdS} {j : Nat} {s : SdS} (hx : ss[j]? = some s) (ok : FcOk s.f) {k : Nat} (hk : k ≤ 1) :
    Tri Tryz.prog β 69 [.pointer (some ⟨gb q, 0 + j * 12, none⟩), .int .i64 k] [rowA q ss.length (ss.flatMap sdC)]
    (fun v L => v = .bool (s.f.drops k) ∧ L = [rowA q ss.length ((ss.set j { s with f := s.f.dropF k }).flatMap sdC)]) := by
  have hl : j < ss.length := (List.getElem?_eq_some_iff.1 hx).1
  have hn0 : 0 < ss.length := by omega
  have hs : ss.set j { s with f := s.f } = ss := set_same_ hx
  refine Tri.intro tt_ok Tryz.func69 rfl rfl Tryz.ntmps69 rfl fun F => ?_
  unfold Fc.dropF Fc.drops
  refine G tt_ok pk69 ?_
  refine lr_ tt_ok rfl rfl (rd_sdf hx) ?_ (hn := hn0)
  refine G tt_ok pk69 ?_
  refine ke rfl rfl (running27 β ok) ?_
  refine G tt_ok pk69 ?_
  cases h1 : (s.f.run.1 == 255) with
  | true =>
    simp only [Bool.true_or, Bool.not_true, Bool.false_eq_true, if_false]
    rw [hs]
    refine G tt_ok pk69 ?_
    exact CW.ret (fin_ret rfl (A := [rowA q ss.length (ss.flatMap sdC)]) pk_ ⟨rfl, rfl⟩)
  | false =>
    simp only [Bool.false_or]
    refine G tt_ok pk69 ?_
    cases h2 : (s.f.run.2 != (k : Int)) with
    | true =>
      simp only [Bool.not_true, Bool.false_eq_true, if_false]
      rw [hs]
      refine G tt_ok pk69 ?_
      exact CW.ret (fin_ret rfl (A := [rowA q ss.length (ss.flatMap sdC)]) pk_ ⟨rfl, rfl⟩)
    | false =>
      simp only [Bool.not_false, if_true]
      refine G tt_ok pk69 ?_
      refine lr_ tt_ok rfl rfl (rd_sdl hx) ?_ (hn := hn0)
      refine G tt_ok pk69 ?_
      (refine ka rfl rfl (ldrop130 β ok.b0 ok.b1) ?_; rintro _ _ ⟨t, rfl, rfl⟩; refine w_ ?_)
      refine G tt_ok pk69 ?_
      refine sr_ tt_ok rfl rfl (wr_sdl hx _ _) ?_ (hn := hn0)
      refine G tt_ok pk69 ?_
      exact CW.ret (fin_ret rfl (A := [rowA q ss.length ((ss.set j { s with f := { s.f with b0 := (dropV s.f.b0 s.f.b1).1, b1 := (dropV s.f.b0 s.f.b1).2 } }).flatMap sdC)]) pk_ ⟨rfl, rfl⟩)
/-- A write to a register of the interface. -/
def Fc.writeF (f : Fc) (r : Int) (v : Nat) : Fc × Bool :=
  if r = 6 then ({ f with m := v % 256 &&& 248 }, true)
  else if r = 7 then ({ f with p0 := v % 8 }, true)
  else if r = 8 then ({ f with p1 := max 1 (v % 8) }, true)
  else if r = 9 then ({ f with sp := decide (v / 2 % 2 = 1) }, true)
  else if r = 10 then ({ f with on0 := decide (v % 2 = 1) }, true)
  else if r = 11 then ({ f with on1 := decide (v % 2 = 1) }, true)
  else (f, false)
theorem writeF_ok {f : Fc} (ok : FcOk f) (r : Int) (v : Nat) : FcOk (f.writeF r v).1 := by
  unfold Fc.writeF
  repeat' split
  · exact ⟨Nat.le_trans Nat.and_le_left (by omega), ok.p0, ok.p1, ok.b0, ok.b1⟩
  · exact ⟨ok.m, by simp only; omega, ok.p1, ok.b0, ok.b1⟩
  · exact ⟨ok.m, ok.p0, by simp only; omega, ok.b0, ok.b1⟩
  all_goals exact ⟨ok.m, ok.p0, ok.p1, ok.b0, ok.b1⟩
theorem wr_sdm {ss : List SdS} {k : Nat} {s : SdS} (h : ss[k]? = some s) (a : Nat) (X : List Value) : wrv ti3 (ss.flatMap sdC ++ X) (0 + k * 12) (.int .i64 a) = some ((ss.set k { s with f := { s.f with m := a } }).flatMap sdC ++ X) :=
  wr_encR (enc := sdC) (sz := 12) (fun _ => rfl) h 0 (i := ti3) (by decide) rfl rfl (by omega) X
theorem wr_sp0 {ss : List SdS} {k : Nat} {s : SdS} (h : ss[k]? = some s) (a : Nat) (X : List Value) : wrv ti3 (ss.flatMap sdC ++ X) (bif Nat.beq (0 + k * 12) 0 then 1 else 0 + k * 12 + 1) (.int .i64 a) = some ((ss.set k { s with f := { s.f with p0 := a } }).flatMap sdC ++ X) :=
  wr_encR (enc := sdC) (sz := 12) (fun _ => rfl) h 1 (i := ti3) (by decide) rfl rfl (by rw [off_add]; omega) X
theorem wr_sp1 {ss : List SdS} {k : Nat} {s : SdS} (h : ss[k]? = some s) (a : Nat) (X : List Value) : wrv ti3 (ss.flatMap sdC ++ X) ((bif Nat.beq (0 + k * 12) 0 then 1 else 0 + k * 12 + 1) + 1 * 1) (.int .i64 a) = some ((ss.set k { s with f := { s.f with p1 := a } }).flatMap sdC ++ X) :=
  wr_encR (enc := sdC) (sz := 12) (fun _ => rfl) h 2 (i := ti3) (by decide) rfl rfl (by rw [off_add]; omega) X
theorem wr_so0 {ss : List SdS} {k : Nat} {s : SdS} (h : ss[k]? = some s) (a : Bool) (X : List Value) : wrv ti4 (ss.flatMap sdC ++ X) (bif Nat.beq (0 + k * 12) 0 then 3 else 0 + k * 12 + 3) (.bool a) = some ((ss.set k { s with f := { s.f with on0 := a } }).flatMap sdC ++ X) :=
  wr_encR (enc := sdC) (sz := 12) (fun _ => rfl) h 3 (i := ti4) (by decide) rfl rfl (by rw [off_add]; omega) X
theorem wr_so1 {ss : List SdS} {k : Nat} {s : SdS} (h : ss[k]? = some s) (a : Bool) (X : List Value) : wrv ti4 (ss.flatMap sdC ++ X) ((bif Nat.beq (0 + k * 12) 0 then 3 else 0 + k * 12 + 3) + 1 * 1) (.bool a) = some ((ss.set k { s with f := { s.f with on1 := a } }).flatMap sdC ++ X) :=
  wr_encR (enc := sdC) (sz := 12) (fun _ => rfl) h 4 (i := ti4) (by decide) rfl rfl (by rw [off_add]; omega) X
theorem wr_ssp {ss : List SdS} {k : Nat} {s : SdS} (h : ss[k]? = some s) (a : Bool) (X : List Value) : wrv ti4 (ss.flatMap sdC ++ X) (bif Nat.beq (0 + k * 12) 0 then 5 else 0 + k * 12 + 5) (.bool a) = some ((ss.set k { s with f := { s.f with sp := a } }).flatMap sdC ++ X) :=
  wr_encR (enc := sdC) (sz := 12) (fun _ => rfl) h 5 (i := ti4) (by decide) rfl rfl (by rw [off_add]; omega) X
theorem v255 {v : Nat} (hv : v < 2 ^ 64) : IntKind.i64.wrap (IntKind.u64.wrap ((BitVec.ofInt IntKind.u64.bits (v : Int) &&& BitVec.ofInt IntKind.u64.bits 255).toNat : Int)) = ((v % 256 : Nat) : Int) := by
  rw [show IntKind.u64.wrap ((BitVec.ofInt IntKind.u64.bits (v : Int) &&& BitVec.ofInt IntKind.u64.bits 255).toNat : Int) = ((v % 256 : Nat) : Int) from and_mod (k := 8) hv (by omega)]
  exact wrap_id (by omega) (by omega)
theorem v7 {v : Nat} (hv : v < 2 ^ 64) : IntKind.i64.wrap (IntKind.u64.wrap ((BitVec.ofInt IntKind.u64.bits (v : Int) &&& BitVec.ofInt IntKind.u64.bits 7).toNat : Int)) = ((v % 8 : Nat) : Int) := by
  rw [show IntKind.u64.wrap ((BitVec.ofInt IntKind.u64.bits (v : Int) &&& BitVec.ofInt IntKind.u64.bits 7).toNat : Int) = ((v % 8 : Nat) : Int) from and_mod (k := 3) hv (by omega)]
  exact wrap_id (by omega) (by omega)
set_option maxHeartbeats 8000000 in
theorem write71 (β : Base) {q : Option Addr} {ss : List SdS} {j : Nat} {s : SdS} (hx : ss[j]? = some s) (r : Int) {v : Nat} (hv : v < 2 ^ 64) :
    Tri Tryz.prog β 71 [.pointer (some ⟨gb q, 0 + j * 12, none⟩), .int .i64 r, .int .u64 v] [rowA q ss.length (ss.flatMap sdC)]
    (fun u L => u = .bool (s.f.writeF r v).2 ∧ L = [rowA q ss.length ((ss.set j { s with f := (s.f.writeF r v).1 }).flatMap sdC)]) := by
  have hl : j < ss.length := (List.getElem?_eq_some_iff.1 hx).1
  have hn0 : 0 < ss.length := by omega
  have hs : ss.set j { s with f := s.f } = ss := set_same_ hx
  refine Tri.intro tt_ok Tryz.func71 rfl rfl Tryz.ntmps71 rfl fun F => ?_
  unfold Fc.writeF
  refine G tt_ok pk71 ?_
  by_cases h6 : r = 6
  · subst h6
    refine G tt_ok pk71 ?_
    rw [v255 hv]
    refine ke rfl rfl (real48 β ((v % 256 : Nat) : Int)) ?_
    refine G tt_ok pk71 ?_
    rw [show andI ((v % 256 : Nat) : Int) 248 = ((v % 256 &&& 248 : Nat) : Int) from andI_nat (b := 248) (by omega) (by decide)]
    refine sr_ tt_ok rfl rfl (wr_sdm hx _) ?_ (hn := hn0)
    refine G tt_ok pk71 ?_
    exact CW.ret (fin_ret rfl (A := [rowA q ss.length ((ss.set j { s with f := { s.f with m := v % 256 &&& 248 } }).flatMap sdC)]) pk_ ⟨rfl, rfl⟩)
  rw [if_neg h6, show (r == 6) = false by simp [h6]]
  refine G tt_ok pk71 ?_
  by_cases h7 : r = 7
  · subst h7
    refine G tt_ok pk71 ?_
    rw [v7 hv]
    refine SQ.idx tt_ok rfl rfl 0 rfl (by decide) rfl ?_
    refine G tt_ok pk71 ?_
    refine sr_ tt_ok rfl rfl (wr_sp0 hx _) ?_ (hn := hn0)
    refine G tt_ok pk71 ?_
    exact CW.ret (fin_ret rfl (A := [rowA q ss.length ((ss.set j { s with f := { s.f with p0 := v % 8 } }).flatMap sdC)]) pk_ ⟨rfl, rfl⟩)
  rw [if_neg h7, show (r == 7) = false by simp [h7]]
  refine G tt_ok pk71 ?_
  by_cases h8 : r = 8
  · subst h8
    refine G tt_ok pk71 ?_
    rw [v7 hv, show (if (1 : Int) < ((v % 8 : Nat) : Int) then ((v % 8 : Nat) : Int) else 1) = ((max 1 (v % 8) : Nat) : Int) by split <;> omega]
    refine SQ.idx tt_ok rfl rfl 1 rfl (by decide) rfl ?_
    refine G tt_ok pk71 ?_
    refine sr_ tt_ok rfl rfl (wr_sp1 hx _) ?_ (hn := hn0)
    refine G tt_ok pk71 ?_
    exact CW.ret (fin_ret rfl (A := [rowA q ss.length ((ss.set j { s with f := { s.f with p1 := max 1 (v % 8) } }).flatMap sdC)]) pk_ ⟨rfl, rfl⟩)
  rw [if_neg h8, show (r == 8) = false by simp [h8]]
  refine G tt_ok pk71 ?_
  by_cases h9 : r = 9
  · subst h9
    refine G tt_ok pk71 ?_
    rw [and2_is v hv]
    refine sr_ tt_ok rfl rfl (wr_ssp hx _) ?_ (hn := hn0)
    refine G tt_ok pk71 ?_
    exact CW.ret (fin_ret rfl (A := [rowA q ss.length ((ss.set j { s with f := { s.f with sp := decide (v / 2 % 2 = 1) } }).flatMap sdC)]) pk_ ⟨rfl, rfl⟩)
  rw [if_neg h9, show (r == 9) = false by simp [h9]]
  refine G tt_ok pk71 ?_
  by_cases h10 : r = 10
  · subst h10
    refine G tt_ok pk71 ?_
    rw [and1_is v hv]
    refine SQ.idx tt_ok rfl rfl 0 rfl (by decide) rfl ?_
    refine G tt_ok pk71 ?_
    refine sr_ tt_ok rfl rfl (wr_so0 hx _) ?_ (hn := hn0)
    refine G tt_ok pk71 ?_
    exact CW.ret (fin_ret rfl (A := [rowA q ss.length ((ss.set j { s with f := { s.f with on0 := decide (v % 2 = 1) } }).flatMap sdC)]) pk_ ⟨rfl, rfl⟩)
  rw [if_neg h10, show (r == 10) = false by simp [h10]]
  refine G tt_ok pk71 ?_
  by_cases h11 : r = 11
  · subst h11
    refine G tt_ok pk71 ?_
    rw [and1_is v hv]
    refine SQ.idx tt_ok rfl rfl 1 rfl (by decide) rfl ?_
    refine G tt_ok pk71 ?_
    refine sr_ tt_ok rfl rfl (wr_so1 hx _) ?_ (hn := hn0)
    refine G tt_ok pk71 ?_
    exact CW.ret (fin_ret rfl (A := [rowA q ss.length ((ss.set j { s with f := { s.f with on1 := decide (v % 2 = 1) } }).flatMap sdC)]) pk_ ⟨rfl, rfl⟩)
  rw [if_neg h11, show (r == 11) = false by simp [h11]]
  refine G tt_ok pk71 ?_
  rw [hs]
  exact CW.ret (fin_ret rfl (A := [rowA q ss.length (ss.flatMap sdC)]) pk_ ⟨rfl, rfl⟩)
@[reducible] def pk72 : List (Nat × Plan) := []
def bitV (b : Bool) : Int := if b then 1 else 0
/-- What is read of a register of the interface. -/
def Fc.readF (f : Fc) (r : Int) : Int × Bool :=
  if r = 6 then (f.m, true)
  else if r = 7 then (f.p0, true)
  else if r = 8 then ((max 1 f.p1 : Nat), true)
  else if r = 9 then (2 * bitV f.sp, true)
  else if r = 10 then (bitV f.on0, true)
  else if r = 11 then (bitV f.on1, true)
  else if r = 12 then (f.run.1, true)
  else (0, false)
theorem run_range {b0 b1 : Nat} : 0 ≤ (runV b0 b1).1 ∧ (runV b0 b1).1 ≤ 255 ∧ 0 ≤ (runV b0 b1).2 ∧ (runV b0 b1).2 ≤ 1 := by
  unfold runV
  split
  · decide
  · rename_i x r h
    obtain ⟨k, hk, e1, e2⟩ := ladL_mem (b0 := b0) (b1 := b1) (x := x) (by rw [h]; simp)
    rcases e2 with ⟨e, _⟩ | ⟨e, _⟩ <;> omega
set_option maxHeartbeats 8000000 in
theorem read72 (β : Base) {f : Fc} (ok : FcOk f) (r : Int) :
    Tri Tryz.prog β 72 [fcV f, .int .i64 r] [] (fun u L => u = .tuple #[.int .u64 (f.readF r).1, .bool (f.readF r).2] ∧ L = []) := by
  refine Tri.intro tt_ok Tryz.func72 rfl rfl Tryz.ntmps72 rfl fun F => ?_
  have h1 := cbit135 β f.sp
  have h2 := cbit135 β f.on0
  have h3 := cbit135 β f.on1
  have hrun := running27 β ok
  have hrr := run_range (b0 := f.b0) (b1 := f.b1)
  unfold Fc.readF bitV
  have e0 := ok.m
  have e1 := ok.p0
  have e2 := ok.p1
  (refine G tt_ok pk72 ?_; repeat (refine G1 tt_ok pk72 ?_; intro _))
  by_cases h6 : r = 6
  · subst h6
    (refine G tt_ok pk72 ?_; repeat (refine G1 tt_ok pk72 ?_; intro _))
    rw [show IntKind.u64.wrap (f.m : Int) = (f.m : Int) from wN64 (by omega)]
    exact CW.ret (fin_ret rfl (A := []) (Ent.dropAll _) ⟨rfl, rfl⟩)
  rw [if_neg h6, show (r == 6) = false by simp [h6]]
  (refine G tt_ok pk72 ?_; repeat (refine G1 tt_ok pk72 ?_; intro _))
  by_cases h7 : r = 7
  · subst h7
    (refine G tt_ok pk72 ?_; repeat (refine G1 tt_ok pk72 ?_; intro _))
    refine SQ.idx tt_ok rfl rfl 0 rfl (by decide) (o' := 1) rfl ?_
    (refine G tt_ok pk72 ?_; repeat (refine G1 tt_ok pk72 ?_; intro _))
    rw [show IntKind.u64.wrap (f.p0 : Int) = (f.p0 : Int) from wN64 (by omega)]
    exact CW.ret (fin_ret rfl (A := []) (Ent.dropAll _) ⟨rfl, rfl⟩)
  rw [if_neg h7, show (r == 7) = false by simp [h7]]
  (refine G tt_ok pk72 ?_; repeat (refine G1 tt_ok pk72 ?_; intro _))
  by_cases h8 : r = 8
  · subst h8
    (refine G tt_ok pk72 ?_; repeat (refine G1 tt_ok pk72 ?_; intro _))
    refine SQ.idx tt_ok rfl rfl 1 rfl (by decide) (o' := 2) rfl ?_
    (refine G tt_ok pk72 ?_; repeat (refine G1 tt_ok pk72 ?_; intro _))
    rw [show (if (1 : Int) < (f.p1 : Int) then (f.p1 : Int) else 1) = ((max 1 f.p1 : Nat) : Int) by split <;> omega, show IntKind.u64.wrap ((max 1 f.p1 : Nat) : Int) = ((max 1 f.p1 : Nat) : Int) from wN64 (by omega)]
    exact CW.ret (fin_ret rfl (A := []) (Ent.dropAll _) ⟨rfl, rfl⟩)
  rw [if_neg h8, show (r == 8) = false by simp [h8]]
  (refine G tt_ok pk72 ?_; repeat (refine G1 tt_ok pk72 ?_; intro _))
  by_cases h9 : r = 9
  · subst h9
    (refine G tt_ok pk72 ?_; repeat (refine G1 tt_ok pk72 ?_; intro _))
    refine ke rfl rfl (h1) ?_
    (refine G tt_ok pk72 ?_; repeat (refine G1 tt_ok pk72 ?_; intro _))
    rw [show IntKind.u64.wrap (2 * (if f.sp = true then (1 : Int) else 0)) = 2 * (if f.sp = true then (1 : Int) else 0) by cases f.sp <;> rfl]
    exact CW.ret (fin_ret rfl (A := []) (Ent.dropAll _) ⟨rfl, rfl⟩)
  rw [if_neg h9, show (r == 9) = false by simp [h9]]
  (refine G tt_ok pk72 ?_; repeat (refine G1 tt_ok pk72 ?_; intro _))
  by_cases h10 : r = 10
  · subst h10
    (refine G tt_ok pk72 ?_; repeat (refine G1 tt_ok pk72 ?_; intro _))
    refine SQ.idx tt_ok rfl rfl 0 rfl (by decide) (o' := 3) rfl ?_
    (refine G tt_ok pk72 ?_; repeat (refine G1 tt_ok pk72 ?_; intro _))
    refine ke rfl rfl (h2) ?_
    (refine G tt_ok pk72 ?_; repeat (refine G1 tt_ok pk72 ?_; intro _))
    exact CW.ret (fin_ret rfl (A := []) (Ent.dropAll _) ⟨rfl, rfl⟩)
  rw [if_neg h10, show (r == 10) = false by simp [h10]]
  (refine G tt_ok pk72 ?_; repeat (refine G1 tt_ok pk72 ?_; intro _))
  by_cases h11 : r = 11
  · subst h11
    (refine G tt_ok pk72 ?_; repeat (refine G1 tt_ok pk72 ?_; intro _))
    refine SQ.idx tt_ok rfl rfl 1 rfl (by decide) (o' := 4) rfl ?_
    (refine G tt_ok pk72 ?_; repeat (refine G1 tt_ok pk72 ?_; intro _))
    refine ke rfl rfl (h3) ?_
    (refine G tt_ok pk72 ?_; repeat (refine G1 tt_ok pk72 ?_; intro _))
    exact CW.ret (fin_ret rfl (A := []) (Ent.dropAll _) ⟨rfl, rfl⟩)
  rw [if_neg h11, show (r == 11) = false by simp [h11]]
  (refine G tt_ok pk72 ?_; repeat (refine G1 tt_ok pk72 ?_; intro _))
  by_cases h12 : r = 12
  · subst h12
    (refine G tt_ok pk72 ?_; repeat (refine G1 tt_ok pk72 ?_; intro _))
    refine ke rfl rfl (hrun) ?_
    (refine G tt_ok pk72 ?_; repeat (refine G1 tt_ok pk72 ?_; intro _))
    rw [show IntKind.u64.wrap f.run.1 = f.run.1 from wrap_u hrr.1 (by have := hrr.2.1; unfold Fc.run; omega)]
    exact CW.ret (fin_ret rfl (A := []) (Ent.dropAll _) ⟨rfl, rfl⟩)
  rw [if_neg h12, show (r == 12) = false by simp [h12]]
  (refine G tt_ok pk72 ?_; repeat (refine G1 tt_ok pk72 ?_; intro _))
  exact CW.ret (fin_ret rfl (A := []) (Ent.dropAll _) ⟨rfl, rfl⟩)
@[reducible] def pk117 : List (Nat × Plan) := []
@[reducible] def pk49 : List (Nat × Plan) := []
@[reducible] def pk18 : List (Nat × Plan) := [(8, [(0, 0, []), (1, 0, []), (2, 0, []), (3, 0, []), (4, 0, []), (5, 0, []), (6, 0, []), (7, 0, []), (8, 0, []), (9, 1, [1, 5, 7]), (10, 0, []), (11, 0, [])])]
theorem redistRw_ok : ∀ r ∈ redistRw, rowOk r := by
  have h : (redistRw.all fun r => decide (r.1 < r.2.1) && (r.2.2.2.2.2.2 == 1 || (r.2.2.2.2.2.1 == 1 && r.2.2.2.2.2.2 != 0))) = true := by kernel_rfl
  intro r hr
  have := List.all_eq_true.1 h r hr
  simp only [Bool.and_eq_true, Bool.or_eq_true, decide_eq_true_eq, beq_iff_eq, bne_iff_ne] at this
  exact this
theorem redist117 (β : Base) : Tri Tryz.prog β 117 [] [] (fun v L => ∃ b, v = .slice (some ⟨b, 0, none⟩) 17 17 ∧ L = [pt b (redistRw.flatMap rwC)]) := by
  refine Tri.intro tt_ok Tryz.func117 rfl rfl Tryz.ntmps117 rfl fun F => ?_
  refine G tt_ok pk117 ?_
  refine SQ.built tt_ok rfl rfl (fun b => ⟨(by repeat (first | exact trivial | refine ⟨trivial, ?_⟩ | refine ⟨wk (by repeat (first | exact .h | exact .q | apply At.t)) (by rfl), ?_⟩)), ?_⟩)
  refine G tt_ok pk117 ?_
  refine CW.ret (fin_ret rfl (Ent.refl _) ⟨b, rfl, ?_⟩)
  rfl
theorem regsRedist49 (β : Base) (off w : Int) : Tri Tryz.prog β 49 [.int .i64 off, .int .i64 w] [] (fun v L => v = .tuple #[.agg #[.int .i64 (redistV off w).1.1, .int .i64 (redistV off w).1.2.1, .int .i64 (redistV off w).1.2.2], .int .i64 (redistV off w).2] ∧ L = []) := by
  refine Tri.intro tt_ok Tryz.func49 rfl rfl Tryz.ntmps49 rfl fun F => ?_
  (refine G tt_ok pk49 ?_; repeat (refine G1 tt_ok pk49 ?_; intro _))
  (refine ka rfl rfl (redist117 β) ?_; rintro _ _ ⟨b, rfl, rfl⟩; refine w_ ?_)
  have hB : RdS β (some ⟨b, 0, none⟩) 17 7 (redistRw.flatMap rwC) (pt b (redistRw.flatMap rwC)) := ⟨rfl, .inr ⟨b, 0, true, _, rfl, rfl, rfl⟩⟩
  (refine G tt_ok pk49 ?_; repeat (refine G1 tt_ok pk49 ?_; intro _))
  refine ke rfl rfl (find108 β hB (by omega) redistRw_ok (by omega) (by omega) off w) ?_
  (refine G tt_ok pk49 ?_; repeat (refine G1 tt_ok pk49 ?_; intro _))
  refine CW.ret (fin_cells [_, _] ⟨⟨_, _, _, _, 1, rfl, rfl, rfl, rfl⟩, rfl, trivial⟩ (Ent.dropAll _) ⟨rfl, rfl⟩)
/-- A write to a processor's own registers. -/
def GS.setS (G : GS) (k : Int) (s : SdS) : GS := { G with ss := G.ss.set k.toNat s }
def GS.wrRegV (G : GS) (k r f c : Int) (v : Nat) : GS × Int := match G.ss[k.toNat]? with
  | some s =>
    if r = 1 then (G.setS k { s with on := decide (v % 2 = 1) }, 0)
    else if r = 14 then (if s.on then G else G.setS k { s with pr := v % 2 ^ 48 }, 0)
    else if r = 15 then (if s.on then G else G.setS k { s with pe := v % 2 ^ 48 }, 0)
    else if r = 2 ∨ r = 16 ∨ r = 17 ∨ r = 18 ∨ r = 0 then (G, 0)
    else ({ G with D := (G.D.wrOwnV k r f c v).1 }, (G.D.wrOwnV k r f c v).2)
  | none => (G, 271)
def GS.wrOwnV (G : GS) (k off w : Int) (v : Nat) : GS × (Int × Int) :=
  if (redistV off w).2 ≠ 0 then (G, (0, (redistV off w).2))
  else if rightV G.ss.length k then ((G.wrRegV k (redistV off w).1.1 (redistV off w).1.2.1 (redistV off w).1.2.2 v).1, ((redistV off w).1.1, (G.wrRegV k (redistV off w).1.1 (redistV off w).1.2.1 (redistV off w).1.2.2 v).2))
  else (G, (0, 271))
theorem v48 {v : Nat} (hv : v < 2 ^ 64) : IntKind.u64.wrap ((BitVec.ofInt IntKind.u64.bits (v : Int) &&& BitVec.ofInt IntKind.u64.bits 281474976710655).toNat : Int) = ((v % 2 ^ 48 : Nat) : Int) := and_mod (k := 48) hv (by omega)
theorem pk_same {ss : List SdS} {k : Nat} {s t : SdS} (h : ss[k]? = some s) (e : sdA t = sdA s) : pkA sdA (ss.set k t) = pkA sdA ss := by
  have : (ss.set k t).flatMap sdA = ss.flatMap sdA := by
    rw [List.flatMap_def, List.flatMap_def, List.map_set, e]
    congr 1
    apply List.ext_getElem?
    intro i
    by_cases hi : k = i
    · subst hi
      rw [List.getElem?_set_self (by rw [List.length_map]; exact (List.getElem?_eq_some_iff.1 h).1), List.getElem?_map, h]; rfl
    · rw [List.getElem?_set_ne hi]
  unfold pkA
  rw [this]
theorem gA_set {g d : Nat} {D : DS} {qc qs : Option Addr} {cc cs : Nat} {cf : List Nat} {ss : List SdS} {k : Int} {s t : SdS} (h : ss[k.toNat]? = some s) (e : sdA t = sdA s) :
    gA g (GS.setS ⟨d, D, qc, cc, cf, qs, cs, ss⟩ k t) = [pt g (gC d qc cf.length cc qs ss.length cs), rowA qc cf.length (cf.flatMap byC), rowA qs ss.length ((ss.set k.toNat t).flatMap sdC), pkA sdA ss] ++ dA d D := by
  unfold gA GS.setS
  simp only [List.length_set]
  rw [pk_same h e]
set_option maxHeartbeats 16000000 in
theorem gwriteOwn18 (β : Base) (g : Nat) (Z : GS) (k off w : Int) {v : Nat} (hv : v < 2 ^ 64) :
    Tri Tryz.prog β 18 [.pointer (some ⟨g, 0, none⟩), .int .i64 k, .int .i64 off, .int .i64 w, .int .u64 v] (gA g Z)
    (fun u L => u = .tuple #[.int .i64 (Z.wrOwnV k off w v).2.1, .int .i64 (Z.wrOwnV k off w v).2.2] ∧ L = gA g (Z.wrOwnV k off w v).1) := by
  obtain ⟨d, D, qc, cc, cf, qs, cs, ss⟩ := Z
  refine Tri.intro tt_ok Tryz.func18 rfl rfl Tryz.ntmps18 rfl fun F => ?_
  unfold GS.wrOwnV GS.wrRegV
  simp only
  (refine G tt_ok pk18 ?_; repeat (refine G1 tt_ok pk18 ?_; intro _))
  refine ke rfl rfl (regsRedist49 β off w) ?_
  generalize redistV off w = z
  obtain ⟨⟨r, fi, co⟩, e⟩ := z
  simp only
  (refine G tt_ok pk18 ?_; repeat (refine G1 tt_ok pk18 ?_; intro _))
  by_cases he : e = 0
  · subst he
    rw [if_neg (by simp), show ((0 : Int) != 0) = false from rfl]
    unfold gA
    (refine G tt_ok pk18 ?_; repeat (refine G1 tt_ok pk18 ?_; intro _))
    refine ke rfl rfl (ghas46 β g d qc qs cf.length cc ss.length cs k) ?_
    cases hr : rightV ss.length k with
    | false =>
      (refine G tt_ok pk18 ?_; repeat (refine G1 tt_ok pk18 ?_; intro _))
      exact CW.ret (fin_ret rfl pk_ ⟨rfl, rfl⟩)
    | true =>
      obtain ⟨s, hx, hl, hk⟩ := rights_at hr
      have hn0 : 0 < ss.length := by omega
      simp only [if_true, hx]
      (refine G tt_ok pk18 ?_; repeat (refine G1 tt_ok pk18 ?_; intro _))
      refine ir_ tt_ok rfl rfl (k.toNat) (hk) rfl ?_ (hlt := hl)
      (refine G tt_ok pk18 ?_; repeat (refine G1 tt_ok pk18 ?_; intro _))
      by_cases h1 : r = 1
      · subst h1
        (refine G tt_ok pk18 ?_; repeat (refine G1 tt_ok pk18 ?_; intro _))
        rw [and1_is v hv]
        refine sr_ tt_ok rfl rfl (wr_sdo hx _) ?_ (hn := hn0)
        (refine G tt_ok pk18 ?_; repeat (refine G1 tt_ok pk18 ?_; intro _))
        refine CW.ret (fin_ret rfl (A := gA g (GS.setS ⟨d, D, qc, cc, cf, qs, cs, ss⟩ k { s with on := decide (v % 2 = 1) })) ?_ ⟨rfl, rfl⟩)
        rw [gA_set (t := { s with on := decide (v % 2 = 1) }) hx rfl]
        exact pk_
      rw [if_neg h1, show (r == 1) = false by simp [h1]]
      (refine G tt_ok pk18 ?_; repeat (refine G1 tt_ok pk18 ?_; intro _))
      by_cases h14 : r = 14
      · subst h14
        (refine G tt_ok pk18 ?_; repeat (refine G1 tt_ok pk18 ?_; intro _))
        refine lr_ tt_ok rfl rfl (rd_sdo hx) ?_ (hn := hn0)
        (refine G tt_ok pk18 ?_; repeat (refine G1 tt_ok pk18 ?_; intro _))
        cases hon : s.on with
        | true =>
          (refine G tt_ok pk18 ?_; repeat (refine G1 tt_ok pk18 ?_; intro _))
          exact CW.ret (fin_ret rfl (A := [pt g (gC d qc cf.length cc qs ss.length cs), rowA qc cf.length (cf.flatMap byC), rowA qs ss.length (ss.flatMap sdC), pkA sdA ss] ++ dA d D) pk_ ⟨rfl, rfl⟩)
        | false =>
          (refine G tt_ok pk18 ?_; repeat (refine G1 tt_ok pk18 ?_; intro _))
          rw [v48 hv]
          refine sr_ tt_ok rfl rfl (wr_sdp hx _) ?_ (hn := hn0)
          (refine G tt_ok pk18 ?_; repeat (refine G1 tt_ok pk18 ?_; intro _))
          have e : ({ s with on := false, pr := v % 2 ^ 48 } : SdS) = { s with pr := v % 2 ^ 48 } := by rw [← hon]
          refine CW.ret (fin_ret rfl (A := gA g (GS.setS ⟨d, D, qc, cc, cf, qs, cs, ss⟩ k { s with on := false, pr := v % 2 ^ 48 })) ?_ ⟨rfl, rfl⟩)
          rw [e, gA_set (t := { s with pr := v % 2 ^ 48 }) hx rfl]
          exact pk_
      rw [if_neg h14, show (r == 14) = false by simp [h14]]
      (refine G tt_ok pk18 ?_; repeat (refine G1 tt_ok pk18 ?_; intro _))
      by_cases h15 : r = 15
      · subst h15
        (refine G tt_ok pk18 ?_; repeat (refine G1 tt_ok pk18 ?_; intro _))
        refine lr_ tt_ok rfl rfl (rd_sdo hx) ?_ (hn := hn0)
        (refine G tt_ok pk18 ?_; repeat (refine G1 tt_ok pk18 ?_; intro _))
        cases hon : s.on with
        | true =>
          (refine G tt_ok pk18 ?_; repeat (refine G1 tt_ok pk18 ?_; intro _))
          exact CW.ret (fin_ret rfl (A := [pt g (gC d qc cf.length cc qs ss.length cs), rowA qc cf.length (cf.flatMap byC), rowA qs ss.length (ss.flatMap sdC), pkA sdA ss] ++ dA d D) pk_ ⟨rfl, rfl⟩)
        | false =>
          (refine G tt_ok pk18 ?_; repeat (refine G1 tt_ok pk18 ?_; intro _))
          rw [v48 hv]
          refine sr_ tt_ok rfl rfl (wr_sde hx _) ?_ (hn := hn0)
          (refine G tt_ok pk18 ?_; repeat (refine G1 tt_ok pk18 ?_; intro _))
          have e : ({ s with on := false, pe := v % 2 ^ 48 } : SdS) = { s with pe := v % 2 ^ 48 } := by rw [← hon]
          refine CW.ret (fin_ret rfl (A := gA g (GS.setS ⟨d, D, qc, cc, cf, qs, cs, ss⟩ k { s with on := false, pe := v % 2 ^ 48 })) ?_ ⟨rfl, rfl⟩)
          rw [e, gA_set (t := { s with pe := v % 2 ^ 48 }) hx rfl]
          exact pk_
      rw [if_neg h15, show (r == 15) = false by simp [h15]]
      (refine G tt_ok pk18 ?_; repeat (refine G1 tt_ok pk18 ?_; intro _))
      by_cases h2 : r = 2
      · subst h2
        rw [if_pos (by simp)]
        (refine G tt_ok pk18 ?_; repeat (refine G1 tt_ok pk18 ?_; intro _))
        exact CW.ret (fin_ret rfl (A := [pt g (gC d qc cf.length cc qs ss.length cs), rowA qc cf.length (cf.flatMap byC), rowA qs ss.length (ss.flatMap sdC), pkA sdA ss] ++ dA d D) pk_ ⟨rfl, rfl⟩)
      rw [show (r == 2) = false by simp [h2]]
      (refine G tt_ok pk18 ?_; repeat (refine G1 tt_ok pk18 ?_; intro _))
      by_cases h16 : r = 16
      · subst h16
        rw [if_pos (by simp)]
        (refine G tt_ok pk18 ?_; repeat (refine G1 tt_ok pk18 ?_; intro _))
        exact CW.ret (fin_ret rfl (A := [pt g (gC d qc cf.length cc qs ss.length cs), rowA qc cf.length (cf.flatMap byC), rowA qs ss.length (ss.flatMap sdC), pkA sdA ss] ++ dA d D) pk_ ⟨rfl, rfl⟩)
      rw [show (r == 16) = false by simp [h16]]
      (refine G tt_ok pk18 ?_; repeat (refine G1 tt_ok pk18 ?_; intro _))
      by_cases h17 : r = 17
      · subst h17
        rw [if_pos (by simp)]
        (refine G tt_ok pk18 ?_; repeat (refine G1 tt_ok pk18 ?_; intro _))
        exact CW.ret (fin_ret rfl (A := [pt g (gC d qc cf.length cc qs ss.length cs), rowA qc cf.length (cf.flatMap byC), rowA qs ss.length (ss.flatMap sdC), pkA sdA ss] ++ dA d D) pk_ ⟨rfl, rfl⟩)
      rw [show (r == 17) = false by simp [h17]]
      (refine G tt_ok pk18 ?_; repeat (refine G1 tt_ok pk18 ?_; intro _))
      by_cases h18 : r = 18
      · subst h18
        rw [if_pos (by simp)]
        (refine G tt_ok pk18 ?_; repeat (refine G1 tt_ok pk18 ?_; intro _))
        exact CW.ret (fin_ret rfl (A := [pt g (gC d qc cf.length cc qs ss.length cs), rowA qc cf.length (cf.flatMap byC), rowA qs ss.length (ss.flatMap sdC), pkA sdA ss] ++ dA d D) pk_ ⟨rfl, rfl⟩)
      rw [show (r == 18) = false by simp [h18]]
      (refine G tt_ok pk18 ?_; repeat (refine G1 tt_ok pk18 ?_; intro _))
      by_cases h0 : r = 0
      · subst h0
        rw [if_pos (by simp)]
        (refine G tt_ok pk18 ?_; repeat (refine G1 tt_ok pk18 ?_; intro _))
        exact CW.ret (fin_ret rfl (A := [pt g (gC d qc cf.length cc qs ss.length cs), rowA qc cf.length (cf.flatMap byC), rowA qs ss.length (ss.flatMap sdC), pkA sdA ss] ++ dA d D) pk_ ⟨rfl, rfl⟩)
      rw [show (r == 0) = false by simp [h0]]
      (refine G tt_ok pk18 ?_; repeat (refine G1 tt_ok pk18 ?_; intro _))
      rw [if_neg (by simp [h2, h16, h17, h18, h0])]
      refine ke rfl rfl (wrOwn27 β d D k r fi co v hv) ?_
      (refine G tt_ok pk18 ?_; repeat (refine G1 tt_ok pk18 ?_; intro _))
      exact CW.ret (fin_ret rfl (A := [pt g (gC d qc cf.length cc qs ss.length cs), rowA qc cf.length (cf.flatMap byC), rowA qs ss.length (ss.flatMap sdC), pkA sdA ss] ++ dA d (D.wrOwnV k r fi co v).1) pk_ ⟨rfl, rfl⟩)
  · rw [if_pos he, show (e != 0) = true by simpa using he]
    (refine G tt_ok pk18 ?_; repeat (refine G1 tt_ok pk18 ?_; intro _))
    exact CW.ret (fin_ret rfl pk_ ⟨rfl, rfl⟩)
end Go.Proofs.YtebpodnbalfomaaGreatDoor.Sl
namespace Go.Proofs.YtebpodnbalfomaaGreatDoor.Sl
open Go Go.RowKit Go.Proofs
set_option linter.unusedVariables false
set_option linter.unusedSimpArgs false
attribute [local irreducible] CW Tri OW
attribute [local irreducible] wlen
set_option maxRecDepth 10000
@[reducible] def pk65 : List (Nat × Plan) := []
@[reducible] def pk107 : List (Nat × Plan) := []
@[reducible] def pk67 : List (Nat × Plan) := []
/-- An interrupt has been taken. -/
def GS.takenV (G : GS) (k id : Int) : GS := if msgV G.cf.length id then (G.letV k id false).1 else { G with D := (G.D.doV k id 5).1 }
/-- An interrupt has ended. -/
def GS.endedV (G : GS) (k id : Int) : GS × Bool := if (G.D.getV k id).2 ≠ 0 ∨ (G.D.getV k id).1.1.2.2.2 = false then (G, false) else ({ G with D := (G.D.doV k id 6).1 }, true)
def GS.endV (G : GS) (k id : Int) (may : Bool) : GS × Int := if may = true ∧ (G.endedV k id).2 = true then ((G.endedV k id).1, id) else (if may then (G.endedV k id).1 else G, -1)
theorem gL_of (g : Nat) (Z : GS) : gA g Z = [pt g (gC Z.d Z.qc Z.cf.length Z.cc Z.qs Z.ss.length Z.cs), rowA Z.qc Z.cf.length (Z.cf.flatMap byC), rowA Z.qs Z.ss.length (Z.ss.flatMap sdC), pkA sdA Z.ss] ++ dA Z.d Z.D := rfl
theorem letV_same (Z : GS) (k id : Int) (w : Bool) : (Z.letV k id w).1.d = Z.d ∧ (Z.letV k id w).1.D = Z.D ∧ (Z.letV k id w).1.qc = Z.qc ∧ (Z.letV k id w).1.cc = Z.cc ∧ (Z.letV k id w).1.cf = Z.cf ∧ (Z.letV k id w).1.qs = Z.qs ∧ (Z.letV k id w).1.cs = Z.cs := by
  unfold GS.letV
  repeat' split
  all_goals exact ⟨rfl, rfl, rfl, rfl, rfl, rfl, rfl⟩
theorem glet21 (β : Base) (g : Nat) {R : RS} {Z : GS} (ok : OkG R Z) (k : Int) {id : Int} (hi : id ≤ 9223372036854775807) (w : Bool) : Tri Tryz.prog β 21 [.pointer (some ⟨g, 0, none⟩), .int .i64 k, .int .i64 id, .bool w] (gA g Z)
    (fun v L => v = .tuple #[.bool (Z.letV k id w).2.1, .int .i64 (Z.letV k id w).2.2] ∧ L = gA g (Z.letV k id w).1) := by
  have h := (let21 β g Z ok.lp ok.w k hi w).frame (rowA Z.qc Z.cf.length (Z.cf.flatMap byC) :: dA Z.d Z.D)
  refine (Tri.ent ?_ h).monoE ?_
  · rw [gL_of]; unfold gL; exact pk_
  · rintro v L ⟨A', rfl, hv, rfl⟩
    refine ⟨gA g (Z.letV k id w).1, ?_, hv, rfl⟩
    obtain ⟨e1, e2, e3, e4, e5, e6, e7⟩ := letV_same Z k id w
    rw [gL_of (Z := (Z.letV k id w).1)]; unfold gL
    rw [e1, e2, e3, e4, e5, e6, e7]
    exact pk_
theorem taken65 (β : Base) (g : Nat) {R : RS} {Z : GS} (ok : OkG R Z) (k : Int) {id : Int} (hi : id < 9223372036854775808) : Tri Tryz.prog β 65 [.pointer (some ⟨g, 0, none⟩), .int .i64 k, .int .i64 id] (gA g Z)
    (fun v L => v = .tuple #[] ∧ L = gA g (Z.takenV k id)) := by
  have hlet := glet21 β g ok k (id := id) (by omega) false
  unfold GS.takenV
  generalize hW : (Z.letV k id false) = W at hlet ⊢
  obtain ⟨d, D, qc, cc, cf, qs, cs, ss⟩ := Z
  refine Tri.intro tt_ok Tryz.func65 rfl rfl Tryz.ntmps65 rfl fun F => ?_
  rw [gL_of] at hlet ⊢
  simp only at hlet ⊢
  refine G tt_ok pk65 ?_
  refine ke rfl rfl (msg15 β g d qc qs cf.length cc ss.length cs id) ?_
  cases h : msgV cf.length id with
  | true =>
    rw [if_pos rfl]
    refine G tt_ok pk65 ?_
    refine ke rfl rfl (hlet) ?_
    refine G tt_ok pk65 ?_
    exact CW.ret (fin_ret (vs := []) rfl (A := gA g W.1) pk_ ⟨rfl, rfl⟩)
  | false =>
    rw [if_neg (by simp)]
    refine G tt_ok pk65 ?_
    refine ke rfl rfl (do23 β d D k id 5 (by omega)) ?_
    refine G tt_ok pk65 ?_
    exact fin_normal (vs := []) rfl (A := [pt g (gC d qc cf.length cc qs ss.length cs), rowA qc cf.length (cf.flatMap byC), rowA qs ss.length (ss.flatMap sdC), pkA sdA ss] ++ dA d (D.doV k id 5).1) pk_ ⟨rfl, rfl⟩
theorem ended107 (β : Base) (g : Nat) (Z : GS) (k : Int) {id : Int} (hi : id < 9223372036854775808) : Tri Tryz.prog β 107 [.pointer (some ⟨g, 0, none⟩), .int .i64 k, .int .i64 id] (gA g Z)
    (fun v L => v = .bool (Z.endedV k id).2 ∧ L = gA g (Z.endedV k id).1) := by
  obtain ⟨d, D, qc, cc, cf, qs, cs, ss⟩ := Z
  refine Tri.intro tt_ok Tryz.func107 rfl rfl Tryz.ntmps107 rfl fun F => ?_
  unfold GS.endedV
  rw [gL_of]
  simp only
  have hget := get21 β d D k id (by omega)
  generalize D.getV k id = lv at hget ⊢
  obtain ⟨⟨⟨e0, l0, t0, a0⟩, en, gr, pr⟩, e⟩ := lv
  simp only at hget ⊢
  (refine G tt_ok pk107 ?_; repeat (refine G1 tt_ok pk107 ?_; intro _))
  refine ke rfl rfl (hget) ?_
  (refine G tt_ok pk107 ?_; repeat (refine G1 tt_ok pk107 ?_; intro _))
  by_cases he : e = 0
  · subst he
    rw [show ((0 : Int) != 0) = false from rfl]
    (refine G tt_ok pk107 ?_; repeat (refine G1 tt_ok pk107 ?_; intro _))
    cases a0 with
    | false =>
      rw [if_pos (by simp)]
      (refine G tt_ok pk107 ?_; repeat (refine G1 tt_ok pk107 ?_; intro _))
      exact CW.ret (fin_ret rfl (A := [pt g (gC d qc cf.length cc qs ss.length cs), rowA qc cf.length (cf.flatMap byC), rowA qs ss.length (ss.flatMap sdC), pkA sdA ss] ++ dA d D) pk_ ⟨rfl, rfl⟩)
    | true =>
      rw [if_neg (by simp)]
      (refine G tt_ok pk107 ?_; repeat (refine G1 tt_ok pk107 ?_; intro _))
      refine ke rfl rfl (do23 β d D k id 6 (by omega)) ?_
      (refine G tt_ok pk107 ?_; repeat (refine G1 tt_ok pk107 ?_; intro _))
      exact CW.ret (fin_ret rfl (A := [pt g (gC d qc cf.length cc qs ss.length cs), rowA qc cf.length (cf.flatMap byC), rowA qs ss.length (ss.flatMap sdC), pkA sdA ss] ++ dA d (D.doV k id 6).1) pk_ ⟨rfl, rfl⟩)
  · rw [if_pos (.inl he), show (e != 0) = true by simpa using he]
    (refine G tt_ok pk107 ?_; repeat (refine G1 tt_ok pk107 ?_; intro _))
    exact CW.ret (fin_ret rfl (A := [pt g (gC d qc cf.length cc qs ss.length cs), rowA qc cf.length (cf.flatMap byC), rowA qs ss.length (ss.flatMap sdC), pkA sdA ss] ++ dA d D) pk_ ⟨rfl, rfl⟩)
theorem end67 (β : Base) (g : Nat) (Z : GS) (k : Int) {id : Int} (hi : id < 9223372036854775808) (may : Bool) : Tri Tryz.prog β 67 [.pointer (some ⟨g, 0, none⟩), .int .i64 k, .int .i64 id, .bool may] (gA g Z)
    (fun v L => v = .int .i64 (Z.endV k id may).2 ∧ L = gA g (Z.endV k id may).1) := by
  have hend := ended107 β g Z k hi
  unfold GS.endV
  generalize hE : Z.endedV k id = E at hend ⊢
  obtain ⟨Y, b⟩ := E
  simp only at hend ⊢
  refine Tri.intro tt_ok Tryz.func67 rfl rfl Tryz.ntmps67 rfl fun F => ?_
  cases may with
  | false =>
    rw [if_neg (by simp), if_neg (by simp)]
    refine G tt_ok pk67 ?_
    exact CW.ret (fin_ret rfl (A := gA g Z) pk_ ⟨rfl, rfl⟩)
  | true =>
    refine G tt_ok pk67 ?_
    refine ke rfl rfl (hend) ?_
    cases b with
    | true =>
      rw [if_pos (by simp)]
      refine G tt_ok pk67 ?_
      exact CW.ret (fin_ret rfl (A := gA g Y) pk_ ⟨rfl, rfl⟩)
    | false =>
      rw [if_neg (by simp), if_pos rfl]
      refine G tt_ok pk67 ?_
      exact CW.ret (fin_ret rfl (A := gA g Y) pk_ ⟨rfl, rfl⟩)
end Go.Proofs.YtebpodnbalfomaaGreatDoor.Sl
namespace Go.Proofs.YtebpodnbalfomaaGreatDoor.Sl
open Go Go.RowKit Go.Proofs
set_option linter.unusedVariables false
set_option linter.unusedSimpArgs false
/-- What is seen has a priority of eight bits. -/
theorem seen_pri {R : RS} {D : DS} (ok : OkD R D) {k : Int} {p : Int × Ln} (h : p ∈ D.seenV k) : 0 ≤ p.2.2.2.2 ∧ p.2.2.2.2 ≤ 255 := by
  unfold DS.seenV at h
  split at h
  · split at h
    · rename_i x hx
      have hes := (ok.es x (List.mem_of_getElem? hx)).2
      rcases List.mem_append.1 h with h | h
      · unfold seenA at h
        obtain ⟨q, hq, rfl⟩ := List.mem_map.1 h
        obtain ⟨i, e, he, rfl⟩ := allN_mem hq
        have := hes e (List.mem_of_getElem? he)
        exact ⟨this.2.2.1, this.2.2.2.1⟩
      · unfold seenB at h
        obtain ⟨q, hq, rfl⟩ := List.mem_map.1 h
        obtain ⟨i, e, he, rfl⟩ := allR_mem (List.mem_filter.1 hq).1
        have := ok.ok e (List.mem_of_getElem? he)
        exact ⟨this.2.2.1, this.2.2.2.1⟩
    · simp at h
  · simp at h
/-- What a candidate may be. -/
def candOk (c : Cd) : Prop := 0 ≤ c.1 ∧ c.1 < 8256 ∧ 0 ≤ c.2.1 ∧ c.2.1 ≤ 255 ∧ 0 ≤ c.2.2.1 ∧ c.2.2.1 ≤ 1
theorem and_255 (b : Nat) (hb : b < 256) : 0 ≤ andI (b : Int) 248 ∧ andI (b : Int) 248 ≤ 255 := by
  rw [show andI (b : Int) 248 = ((b &&& 248 : Nat) : Int) from andI_nat (b := 248) (by omega) (by decide)]
  have := @Nat.and_le_left b 248
  omega
theorem cfAt_lt {cf : List Nat} (h : ∀ b ∈ cf, b < 256) (id : Int) : cfAt cf id < 256 := by
  unfold cfAt
  cases e : cf[(id - 8192).toNat]? with
  | none => decide
  | some b => exact h b (List.mem_of_getElem? e)
theorem cand_ok {R : RS} {G : GS} (ok : OkG R G) {k : Int} {c : Cd} (h : c ∈ G.candV k) : candOk c ∧ c.2.2.2 = true := by
  unfold GS.candV at h
  split at h
  · rcases List.mem_append.1 h with h | h
    · obtain ⟨p, hp, rfl⟩ := List.mem_map.1 h
      have h1 := readyV_sub hp
      have h2 := seen_id ok.ok h1
      have h3 := seen_pri ok.ok h1
      have h4 := seen_gr ok.ok k p h1
      exact ⟨⟨h2.1, by show p.1 < 8256; omega, h3.1, h3.2, h4.1, h4.2⟩, rfl⟩
    · obtain ⟨h1, _, e⟩ := candB_ids ok h
      obtain ⟨j, hj, hj64, e2⟩ := waits_mem ok h1
      have := and_255 (cfAt G.cf c.1) (cfAt_lt ok.by_ _)
      rw [e]
      refine ⟨⟨?_, ?_, this.1, this.2, by show (0 : Int) ≤ 1; omega, by show (1 : Int) ≤ 1; omega⟩, rfl⟩
      · show 0 ≤ c.1; omega
      · show c.1 < 8256; omega
  · simp at h
theorem top_mem (l : List Cd) : topC l = (0, 0, 0, false) ∧ l = [] ∨ topC l ∈ l := by
  unfold topC
  cases h : ordC l with
  | nil =>
    left
    refine ⟨rfl, ?_⟩
    have := ordC_len l
    rw [h] at this
    exact List.eq_nil_of_length_eq_zero this.symm
  | cons c r =>
    right
    have : c ∈ ordC l := by rw [h]; simp
    exact ordC_mem.1 this
theorem top_ok {R : RS} {G : GS} (ok : OkG R G) (k : Int) : candOk (topC (G.candV k)) := by
  rcases top_mem (G.candV k) with ⟨h, _⟩ | h
  · rw [h]; unfold candOk; simp
  · exact (cand_ok ok h).1
theorem OkG.setF {R : RS} {G : GS} (ok : OkG R G) (k : Int) {s t : SdS} (hx : G.ss[k.toNat]? = some s) (hf : FcOk t.f) (hw : t.W = s.W) (h1 : t.pr < 2 ^ 64) (h2 : t.pe < 2 ^ 64) : OkG R (G.setS k t) := by
  have hs := ok.sd s (List.mem_of_getElem? hx)
  refine ⟨ok.ok, by unfold GS.setS; simp only [List.length_set]; exact ok.len, by unfold GS.setS; simp only [List.length_set]; exact ok.n4, ok.lp, ok.by_, ?_⟩
  intro x hx2
  rcases List.mem_or_eq_of_mem_set hx2 with h | rfl
  · exact ok.sd x h
  · exact ⟨hf, hw ▸ hs.w, hw ▸ hs.lt, h1, h2⟩
def realI (id : Int) : Bool := decide (0 ≤ id ∧ id < 1020) || decide (8192 ≤ id ∧ id < 16384)
/-- A read of the acknowledge register. -/
def GS.iarV (G : GS) (k : Int) (s : SdS) (kg : Nat) : GS × Int :=
  if s.f.takes (topC (G.candV k)).2.1.toNat (topC (G.candV k)).2.2.1.toNat (topC (G.candV k)).2.2.2 kg then
    ((G.setS k { s with f := s.f.takeF (topC (G.candV k)).2.1.toNat (topC (G.candV k)).2.2.1.toNat (topC (G.candV k)).2.2.2 kg }).takenV k (topC (G.candV k)).1, (topC (G.candV k)).1)
  else (G.setS k { s with f := s.f.takeF (topC (G.candV k)).2.1.toNat (topC (G.candV k)).2.2.1.toNat (topC (G.candV k)).2.2.2 kg }, 1023)
/-- A write to the end's register. -/
def GS.eoiV (G : GS) (k : Int) (s : SdS) (kg : Nat) (id : Int) : GS × Int :=
  if realI id then (G.setS k { s with f := s.f.dropF kg }).endV k id (s.f.drops kg && !s.f.sp) else G.endV k id false
/-- An access to a processor's interface. -/
def GS.accS (G : GS) (k r : Int) (w : Bool) (x : Nat) (s : SdS) : GS × (Int × Int × Int) :=
  if w then
    if r = 3 then ((G.eoiV k s 0 (x % 2 ^ 24 : Nat)).1, (0, (G.eoiV k s 0 (x % 2 ^ 24 : Nat)).2, 0))
    else if r = 4 then ((G.eoiV k s 1 (x % 2 ^ 24 : Nat)).1, (0, (G.eoiV k s 1 (x % 2 ^ 24 : Nat)).2, 0))
    else if r = 5 then ((G.endV k (x % 2 ^ 24 : Nat) (realI (x % 2 ^ 24 : Nat) && s.f.sp)).1, (0, (G.endV k (x % 2 ^ 24 : Nat) (realI (x % 2 ^ 24 : Nat) && s.f.sp)).2, 0))
    else if r = 15 then ({ G with D := (G.D.callV k 0 x).1 }, (0, -1, 0))
    else if r = 16 then ({ G with D := (G.D.callV k 1 x).1 }, (0, -1, 0))
    else (G.setS k { s with f := (s.f.writeF r x).1 }, (0, -1, if (s.f.writeF r x).2 then 0 else 281))
  else
    if r = 1 then ((G.iarV k s 0).1, ((G.iarV k s 0).2, -1, 0))
    else if r = 2 then ((G.iarV k s 1).1, ((G.iarV k s 1).2, -1, 0))
    else if r = 13 then (G, (s.f.shows (topC (G.candV k)) 0, -1, 0))
    else if r = 14 then (G, (s.f.shows (topC (G.candV k)) 1, -1, 0))
    else if (s.f.readF r).2 then (G, ((s.f.readF r).1, -1, 0)) else (G, (0, -1, 281))
def GS.accV (G : GS) (k r : Int) (w : Bool) (x : Nat) : GS × (Int × Int × Int) :=
  if rightV G.ss.length k then (match G.ss[k.toNat]? with
    | some s => G.accS k r w x s
    | none => (G, (0, -1, 271)))
  else (G, (0, -1, 271))
end Go.Proofs.YtebpodnbalfomaaGreatDoor.Sl
