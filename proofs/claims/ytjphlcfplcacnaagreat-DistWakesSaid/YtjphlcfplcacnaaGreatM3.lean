/-
  Part 3 of the proof: contracts of the code's functions, and what is plain.
-/
import Derived.Test.YtjphlcfplcacnaaGreatM2
namespace Go.Proofs.YtjphlcfplcacnaaGreat.Sl
open Go Go.RowKit Go.Proofs
set_option linter.unusedVariables false
set_option linter.unusedSimpArgs false
attribute [local irreducible] CW Tri OW
set_option maxRecDepth 10000
@[reducible] def pk73 : List (Nat × Plan) := [(9, [(0, 0, []), (1, 0, []), (2, 0, []), (3, 0, []), (4, 0, []), (5, 0, []), (6, 1, [3, 5]), (7, 0, [])]), (14, [(0, 0, []), (1, 0, []), (2, 0, []), (3, 0, []), (4, 0, []), (5, 0, []), (6, 1, [3, 4])])]
theorem rd_rc {sh : List Br.En} {k : Nat} {e : Br.En} (h : sh[k]? = some e) (X : List Value) : rdv ti3 (sh.flatMap rcC ++ X) (0 + k * 1) = some (.int .i64 e.2.1) :=
  rd_partR (enc := rcC) (sz := 1) (fun _ => rfl) h 0 (i := ti3) rfl (by decide) (by omega) (by decide) X
theorem rd_ra {sh : List Br.En} {k : Nat} {e : Br.En} (h : sh[k]? = some e) (X : List Value) : rdv ti4 (sh.flatMap raC ++ X) (0 + k * 1) = some (.bool e.2.2) :=
  rd_partR (enc := raC) (sz := 1) (fun _ => rfl) h 0 (i := ti4) rfl (by decide) (by omega) (by decide) X
theorem wr_rc {sh : List Br.En} {k : Nat} {e : Br.En} (h : sh[k]? = some e) (t : Int × Bool) (X : List Value) : wrv ti3 (sh.flatMap rcC ++ X) (0 + k * 1) (.int .i64 t.1) = some ((sh.set k (e.1, t)).flatMap rcC ++ X) :=
  wr_encR (enc := rcC) (sz := 1) (fun _ => rfl) h 0 (i := ti3) (by decide) rfl rfl (by omega) X
theorem wr_ra {sh : List Br.En} {k : Nat} {e : Br.En} (h : sh[k]? = some e) (t : Int × Bool) (X : List Value) : wrv ti4 (sh.flatMap raC ++ X) (0 + k * 1) (.bool t.2) = some ((sh.set k (e.1, t)).flatMap raC ++ X) :=
  wr_encR (enc := raC) (sz := 1) (fun _ => rfl) h 0 (i := ti4) (by decide) rfl rfl (by omega) X
theorem putR_route {first id : Int} {es : List Br.En} {e : Br.En} (ok : Br.okL es) (h : Br.atE first es id = some e) (t : Int × Bool) : Br.putV first es id (e.1, t) = (es.set (id - first).toNat (e.1, t), 0) := by
  obtain ⟨i, hi, he⟩ := Br.atE_iff.1 h
  obtain ⟨g1, g2, g3, g4, g5⟩ := Br.okL_at ok he
  unfold Br.putV
  rw [h]
  simp only
  rw [if_neg (by omega), g5]
theorem mod_odd (v : Nat) (hv : v < 2 ^ 64) : ((v : Int).tmod 2 == 1) = decide (v % 2 = 1) := by
  rw [Int.tmod_eq_emod_of_nonneg (by omega), Bool.eq_iff_iff]
  simp only [beq_iff_eq, decide_eq_true_eq]
  omega
theorem mod256 (v : Nat) (hv : v < 2 ^ 64) : IntKind.i64.wrap ((v : Int).tmod 256) = (routeV v).1 := by
  rw [Int.tmod_eq_emod_of_nonneg (by omega)]
  unfold routeV
  exact wrap_id (by omega) (by omega)
theorem shr31 (v : Nat) (hv : v < 2 ^ 64) : (((v : Int).fdiv (2 ^ min 31 IntKind.u64.bits)).tmod 2 == 1) = (routeV v).2 := by
  have e : (v : Int).fdiv (2 ^ min 31 IntKind.u64.bits) = ((v / 2 ^ 31 : Nat) : Int) := by
    rw [show (2 : Int) ^ min 31 IntKind.u64.bits = ((2 ^ 31 : Nat) : Int) from rfl, Int.fdiv_eq_ediv_of_nonneg _ (by omega)]
    rfl
  rw [e, mod_odd (v / 2 ^ 31) (by omega)]
  rfl
set_option maxHeartbeats 8000000 in
theorem refWrite73 (β : Base) (r : Nat) (R : RS) (D : DS) (ok : OkD R D) (off w : Int) (v : Nat) (hv : v < 2 ^ 64) (hc : (distV off w).1.2.2 ≤ 16384) : Tri Tryz.prog β 73 [.pointer (some ⟨r, 0, none⟩), .int .i64 off, .int .i64 w, .int .u64 v] (rD r R D) (fun u L => u = .int .i64 (D.wrV off w v).2 ∧ L = rD r R (D.wrV off w v).1) := by
  obtain ⟨h1, h8, hes, hsh, hok, hos⟩ := ok
  refine Tri.intro tt_ok Tryz.func73 rfl rfl Tryz.ntmps73 rfl fun F => ?_
  unfold DS.wrV
  unfold rD
  have hD := dist15 β off w
  generalize distV off w = P at hD hc ⊢
  obtain ⟨⟨pr, pf, pc⟩, e⟩ := P
  simp only at hD hc ⊢
  (refine G tt_ok pk73 ?_; repeat (refine G1 tt_ok pk73 ?_; intro _))
  refine ke rfl rfl (hD) ?_
  (refine G tt_ok pk73 ?_; repeat (refine G1 tt_ok pk73 ?_; intro _))
  by_cases he : e = 0
  · subst he
    rw [if_neg (by simp)]
    (refine G tt_ok pk73 ?_; repeat (refine G1 tt_ok pk73 ?_; intro _))
    by_cases h1 : pr = 1
    · subst h1
      rw [if_pos rfl]
      (refine G tt_ok pk73 ?_; repeat (refine G1 tt_ok pk73 ?_; intro _))
      rw [mod_odd v hv]
      refine SQ.idx tt_ok rfl rfl 0 rfl (by decide) (o' := 0) rfl ?_
      (refine G tt_ok pk73 ?_; repeat (refine G1 tt_ok pk73 ?_; intro _))
      rw [half_odd v hv]
      refine SQ.idx tt_ok rfl rfl 1 rfl (by decide) (o' := 1) rfl ?_
      (refine G tt_ok pk73 ?_; repeat (refine G1 tt_ok pk73 ?_; intro _))
      exact CW.ret (fin_ret rfl (A := rD r R { D with o0 := decide (v % 2 = 1), o1 := decide (v / 2 % 2 = 1) }) pk_ ⟨rfl, rfl⟩)
    · rw [if_neg h1, show (pr == 1) = false by simp [h1]]
      (refine G tt_ok pk73 ?_; repeat (refine G1 tt_ok pk73 ?_; intro _))
      by_cases h13 : pr = 13
      · subst h13
        rw [if_pos rfl]
        have hsd : R.s.at_ 32 (Br.lsV D.sh) = [pt R.s.b [.int .i64 32, .slice R.s.q (Br.lsV D.sh).length R.s.c, .slice R.s.q2 (Br.lsV D.sh).length R.s.c2], rowA R.s.q (Br.lsV D.sh).length ((Br.lsV D.sh).flatMap lnC)] := rfl
        rw [hsd]
        (refine G tt_ok pk73 ?_; repeat (refine G1 tt_ok pk73 ?_; intro _))
        refine ke rfl rfl (at37d β R.s.b (first := 32) pf R.s.q (n := (Br.lsV D.sh).length) R.s.c _ (by omega) (by omega) (by rw [Br.lsV_len]; omega) rfl) ?_
        (refine G tt_ok pk73 ?_; repeat (refine G1 tt_ok pk73 ?_; intro _))
        cases ha : Br.atE 32 D.sh pf with
        | none =>
          rw [atD_R.2 ha]
          (refine G tt_ok pk73 ?_; repeat (refine G1 tt_ok pk73 ?_; intro _))
          exact CW.ret (fin_ret rfl (A := rD r R D) (by unfold rD; rw [hsd]; exact pk_) ⟨rfl, rfl⟩)
        | some en =>
          obtain ⟨ga, gx, g0, gs, gt⟩ := atD_R.1 en ha
          have hat := (Br.atE_some ha).2.2.1
          simp only
          rw [ga, decide_eq_true (show pf - 32 ≥ 0 by omega), putR_route hok ha]
          obtain ⟨s, qk, ck, qa, ca, qo, co, qs, cs, os⟩ := R
          simp only at hos ⊢
          (refine CW.ent (Rm.to (A := rowA qk (D.sh.length) (D.sh.flatMap rcC)) (by repeat (first | exact Rm.h | apply Rm.t)) (row_open (by omega))) ?_; refine CW.open_ fun y => ?_; obtain ⟨g, rest⟩ := y; refine CW.pure_ fun hv => ?_; simp only at hv; subst hv)
          (refine CW.ent (Rm.to (A := rowA qa (D.sh.length) (D.sh.flatMap raC)) (by repeat (first | exact Rm.h | apply Rm.t)) (row_open (by omega))) ?_; refine CW.open_ fun y => ?_; obtain ⟨g2, rest2⟩ := y; refine CW.pure_ fun hv => ?_; simp only at hv; subst hv)
          (refine G tt_ok pk73 ?_; repeat (refine G1 tt_ok pk73 ?_; intro _))
          rw [mod256 v hv]
          refine SQ.idx tt_ok rfl rfl (pf - 32).toNat gt.symm gs (o' := 0 + (pf - 32).toNat * 1) rfl ?_
          (refine SQ.stA tt_ok rfl rfl (by repeat (first | apply Up.h | apply Up.t)) (by rfl) (wr_rc hat (routeV v) rest) (by repeat (first | exact trivial | refine ⟨trivial, ?_⟩ | refine ⟨wk (by repeat (first | exact .h | exact .q | apply At.t)) (by rfl), ?_⟩)) ?_)
          (refine G tt_ok pk73 ?_; repeat (refine G1 tt_ok pk73 ?_; intro _))
          rw [shr31 v hv]
          refine SQ.idx tt_ok rfl rfl (pf - 32).toNat gt.symm gs (o' := 0 + (pf - 32).toNat * 1) rfl ?_
          (refine SQ.stA tt_ok rfl rfl (by repeat (first | apply Up.h | apply Up.t)) (by rfl) (wr_ra hat (routeV v) rest2) (by repeat (first | exact trivial | refine ⟨trivial, ?_⟩ | refine ⟨wk (by repeat (first | exact .h | exact .q | apply At.t)) (by rfl), ?_⟩)) ?_)
          (refine G tt_ok pk73 ?_; repeat (refine G1 tt_ok pk73 ?_; intro _))
          refine CW.ret (fin_ret rfl (A := rD r ⟨s, some ⟨g, 0, none⟩, ck, some ⟨g2, 0, none⟩, ca, qo, co, qs, cs, os⟩ { D with sh := D.sh.set (pf - 32).toNat (en.1, routeV v) }) ?_ ⟨rfl, rfl⟩)
          unfold rD
          rw [show Br.lsV (D.sh.set (pf - 32).toNat (en.1, routeV v)) = Br.lsV D.sh from Br.map_set_same hat rfl]
          simp only [List.length_set]
          rw [hsd]
          refine Ent.trans (rm_ (A := pt g ((D.sh.set (pf - 32).toNat (en.1, routeV v)).flatMap rcC ++ rest)) (row_close (n := D.sh.length))) ?_
          refine Ent.trans (rm_ (A := pt g2 ((D.sh.set (pf - 32).toNat (en.1, routeV v)).flatMap raC ++ rest2)) (row_close (n := D.sh.length))) ?_
          exact pk_
      · rw [if_neg h13, show (pr == 13) = false by simp [h13]]
        (refine G tt_ok pk73 ?_; repeat (refine G1 tt_ok pk73 ?_; intro _))
        refine ke rfl rfl (wrR β R.s (first := 32) D.sh (by omega) (by omega) (by omega) hok pr pf pc hv hc) ?_
        (refine G tt_ok pk73 ?_; repeat (refine G1 tt_ok pk73 ?_; intro _))
        refine CW.ret (fin_ret rfl (A := rD r R { D with sh := (Br.wrK 32 D.sh pr pf pc v (cntV pc)).1 }) ?_ ⟨rfl, rfl⟩)
        rw [rD_sh (Br.wrK_texts _ _ _ _ _ _ _)]
        exact pk_
  · rw [if_pos he, show (e != 0) = true by simp [he]]
    (refine G tt_ok pk73 ?_; repeat (refine G1 tt_ok pk73 ?_; intro _))
    exact CW.ret (fin_ret rfl (A := rD r R D) pk_ ⟨rfl, rfl⟩)
set_option maxHeartbeats 4000000 in
theorem refGet44 (β : Base) (r : Nat) (R : RS) (D : DS) (ok : OkD R D) (k id : Int) : Tri Tryz.prog β 44 [.pointer (some ⟨r, 0, none⟩), .int .i64 k, .int .i64 id] (rD r R D) (fun v L => v = .tuple #[.agg #[.bool (D.getV k id).1.1.1, .bool (D.getV k id).1.1.2.1, .bool (D.getV k id).1.1.2.2.1, .bool (D.getV k id).1.1.2.2.2, .bool (D.getV k id).1.2.1, .int .i64 (D.getV k id).1.2.2.1, .int .i64 (D.getV k id).1.2.2.2], .int .i64 (D.getV k id).2] ∧ L = rD r R D) := by
  obtain ⟨h1, h8, hes, hsh, hok, hos⟩ := ok
  refine Tri.intro tt_ok Tryz.func44 rfl rfl Tryz.ntmps44 rfl fun F => ?_
  unfold rD
  (refine G tt_ok [] ?_; repeat (refine G1 tt_ok [] ?_; intro _))
  refine ke rfl rfl (there48 β r _ _ _ rfl rfl rfl R.qk R.qa R.qo R.qs D.sh.length D.sh.length D.xs.length D.xs.length R.ck R.ca R.co R.cs k) ?_
  cases hr : rightV D.xs.length k with
  | false =>
    (refine G tt_ok [] ?_; repeat (refine G1 tt_ok [] ?_; intro _))
    have hd : D.getV k id = (zeroL, 130) := by unfold DS.getV; rw [hr]; rfl
    rw [hd]
    exact CW.ret (fin_cells [_, _] ⟨⟨_, _, _, _, 1, rfl, rfl, rfl, rfl⟩, rfl, trivial⟩ (A := rD r R D) pk_ ⟨rfl, rfl⟩)
  | true =>
    rw [← hos] at hr ⊢
    (refine G tt_ok [] ?_; repeat (refine G1 tt_ok [] ?_; intro _))
    refine ke rfl rfl (bank89 β r _ _ rfl rfl R R.qk R.qa R.qs D.sh.length D.sh.length R.os.length R.ck R.ca R.cs k id hr) ?_
    unfold bankB
    obtain ⟨x, hx, hl, hk⟩ := right_at (xs := D.xs) (k := k) (by rw [← hos]; exact hr)
    obtain ⟨o, ho⟩ : ∃ o, R.os[k.toNat]? = some o := ⟨_, List.getElem?_eq_getElem (show k.toNat < R.os.length by omega)⟩
    have hx32 := hes x (List.mem_of_getElem? hx)
    have hgv : D.getV k id = if id < 32 then ((Bn.getV 0 x.es id).1.1, (Bn.getV 0 x.es id).2) else ((Br.getV 32 D.sh id).1.1, (Br.getV 32 D.sh id).2) := by
      unfold DS.getV
      rw [← hos, hr, hx]; rfl
    rw [ho]
    by_cases h32 : id < 32
    · rw [if_pos h32]
      rw [if_pos h32] at hgv
      rw [hgv]
      refine SQ.ent _ (rm_ (A := pkA obF (R.os.zip D.xs)) (ob_open ho hx)) ?_
      (refine G tt_ok [] ?_; repeat (refine G1 tt_ok [] ?_; intro _))
      refine ke rfl rfl (at37d β o.b (first := 0) id o.q (n := (Bn.lsV x.es).length) o.c _ (by omega) (by omega) (by rw [Bn.lsV_len]; omega) rfl) ?_
      (refine G tt_ok [] ?_; repeat (refine G1 tt_ok [] ?_; intro _))
      have hsh := ob_shut ho hx
      cases ha : Bn.atE 0 x.es id with
      | none =>
        rw [show Bn.getV 0 x.es id = (Bn.zeroE, 90) by unfold Bn.getV; rw [ha], atD_N.2 ha]
        (refine G tt_ok [] ?_; repeat (refine G1 tt_ok [] ?_; intro _))
        refine CW.ret (fin_cells [_, _] ⟨(by first | exact ⟨_, _, _, _, 0, rfl, rfl, rfl, rfl⟩ | exact ⟨_, _, _, _, 1, rfl, rfl, rfl, rfl⟩ | exact ⟨_, _, _, _, 2, rfl, rfl, rfl, rfl⟩ | exact ⟨_, _, _, _, 3, rfl, rfl, rfl, rfl⟩ | exact ⟨_, _, _, _, 4, rfl, rfl, rfl, rfl⟩ | exact ⟨_, _, _, _, 5, rfl, rfl, rfl, rfl⟩ | exact ⟨_, _, _, _, 6, rfl, rfl, rfl, rfl⟩ | exact ⟨_, _, _, _, 7, rfl, rfl, rfl, rfl⟩ | exact ⟨_, _, _, _, 8, rfl, rfl, rfl, rfl⟩ | exact ⟨_, _, _, _, 9, rfl, rfl, rfl, rfl⟩ | exact ⟨_, _, _, _, 10, rfl, rfl, rfl, rfl⟩ | exact ⟨_, _, _, _, 11, rfl, rfl, rfl, rfl⟩ | exact ⟨_, _, _, _, 12, rfl, rfl, rfl, rfl⟩ | exact ⟨_, _, _, _, 13, rfl, rfl, rfl, rfl⟩ | exact ⟨_, _, _, _, 14, rfl, rfl, rfl, rfl⟩ | exact ⟨_, _, _, _, 15, rfl, rfl, rfl, rfl⟩ | exact ⟨_, _, _, _, 16, rfl, rfl, rfl, rfl⟩ | exact ⟨_, _, _, _, 17, rfl, rfl, rfl, rfl⟩ | exact ⟨_, _, _, _, 18, rfl, rfl, rfl, rfl⟩ | exact ⟨_, _, _, _, 19, rfl, rfl, rfl, rfl⟩ | exact ⟨_, _, _, _, 20, rfl, rfl, rfl, rfl⟩ | exact ⟨_, _, _, _, 21, rfl, rfl, rfl, rfl⟩ | exact ⟨_, _, _, _, 22, rfl, rfl, rfl, rfl⟩ | exact ⟨_, _, _, _, 23, rfl, rfl, rfl, rfl⟩), rfl, trivial⟩ (A := rD r R D) ?_ ⟨rfl, by unfold rD; rw [← hos]⟩)
        unfold rD
        rw [← hos]
        refine Ent.trans (tk_ (As := [pt o.b [.int .i64 0, .slice o.q (Bn.lsV x.es).length o.c, .slice o.q2 (Bn.lsV x.es).length o.c2], rowA o.q (Bn.lsV x.es).length ((Bn.lsV x.es).flatMap lnC)] ++ [pkA obF ((R.os.zip D.xs).eraseIdx k.toNat)]) (hsh)) ?_
        exact pk_
      | some e =>
        obtain ⟨ga, gx, g0, gs, gt⟩ := atD_N.1 e ha
        rw [show Bn.getV 0 x.es id = (e, 0) by unfold Bn.getV; rw [ha], ga, decide_eq_false (show ¬ id - 0 < 0 by omega)]
        have hn0 : 0 < (Bn.lsV x.es).length := by rw [Bn.lsV_len]; omega
        obtain ⟨ob, oq, oc, oq2, oc2⟩ := o
        simp only at hsh ⊢
        (refine CW.ent (Rm.to (A := rowA oq ((Bn.lsV x.es).length) ((Bn.lsV x.es).flatMap lnC)) (by repeat (first | exact Rm.h | apply Rm.t)) (row_open (by omega))) ?_; refine CW.open_ fun y => ?_; obtain ⟨g, rest⟩ := y; refine CW.pure_ fun hv => ?_; simp only at hv; subst hv)
        (refine G tt_ok [] ?_; repeat (refine G1 tt_ok [] ?_; intro _))
        refine SQ.idx tt_ok rfl rfl (id - 0).toNat gt.symm (by rw [Bn.lsV_len]; exact gs) (o' := 0 + (id - 0).toNat * 7) rfl ?_
        (refine G tt_ok [] ?_; repeat (refine G1 tt_ok [] ?_; intro _))
        (refine SQ.ldA tt_ok rfl rfl (by repeat (first | exact .h | exact .q | apply At.t)) (rd_ln gx rest) ?_)
        (refine G tt_ok [] ?_; repeat (refine G1 tt_ok [] ?_; intro _))
        refine CW.ret (fin_cells [_, _] ⟨(by first | exact ⟨_, _, _, _, 0, rfl, rfl, rfl, rfl⟩ | exact ⟨_, _, _, _, 1, rfl, rfl, rfl, rfl⟩ | exact ⟨_, _, _, _, 2, rfl, rfl, rfl, rfl⟩ | exact ⟨_, _, _, _, 3, rfl, rfl, rfl, rfl⟩ | exact ⟨_, _, _, _, 4, rfl, rfl, rfl, rfl⟩ | exact ⟨_, _, _, _, 5, rfl, rfl, rfl, rfl⟩ | exact ⟨_, _, _, _, 6, rfl, rfl, rfl, rfl⟩ | exact ⟨_, _, _, _, 7, rfl, rfl, rfl, rfl⟩ | exact ⟨_, _, _, _, 8, rfl, rfl, rfl, rfl⟩ | exact ⟨_, _, _, _, 9, rfl, rfl, rfl, rfl⟩ | exact ⟨_, _, _, _, 10, rfl, rfl, rfl, rfl⟩ | exact ⟨_, _, _, _, 11, rfl, rfl, rfl, rfl⟩ | exact ⟨_, _, _, _, 12, rfl, rfl, rfl, rfl⟩ | exact ⟨_, _, _, _, 13, rfl, rfl, rfl, rfl⟩ | exact ⟨_, _, _, _, 14, rfl, rfl, rfl, rfl⟩ | exact ⟨_, _, _, _, 15, rfl, rfl, rfl, rfl⟩ | exact ⟨_, _, _, _, 16, rfl, rfl, rfl, rfl⟩ | exact ⟨_, _, _, _, 17, rfl, rfl, rfl, rfl⟩ | exact ⟨_, _, _, _, 18, rfl, rfl, rfl, rfl⟩ | exact ⟨_, _, _, _, 19, rfl, rfl, rfl, rfl⟩ | exact ⟨_, _, _, _, 20, rfl, rfl, rfl, rfl⟩ | exact ⟨_, _, _, _, 21, rfl, rfl, rfl, rfl⟩ | exact ⟨_, _, _, _, 22, rfl, rfl, rfl, rfl⟩ | exact ⟨_, _, _, _, 23, rfl, rfl, rfl, rfl⟩), rfl, trivial⟩ (A := rD r R D) ?_ ⟨rfl, by unfold rD; rw [← hos]⟩)
        unfold rD
        rw [← hos]
        refine Ent.trans (rm_ (A := pt g ((Bn.lsV x.es).flatMap lnC ++ rest)) (row_close (n := (Bn.lsV x.es).length))) ?_
        refine Ent.trans ((tk_ (As := [pt ob [.int .i64 0, .slice (some ⟨g, 0, none⟩) (Bn.lsV x.es).length oc, .slice oq2 (Bn.lsV x.es).length oc2], rowA (some ⟨g, 0, none⟩) (Bn.lsV x.es).length ((Bn.lsV x.es).flatMap lnC)] ++ [pkA obF ((R.os.zip D.xs).eraseIdx k.toNat)]) (hsh))) ?_
        exact pk_
    · rw [if_neg h32]
      rw [if_neg h32] at hgv
      rw [hgv]
      have hsd : R.s.at_ 32 (Br.lsV D.sh) = [pt R.s.b [.int .i64 32, .slice R.s.q (Br.lsV D.sh).length R.s.c, .slice R.s.q2 (Br.lsV D.sh).length R.s.c2], rowA R.s.q (Br.lsV D.sh).length ((Br.lsV D.sh).flatMap lnC)] := rfl
      rw [hsd]
      (refine G tt_ok [] ?_; repeat (refine G1 tt_ok [] ?_; intro _))
      refine ke rfl rfl (at37d β R.s.b (first := 32) id R.s.q (n := (Br.lsV D.sh).length) R.s.c _ (by omega) (by omega) (by rw [Br.lsV_len]; omega) rfl) ?_
      (refine G tt_ok [] ?_; repeat (refine G1 tt_ok [] ?_; intro _))
      cases ha : Br.atE 32 D.sh id with
      | none =>
        rw [show Br.getV 32 D.sh id = (Br.zeroE, 90) by unfold Br.getV; rw [ha], atD_R.2 ha]
        (refine G tt_ok [] ?_; repeat (refine G1 tt_ok [] ?_; intro _))
        refine CW.ret (fin_cells [_, _] ⟨(by first | exact ⟨_, _, _, _, 0, rfl, rfl, rfl, rfl⟩ | exact ⟨_, _, _, _, 1, rfl, rfl, rfl, rfl⟩ | exact ⟨_, _, _, _, 2, rfl, rfl, rfl, rfl⟩ | exact ⟨_, _, _, _, 3, rfl, rfl, rfl, rfl⟩ | exact ⟨_, _, _, _, 4, rfl, rfl, rfl, rfl⟩ | exact ⟨_, _, _, _, 5, rfl, rfl, rfl, rfl⟩ | exact ⟨_, _, _, _, 6, rfl, rfl, rfl, rfl⟩ | exact ⟨_, _, _, _, 7, rfl, rfl, rfl, rfl⟩ | exact ⟨_, _, _, _, 8, rfl, rfl, rfl, rfl⟩ | exact ⟨_, _, _, _, 9, rfl, rfl, rfl, rfl⟩ | exact ⟨_, _, _, _, 10, rfl, rfl, rfl, rfl⟩ | exact ⟨_, _, _, _, 11, rfl, rfl, rfl, rfl⟩ | exact ⟨_, _, _, _, 12, rfl, rfl, rfl, rfl⟩ | exact ⟨_, _, _, _, 13, rfl, rfl, rfl, rfl⟩ | exact ⟨_, _, _, _, 14, rfl, rfl, rfl, rfl⟩ | exact ⟨_, _, _, _, 15, rfl, rfl, rfl, rfl⟩ | exact ⟨_, _, _, _, 16, rfl, rfl, rfl, rfl⟩ | exact ⟨_, _, _, _, 17, rfl, rfl, rfl, rfl⟩ | exact ⟨_, _, _, _, 18, rfl, rfl, rfl, rfl⟩ | exact ⟨_, _, _, _, 19, rfl, rfl, rfl, rfl⟩ | exact ⟨_, _, _, _, 20, rfl, rfl, rfl, rfl⟩ | exact ⟨_, _, _, _, 21, rfl, rfl, rfl, rfl⟩ | exact ⟨_, _, _, _, 22, rfl, rfl, rfl, rfl⟩ | exact ⟨_, _, _, _, 23, rfl, rfl, rfl, rfl⟩), rfl, trivial⟩ (A := rD r R D) ?_ ⟨rfl, by unfold rD; rw [← hos]; rfl⟩)
        unfold rD
        rw [← hos, hsd]
        exact pk_
      | some e =>
        obtain ⟨ga, gx, g0, gs, gt⟩ := atD_R.1 e ha
        rw [show Br.getV 32 D.sh id = (e, 0) by unfold Br.getV; rw [ha], ga, decide_eq_false (show ¬ id - 32 < 0 by omega)]
        have hn0 : 0 < (Br.lsV D.sh).length := by rw [Br.lsV_len]; omega
        obtain ⟨⟨ob, oq, oc, oq2, oc2⟩, qk, ck, qa, ca, qo, co, qs, cs, os⟩ := R
        simp only at hos ho hsd ⊢
        (refine CW.ent (Rm.to (A := rowA oq ((Br.lsV D.sh).length) ((Br.lsV D.sh).flatMap lnC)) (by repeat (first | exact Rm.h | apply Rm.t)) (row_open (by omega))) ?_; refine CW.open_ fun y => ?_; obtain ⟨g, rest⟩ := y; refine CW.pure_ fun hv => ?_; simp only at hv; subst hv)
        (refine G tt_ok [] ?_; repeat (refine G1 tt_ok [] ?_; intro _))
        refine SQ.idx tt_ok rfl rfl (id - 32).toNat gt.symm (by rw [Br.lsV_len]; exact gs) (o' := 0 + (id - 32).toNat * 7) rfl ?_
        (refine G tt_ok [] ?_; repeat (refine G1 tt_ok [] ?_; intro _))
        (refine SQ.ldA tt_ok rfl rfl (by repeat (first | exact .h | exact .q | apply At.t)) (rd_ln gx rest) ?_)
        (refine G tt_ok [] ?_; repeat (refine G1 tt_ok [] ?_; intro _))
        refine CW.ret (fin_cells [_, _] ⟨(by first | exact ⟨_, _, _, _, 0, rfl, rfl, rfl, rfl⟩ | exact ⟨_, _, _, _, 1, rfl, rfl, rfl, rfl⟩ | exact ⟨_, _, _, _, 2, rfl, rfl, rfl, rfl⟩ | exact ⟨_, _, _, _, 3, rfl, rfl, rfl, rfl⟩ | exact ⟨_, _, _, _, 4, rfl, rfl, rfl, rfl⟩ | exact ⟨_, _, _, _, 5, rfl, rfl, rfl, rfl⟩ | exact ⟨_, _, _, _, 6, rfl, rfl, rfl, rfl⟩ | exact ⟨_, _, _, _, 7, rfl, rfl, rfl, rfl⟩ | exact ⟨_, _, _, _, 8, rfl, rfl, rfl, rfl⟩ | exact ⟨_, _, _, _, 9, rfl, rfl, rfl, rfl⟩ | exact ⟨_, _, _, _, 10, rfl, rfl, rfl, rfl⟩ | exact ⟨_, _, _, _, 11, rfl, rfl, rfl, rfl⟩ | exact ⟨_, _, _, _, 12, rfl, rfl, rfl, rfl⟩ | exact ⟨_, _, _, _, 13, rfl, rfl, rfl, rfl⟩ | exact ⟨_, _, _, _, 14, rfl, rfl, rfl, rfl⟩ | exact ⟨_, _, _, _, 15, rfl, rfl, rfl, rfl⟩ | exact ⟨_, _, _, _, 16, rfl, rfl, rfl, rfl⟩ | exact ⟨_, _, _, _, 17, rfl, rfl, rfl, rfl⟩ | exact ⟨_, _, _, _, 18, rfl, rfl, rfl, rfl⟩ | exact ⟨_, _, _, _, 19, rfl, rfl, rfl, rfl⟩ | exact ⟨_, _, _, _, 20, rfl, rfl, rfl, rfl⟩ | exact ⟨_, _, _, _, 21, rfl, rfl, rfl, rfl⟩ | exact ⟨_, _, _, _, 22, rfl, rfl, rfl, rfl⟩ | exact ⟨_, _, _, _, 23, rfl, rfl, rfl, rfl⟩), rfl, trivial⟩ (A := rD r ⟨⟨ob, some ⟨g, 0, none⟩, oc, oq2, oc2⟩, qk, ck, qa, ca, qo, co, qs, cs, os⟩ D) ?_ ⟨rfl, by unfold rD; rw [← hos]; rfl⟩)
        unfold rD
        rw [← hos, hsd]
        refine Ent.trans (rm_ (A := pt g ((Br.lsV D.sh).flatMap lnC ++ rest)) (row_close (n := (Br.lsV D.sh).length))) ?_
        exact pk_
end Go.Proofs.YtjphlcfplcacnaaGreat.Sl
namespace Go.Proofs.YtjphlcfplcacnaaGreat.Sl
open Go Go.RowKit Go.Proofs
set_option linter.unusedVariables false
set_option linter.unusedSimpArgs false
attribute [local irreducible] CW Tri OW
set_option maxRecDepth 10000
set_option maxHeartbeats 4000000 in
theorem refTarget45 (β : Base) (r : Nat) (R : RS) (D : DS) (ok : OkD R D) (id : Int) : Tri Tryz.prog β 45 [.pointer (some ⟨r, 0, none⟩), .int .i64 id] (rD r R D) (fun v L => v = .int .i64 (targetV D.sh D.xs id) ∧ L = rD r R D) := by
  obtain ⟨h1, h8, hes, hsh, hok, hos⟩ := ok
  refine Tri.intro tt_ok Tryz.func45 rfl rfl Tryz.ntmps45 rfl fun F => ?_
  have hsd : R.s.at_ 32 (Br.lsV D.sh) = [pt R.s.b [.int .i64 32, .slice R.s.q (Br.lsV D.sh).length R.s.c, .slice R.s.q2 (Br.lsV D.sh).length R.s.c2], rowA R.s.q (Br.lsV D.sh).length ((Br.lsV D.sh).flatMap lnC)] := rfl
  unfold rD
  rw [hsd]
  (refine G tt_ok [] ?_; repeat (refine G1 tt_ok [] ?_; intro _))
  refine ke rfl rfl (at37d β R.s.b (first := 32) id R.s.q (n := (Br.lsV D.sh).length) R.s.c _ (by omega) (by omega) (by rw [Br.lsV_len]; omega) rfl) ?_
  (refine G tt_ok [] ?_; repeat (refine G1 tt_ok [] ?_; intro _))
  unfold targetV
  cases ha : Br.atE 32 D.sh id with
  | none =>
    rw [atD_R.2 ha]
    (refine G tt_ok [] ?_; repeat (refine G1 tt_ok [] ?_; intro _))
    exact CW.ret (fin_ret rfl (A := rD r R D) pk_ ⟨rfl, rfl⟩)
  | some e =>
    obtain ⟨ga, gx, g0, gs, gt⟩ := atD_R.1 e ha
    have hat := (Br.atE_some ha).2.2.1
    simp only
    rw [ga, decide_eq_false (show ¬ id - 32 < 0 by omega)]
    obtain ⟨s, qk, ck, qa, ca, qo, co, qs, cs, os⟩ := R
    simp only at hos hsd ⊢
    (refine CW.ent (Rm.to (A := rowA qa (D.sh.length) (D.sh.flatMap raC)) (by repeat (first | exact Rm.h | apply Rm.t)) (row_open (by omega))) ?_; refine CW.open_ fun y => ?_; obtain ⟨g2, rest2⟩ := y; refine CW.pure_ fun hv => ?_; simp only at hv; subst hv)
    (refine G tt_ok [] ?_; repeat (refine G1 tt_ok [] ?_; intro _))
    refine SQ.idx tt_ok rfl rfl (id - 32).toNat gt.symm gs (o' := 0 + (id - 32).toNat * 1) rfl ?_
    (refine SQ.ldA tt_ok rfl rfl (by repeat (first | exact .h | exact .q | apply At.t)) (rd_ra hat rest2) ?_)
    (refine G tt_ok [] ?_; repeat (refine G1 tt_ok [] ?_; intro _))
    have hclose : Ent [pt g2 (D.sh.flatMap raC ++ rest2)] [rowA (some ⟨g2, 0, none⟩) D.sh.length (D.sh.flatMap raC)] := row_close (n := D.sh.length)
    cases hany : e.2.2 with
    | false =>
      rw [if_neg (by simp)]
      (refine CW.ent (Rm.to (A := rowA qk (D.sh.length) (D.sh.flatMap rcC)) (by repeat (first | exact Rm.h | apply Rm.t)) (row_open (by omega))) ?_; refine CW.open_ fun y => ?_; obtain ⟨g, rest⟩ := y; refine CW.pure_ fun hv => ?_; simp only at hv; subst hv)
      (refine G tt_ok [] ?_; repeat (refine G1 tt_ok [] ?_; intro _))
      refine SQ.idx tt_ok rfl rfl (id - 32).toNat gt.symm gs (o' := 0 + (id - 32).toNat * 1) rfl ?_
      (refine SQ.ldA tt_ok rfl rfl (by repeat (first | exact .h | exact .q | apply At.t)) (rd_rc hat rest) ?_)
      (refine G tt_ok [] ?_; repeat (refine G1 tt_ok [] ?_; intro _))
      refine ke rfl rfl (there48 β r _ _ _ rfl rfl rfl _ _ _ _ _ _ _ _ _ _ _ _ e.2.1) ?_
      cases hr : rightV D.xs.length e.2.1 with
      | true =>
        (refine G tt_ok [] ?_; repeat (refine G1 tt_ok [] ?_; intro _))
        refine SQ.idx tt_ok rfl rfl (id - 32).toNat gt.symm gs (o' := 0 + (id - 32).toNat * 1) rfl ?_
        (refine SQ.ldA tt_ok rfl rfl (by repeat (first | exact .h | exact .q | apply At.t)) (rd_rc hat rest) ?_)
        (refine G tt_ok [] ?_; repeat (refine G1 tt_ok [] ?_; intro _))
        refine CW.ret (fin_ret rfl (A := rD r ⟨s, some ⟨g, 0, none⟩, ck, some ⟨g2, 0, none⟩, ca, qo, co, qs, cs, os⟩ D) ?_ ⟨by simp [packV, hr], rfl⟩)
        refine Ent.trans (rm_ (A := pt g2 (D.sh.flatMap raC ++ rest2)) (hclose)) ?_
        refine Ent.trans (rm_ (A := pt g (D.sh.flatMap rcC ++ rest)) (row_close (n := D.sh.length))) ?_
        exact pk_
      | false =>
        (refine G tt_ok [] ?_; repeat (refine G1 tt_ok [] ?_; intro _))
        refine CW.ret (fin_ret rfl (A := rD r ⟨s, some ⟨g, 0, none⟩, ck, some ⟨g2, 0, none⟩, ca, qo, co, qs, cs, os⟩ D) ?_ ⟨by simp [packV, hr], rfl⟩)
        refine Ent.trans (rm_ (A := pt g2 (D.sh.flatMap raC ++ rest2)) (hclose)) ?_
        refine Ent.trans (rm_ (A := pt g (D.sh.flatMap rcC ++ rest)) (row_close (n := D.sh.length))) ?_
        exact pk_
    | true =>
      rw [if_pos rfl]
      (refine CW.ent (Rm.to (A := rowA qs (D.xs.length) (D.xs.flatMap slC)) (by repeat (first | exact Rm.h | apply Rm.t)) (row_open (by omega))) ?_; refine CW.open_ fun y => ?_; obtain ⟨g, rest⟩ := y; refine CW.pure_ fun hv => ?_; simp only at hv; subst hv)
      (refine G tt_ok [] ?_; repeat (refine G1 tt_ok [] ?_; intro _))
      refine CW.ent (L' := rD r ⟨s, qk, ck, some ⟨g2, 0, none⟩, ca, qo, co, some ⟨g, 0, none⟩, cs, os⟩ D) ?_ ?_
      · refine Ent.trans (rm_ (A := pt g2 (D.sh.flatMap raC ++ rest2)) (hclose)) ?_
        refine Ent.trans (rm_ (A := pt g (D.xs.flatMap slC ++ rest)) (row_close (n := D.xs.length))) ?_
        exact pk_
      refine CW.loop (α := Nat) (fun k => k ≤ D.xs.length ∧ leastV D.xs 0 = leastV (D.xs.drop k) k) (fun k => [(0, .pointer (some ⟨r, 0, none⟩)), (6, .int .i64 k)])
        (fun k => rD r ⟨s, qk, ck, some ⟨g2, 0, none⟩, ca, qo, co, some ⟨g, 0, none⟩, cs, os⟩ D) (fun k => D.xs.length - k) 0 ⟨by omega, rfl⟩ ⟨rfl, rfl, trivial⟩ (Ent.refl _) ?_
      rintro k ⟨hk, hv0⟩
      unfold rD
      (refine G tt_ok [] ?_; repeat (refine G1 tt_ok [] ?_; intro _))
      generalize e1 : decide ((k : Int) < (D.xs.length : Int)) = c
      cases c
      · have : k = D.xs.length := by simp at e1; omega
        subst this
        (refine G tt_ok [] ?_; repeat (refine G1 tt_ok [] ?_; intro _))
        refine CW.exit ?_
        (refine G tt_ok [] ?_; repeat (refine G1 tt_ok [] ?_; intro _))
        rw [hv0, List.drop_length]
        exact CW.ret (fin_ret rfl (A := rD r ⟨s, qk, ck, some ⟨g2, 0, none⟩, ca, qo, co, some ⟨g, 0, none⟩, cs, os⟩ D) pk_ ⟨rfl, rfl⟩)
      · have hlt : k < D.xs.length := by simp at e1; omega
        have hw : IntKind.i64.wrap ((k : Int) + 1) = ((k + 1 : Nat) : Int) := by rw [wrap_i64]; split <;> omega
        obtain ⟨x, hx⟩ : ∃ x, D.xs[k]? = some x := ⟨_, List.getElem?_eq_getElem hlt⟩
        have hst := leastV_step hx
        refine CW.ent (rm_ (A := rowA (some ⟨g, 0, none⟩) D.xs.length (D.xs.flatMap slC)) (row_open (by omega))) ?_
        refine CW.open_ fun y => ?_
        obtain ⟨g', rest'⟩ := y
        refine CW.pure_ fun hv => ?_
        simp only at hv
        injection hv with hv
        injection hv with hv
        subst hv
        (refine G tt_ok [] ?_; repeat (refine G1 tt_ok [] ?_; intro _))
        refine SQ.idx tt_ok rfl rfl k rfl hlt (o' := 0 + k * 1) rfl ?_
        (refine SQ.ldA tt_ok rfl rfl (by repeat (first | exact .h | exact .q | apply At.t)) (rd_slp hx rest') ?_)
        (refine G tt_ok [] ?_; repeat (refine G1 tt_ok [] ?_; intro _))
        cases hs : x.sl with
        | true =>
          rw [hs] at hst
          (refine G tt_ok [] ?_; repeat (refine G1 tt_ok [] ?_; intro _))
          refine ⟨k + 1, ⟨by omega, by rw [hv0, hst]; rfl⟩, by omega, ⟨rfl, by rw [← hw]; rfl, trivial⟩, ?_⟩
          exact Ent.trans (rm_ (A := pt g (D.xs.flatMap slC ++ rest')) (row_close (n := D.xs.length))) pk_
        | false =>
          rw [hs] at hst
          (refine G tt_ok [] ?_; repeat (refine G1 tt_ok [] ?_; intro _))
          rw [hv0, hst]
          refine CW.ret (fin_ret rfl (A := rD r ⟨s, qk, ck, some ⟨g2, 0, none⟩, ca, qo, co, some ⟨g, 0, none⟩, cs, os⟩ D) ?_ ⟨rfl, rfl⟩)
          exact Ent.trans (rm_ (A := pt g (D.xs.flatMap slC ++ rest')) (row_close (n := D.xs.length))) pk_
end Go.Proofs.YtjphlcfplcacnaaGreat.Sl
namespace Go.Proofs.YtjphlcfplcacnaaGreat.Sl
open Go Go.RowKit Go.Proofs
set_option linter.unusedVariables false
set_option linter.unusedSimpArgs false
attribute [local irreducible] CW Tri OW
set_option maxRecDepth 10000
@[reducible] def pk50 : List (Nat × Plan) := [(5, [(0, 0, []), (1, 0, []), (2, 0, []), (3, 0, []), (4, 0, []), (5, 0, []), (6, 0, []), (7, 0, []), (8, 1, [3, 6, 7]), (9, 0, []), (10, 0, [])])]
@[reducible] def pk47 : List (Nat × Plan) := [(5, [(0, 0, []), (1, 0, []), (2, 0, []), (3, 0, []), (4, 0, []), (7, 0, []), (8, 0, []), (9, 0, []), (10, 0, []), (11, 0, []), (5, 1, [4, 11]), (6, 0, []), (12, 1, [4, 11]), (13, 0, []), (14, 0, []), (15, 0, [])]), (7, [(0, 0, []), (1, 0, []), (2, 0, []), (3, 0, []), (4, 0, []), (5, 0, []), (6, 0, []), (7, 0, []), (8, 0, []), (9, 0, []), (10, 0, []), (11, 0, []), (12, 0, []), (13, 0, []), (14, 0, []), (15, 0, []), (16, 0, []), (17, 0, []), (18, 0, [])]), (9, [(0, 0, []), (1, 0, []), (2, 0, []), (3, 0, []), (4, 0, []), (5, 0, []), (6, 1, [3, 5]), (7, 0, [])]), (12, [(0, 0, []), (1, 0, []), (2, 0, []), (3, 0, []), (4, 0, []), (5, 0, []), (6, 0, []), (7, 0, []), (8, 0, []), (9, 0, []), (10, 0, []), (11, 0, []), (12, 0, []), (13, 0, []), (14, 0, []), (15, 1, [3, 6, 11, 14]), (16, 0, []), (17, 0, []), (18, 0, [])]), (13, [(0, 0, []), (1, 0, []), (2, 0, []), (3, 0, []), (4, 0, []), (5, 1, [3, 4]), (6, 0, []), (7, 0, [])])]
@[reducible] def pl47_0 : Plan := [(0, 0, []), (1, 0, []), (2, 0, []), (3, 0, []), (4, 0, []), (7, 0, []), (8, 0, []), (9, 0, []), (10, 0, []), (11, 0, []), (5, 1, [4, 11]), (6, 0, []), (12, 1, [4, 11]), (13, 0, []), (14, 0, []), (15, 0, [])]
@[reducible] def pl47_1 : Plan := [(0, 0, []), (1, 0, []), (2, 0, []), (3, 0, []), (4, 0, []), (5, 0, []), (6, 0, []), (7, 0, []), (8, 0, []), (9, 0, []), (10, 0, []), (11, 0, []), (12, 0, []), (13, 0, []), (14, 0, []), (15, 0, []), (16, 0, []), (17, 0, []), (18, 0, [])]
@[reducible] def pl47_2 : Plan := [(0, 0, []), (1, 0, []), (2, 0, []), (3, 0, []), (4, 0, []), (5, 0, []), (6, 1, [3, 5]), (7, 0, [])]
@[reducible] def pl47_3 : Plan := [(0, 0, []), (1, 0, []), (2, 0, []), (3, 0, []), (4, 0, []), (5, 0, []), (6, 0, []), (7, 0, []), (8, 0, []), (9, 0, []), (10, 0, []), (11, 0, []), (12, 0, []), (13, 0, []), (14, 0, []), (15, 1, [3, 6, 11, 14]), (16, 0, []), (17, 0, []), (18, 0, [])]
@[reducible] def pl47_4 : Plan := [(0, 0, []), (1, 0, []), (2, 0, []), (3, 0, []), (4, 0, []), (5, 1, [3, 4]), (6, 0, []), (7, 0, [])]
theorem one91 (β : Base) (a : Bool) (n : Int) : Tri Tryz.prog β 91 [.bool a, .int .u64 n] [] (fun v L => v = .int .u64 (if a then n else 0) ∧ L = []) := by
  refine Tri.intro tt_ok Tryz.func91 rfl rfl Tryz.ntmps91 rfl fun F => ?_
  cases a
  · (refine G tt_ok [] ?_; repeat (refine G1 tt_ok [] ?_; intro _))
    exact CW.ret (fin_ret rfl (Ent.refl _) ⟨rfl, rfl⟩)
  · (refine G tt_ok [] ?_; repeat (refine G1 tt_ok [] ?_; intro _))
    exact CW.ret (fin_ret rfl (Ent.refl _) ⟨rfl, rfl⟩)
theorem rdN (β : Base) (o : OB) {first : Int} (es : List Bn.En) (hf0 : 0 ≤ first) (hf1 : first ≤ 16384) (hn : es.length ≤ 16384) (r f cnt : Int) (hc : cnt ≤ 16384) :
    Tri Tryz.prog β 92 [.pointer (some ⟨o.b, 0, none⟩), .agg #[.int .i64 r, .int .i64 f, .int .i64 cnt]] (o.at_ first (Bn.lsV es)) (fun u L => u = .int .u64 (Bn.rdK first es r f cnt (cntV cnt)) ∧ L = o.at_ first (Bn.lsV es)) :=
  Bn.read19 β o.b (first := first) o.q o.c (.slice o.q2 (Bn.lsV es).length o.c2) es hf0 hf1 hn rfl r f cnt hc
theorem rdR (β : Base) (o : OB) {first : Int} (es : List Br.En) (hf0 : 0 ≤ first) (hf1 : first ≤ 16384) (hn : es.length ≤ 16384) (r f cnt : Int) (hc : cnt ≤ 16384) :
    Tri Tryz.prog β 92 [.pointer (some ⟨o.b, 0, none⟩), .agg #[.int .i64 r, .int .i64 f, .int .i64 cnt]] (o.at_ first (Br.lsV es)) (fun u L => u = .int .u64 (Br.rdK first es r f cnt (cntV cnt)) ∧ L = o.at_ first (Br.lsV es)) :=
  Br.read19 β o.b (first := first) o.q o.c (.slice o.q2 (Br.lsV es).length o.c2) es hf0 hf1 hn rfl r f cnt hc
set_option maxHeartbeats 4000000 in
theorem refRdOwn50 (β : Base) (r : Nat) (R : RS) (D : DS) (ok : OkD R D) (k pr pf pc : Int) (hc : pc ≤ 16384) : Tri Tryz.prog β 50 [.pointer (some ⟨r, 0, none⟩), .int .i64 k, .agg #[.int .i64 pr, .int .i64 pf, .int .i64 pc]] (rD r R D) (fun u L => u = .tuple #[.int .u64 (D.rdOwnV k pr pf pc).1, .int .i64 (D.rdOwnV k pr pf pc).2] ∧ L = rD r R D) := by
  obtain ⟨h1, h8, hes, hsh, hok, hos⟩ := ok
  refine Tri.intro tt_ok Tryz.func50 rfl rfl Tryz.ntmps50 rfl fun F => ?_
  unfold DS.rdOwnV
  unfold rD
  (refine G tt_ok pk50 ?_; repeat (refine G1 tt_ok pk50 ?_; intro _))
  refine ke rfl rfl (there48 β r _ _ _ rfl rfl rfl R.qk R.qa R.qo R.qs D.sh.length D.sh.length D.xs.length D.xs.length R.ck R.ca R.co R.cs k) ?_
  cases hr : rightV D.xs.length k with
  | false =>
    (refine G tt_ok pk50 ?_; repeat (refine G1 tt_ok pk50 ?_; intro _))
    exact CW.ret (fin_ret rfl (A := rD r R D) pk_ ⟨rfl, rfl⟩)
  | true =>
    (refine G tt_ok pk50 ?_; repeat (refine G1 tt_ok pk50 ?_; intro _))
    rw [if_pos rfl]
    obtain ⟨x, hx, hl, hk⟩ := right_at hr
    obtain ⟨o, ho⟩ : ∃ o, R.os[k.toNat]? = some o := ⟨_, List.getElem?_eq_getElem (show k.toNat < R.os.length by omega)⟩
    have hx32 := hes x (List.mem_of_getElem? hx)
    rw [hx]
    obtain ⟨s, qk, ck, qa, ca, qo, co, qs, cs, os⟩ := R
    simp only at hos ho ⊢
    by_cases h3 : pr = 3
    · subst h3
      rw [if_pos rfl]
      (refine CW.ent (Rm.to (A := rowA qs (D.xs.length) (D.xs.flatMap slC)) (by repeat (first | exact Rm.h | apply Rm.t)) (row_open (by omega))) ?_; refine CW.open_ fun y => ?_; obtain ⟨g, rest⟩ := y; refine CW.pure_ fun hv => ?_; simp only at hv; subst hv)
      (refine G tt_ok pk50 ?_; repeat (refine G1 tt_ok pk50 ?_; intro _))
      refine SQ.idx tt_ok rfl rfl k.toNat hk hl (o' := 0 + k.toNat * 1) rfl ?_
      (refine SQ.ldA tt_ok rfl rfl (by repeat (first | exact .h | exact .q | apply At.t)) (rd_slp hx rest) ?_)
      (refine G tt_ok pk50 ?_; repeat (refine G1 tt_ok pk50 ?_; intro _))
      refine ke rfl rfl (one91 β x.sl 6) ?_
      (refine G tt_ok pk50 ?_; repeat (refine G1 tt_ok pk50 ?_; intro _))
      refine CW.ret (fin_ret rfl (A := rD r ⟨s, qk, ck, qa, ca, qo, co, some ⟨g, 0, none⟩, cs, os⟩ D) ?_ ⟨rfl, rfl⟩)
      exact Ent.trans (rm_ (A := pt g (D.xs.flatMap slC ++ rest)) (row_close (n := D.xs.length))) pk_
    · rw [if_neg h3, show (pr == 3) = false by simp [h3]]
      (refine CW.ent (Rm.to (A := rowA qo (D.xs.length) (os.flatMap opC)) (by repeat (first | exact Rm.h | apply Rm.t)) (row_open (by omega))) ?_; refine CW.open_ fun y => ?_; obtain ⟨g, rest⟩ := y; refine CW.pure_ fun hv => ?_; simp only at hv; subst hv)
      refine CW.ent (rm_ (A := pkA obF (os.zip D.xs)) (pk_open (zip_at ho hx))) ?_
      (refine G tt_ok pk50 ?_; repeat (refine G1 tt_ok pk50 ?_; intro _))
      refine SQ.idx tt_ok rfl rfl k.toNat hk hl (o' := 0 + k.toNat * 1) rfl ?_
      (refine SQ.ldA tt_ok rfl rfl (by repeat (first | exact .h | exact .q | apply At.t)) (rd_op ho rest) ?_)
      (refine G tt_ok pk50 ?_; repeat (refine G1 tt_ok pk50 ?_; intro _))
      (refine SQ.callA rfl rfl (rdN β o (first := 0) x.es (by omega) (by omega) (by omega) pr pf pc hc) (by repeat (first | exact .n | exact Rm.h | exact Rm.of own_row | exact Rm.of row_close0 | apply Tk.c | apply Rm.t)) ?_; rintro _ _ ⟨rfl, rfl⟩; refine ⟨(by repeat (first | exact trivial | refine ⟨trivial, ?_⟩ | refine ⟨wk (by repeat (first | exact .h | exact .q | apply At.t)) (rd_op ho rest), ?_⟩ | refine ⟨wk (by repeat (first | exact .h | exact .q | apply At.t)) (by rfl), ?_⟩)), ?_⟩)
      (refine G tt_ok pk50 ?_; repeat (refine G1 tt_ok pk50 ?_; intro _))
      refine CW.ret (fin_ret rfl (A := rD r ⟨s, qk, ck, qa, ca, some ⟨g, 0, none⟩, co, qs, cs, os⟩ D) ?_ ⟨rfl, rfl⟩)
      refine Ent.trans (rm_ (A := pt g (os.flatMap opC ++ rest)) (row_close (n := D.xs.length))) ?_
      refine Ent.trans (tk_ (As := [pt o.b [.int .i64 0, .slice o.q (Bn.lsV x.es).length o.c, .slice o.q2 (Bn.lsV x.es).length o.c2], rowA o.q (Bn.lsV x.es).length ((Bn.lsV x.es).flatMap lnC)] ++ [pkA obF ((os.zip D.xs).eraseIdx k.toNat)]) (ob_shut ho hx)) ?_
      exact pk_
/-- What the distributor's frame shows. -/
def DS.rdV (D : DS) (off w : Int) : Int × Int :=
  if (distV off w).2 ≠ 0 then (0, (distV off w).2) else
  if (distV off w).1.1 = 1 then (80 + (if D.o0 then 1 else 0) + (if D.o1 then 2 else 0), 0)
  else if (distV off w).1.1 = 2 then ((D.sh.length + 31) / 32 + 32 * (D.xs.length - 1) + 131072, 0)
  else if (distV off w).1.1 = 13 then (match Br.atE 32 D.sh (distV off w).1.2.1 with
     | some e => (e.2.1 + (if e.2.2 then 2147483648 else 0), 0)
     | none => (0, 0))
  else (Br.rdK 32 D.sh (distV off w).1.1 (distV off w).1.2.1 (distV off w).1.2.2 (cntV (distV off w).1.2.2), 0)
theorem wrap_u {x : Int} (h0 : 0 ≤ x) (h1 : x < 18446744073709551616) : IntKind.u64.wrap x = x := by rw [wrap_u64]; omega
set_option maxHeartbeats 8000000 in
theorem refRead47 (β : Base) (r : Nat) (R : RS) (D : DS) (ok : OkD R D) (off w : Int) (hc : (distV off w).1.2.2 ≤ 16384) : Tri Tryz.prog β 47 [.pointer (some ⟨r, 0, none⟩), .int .i64 off, .int .i64 w] (rD r R D) (fun u L => u = .tuple #[.int .u64 (D.rdV off w).1, .int .i64 (D.rdV off w).2] ∧ L = rD r R D) := by
  obtain ⟨h1, h8, hes, hsh, hok, hos, hrt⟩ := ok
  refine Tri.intro tt_ok Tryz.func47 rfl rfl Tryz.ntmps47 rfl fun F => ?_
  unfold DS.rdV
  unfold rD
  have hD := dist15 β off w
  generalize distV off w = P at hD hc ⊢
  obtain ⟨⟨pr, pf, pc⟩, e⟩ := P
  simp only at hD hc ⊢
  (refine G tt_ok pk47 ?_; repeat (refine G1 tt_ok pk47 ?_; intro _))
  refine ke rfl rfl (hD) ?_
  (refine G tt_ok pk47 ?_; repeat (refine G1 tt_ok pk47 ?_; intro _))
  by_cases he : e = 0
  · subst he
    rw [if_neg (by simp)]
    (refine G tt_ok pk47 ?_; repeat (refine G1 tt_ok pk47 ?_; intro _))
    by_cases hp1 : pr = 1
    · subst hp1
      rw [if_pos rfl]
      (refine G tt_ok pk47 ?_; repeat (refine G1 tt_ok pk47 ?_; intro _))
      refine SQ.idx tt_ok rfl rfl 0 rfl (by decide) (o' := 0) rfl ?_
      (refine G tt_ok pk47 ?_; repeat (refine G1 tt_ok pk47 ?_; intro _))
      refine SQ.idx tt_ok rfl rfl 1 rfl (by decide) (o' := 1) rfl ?_
      (refine G tt_ok pk47 ?_; repeat (refine G1 tt_ok pk47 ?_; intro _))
      refine ke rfl rfl (one91 β D.o0 1) ?_
      (refine G tt_ok pk47 ?_; repeat (refine G1 tt_ok pk47 ?_; intro _))
      refine ke rfl rfl (one91 β D.o1 2) ?_
      (refine G tt_ok pk47 ?_; repeat (refine G1 tt_ok pk47 ?_; intro _))
      refine CW.ret (fin_ret rfl (A := rD r R D) pk_ ⟨?_, rfl⟩)
      cases D.o0 <;> cases D.o1 <;> rfl
    · rw [if_neg hp1, show (pr == 1) = false by simp [hp1]]
      (refine G tt_ok pk47 ?_; repeat (refine G1 tt_ok pk47 ?_; intro _))
      by_cases h2 : pr = 2
      · subst h2
        rw [if_pos rfl]
        (refine G tt_ok pk47 ?_; repeat (refine G1 tt_ok pk47 ?_; intro _))
        refine CW.ret (fin_ret rfl (A := rD r R D) pk_ ⟨?_, rfl⟩)
        have e1 : (IntKind.i64.wrap ((D.sh.length : Int) + 31)).tdiv 32 = ((D.sh.length : Int) + 31) / 32 := by
          rw [wrap_id (by omega) (by omega), Int.tdiv_eq_ediv_of_nonneg (by omega)]
        have e2 : IntKind.i64.wrap (32 * IntKind.i64.wrap ((D.xs.length : Int) - 1)) = 32 * ((D.xs.length : Int) - 1) := by
          rw [wrap_id (x := (D.xs.length : Int) - 1) (by omega) (by omega), wrap_id (by omega) (by omega)]
        rw [e1, e2, wrap_id (x := ((D.sh.length : Int) + 31) / 32) (by omega) (by omega), wrap_id (x := ((D.sh.length : Int) + 31) / 32 + 32 * ((D.xs.length : Int) - 1)) (by omega) (by omega), wrap_id (by omega) (by omega), wrap_u (by omega) (by omega)]
        rfl
      · rw [if_neg h2, show (pr == 2) = false by simp [h2]]
        (refine G tt_ok pk47 ?_; repeat (refine G1 tt_ok pk47 ?_; intro _))
        by_cases h13 : pr = 13
        · subst h13
          rw [if_pos rfl]
          have hsd : R.s.at_ 32 (Br.lsV D.sh) = [pt R.s.b [.int .i64 32, .slice R.s.q (Br.lsV D.sh).length R.s.c, .slice R.s.q2 (Br.lsV D.sh).length R.s.c2], rowA R.s.q (Br.lsV D.sh).length ((Br.lsV D.sh).flatMap lnC)] := rfl
          rw [hsd]
          (refine G tt_ok pk47 ?_; repeat (refine G1 tt_ok pk47 ?_; intro _))
          refine ke rfl rfl (at37d β R.s.b (first := 32) pf R.s.q (n := (Br.lsV D.sh).length) R.s.c _ (by omega) (by omega) (by rw [Br.lsV_len]; omega) rfl) ?_
          (refine G tt_ok pk47 ?_; repeat (refine G1 tt_ok pk47 ?_; intro _))
          cases ha : Br.atE 32 D.sh pf with
          | none =>
            rw [atD_R.2 ha]
            (refine G tt_ok pk47 ?_; repeat (refine G1 tt_ok pk47 ?_; intro _))
            exact CW.ret (fin_ret rfl (A := rD r R D) pk_ ⟨rfl, rfl⟩)
          | some en =>
            obtain ⟨ga, gx, g0, gs, gt⟩ := atD_R.1 en ha
            have hat := (Br.atE_some ha).2.2.1
            have hrte := hrt en (List.mem_of_getElem? hat)
            simp only
            rw [ga, decide_eq_false (show ¬ pf - 32 < 0 by omega)]
            obtain ⟨s, qk, ck, qa, ca, qo, co, qs, cs, os⟩ := R
            simp only at hos hsd ⊢
            (refine CW.ent (Rm.to (A := rowA qk (D.sh.length) (D.sh.flatMap rcC)) (by repeat (first | exact Rm.h | apply Rm.t)) (row_open (by omega))) ?_; refine CW.open_ fun y => ?_; obtain ⟨g, rest⟩ := y; refine CW.pure_ fun hv => ?_; simp only at hv; subst hv)
            (refine CW.ent (Rm.to (A := rowA qa (D.sh.length) (D.sh.flatMap raC)) (by repeat (first | exact Rm.h | apply Rm.t)) (row_open (by omega))) ?_; refine CW.open_ fun y => ?_; obtain ⟨g2, rest2⟩ := y; refine CW.pure_ fun hv => ?_; simp only at hv; subst hv)
            (repeat (first | refine CW.seq ?_ | refine CW.region tt_ok rfl ?_ | refine CW.regionD tt_ok (by kernel_rfl) pl47_3 (by decide +kernel) ?_ | refine CW.block ?_ | refine CW.skip ?_ | refine SQ.nil ?_ | refine SQ.pures1 tt_ok rfl ?_ | refine SQ.pure1 tt_ok rfl ?_ | refine SQ.new _ _ rfl rfl (fun _ => ?_) | refine SQ.ldA tt_ok rfl rfl (by repeat (first | exact .h | exact .q | apply At.t)) (by rfl) ?_ | refine SQ.stA tt_ok rfl rfl (by repeat (first | apply Up.h | apply Up.t)) (by rfl) (by rfl) (by repeat (first | exact trivial | refine ⟨trivial, ?_⟩ | refine ⟨wk (by repeat (first | exact .h | exact .q | apply At.t)) (by rfl), ?_⟩)) ?_ | refine CW.cond_tt rfl ?_ | refine CW.cond_ff rfl ?_))
            refine SQ.idx tt_ok rfl rfl (pf - 32).toNat gt.symm gs (o' := 0 + (pf - 32).toNat * 1) rfl ?_
            (refine SQ.ldA tt_ok rfl rfl (by repeat (first | exact .h | exact .q | apply At.t)) (rd_rc hat rest) ?_)
            (repeat (first | refine CW.seq ?_ | refine CW.region tt_ok rfl ?_ | refine CW.regionD tt_ok (by kernel_rfl) pl47_3 (by decide +kernel) ?_ | refine CW.block ?_ | refine CW.skip ?_ | refine SQ.nil ?_ | refine SQ.pures1 tt_ok rfl ?_ | refine SQ.pure1 tt_ok rfl ?_ | refine SQ.new _ _ rfl rfl (fun _ => ?_) | refine SQ.ldA tt_ok rfl rfl (by repeat (first | exact .h | exact .q | apply At.t)) (by rfl) ?_ | refine SQ.stA tt_ok rfl rfl (by repeat (first | apply Up.h | apply Up.t)) (by rfl) (by rfl) (by repeat (first | exact trivial | refine ⟨trivial, ?_⟩ | refine ⟨wk (by repeat (first | exact .h | exact .q | apply At.t)) (by rfl), ?_⟩)) ?_ | refine CW.cond_tt rfl ?_ | refine CW.cond_ff rfl ?_))
            refine SQ.idx tt_ok rfl rfl (pf - 32).toNat gt.symm gs (o' := 0 + (pf - 32).toNat * 1) rfl ?_
            (refine SQ.ldA tt_ok rfl rfl (by repeat (first | exact .h | exact .q | apply At.t)) (rd_ra hat rest2) ?_)
            (repeat (first | refine CW.seq ?_ | refine CW.region tt_ok rfl ?_ | refine CW.regionD tt_ok (by kernel_rfl) pl47_3 (by decide +kernel) ?_ | refine CW.block ?_ | refine CW.skip ?_ | refine SQ.nil ?_ | refine SQ.pures1 tt_ok rfl ?_ | refine SQ.pure1 tt_ok rfl ?_ | refine SQ.new _ _ rfl rfl (fun _ => ?_) | refine SQ.ldA tt_ok rfl rfl (by repeat (first | exact .h | exact .q | apply At.t)) (by rfl) ?_ | refine SQ.stA tt_ok rfl rfl (by repeat (first | apply Up.h | apply Up.t)) (by rfl) (by rfl) (by repeat (first | exact trivial | refine ⟨trivial, ?_⟩ | refine ⟨wk (by repeat (first | exact .h | exact .q | apply At.t)) (by rfl), ?_⟩)) ?_ | refine CW.cond_tt rfl ?_ | refine CW.cond_ff rfl ?_))
            (refine SQ.callA rfl rfl (one91 β en.2.2 2147483648) (by repeat (first | exact .n | exact Rm.h | exact Rm.of own_row | exact Rm.of row_close0 | apply Tk.c | apply Rm.t)) ?_; rintro _ _ ⟨rfl, rfl⟩; refine ⟨(by repeat (first | exact trivial | refine ⟨trivial, ?_⟩ | refine ⟨wk (by repeat (first | exact .h | exact .q | apply At.t)) (rd_rc hat rest), ?_⟩ | refine ⟨wk (by repeat (first | exact .h | exact .q | apply At.t)) (rd_ra hat rest2), ?_⟩ | refine ⟨wk (by repeat (first | exact .h | exact .q | apply At.t)) (by rfl), ?_⟩)), ?_⟩)
            (repeat (first | refine CW.seq ?_ | refine CW.region tt_ok rfl ?_ | refine CW.regionD tt_ok (by kernel_rfl) pl47_3 (by decide +kernel) ?_ | refine CW.block ?_ | refine CW.skip ?_ | refine SQ.nil ?_ | refine SQ.pures1 tt_ok rfl ?_ | refine SQ.pure1 tt_ok rfl ?_ | refine SQ.new _ _ rfl rfl (fun _ => ?_) | refine SQ.ldA tt_ok rfl rfl (by repeat (first | exact .h | exact .q | apply At.t)) (by rfl) ?_ | refine SQ.stA tt_ok rfl rfl (by repeat (first | apply Up.h | apply Up.t)) (by rfl) (by rfl) (by repeat (first | exact trivial | refine ⟨trivial, ?_⟩ | refine ⟨wk (by repeat (first | exact .h | exact .q | apply At.t)) (by rfl), ?_⟩)) ?_ | refine CW.cond_tt rfl ?_ | refine CW.cond_ff rfl ?_))
            refine CW.ret (fin_ret rfl (A := rD r ⟨s, some ⟨g, 0, none⟩, ck, some ⟨g2, 0, none⟩, ca, qo, co, qs, cs, os⟩ D) ?_ ⟨?_, rfl⟩)
            · refine Ent.trans (rm_ (A := pt g2 (D.sh.flatMap raC ++ rest2)) (row_close (n := D.sh.length))) ?_
              refine Ent.trans (rm_ (A := pt g (D.sh.flatMap rcC ++ rest)) (row_close (n := D.sh.length))) ?_
              exact pk_
            · have e1 : IntKind.u64.wrap en.2.1 = en.2.1 := wrap_u (by omega) (by omega)
              rw [e1, wrap_u (by split <;> omega) (by split <;> omega)]
              rfl
        · rw [if_neg h13, show (pr == 13) = false by simp [h13]]
          (repeat (first | refine CW.seq ?_ | refine CW.region tt_ok rfl ?_ | refine CW.regionD tt_ok (by kernel_rfl) pl47_4 (by decide +kernel) ?_ | refine CW.block ?_ | refine CW.skip ?_ | refine SQ.nil ?_ | refine SQ.pures1 tt_ok rfl ?_ | refine SQ.pure1 tt_ok rfl ?_ | refine SQ.new _ _ rfl rfl (fun _ => ?_) | refine SQ.ldA tt_ok rfl rfl (by repeat (first | exact .h | exact .q | apply At.t)) (by rfl) ?_ | refine SQ.stA tt_ok rfl rfl (by repeat (first | apply Up.h | apply Up.t)) (by rfl) (by rfl) (by repeat (first | exact trivial | refine ⟨trivial, ?_⟩ | refine ⟨wk (by repeat (first | exact .h | exact .q | apply At.t)) (by rfl), ?_⟩)) ?_ | refine CW.cond_tt rfl ?_ | refine CW.cond_ff rfl ?_))
          refine ke rfl rfl (rdR β R.s (first := 32) D.sh (by omega) (by omega) (by omega) pr pf pc hc) ?_
          (repeat (first | refine CW.seq ?_ | refine CW.region tt_ok rfl ?_ | refine CW.regionD tt_ok (by kernel_rfl) pl47_4 (by decide +kernel) ?_ | refine CW.block ?_ | refine CW.skip ?_ | refine SQ.nil ?_ | refine SQ.pures1 tt_ok rfl ?_ | refine SQ.pure1 tt_ok rfl ?_ | refine SQ.new _ _ rfl rfl (fun _ => ?_) | refine SQ.ldA tt_ok rfl rfl (by repeat (first | exact .h | exact .q | apply At.t)) (by rfl) ?_ | refine SQ.stA tt_ok rfl rfl (by repeat (first | apply Up.h | apply Up.t)) (by rfl) (by rfl) (by repeat (first | exact trivial | refine ⟨trivial, ?_⟩ | refine ⟨wk (by repeat (first | exact .h | exact .q | apply At.t)) (by rfl), ?_⟩)) ?_ | refine CW.cond_tt rfl ?_ | refine CW.cond_ff rfl ?_))
          exact CW.ret (fin_ret rfl (A := rD r R D) pk_ ⟨rfl, rfl⟩)
  · rw [if_pos he, show (e != 0) = true by simp [he]]
    (repeat (first | refine CW.seq ?_ | refine CW.region tt_ok rfl ?_ | refine CW.regionD tt_ok (by kernel_rfl) pl47_3 (by decide +kernel) ?_ | refine CW.block ?_ | refine CW.skip ?_ | refine SQ.nil ?_ | refine SQ.pures1 tt_ok rfl ?_ | refine SQ.pure1 tt_ok rfl ?_ | refine SQ.new _ _ rfl rfl (fun _ => ?_) | refine SQ.ldA tt_ok rfl rfl (by repeat (first | exact .h | exact .q | apply At.t)) (by rfl) ?_ | refine SQ.stA tt_ok rfl rfl (by repeat (first | apply Up.h | apply Up.t)) (by rfl) (by rfl) (by repeat (first | exact trivial | refine ⟨trivial, ?_⟩ | refine ⟨wk (by repeat (first | exact .h | exact .q | apply At.t)) (by rfl), ?_⟩)) ?_ | refine CW.cond_tt rfl ?_ | refine CW.cond_ff rfl ?_))
    exact CW.ret (fin_ret rfl (A := rD r R D) pk_ ⟨rfl, rfl⟩)
end Go.Proofs.YtjphlcfplcacnaaGreat.Sl
namespace Go.Proofs.YtjphlcfplcacnaaGreat.Sl
open Go Go.RowKit Go.Proofs
set_option linter.unusedVariables false
set_option linter.unusedSimpArgs false
attribute [local irreducible] CW Tri OW
set_option maxRecDepth 10000
@[reducible] def pk81 : List (Nat × Plan) := [(1, [(0, 0, []), (1, 0, []), (2, 0, []), (3, 0, []), (4, 0, []), (5, 1, [1, 4]), (6, 0, []), (7, 0, [])])]
@[reducible] def pk34 : List (Nat × Plan) := [(6, [(0, 0, []), (1, 0, []), (2, 0, []), (3, 0, []), (4, 0, []), (6, 0, []), (7, 0, []), (8, 0, []), (9, 0, []), (10, 0, []), (5, 1, [4, 10]), (11, 1, [4, 10]), (12, 0, []), (13, 0, []), (14, 0, []), (15, 0, []), (16, 0, [])]), (8, [(0, 0, []), (5, 0, []), (6, 0, []), (7, 0, []), (8, 0, []), (9, 0, []), (10, 0, []), (11, 0, []), (12, 0, []), (1, 1, [8]), (2, 0, []), (3, 0, []), (4, 0, []), (13, 0, []), (14, 0, []), (15, 0, []), (16, 0, [])]), (10, [(0, 0, []), (1, 0, []), (2, 0, []), (3, 0, []), (4, 0, []), (5, 0, []), (6, 1, [3, 5]), (7, 0, []), (8, 0, []), (9, 0, []), (10, 2, []), (11, 1, []), (12, 0, [])]), (14, [(0, 0, []), (1, 0, []), (2, 0, []), (3, 0, []), (4, 0, []), (5, 1, [3, 4]), (6, 0, []), (7, 0, [])])]
@[reducible] def pl34_0 : Plan := [(0, 0, []), (1, 0, []), (2, 0, []), (3, 0, []), (4, 0, []), (6, 0, []), (7, 0, []), (8, 0, []), (9, 0, []), (10, 0, []), (5, 1, [4, 10]), (11, 1, [4, 10]), (12, 0, []), (13, 0, []), (14, 0, []), (15, 0, []), (16, 0, [])]
@[reducible] def pl34_1 : Plan := [(0, 0, []), (5, 0, []), (6, 0, []), (7, 0, []), (8, 0, []), (9, 0, []), (10, 0, []), (11, 0, []), (12, 0, []), (1, 1, [8]), (2, 0, []), (3, 0, []), (4, 0, []), (13, 0, []), (14, 0, []), (15, 0, []), (16, 0, [])]
@[reducible] def pl34_2 : Plan := [(0, 0, []), (1, 0, []), (2, 0, []), (3, 0, []), (4, 0, []), (5, 0, []), (6, 1, [3, 5]), (7, 0, []), (8, 0, []), (9, 0, []), (10, 2, []), (11, 1, []), (12, 0, [])]
@[reducible] def pl34_3 : Plan := [(0, 0, []), (1, 0, []), (2, 0, []), (3, 0, []), (4, 0, []), (5, 1, [3, 4]), (6, 0, []), (7, 0, [])]
theorem routed81 (β : Base) (t : Int × Bool) (h0 : 0 ≤ t.1) (h1 : t.1 ≤ 255) : Tri Tryz.prog β 81 [.agg #[.int .i64 t.1, .bool t.2]] [] (fun u L => u = .int .u64 (t.1 + (if t.2 then 2147483648 else 0)) ∧ L = []) := by
  refine Tri.intro tt_ok Tryz.func81 rfl rfl Tryz.ntmps81 rfl fun F => ?_
  obtain ⟨c, a⟩ := t
  simp only at h0 h1 ⊢
  (refine G tt_ok pk81 ?_; repeat (refine G1 tt_ok pk81 ?_; intro _))
  refine ke rfl rfl (flag67 β a 31) ?_
  (refine G tt_ok pk81 ?_; repeat (refine G1 tt_ok pk81 ?_; intro _))
  refine CW.ret (fin_ret rfl (Ent.dropAll _) ⟨?_, rfl⟩)
  obtain ⟨n, rfl⟩ : ∃ n : Nat, c = n := ⟨c.toNat, by omega⟩
  have e1 : IntKind.u64.wrap (n : Int) = (n : Int) := wrap_u (by omega) (by omega)
  have hn : n < 2 ^ 31 := by omega
  rw [e1]
  cases a
  · have := or64 (a := n) (b := 0) (by omega) (by omega)
    rw [show n ||| 0 = n from Nat.or_zero n] at this
    unfold packV
    simp only [Bool.false_eq_true, if_false]
    rw [show IntKind.u64.wrap ((BitVec.ofInt IntKind.u64.bits (n : Int) ||| BitVec.ofInt IntKind.u64.bits 0).toNat : Int) = (n : Int) from this]
    simp
  · have := or64 (a := n) (b := 2147483648) (by omega) (by omega)
    rw [show n ||| 2147483648 = n + 2147483648 by have h := Nat.two_pow_add_eq_or_of_lt hn 1; simp at h; rw [Nat.or_comm, ← h]; omega] at this
    unfold packV
    simp only [if_true]
    rw [show IntKind.u64.wrap (1 * 2 ^ min 31 IntKind.u64.bits) = ((2147483648 : Nat) : Int) from rfl, this]
    simp
theorem count115 (β : Base) {gf : Nat} {cap : Array Value} {A : List Atom} {ps : List (Int × Br.En)} (hI : Iter Tryz.prog β gf cap.toList A Br.peC ps) (hl : ps.length ≤ 100000) :
    Tri Tryz.prog β 115 [.func (.func gf) #[] cap] A (fun v L => v = .int .i64 ps.length ∧ L = A) := by
  refine Tri.intro tt_ok Tryz.func115 rfl rfl Tryz.ntmps115 rfl fun F => ?_
  (refine G tt_ok [] ?_; repeat (refine G1 tt_ok [] ?_; intro _))
  rename_i b3
  refine CW.ent (L' := A ++ [pt b3 [.int .i64 0]]) (Ent.perm (List.perm_append_comm (l₁ := [_]))) ?_
  refine CW.rangeFunc rfl hI (List.replicate A.length 0) (sel_front A) (fun pre => [pt b3 [.int .i64 pre.length]])
    (fun _ _ => False) (Ent.refl _) (fun _ => rfl) (by decide) ?_ ?_ (fun _ _ h => h.elim)
  · intro pre p hpre lp fm rec1
    have hpl : pre.length < 100000 := by have := hpre.length_le; simp at this; omega
    have hw : IntKind.i64.wrap ((pre.length : Int) + 1) = ((pre ++ [p]).length : Int) := by rw [wrap_id (by omega) (by omega)]; simp
    (refine G tt_ok [] ?_; repeat (refine G1 tt_ok [] ?_; intro _))
    intro fm2 rec2
    (refine G tt_ok [] ?_; repeat (refine G1 tt_ok [] ?_; intro _))
    rw [hw]
    exact Ent.refl _
  · (refine G tt_ok [] ?_; repeat (refine G1 tt_ok [] ?_; intro _))
    exact CW.ret (fin_ret rfl (A := A) (Ent.append (L := [_]) (L' := []) (Ent.dropAll _) (Ent.refl A)) ⟨rfl, rfl⟩)
set_option maxHeartbeats 4000000 in
theorem lines80 (β : Base) (d : Nat) (a b c : Value) (sb : Nat) (sq : Option Addr) (sc : Nat) (sh : List Br.En) (hn : sh.length ≤ 16384) (ha : vcells a = [a]) (hb : vcells b = [b]) (hc : vcells c = [c]) : Tri Tryz.prog β 80 [.pointer (some ⟨d, 0, none⟩)] ([pt d [a, b, .pointer (some ⟨sb, 0, none⟩), c]] ++ Br.bkA sb sq sc 32 sh)
    (fun v L => v = .int .i64 sh.length ∧ L = [pt d [a, b, .pointer (some ⟨sb, 0, none⟩), c]] ++ Br.bkA sb sq sc 32 sh) := by
  refine Tri.intro tt_ok Tryz.func80 rfl rfl Tryz.ntmps80 rfl fun F => ?_
  (refine G tt_ok [] ?_; repeat (refine G1 tt_ok [] ?_; intro _))
  (refine ka rfl rfl (Br.all21 β sb sq sc 32 sh hn) ?_; rintro _ _ ⟨e1, e3, q2, n2, rfl, rfl⟩; refine w_ ?_)
  (refine G tt_ok [] ?_; repeat (refine G1 tt_ok [] ?_; intro _))
  refine SQ.ent _ (rm_ (A := rowA q2 sh.length (sh.flatMap Br.enC)) (row_rd β (sz := 9) (flatE_len (sz := 9) (fun _ => rfl) sh))) ?_
  refine SQ.open_ fun B2 => SQ.pure_ fun hB2 => ?_
  refine ke rfl rfl (count115 β (cap := #[.pointer (some ⟨e3, 0, none⟩), .pointer (some ⟨e1, 0, none⟩)]) (Br.iter43 β sb e1 e3 (first := 32) (c1 := n2) (S := .slice sq sh.length sc) hB2 (by omega) (by omega) hn rfl) (by rw [Br.allV_len]; omega)) ?_
  (refine G tt_ok [] ?_; repeat (refine G1 tt_ok [] ?_; intro _))
  rw [Br.allV_len]
  exact CW.ret (fin_ret rfl (A := [pt d [a, b, .pointer (some ⟨sb, 0, none⟩), c]] ++ Br.bkA sb sq sc 32 sh) pk_ ⟨rfl, rfl⟩)
theorem typer_bits : ∀ a : Fin 3, ∀ b : Fin 8, IntKind.u64.wrap ((BitVec.ofInt IntKind.u64.bits (IntKind.u64.wrap ((BitVec.ofInt IntKind.u64.bits ((a.val : Nat) : Int) ||| BitVec.ofInt IntKind.u64.bits (IntKind.u64.wrap (((b.val : Nat) : Int) * 2 ^ min 5 IntKind.u64.bits))).toNat : Int)) ||| BitVec.ofInt IntKind.u64.bits 131072).toNat : Int) = ((a.val : Nat) : Int) + 32 * ((b.val : Nat) : Int) + 131072 := by decide +kernel
set_option maxHeartbeats 8000000 in
theorem read34 (β : Base) (d : Nat) (D : DS) (h1 : 1 ≤ D.xs.length) (h8 : D.xs.length ≤ 8) (hsh : D.sh.length ≤ 64) (hrt : ∀ e ∈ D.sh, 0 ≤ e.2.1 ∧ e.2.1 ≤ 255) (off w : Int) : Tri Tryz.prog β 34 [.pointer (some ⟨d, 0, none⟩), .int .i64 off, .int .i64 w] (dA d D) (fun u L => u = .tuple #[.int .u64 (D.rdV off w).1, .int .i64 (D.rdV off w).2] ∧ L = dA d D) := by
  obtain ⟨o0, o1, sb, sq, sc, sh, qc, cc, xs⟩ := D
  refine Tri.intro tt_ok Tryz.func34 rfl rfl Tryz.ntmps34 rfl fun F => ?_
  unfold dA DS.rdV
  simp only at h1 h8 hsh hrt ⊢
  have hD := regsDist69 β off w
  have hpid := distV_id off w
  generalize distV off w = P at hD hpid ⊢
  obtain ⟨⟨pr, pf, pc⟩, e⟩ := P
  simp only at hD hpid ⊢
  (refine G tt_ok pk34 ?_; repeat (refine G1 tt_ok pk34 ?_; intro _))
  refine ke rfl rfl (hD) ?_
  (refine G tt_ok pk34 ?_; repeat (refine G1 tt_ok pk34 ?_; intro _))
  by_cases he : e = 0
  · subst he
    rw [if_neg (by simp)]
    (refine G tt_ok pk34 ?_; repeat (refine G1 tt_ok pk34 ?_; intro _))
    by_cases hp1 : pr = 1
    · subst hp1
      rw [if_pos rfl]
      (refine G tt_ok pk34 ?_; repeat (refine G1 tt_ok pk34 ?_; intro _))
      refine SQ.idx tt_ok rfl rfl 0 rfl (by decide) (o' := 0) rfl ?_
      (refine G tt_ok pk34 ?_; repeat (refine G1 tt_ok pk34 ?_; intro _))
      refine SQ.idx tt_ok rfl rfl 1 rfl (by decide) (o' := 1) rfl ?_
      (refine G tt_ok pk34 ?_; repeat (refine G1 tt_ok pk34 ?_; intro _))
      refine ke rfl rfl (flag67 β o0 0) ?_
      (refine G tt_ok pk34 ?_; repeat (refine G1 tt_ok pk34 ?_; intro _))
      refine ke rfl rfl (flag67 β o1 1) ?_
      (refine G tt_ok pk34 ?_; repeat (refine G1 tt_ok pk34 ?_; intro _))
      refine CW.ret (fin_ret rfl (A := dA d ⟨o0, o1, sb, sq, sc, sh, qc, cc, xs⟩) pk_ ⟨?_, rfl⟩)
      cases o0 <;> cases o1 <;> rfl
    · rw [if_neg hp1, show (pr == 1) = false by simp [hp1]]
      (refine G tt_ok pk34 ?_; repeat (refine G1 tt_ok pk34 ?_; intro _))
      by_cases hp2 : pr = 2
      · subst hp2
        rw [if_pos rfl]
        (repeat (first | refine CW.seq ?_ | refine CW.region tt_ok rfl ?_ | refine CW.regionD tt_ok (by kernel_rfl) pl34_1 (by decide +kernel) ?_ | refine CW.block ?_ | refine CW.skip ?_ | refine SQ.nil ?_ | refine SQ.pures1 tt_ok rfl ?_ | refine SQ.pure1 tt_ok rfl ?_ | refine SQ.new _ _ rfl rfl (fun _ => ?_) | refine SQ.ldA tt_ok rfl rfl (by repeat (first | exact .h | exact .q | apply At.t)) (by rfl) ?_ | refine SQ.stA tt_ok rfl rfl (by repeat (first | apply Up.h | apply Up.t)) (by rfl) (by rfl) (by repeat (first | exact trivial | refine ⟨trivial, ?_⟩ | refine ⟨wk (by repeat (first | exact .h | exact .q | apply At.t)) (by rfl), ?_⟩)) ?_ | refine CW.cond_tt rfl ?_ | refine CW.cond_ff rfl ?_))
        refine ke rfl rfl (lines80 β d _ _ _ sb sq sc sh (by omega) rfl rfl rfl) ?_
        (repeat (first | refine CW.seq ?_ | refine CW.region tt_ok rfl ?_ | refine CW.regionD tt_ok (by kernel_rfl) pl34_1 (by decide +kernel) ?_ | refine CW.block ?_ | refine CW.skip ?_ | refine SQ.nil ?_ | refine SQ.pures1 tt_ok rfl ?_ | refine SQ.pure1 tt_ok rfl ?_ | refine SQ.new _ _ rfl rfl (fun _ => ?_) | refine SQ.ldA tt_ok rfl rfl (by repeat (first | exact .h | exact .q | apply At.t)) (by rfl) ?_ | refine SQ.stA tt_ok rfl rfl (by repeat (first | apply Up.h | apply Up.t)) (by rfl) (by rfl) (by repeat (first | exact trivial | refine ⟨trivial, ?_⟩ | refine ⟨wk (by repeat (first | exact .h | exact .q | apply At.t)) (by rfl), ?_⟩)) ?_ | refine CW.cond_tt rfl ?_ | refine CW.cond_ff rfl ?_))
        refine CW.ret (fin_ret rfl (A := dA d ⟨o0, o1, sb, sq, sc, sh, qc, cc, xs⟩) pk_ ⟨?_, rfl⟩)
        have ht := typer_bits ⟨(sh.length + 31) / 32, by omega⟩ ⟨xs.length - 1, by omega⟩
        simp only at ht
        rw [wrap_id (x := (sh.length : Int) + 31) (by omega) (by omega), wrap_u (x := (sh.length : Int) + 31) (by omega) (by omega), Int.tdiv_eq_ediv_of_nonneg (by omega), wrap_u (x := ((sh.length : Int) + 31) / 32) (by omega) (by omega),
          wrap_id (x := (xs.length : Int) - 1) (by omega) (by omega), wrap_u (x := (xs.length : Int) - 1) (by omega) (by omega)]
        have e1 : ((sh.length : Int) + 31) / 32 = (((sh.length + 31) / 32 : Nat) : Int) := by omega
        have e2 : (xs.length : Int) - 1 = ((xs.length - 1 : Nat) : Int) := by omega
        rw [e1, e2, ht]
        rfl
      · rw [if_neg hp2, show (pr == 2) = false by simp [hp2]]
        (refine G tt_ok pk34 ?_; repeat (refine G1 tt_ok pk34 ?_; intro _))
        by_cases h13 : pr = 13
        · subst h13
          rw [if_pos rfl]
          (repeat (first | refine CW.seq ?_ | refine CW.region tt_ok rfl ?_ | refine CW.regionD tt_ok (by kernel_rfl) pl34_2 (by decide +kernel) ?_ | refine CW.block ?_ | refine CW.skip ?_ | refine SQ.nil ?_ | refine SQ.pures1 tt_ok rfl ?_ | refine SQ.pure1 tt_ok rfl ?_ | refine SQ.new _ _ rfl rfl (fun _ => ?_) | refine SQ.ldA tt_ok rfl rfl (by repeat (first | exact .h | exact .q | apply At.t)) (by rfl) ?_ | refine SQ.stA tt_ok rfl rfl (by repeat (first | apply Up.h | apply Up.t)) (by rfl) (by rfl) (by repeat (first | exact trivial | refine ⟨trivial, ?_⟩ | refine ⟨wk (by repeat (first | exact .h | exact .q | apply At.t)) (by rfl), ?_⟩)) ?_ | refine CW.cond_tt rfl ?_ | refine CW.cond_ff rfl ?_))
          cases ha : Br.atE 32 sh pf with
          | none =>
            refine ke rfl rfl (getR_none β sb sq sc (first := 32) (id := pf) (es := sh) (by omega) (by omega) hpid ha) ?_
            (repeat (first | refine CW.seq ?_ | refine CW.region tt_ok rfl ?_ | refine CW.regionD tt_ok (by kernel_rfl) pl34_2 (by decide +kernel) ?_ | refine CW.block ?_ | refine CW.skip ?_ | refine SQ.nil ?_ | refine SQ.pures1 tt_ok rfl ?_ | refine SQ.pure1 tt_ok rfl ?_ | refine SQ.new _ _ rfl rfl (fun _ => ?_) | refine SQ.ldA tt_ok rfl rfl (by repeat (first | exact .h | exact .q | apply At.t)) (by rfl) ?_ | refine SQ.stA tt_ok rfl rfl (by repeat (first | apply Up.h | apply Up.t)) (by rfl) (by rfl) (by repeat (first | exact trivial | refine ⟨trivial, ?_⟩ | refine ⟨wk (by repeat (first | exact .h | exact .q | apply At.t)) (by rfl), ?_⟩)) ?_ | refine CW.cond_tt rfl ?_ | refine CW.cond_ff rfl ?_))
            exact CW.ret (fin_ret rfl (A := dA d ⟨o0, o1, sb, sq, sc, sh, qc, cc, xs⟩) pk_ ⟨rfl, rfl⟩)
          | some en =>
            have hrte := hrt en (List.mem_of_getElem? (Br.atE_some ha).2.2.1)
            refine ke rfl rfl (getR_some β sb sq sc (first := 32) (id := pf) (es := sh) (by omega) (by omega) hpid ha) ?_
            (repeat (first | refine CW.seq ?_ | refine CW.region tt_ok rfl ?_ | refine CW.regionD tt_ok (by kernel_rfl) pl34_2 (by decide +kernel) ?_ | refine CW.block ?_ | refine CW.skip ?_ | refine SQ.nil ?_ | refine SQ.pures1 tt_ok rfl ?_ | refine SQ.pure1 tt_ok rfl ?_ | refine SQ.new _ _ rfl rfl (fun _ => ?_) | refine SQ.ldA tt_ok rfl rfl (by repeat (first | exact .h | exact .q | apply At.t)) (by rfl) ?_ | refine SQ.stA tt_ok rfl rfl (by repeat (first | apply Up.h | apply Up.t)) (by rfl) (by rfl) (by repeat (first | exact trivial | refine ⟨trivial, ?_⟩ | refine ⟨wk (by repeat (first | exact .h | exact .q | apply At.t)) (by rfl), ?_⟩)) ?_ | refine CW.cond_tt rfl ?_ | refine CW.cond_ff rfl ?_))
            refine ke rfl rfl (routed81 β en.2 hrte.1 hrte.2) ?_
            (repeat (first | refine CW.seq ?_ | refine CW.region tt_ok rfl ?_ | refine CW.regionD tt_ok (by kernel_rfl) pl34_2 (by decide +kernel) ?_ | refine CW.block ?_ | refine CW.skip ?_ | refine SQ.nil ?_ | refine SQ.pures1 tt_ok rfl ?_ | refine SQ.pure1 tt_ok rfl ?_ | refine SQ.new _ _ rfl rfl (fun _ => ?_) | refine SQ.ldA tt_ok rfl rfl (by repeat (first | exact .h | exact .q | apply At.t)) (by rfl) ?_ | refine SQ.stA tt_ok rfl rfl (by repeat (first | apply Up.h | apply Up.t)) (by rfl) (by rfl) (by repeat (first | exact trivial | refine ⟨trivial, ?_⟩ | refine ⟨wk (by repeat (first | exact .h | exact .q | apply At.t)) (by rfl), ?_⟩)) ?_ | refine CW.cond_tt rfl ?_ | refine CW.cond_ff rfl ?_))
            exact CW.ret (fin_ret rfl (A := dA d ⟨o0, o1, sb, sq, sc, sh, qc, cc, xs⟩) pk_ ⟨rfl, rfl⟩)
        · rw [if_neg h13, show (pr == 13) = false by simp [h13]]
          (repeat (first | refine CW.seq ?_ | refine CW.region tt_ok rfl ?_ | refine CW.regionD tt_ok (by kernel_rfl) pl34_3 (by decide +kernel) ?_ | refine CW.block ?_ | refine CW.skip ?_ | refine SQ.nil ?_ | refine SQ.pures1 tt_ok rfl ?_ | refine SQ.pure1 tt_ok rfl ?_ | refine SQ.new _ _ rfl rfl (fun _ => ?_) | refine SQ.ldA tt_ok rfl rfl (by repeat (first | exact .h | exact .q | apply At.t)) (by rfl) ?_ | refine SQ.stA tt_ok rfl rfl (by repeat (first | apply Up.h | apply Up.t)) (by rfl) (by rfl) (by repeat (first | exact trivial | refine ⟨trivial, ?_⟩ | refine ⟨wk (by repeat (first | exact .h | exact .q | apply At.t)) (by rfl), ?_⟩)) ?_ | refine CW.cond_tt rfl ?_ | refine CW.cond_ff rfl ?_))
          refine ke rfl rfl (Br.read12 β sb sq sc (first := 32) (es := sh) (by omega) (by omega) pr pf pc) ?_
          (repeat (first | refine CW.seq ?_ | refine CW.region tt_ok rfl ?_ | refine CW.regionD tt_ok (by kernel_rfl) pl34_3 (by decide +kernel) ?_ | refine CW.block ?_ | refine CW.skip ?_ | refine SQ.nil ?_ | refine SQ.pures1 tt_ok rfl ?_ | refine SQ.pure1 tt_ok rfl ?_ | refine SQ.new _ _ rfl rfl (fun _ => ?_) | refine SQ.ldA tt_ok rfl rfl (by repeat (first | exact .h | exact .q | apply At.t)) (by rfl) ?_ | refine SQ.stA tt_ok rfl rfl (by repeat (first | apply Up.h | apply Up.t)) (by rfl) (by rfl) (by repeat (first | exact trivial | refine ⟨trivial, ?_⟩ | refine ⟨wk (by repeat (first | exact .h | exact .q | apply At.t)) (by rfl), ?_⟩)) ?_ | refine CW.cond_tt rfl ?_ | refine CW.cond_ff rfl ?_))
          exact CW.ret (fin_ret rfl (A := dA d ⟨o0, o1, sb, sq, sc, sh, qc, cc, xs⟩) pk_ ⟨rfl, rfl⟩)
  · rw [if_pos he, show (e != 0) = true by simp [he]]
    (refine G tt_ok pk34 ?_; repeat (refine G1 tt_ok pk34 ?_; intro _))
    exact CW.ret (fin_ret rfl (A := dA d ⟨o0, o1, sb, sq, sc, sh, qc, cc, xs⟩) pk_ ⟨rfl, rfl⟩)
end Go.Proofs.YtjphlcfplcacnaaGreat.Sl
namespace Go.Proofs.YtjphlcfplcacnaaGreat.Sl
open Go Go.RowKit Go.Proofs
set_option linter.unusedVariables false
set_option linter.unusedSimpArgs false
attribute [local irreducible] CW Tri OW
set_option maxRecDepth 10000
theorem part_step (v a j : Nat) : v / 2 ^ a % 2 ^ (j + 1) = v / 2 ^ (a + 1) % 2 ^ j * 2 + v / 2 ^ a % 2 := by
  have e1 : v / 2 ^ (a + 1) = v / 2 ^ a / 2 := by rw [Nat.pow_succ, Nat.div_div_eq_div_mul]
  rw [e1]
  generalize v / 2 ^ a = z
  have := Nat.mod_mul (x := z) (a := 2) (b := 2 ^ j)
  rw [show 2 ^ (j + 1) = 2 * 2 ^ j by rw [Nat.pow_succ, Nat.mul_comm], this]
  omega
set_option maxHeartbeats 2000000 in
theorem part112 (β : Base) {v : Nat} (hv : v < 2 ^ 64) (a b : Nat) (hab : a ≤ b) (hb : b ≤ 63) (hw : b + 1 - a ≤ 30) : Tri Tryz.prog β 112 [.int .u64 v, .int .i64 a, .int .i64 b] [] (fun u L => u = .int .i64 ((v / 2 ^ a % 2 ^ (b + 1 - a) : Nat) : Int) ∧ L = []) := by
  refine Tri.intro tt_ok Tryz.func112 rfl rfl Tryz.ntmps112 rfl fun F => ?_
  (refine G tt_ok [] ?_; repeat (refine G1 tt_ok [] ?_; intro _))
  refine CW.loop (α := Nat) (fun j => j ≤ b + 1 - a) (fun j => [(0, .int .u64 v), (1, .int .i64 a), (7, .int .i64 ((v / 2 ^ (b + 1 - j) % 2 ^ j : Nat) : Int)), (8, .int .i64 ((b : Int) - j))]) (fun _ => []) (fun j => b + 1 - a - j) 0 (by omega) ⟨rfl, rfl, by simp [Nat.mod_one]; rfl, by simp; rfl, trivial⟩ (Ent.refl _) ?_
  intro j hj
  (refine G tt_ok [] ?_; repeat (refine G1 tt_ok [] ?_; intro _))
  by_cases hlt : j < b + 1 - a
  · rw [decide_eq_true (show (b : Int) - j ≥ a by omega)]
    have hst := part_step v (b - j) j
    have hp : v / 2 ^ (b + 1 - j) % 2 ^ j < 2 ^ 30 := Nat.lt_of_lt_of_le (Nat.mod_lt _ (Nat.two_pow_pos j)) (Nat.pow_le_pow_right (by omega) (by omega))
    have e30 : (2 : Nat) ^ 30 = 1073741824 := rfl
    have hbit := bit64 hv (show b - j < 64 by omega)
    rw [show b - j + 1 = b + 1 - j by omega] at hst
    have hb2 : b + 1 - (j + 1) = b - j := by omega
    have hw8 : IntKind.i64.wrap ((b : Int) - j - 1) = (b : Int) - ((j + 1 : Nat) : Int) := by rw [wrap_id (by omega) (by omega)]; omega
    have hm : IntKind.i64.wrap (((v / 2 ^ (b + 1 - j) % 2 ^ j : Nat) : Int) * 2) = ((v / 2 ^ (b + 1 - j) % 2 ^ j * 2 : Nat) : Int) := by rw [wrap_id (by omega) (by omega)]; omega
    (refine G tt_ok [] ?_; repeat (refine G1 tt_ok [] ?_; intro _))
    refine SQ.shift tt_ok rfl rfl (b - j) (by omega) rfl ?_
    (refine G tt_ok [] ?_; repeat (refine G1 tt_ok [] ?_; intro _))
    rw [if_neg (by simp)]
    rw [hbit]
    have h2 : v / 2 ^ (b - j) % 2 = 0 ∨ v / 2 ^ (b - j) % 2 = 1 := by omega
    rcases h2 with h2 | h2
    · rw [h2, Nat.add_zero (_ * 2)] at hst
      rw [h2]
      (refine G tt_ok [] ?_; repeat (refine G1 tt_ok [] ?_; intro _))
      refine ⟨j + 1, by omega, by omega, ⟨rfl, rfl, ?_, by rw [← hw8]; rfl, trivial⟩, Ent.refl _⟩
      rw [hb2, hst, ← hm]; rfl
    · rw [h2] at hst ⊢
      (refine G tt_ok [] ?_; repeat (refine G1 tt_ok [] ?_; intro _))
      refine ⟨j + 1, by omega, by omega, ⟨rfl, rfl, ?_, by rw [← hw8]; rfl, trivial⟩, Ent.refl _⟩
      have hm1 : IntKind.i64.wrap (((v / 2 ^ (b + 1 - j) % 2 ^ j * 2 : Nat) : Int) + 1) = ((v / 2 ^ (b + 1 - j) % 2 ^ j * 2 + 1 : Nat) : Int) := by rw [wrap_id (by omega) (by omega)]; omega
      rw [hb2, hst, ← hm1, ← hm]; rfl
  · rw [decide_eq_false (show ¬ (b : Int) - j ≥ a by omega)]
    (refine G tt_ok [] ?_; repeat (refine G1 tt_ok [] ?_; intro _))
    refine CW.exit ?_
    (refine G tt_ok [] ?_; repeat (refine G1 tt_ok [] ?_; intro _))
    obtain rfl : j = b + 1 - a := by omega
    refine CW.ret (fin_ret rfl (Ent.refl _) ⟨?_, rfl⟩)
    rw [show b + 1 - (b + 1 - a) = a by omega]; rfl
theorem odd114 (β : Base) {v : Nat} (hv : v < 2 ^ 64) : Tri Tryz.prog β 114 [.int .u64 v] [] (fun u L => u = .bool (oddV v) ∧ L = []) := by
  refine Tri.intro tt_ok Tryz.func114 rfl rfl Tryz.ntmps114 rfl fun F => ?_
  (refine G tt_ok [] ?_; repeat (refine G1 tt_ok [] ?_; intro _))
  refine ke rfl rfl (part112 β hv 16 23 (by omega) (by omega) (by omega)) ?_
  (refine G tt_ok [] ?_; repeat (refine G1 tt_ok [] ?_; intro _))
  by_cases h16 : v / 2 ^ 16 % 256 = 0
  · rw [show v / 2 ^ 16 % 2 ^ (23 + 1 - 16) = 0 from h16, show (((0 : Nat) : Int) != 0) = false from rfl]
    (refine G tt_ok [] ?_; repeat (refine G1 tt_ok [] ?_; intro _))
    refine ke rfl rfl (part112 β hv 32 39 (by omega) (by omega) (by omega)) ?_
    (refine G tt_ok [] ?_; repeat (refine G1 tt_ok [] ?_; intro _))
    by_cases h32 : v / 2 ^ 32 % 256 = 0
    · rw [show v / 2 ^ 32 % 2 ^ (39 + 1 - 32) = 0 from h32, show (((0 : Nat) : Int) != 0) = false from rfl]
      (refine G tt_ok [] ?_; repeat (refine G1 tt_ok [] ?_; intro _))
      refine ke rfl rfl (part112 β hv 44 47 (by omega) (by omega) (by omega)) ?_
      (refine G tt_ok [] ?_; repeat (refine G1 tt_ok [] ?_; intro _))
      by_cases h44 : v / 2 ^ 44 % 16 = 0
      · rw [show v / 2 ^ 44 % 2 ^ (47 + 1 - 44) = 0 from h44, show (((0 : Nat) : Int) != 0) = false from rfl]
        (refine G tt_ok [] ?_; repeat (refine G1 tt_ok [] ?_; intro _))
        refine ke rfl rfl (part112 β hv 48 55 (by omega) (by omega) (by omega)) ?_
        (refine G tt_ok [] ?_; repeat (refine G1 tt_ok [] ?_; intro _))
        refine CW.ret (fin_ret rfl (Ent.refl _) ⟨?_, rfl⟩)
        have : ((((v / 2 ^ 48 % 256 : Nat) : Int)) != 0) = oddV v := by
          unfold oddV; rw [Bool.eq_iff_iff]; simp only [bne_iff_ne, h16, h32, h44, Bool.or_eq_true, decide_eq_true_eq]; omega
        rw [← this]; rfl
      · rw [show ((((v / 2 ^ 44 % 2 ^ (47 + 1 - 44) : Nat) : Int)) != 0) = true by simp only [bne_iff_ne]; show ((v / 2 ^ 44 % 16 : Nat) : Int) ≠ 0; omega]
        (refine G tt_ok [] ?_; repeat (refine G1 tt_ok [] ?_; intro _))
        refine CW.ret (fin_ret rfl (Ent.refl _) ⟨?_, rfl⟩)
        rw [show oddV v = true by unfold oddV; simp [h44]]; rfl
    · rw [show ((((v / 2 ^ 32 % 2 ^ (39 + 1 - 32) : Nat) : Int)) != 0) = true by simp only [bne_iff_ne]; show ((v / 2 ^ 32 % 256 : Nat) : Int) ≠ 0; omega]
      (refine G tt_ok [] ?_; repeat (refine G1 tt_ok [] ?_; intro _))
      refine CW.ret (fin_ret rfl (Ent.refl _) ⟨?_, rfl⟩)
      rw [show oddV v = true by unfold oddV; simp [h32]]; rfl
  · rw [show ((((v / 2 ^ 16 % 2 ^ (23 + 1 - 16) : Nat) : Int)) != 0) = true by simp only [bne_iff_ne]; show ((v / 2 ^ 16 % 256 : Nat) : Int) ≠ 0; omega]
    (refine G tt_ok [] ?_; repeat (refine G1 tt_ok [] ?_; intro _))
    refine CW.ret (fin_ret rfl (Ent.refl _) ⟨?_, rfl⟩)
    rw [show oddV v = true by unfold oddV; simp [h16]]; rfl
set_option maxHeartbeats 4000000 in
theorem refTo113 (β : Base) (a o : Bool) {t : Nat} (ht : t < 65536) (fr : Int) {n : Nat} (hn : n ≤ 8) : Tri Tryz.prog β 113 [.bool a, .bool o, .int .i64 t, .int .i64 fr, .int .i64 n] [] (fun v L => ∃ q c, v = .slice q (toL a t o fr n).length c ∧ L = [rowA q (toL a t o fr n).length ((toL a t o fr n).flatMap i1C)]) := by
  refine Tri.intro tt_ok Tryz.func113 rfl rfl Tryz.ntmps113 rfl fun F => ?_
  (refine G tt_ok [] ?_; repeat (refine G1 tt_ok [] ?_; intro _))
  refine CW.loop (α := Nat × Option Addr × Nat) (fun x => x.1 ≤ n) (fun x => [(0, .bool a), (1, .bool o), (2, .int .i64 t), (3, .int .i64 fr), (4, .int .i64 n), (11, .slice x.2.1 (toL a t o fr x.1).length x.2.2), (12, .int .i64 x.1)])
    (fun x => [own 3 1 (.slice x.2.1 (toL a t o fr x.1).length x.2.2) (toL a t o fr x.1).length ((toL a t o fr x.1).flatMap i1C)]) (fun x => n - x.1) (0, none, 0) (by simp) ⟨rfl, rfl, rfl, rfl, rfl, rfl, rfl, trivial⟩ (own_nil 3 1) ?_
  rintro ⟨k, q, c⟩ hk
  simp only at hk ⊢
  have hlen := toL_len a t o fr k
  (refine G tt_ok [] ?_; repeat (refine G1 tt_ok [] ?_; intro _))
  by_cases hlt : k < n
  · rw [decide_eq_true (show (k : Int) < n by omega)]
    have hw : IntKind.i64.wrap ((k : Int) + 1) = ((k + 1 : Nat) : Int) := by rw [wrap_i64]; split <;> omega
    have hq := tbit ht (show k < 64 by omega)
    have hne : ((k : Int) != fr) = decide ((k : Int) ≠ fr) := by rw [Bool.eq_iff_iff]; simp
    have hstep : toL a t o fr (k + 1) = toL a t o fr k ++ if calledV a t o fr k then [(k : Int)] else [] := rfl
    unfold calledV at hstep
    (refine G tt_ok [] ?_; repeat (refine G1 tt_ok [] ?_; intro _))
    rw [decide_eq_true (show (k : Int) < 8 by omega)]
    (refine G tt_ok [] ?_; repeat (refine G1 tt_ok [] ?_; intro _))
    cases a
    · simp only [Bool.false_eq_true, if_false, Bool.false_or] at hstep
      cases o
      · simp only [Bool.not_false, Bool.and_true] at hstep
        (refine G tt_ok [] ?_; repeat (refine G1 tt_ok [] ?_; intro _))
        rw [hq]
        generalize decide (t / 2 ^ k % 2 = 1) = z at hstep ⊢
        cases z
        · simp only [Bool.false_eq_true, if_false, List.append_nil] at hstep
          (refine G tt_ok [] ?_; repeat (refine G1 tt_ok [] ?_; intro _))
          refine ⟨(k + 1, q, c), by simp; omega, by simp; omega, ⟨rfl, rfl, rfl, rfl, rfl, by rw [hstep]; rfl, by rw [← hw]; rfl, trivial⟩, ?_⟩
          simp only
          rw [hstep]
          exact pk_
        · simp only [if_true] at hstep
          (refine G tt_ok [] ?_; repeat (refine G1 tt_ok [] ?_; intro _))
          (refine SQ.built tt_ok rfl rfl (fun _ => w_ ?_))
          (refine G tt_ok [] ?_; repeat (refine G1 tt_ok [] ?_; intro _))
          (refine SQ.append tt_ok rfl rfl 1 rfl 0 (q := true) rfl ([.int .i64 (k : Int)]) rfl rfl rfl (scal_eq rfl) (by omega) (by show ((toL _ t _ fr k).length + 1) * 8 ≤ _; omega) (fun v' => w_ ?_); refine SQ.ent _ (Ent.head (own_shape _ _ _ _ _)) ?_; refine SQ.open_ fun s => ?_; refine SQ.pure_ fun hv => ?_; subst hv)
          (refine G tt_ok [] ?_; repeat (refine G1 tt_ok [] ?_; intro _))
          refine ⟨(k + 1, s.1, s.2), by simp; omega, by simp; omega, ⟨rfl, rfl, rfl, rfl, rfl, by rw [hstep, List.length_append]; rfl, by rw [← hw]; rfl, trivial⟩, ?_⟩
          simp only
          rw [hstep, List.flatMap_append, List.length_append]
          exact pk_
      · simp only [Bool.not_true, Bool.and_false, Bool.false_eq_true, if_false, List.append_nil] at hstep
        (refine G tt_ok [] ?_; repeat (refine G1 tt_ok [] ?_; intro _))
        refine ⟨(k + 1, q, c), by simp; omega, by simp; omega, ⟨rfl, rfl, rfl, rfl, rfl, by rw [hstep]; rfl, by rw [← hw]; rfl, trivial⟩, ?_⟩
        simp only
        rw [hstep]
        exact pk_
    · simp only [if_true, Bool.true_or, Bool.and_true] at hstep
      (refine G tt_ok [] ?_; repeat (refine G1 tt_ok [] ?_; intro _))
      rw [hne]
      generalize decide ((k : Int) ≠ fr) = z at hstep ⊢
      cases z
      · simp only [Bool.false_eq_true, if_false, List.append_nil] at hstep
        (refine G tt_ok [] ?_; repeat (refine G1 tt_ok [] ?_; intro _))
        refine ⟨(k + 1, q, c), by simp; omega, by simp; omega, ⟨rfl, rfl, rfl, rfl, rfl, by rw [hstep]; rfl, by rw [← hw]; rfl, trivial⟩, ?_⟩
        simp only
        rw [hstep]
        exact pk_
      · simp only [if_true] at hstep
        (refine G tt_ok [] ?_; repeat (refine G1 tt_ok [] ?_; intro _))
        (refine SQ.built tt_ok rfl rfl (fun _ => w_ ?_))
        (refine G tt_ok [] ?_; repeat (refine G1 tt_ok [] ?_; intro _))
        (refine SQ.append tt_ok rfl rfl 1 rfl 0 (q := true) rfl ([.int .i64 (k : Int)]) rfl rfl rfl (scal_eq rfl) (by omega) (by show ((toL _ t _ fr k).length + 1) * 8 ≤ _; omega) (fun v' => w_ ?_); refine SQ.ent _ (Ent.head (own_shape _ _ _ _ _)) ?_; refine SQ.open_ fun s => ?_; refine SQ.pure_ fun hv => ?_; subst hv)
        (refine G tt_ok [] ?_; repeat (refine G1 tt_ok [] ?_; intro _))
        refine ⟨(k + 1, s.1, s.2), by simp; omega, by simp; omega, ⟨rfl, rfl, rfl, rfl, rfl, by rw [hstep, List.length_append]; rfl, by rw [← hw]; rfl, trivial⟩, ?_⟩
        simp only
        rw [hstep, List.flatMap_append, List.length_append]
        exact pk_
  · rw [decide_eq_false (show ¬ (k : Int) < n by omega)]
    (refine G tt_ok [] ?_; repeat (refine G1 tt_ok [] ?_; intro _))
    refine CW.exit ?_
    (refine G tt_ok [] ?_; repeat (refine G1 tt_ok [] ?_; intro _))
    obtain rfl : k = n := by omega
    refine CW.ret (fin_ret rfl (A := [rowA q (toL a t o fr k).length ((toL a t o fr k).flatMap i1C)]) own_row ?_)
    exact ⟨q, c, rfl, rfl⟩
end Go.Proofs.YtjphlcfplcacnaaGreat.Sl
namespace Go.Proofs.YtjphlcfplcacnaaGreat.Sl
open Go Go.RowKit Go.Proofs
set_option linter.unusedVariables false
set_option linter.unusedSimpArgs false
attribute [local irreducible] CW Tri OW
set_option maxRecDepth 10000
@[reducible] def pk79 : List (Nat × Plan) := [(4, [(0, 0, []), (3, 0, []), (5, 0, []), (7, 0, []), (8, 0, []), (9, 0, []), (10, 0, []), (11, 0, []), (12, 0, []), (1, 1, [11]), (2, 0, []), (4, 1, [11]), (6, 1, [11]), (13, 1, [11]), (14, 0, [])]), (9, [(0, 0, []), (1, 0, []), (2, 0, []), (3, 0, []), (4, 0, []), (5, 0, []), (6, 0, []), (7, 0, []), (8, 0, []), (9, 0, []), (10, 0, [])])]
theorem rd_lng {es : List Ln} {k : Nat} {e : Ln} (h : es[k]? = some e) (X : List Value) : rdv ti3 (es.flatMap lnC ++ X) (bif Nat.beq (0 + k * 7) 0 then 5 else 0 + k * 7 + 5) = some (.int .i64 e.2.2.1) :=
  rd_partR (enc := lnC) (sz := 7) (fun _ => rfl) h 5 (i := ti3) rfl (by decide) (by rw [off_add]; omega) (by decide) X
theorem callS_es {id gr : Int} {st : List CR × Nat} {k : Int} (h : ∀ x ∈ st.1, x.es.length = 32 ∧ Bn.okL x.es) : ∀ x ∈ (callS id gr st k).1, x.es.length = 32 ∧ Bn.okL x.es := by
  unfold callS
  split
  · rename_i x hx
    split
    · intro y hy
      rcases List.mem_or_eq_of_mem_set hy with h2 | rfl
      · exact h y h2
      · have := h x (List.mem_of_getElem? hx)
        exact ⟨by rw [Bn.doV_len]; exact this.1, Bn.doV_ok this.2⟩
    · exact h
  · exact h
theorem callF_es {id gr : Int} : ∀ (l : List Int) (st : List CR × Nat), (∀ x ∈ st.1, x.es.length = 32 ∧ Bn.okL x.es) → ∀ x ∈ (l.foldl (callS id gr) st).1, x.es.length = 32 ∧ Bn.okL x.es
  | [], st, h => h
  | x :: r, st, h => callF_es r (callS id gr st x) (callS_es h)
theorem callL_snoc (id gr : Int) (l : List Int) (xs : List CR) (x : Int) : callL id gr (l ++ [x]) xs = callS id gr (callL id gr l xs) x := by
  unfold callL; rw [List.foldl_append]; rfl
set_option maxHeartbeats 8000000 in
theorem refCall79 (β : Base) (r : Nat) (R : RS) (D : DS) (ok : OkD R D) (fr gr : Int) (v : Nat) (hv : v < 2 ^ 64) : Tri Tryz.prog β 79 [.pointer (some ⟨r, 0, none⟩), .int .i64 fr, .int .i64 gr, .int .u64 v] (rD r R D) (fun u L => u = .tuple #[.int .i64 (D.callV fr gr v).2.1, .int .i64 (D.callV fr gr v).2.2] ∧ L = rD r R (D.callV fr gr v).1) := by
  obtain ⟨h1, h8, hes, hsh, hok, hos, hrt⟩ := ok
  refine Tri.intro tt_ok Tryz.func79 rfl rfl Tryz.ntmps79 rfl fun F => ?_
  unfold DS.callV
  unfold rD
  (refine G tt_ok pk79 ?_; repeat (refine G1 tt_ok pk79 ?_; intro _))
  refine ke rfl rfl (there48 β r _ _ _ rfl rfl rfl R.qk R.qa R.qo R.qs D.sh.length D.sh.length D.xs.length D.xs.length R.ck R.ca R.co R.cs fr) ?_
  cases hr : rightV D.xs.length fr with
  | false =>
    (refine G tt_ok pk79 ?_; repeat (refine G1 tt_ok pk79 ?_; intro _))
    exact CW.ret (fin_ret rfl (A := rD r R D) pk_ ⟨rfl, rfl⟩)
  | true =>
    rw [if_pos rfl]
    (refine G tt_ok pk79 ?_; repeat (refine G1 tt_ok pk79 ?_; intro _))
    refine ke rfl rfl (part112 β hv 24 27 (by omega) (by omega) (by omega)) ?_
    (refine G tt_ok pk79 ?_; repeat (refine G1 tt_ok pk79 ?_; intro _))
    refine ke rfl rfl (part112 β hv 40 40 (by omega) (by omega) (by omega)) ?_
    (refine G tt_ok pk79 ?_; repeat (refine G1 tt_ok pk79 ?_; intro _))
    refine ke rfl rfl (odd114 β hv) ?_
    (refine G tt_ok pk79 ?_; repeat (refine G1 tt_ok pk79 ?_; intro _))
    refine ke rfl rfl (part112 β hv 0 15 (by omega) (by omega) (by omega)) ?_
    (refine G tt_ok pk79 ?_; repeat (refine G1 tt_ok pk79 ?_; intro _))
    rw [show (((v / 2 ^ 40 % 2 ^ (40 + 1 - 40) : Nat) : Int) == 1) = decide (v / 2 ^ 40 % 2 = 1) by rw [Bool.eq_iff_iff]; simp only [beq_iff_eq, decide_eq_true_eq]; show ((v / 2 ^ 40 % 2 : Nat) : Int) = 1 ↔ _; omega,
      show ((v / 2 ^ 0 % 2 ^ (15 + 1 - 0) : Nat) : Int) = ((v % 65536 : Nat) : Int) by rw [Nat.pow_zero, Nat.div_one],
      show ((v / 2 ^ 24 % 2 ^ (27 + 1 - 24) : Nat) : Int) = ((v / 2 ^ 24 % 16 : Nat) : Int) from rfl]
    have ht : v % 65536 < 65536 := Nat.mod_lt _ (by decide)
    have hid0 : v / 2 ^ 24 % 16 < 16 := Nat.mod_lt _ (by decide)
    generalize v / 2 ^ 24 % 16 = idn at hid0 ⊢
    generalize decide (v / 2 ^ 40 % 2 = 1) = al
    generalize v % 65536 = tg at ht ⊢
    generalize oddV v = od
    (refine ka rfl rfl (refTo113 β al od ht fr h8) ?_; rintro _ _ ⟨ql, cl, rfl, rfl⟩; refine w_ ?_)
    have hlm : ∀ x ∈ toL al tg od fr D.xs.length, ∃ k : Nat, x = k ∧ k < D.xs.length := fun x hx => toL_mem hx
    have hll := toL_len al tg od fr D.xs.length
    generalize toL al tg od fr D.xs.length = l at hlm hll ⊢
    (refine G tt_ok pk79 ?_; repeat (refine G1 tt_ok pk79 ?_; intro _))
    refine CW.ent (rm_ (A := rowA ql l.length (l.flatMap i1C)) (row_rd β (sz := 1) (flatE_len (sz := 1) (fun _ => rfl) l))) ?_
    refine CW.open_ fun B => CW.pure_ fun hB => ?_
    obtain ⟨s, qk, ck, qa, ca, qo, co, qs, cs, os⟩ := R
    simp only at hos ⊢
    refine CW.loop (α := Nat) (fun j => j ≤ l.length) (fun j => [(0, .pointer (some ⟨r, 0, none⟩)), (2, .int .i64 gr), (10, .int .i64 idn), (11, .slice ql l.length cl), (12, .int .i64 ((callL idn gr (l.take j) D.xs).2 : Int)), (13, .int .i64 j)])
      (fun j => B :: rD r ⟨s, qk, ck, qa, ca, qo, co, qs, cs, os⟩ { D with xs := (callL idn gr (l.take j) D.xs).1 }) (fun j => l.length - j) 0 (by omega) ⟨rfl, rfl, rfl, rfl, rfl, rfl, trivial⟩ pk_ ?_
    intro j hj
    (refine G tt_ok pk79 ?_; repeat (refine G1 tt_ok pk79 ?_; intro _))
    have hcl := callF_len idn gr (l.take j) (D.xs, 0)
    have hce := callF_es (id := idn) (gr := gr) (l.take j) (D.xs, 0) hes
    change (callL idn gr (l.take j) D.xs).1.length = D.xs.length ∧ (callL idn gr (l.take j) D.xs).2 ≤ 0 + (l.take j).length at hcl
    change ∀ x ∈ (callL idn gr (l.take j) D.xs).1, _ at hce
    by_cases hlt : j < l.length
    · rw [decide_eq_true (show (j : Int) < l.length by omega)]
      have hw : IntKind.i64.wrap ((j : Int) + 1) = ((j + 1 : Nat) : Int) := by rw [wrap_i64]; split <;> omega
      obtain ⟨y, hy⟩ : ∃ y, l[j]? = some y := ⟨_, List.getElem?_eq_getElem hlt⟩
      obtain ⟨k, rfl, hk⟩ := hlm y (List.mem_of_getElem? hy)
      have hst : callL idn gr (l.take (j + 1)) D.xs = callS idn gr (callL idn gr (l.take j) D.xs) k := by
        rw [List.take_add_one, hy]; exact callL_snoc _ _ _ _ _
      have htl : (l.take j).length ≤ j := by rw [List.length_take]; omega
      unfold callS at hst
      generalize callL idn gr (l.take j) D.xs = st at hcl hce hst ⊢
      obtain ⟨ys, m⟩ := st
      simp only at hcl hce hst ⊢
      obtain ⟨hyl, hml⟩ := hcl
      have hwm : IntKind.i64.wrap ((m : Int) + 1) = ((m + 1 : Nat) : Int) := by rw [wrap_i64]; split <;> omega
      obtain ⟨x, hx⟩ : ∃ x, ys[k]? = some x := ⟨_, List.getElem?_eq_getElem (by omega)⟩
      obtain ⟨o, ho⟩ : ∃ o, os[k]? = some o := ⟨_, List.getElem?_eq_getElem (by omega)⟩
      have hx32 := hce x (List.mem_of_getElem? hx)
      obtain ⟨e, he⟩ : ∃ e, x.es[idn]? = some e := ⟨_, List.getElem?_eq_getElem (by omega)⟩
      have hge : Bn.getV 0 x.es idn = (e, 0) := by
        unfold Bn.getV
        rw [Bn.atE_iff.2 ⟨idn, by omega, he⟩]
      rw [Int.toNat_natCast, hx] at hst
      simp only [hge] at hst
      obtain ⟨bs, os', qs', cs', rfl, rfl, hcs⟩ := hB.2.resolve_left (by omega)
      unfold rD
      simp only
      refine CW.ent (rm_ (A := rowA qo ys.length (os.flatMap opC)) (row_open (by omega))) ?_
      refine CW.open_ fun z => ?_
      obtain ⟨g, rest⟩ := z
      refine CW.pure_ fun hv => ?_
      simp only at hv
      subst hv
      refine CW.ent (rm_ (A := pkA obF (os.zip ys)) (ob_open ho hx)) ?_
      (refine G tt_ok pk79 ?_; repeat (refine G1 tt_ok pk79 ?_; intro _))
      refine SQ.idx tt_ok rfl rfl j rfl hlt (o' := os' + j * 1) rfl ?_
      (refine G tt_ok pk79 ?_; repeat (refine G1 tt_ok pk79 ?_; intro _))
      (refine SQ.ldA tt_ok rfl rfl (by repeat (first | exact .h | exact .q | apply At.t)) (rd_i1 hcs hy) ?_)
      (refine G tt_ok pk79 ?_; repeat (refine G1 tt_ok pk79 ?_; intro _))
      refine SQ.idx tt_ok rfl rfl k rfl (by omega) (o' := 0 + k * 1) rfl ?_
      (refine G tt_ok pk79 ?_; repeat (refine G1 tt_ok pk79 ?_; intro _))
      (refine SQ.ldA tt_ok rfl rfl (by repeat (first | exact .h | exact .q | apply At.t)) (rd_op ho rest) ?_)
      (refine G tt_ok pk79 ?_; repeat (refine G1 tt_ok pk79 ?_; intro _))
      have hclose := ob_shut ho hx
      have hcl2 := fun es' hl => ob_close (os := os) ho hx es' hl
      obtain ⟨ob, oq, oc, oq2, oc2⟩ := o
      simp only at hclose hcl2 ⊢
      have hn0 : 0 < (Bn.lsV x.es).length := by rw [Bn.lsV_len]; omega
      (refine SQ.ent _ (Rm.to (A := rowA oq ((Bn.lsV x.es).length) ((Bn.lsV x.es).flatMap lnC)) (by repeat (first | exact Rm.h | apply Rm.t)) (row_open (by omega))) ?_; refine SQ.open_ fun y => ?_; obtain ⟨g2, rest2⟩ := y; refine SQ.pure_ fun hv => ?_; simp only at hv; subst hv)
      (refine G tt_ok pk79 ?_; repeat (refine G1 tt_ok pk79 ?_; intro _))
      refine SQ.idx tt_ok rfl rfl idn rfl (by rw [Bn.lsV_len]; omega) (o' := 0 + idn * 7) rfl ?_
      (refine G tt_ok pk79 ?_; repeat (refine G1 tt_ok pk79 ?_; intro _))
      have hgx : (Bn.lsV x.es)[idn]? = some e.1 := by unfold Bn.lsV; rw [List.getElem?_map, he]; rfl
      (refine SQ.ldA tt_ok rfl rfl (by repeat (first | exact .h | exact .q | apply At.t)) (rd_lng hgx rest2) ?_)
      (refine G tt_ok pk79 ?_; repeat (refine G1 tt_ok pk79 ?_; intro _))
      refine CW.ent (rm_ (A := pt g2 ((Bn.lsV x.es).flatMap lnC ++ rest2)) (row_close (n := (Bn.lsV x.es).length))) ?_
      refine CW.ent (rm_ (A := pt g (os.flatMap opC ++ rest)) (row_close (n := ys.length))) ?_
      by_cases hg : e.1.2.2.1 = gr
      · rw [show (e.1.2.2.1 == gr) = true by simp [hg]]
        rw [if_pos hg] at hst
        (refine G tt_ok pk79 ?_; repeat (refine G1 tt_ok pk79 ?_; intro _))
        refine ke rfl rfl (doN β ⟨ob, some ⟨g2, 0, none⟩, oc, oq2, oc2⟩ (first := 0) idn 3 x.es (by omega) (by omega) (by omega)) ?_
        (refine G tt_ok pk79 ?_; repeat (refine G1 tt_ok pk79 ?_; intro _))
        refine ⟨j + 1, by omega, by omega, ⟨rfl, rfl, rfl, rfl, by rw [hst, ← hwm]; rfl, by rw [← hw]; rfl, trivial⟩, ?_⟩
        rw [hst]
        simp only
        simp only [List.length_set]
        rw [flat_set_same (enc := slC) (y := { x with es := (Bn.doV 0 x.es idn 3).1 }) hx rfl, zip_set ho]
        refine Ent.trans (tk_ (As := obF (⟨ob, some ⟨g2, 0, none⟩, oc, oq2, oc2⟩, { x with es := (Bn.doV 0 x.es idn 3).1 }) ++ [pkA obF ((os.zip ys).eraseIdx k)]) (pk_close _ (by rw [List.length_zip]; omega))) ?_
        exact pk_
      · rw [show (e.1.2.2.1 == gr) = false by simp [hg]]
        rw [if_neg hg] at hst
        (refine G tt_ok pk79 ?_; repeat (refine G1 tt_ok pk79 ?_; intro _))
        refine ⟨j + 1, by omega, by omega, ⟨rfl, rfl, rfl, rfl, by rw [hst]; rfl, by rw [← hw]; rfl, trivial⟩, ?_⟩
        rw [hst]
        refine Ent.trans (tk_ (As := [pt ob [.int .i64 0, .slice (some ⟨g2, 0, none⟩) (Bn.lsV x.es).length oc, .slice oq2 (Bn.lsV x.es).length oc2], rowA (some ⟨g2, 0, none⟩) (Bn.lsV x.es).length ((Bn.lsV x.es).flatMap lnC)] ++ [pkA obF ((os.zip ys).eraseIdx k)]) (hclose)) ?_
        exact pk_
    · rw [decide_eq_false (show ¬ (j : Int) < l.length by omega)]
      obtain rfl : j = l.length := by omega
      rw [List.take_length]
      (refine G tt_ok pk79 ?_; repeat (refine G1 tt_ok pk79 ?_; intro _))
      refine CW.exit ?_
      (refine G tt_ok pk79 ?_; repeat (refine G1 tt_ok pk79 ?_; intro _))
      exact CW.ret (fin_ret rfl (A := rD r ⟨s, qk, ck, qa, ca, qo, co, qs, cs, os⟩ { D with xs := (callL idn gr l D.xs).1 }) pk_ ⟨rfl, rfl⟩)
end Go.Proofs.YtjphlcfplcacnaaGreat.Sl
namespace Go.Proofs.YtjphlcfplcacnaaGreat.Sl
open Go Go.RowKit Go.Proofs
set_option linter.unusedVariables false
set_option linter.unusedSimpArgs false
attribute [local irreducible] CW Tri OW
set_option maxRecDepth 10000
@[reducible] def pk43 : List (Nat × Plan) := [(8, [(0, 0, []), (1, 0, []), (2, 0, []), (3, 0, []), (4, 0, []), (5, 0, []), (6, 0, []), (7, 0, []), (8, 0, []), (9, 0, []), (10, 0, []), (11, 0, []), (12, 0, []), (13, 0, []), (14, 1, [1, 5, 9, 13]), (15, 0, [])])]
theorem allN_mem {f : Int} {es : List Bn.En} {q : Int × Bn.En} (h : q ∈ Bn.allV f es) : ∃ (i : Nat) (e : Bn.En), es[i]? = some e ∧ q = (f + i, e) := by
  obtain ⟨i, hi, e⟩ := List.getElem_of_mem h
  rw [Bn.allV_len] at hi
  have h2 := Bn.allV_at (first := f) (List.getElem?_eq_getElem hi)
  refine ⟨i, _, List.getElem?_eq_getElem hi, ?_⟩
  rw [List.getElem?_eq_getElem (by rw [Bn.allV_len]; exact hi), e] at h2
  exact Option.some.inj h2
theorem allR_mem {f : Int} {es : List Br.En} {q : Int × Br.En} (h : q ∈ Br.allV f es) : ∃ (i : Nat) (e : Br.En), es[i]? = some e ∧ q = (f + i, e) := by
  obtain ⟨i, hi, e⟩ := List.getElem_of_mem h
  rw [Br.allV_len] at hi
  have h2 := Br.allV_at (first := f) (List.getElem?_eq_getElem hi)
  refine ⟨i, _, List.getElem?_eq_getElem hi, ?_⟩
  rw [List.getElem?_eq_getElem (by rw [Br.allV_len]; exact hi), e] at h2
  exact Option.some.inj h2
theorem allN_ids (f : Int) (es : List Bn.En) : (Bn.allV f es).map (·.1) = (List.range es.length).map fun (i : Nat) => f + (i : Int) := by
  apply List.ext_getElem?
  intro i
  rw [List.getElem?_map, List.getElem?_map]
  by_cases hi : i < es.length
  · rw [Bn.allV_at (List.getElem?_eq_getElem hi), List.getElem?_range hi]; rfl
  · rw [List.getElem?_eq_none (by rw [Bn.allV_len]; omega), List.getElem?_eq_none (by rw [List.length_range]; omega)]; rfl
theorem allR_ids (f : Int) (es : List Br.En) : (Br.allV f es).map (·.1) = (List.range es.length).map fun (i : Nat) => f + (i : Int) := by
  apply List.ext_getElem?
  intro i
  rw [List.getElem?_map, List.getElem?_map]
  by_cases hi : i < es.length
  · rw [Br.allV_at (List.getElem?_eq_getElem hi), List.getElem?_range hi]; rfl
  · rw [List.getElem?_eq_none (by rw [Br.allV_len]; omega), List.getElem?_eq_none (by rw [List.length_range]; omega)]; rfl
/-- The numbers below m that a processor may have to do with. -/
def sidsV (sh : List Br.En) (xs : List CR) (k : Int) (m : Nat) : List Int := ((List.range m).filter fun (i : Nat) => decide ((i : Int) < 32) || targetV sh xs i == k).map fun (i : Nat) => (i : Int)
theorem sids_step (sh : List Br.En) (xs : List CR) (k : Int) (m : Nat) : sidsV sh xs k (m + 1) = sidsV sh xs k m ++ if (decide ((m : Int) < 32) || targetV sh xs m == k) = true then [(m : Int)] else [] := by
  unfold sidsV
  rw [List.range_succ, List.filter_append, List.map_append]
  congr 1
  simp only [List.filter_cons, List.filter_nil]
  split <;> rfl
theorem sids_len (sh : List Br.En) (xs : List CR) (k : Int) (m : Nat) : (sidsV sh xs k m).length ≤ m := by
  unfold sidsV
  rw [List.length_map]
  exact Nat.le_trans (List.length_filter_le _ _) (by simp)
theorem sids_all (sh : List Br.En) (xs : List CR) (k : Int) {es : List Bn.En} (h : es.length = 32) : sidsV sh xs k (32 + sh.length) = (seenA es ++ seenB sh xs k (Br.allV 32 sh)).map (·.1) := by
  have e1 : (seenA es).map (·.1) = (List.range 32).map fun (i : Nat) => (i : Int) := by
    unfold seenA
    rw [List.map_map, show ((fun p : Int × Ln => p.1) ∘ fun p : Int × Bn.En => (p.1, p.2.1)) = fun p => p.1 from rfl, allN_ids, h]
    apply List.map_congr_left
    intro i _; omega
  have e2 : (seenB sh xs k (Br.allV 32 sh)).map (·.1) = (((List.range sh.length).map fun (i : Nat) => (32 : Int) + (i : Int)).filter fun i => targetV sh xs i == k) := by
    unfold seenB
    rw [List.map_map, ← allR_ids, List.filter_map]
    rfl
  rw [List.map_append, e1, e2]
  unfold sidsV
  have a1 : (List.range 32).filter (fun (i : Nat) => decide ((i : Int) < 32) || targetV sh xs i == k) = List.range 32 := by
    rw [List.filter_eq_self]
    intro i hi
    have := List.mem_range.1 hi
    simp; omega
  have a2 : ((fun i : Nat => decide ((i : Int) < 32) || targetV sh xs i == k) ∘ fun x => 32 + x) = ((fun i => targetV sh xs i == k) ∘ fun (i : Nat) => (32 : Int) + (i : Int)) := by
    funext i
    show (decide (((32 + i : Nat) : Int) < 32) || targetV sh xs ((32 + i : Nat) : Int) == k) = (targetV sh xs (32 + (i : Int)) == k)
    rw [decide_eq_false (by omega), Bool.false_or, show ((32 + i : Nat) : Int) = 32 + (i : Int) by omega]
  rw [List.range_add, List.filter_append, List.map_append, a1, List.filter_map, List.filter_map, List.map_map, a2]
  rfl
theorem seenV_ids {D : DS} {k : Int} (hr : rightV D.xs.length k = true) (hes : ∀ x ∈ D.xs, x.es.length = 32 ∧ Bn.okL x.es) : (D.seenV k).map (·.1) = sidsV D.sh D.xs k (32 + D.sh.length) := by
  obtain ⟨x, hx, hl, hk⟩ := right_at hr
  unfold DS.seenV
  rw [if_pos hr, hx, sids_all D.sh D.xs k (hes x (List.mem_of_getElem? hx)).1]
/-- What is seen is what is got, and may be held. -/
theorem seenV_get {D : DS} {k : Int} (hes : ∀ x ∈ D.xs, x.es.length = 32 ∧ Bn.okL x.es) (hok : Br.okL D.sh) {p : Int × Ln} (h : p ∈ D.seenV k) : D.getV k p.1 = (p.2, 0) ∧ 0 ≤ p.2.2.2.1 ∧ p.2.2.2.1 ≤ 1 := by
  unfold DS.seenV at h
  cases hr : rightV D.xs.length k with
  | false => rw [hr] at h; simp at h
  | true =>
    obtain ⟨x, hx, hl, hk⟩ := right_at hr
    have hx32 := hes x (List.mem_of_getElem? hx)
    rw [if_pos hr, hx] at h
    simp only [List.mem_append] at h
    unfold DS.getV
    rw [if_pos hr, hx]
    rcases h with h | h
    · unfold seenA at h
      obtain ⟨q, hq, rfl⟩ := List.mem_map.1 h
      obtain ⟨i, e, he, rfl⟩ := allN_mem hq
      have hi := (List.getElem?_eq_some_iff.1 he).1
      simp only
      rw [if_pos (by omega), show Bn.getV 0 x.es (0 + (i : Int)) = (e, 0) by unfold Bn.getV; rw [Bn.atE_iff.2 ⟨i, rfl, he⟩]]
      obtain ⟨g1, g2, _⟩ := Bn.okL_at hx32.2 he
      exact ⟨rfl, g1, g2⟩
    · unfold seenB at h
      obtain ⟨q, hq, rfl⟩ := List.mem_map.1 h
      obtain ⟨i, e, he, rfl⟩ := allR_mem (List.mem_filter.1 hq).1
      simp only
      rw [if_neg (by omega), show Br.getV 32 D.sh (32 + (i : Int)) = (e, 0) by unfold Br.getV; rw [Br.atE_iff.2 ⟨i, rfl, he⟩]]
      obtain ⟨g1, g2, _⟩ := Br.okL_at hok he
      exact ⟨rfl, g1, g2⟩
theorem seenV_len {D : DS} {k : Int} (hes : ∀ x ∈ D.xs, x.es.length = 32 ∧ Bn.okL x.es) : (D.seenV k).length ≤ 32 + D.sh.length := by
  cases hr : rightV D.xs.length k with
  | false => unfold DS.seenV; rw [hr]; simp
  | true =>
    have h := congrArg List.length (seenV_ids hr hes)
    rw [List.length_map] at h
    rw [h]
    exact sids_len _ _ _ _
set_option maxHeartbeats 8000000 in
theorem refSeen42 (β : Base) (r : Nat) (R : RS) (D : DS) (ok : OkD R D) (k : Int) : Tri Tryz.prog β 42 [.pointer (some ⟨r, 0, none⟩), .int .i64 k] (rD r R D) (fun v L => ∃ q c, v = .slice q (D.seenV k).length c ∧ L = rowA q (D.seenV k).length (((D.seenV k).map (·.1)).flatMap i1C) :: rD r R D) := by
  have ok' := ok
  obtain ⟨h1, h8, hes, hsh, hok, hos, hrt⟩ := ok'
  refine Tri.intro tt_ok Tryz.func42 rfl rfl Tryz.ntmps42 rfl fun F => ?_
  unfold rD
  (refine G tt_ok [] ?_; repeat (refine G1 tt_ok [] ?_; intro _))
  refine ke rfl rfl (there48 β r _ _ _ rfl rfl rfl R.qk R.qa R.qo R.qs D.sh.length D.sh.length D.xs.length D.xs.length R.ck R.ca R.co R.cs k) ?_
  cases hr : rightV D.xs.length k with
  | false =>
    (refine G tt_ok [] ?_; repeat (refine G1 tt_ok [] ?_; intro _))
    have hn : D.seenV k = [] := by unfold DS.seenV; rw [hr]; rfl
    rw [hn]
    refine CW.ent row_nil ?_
    exact CW.ret (fin_ret rfl (A := rowA none 0 [] :: rD r R D) pk_ ⟨none, 0, rfl, rfl⟩)
  | true =>
    have hids := seenV_ids hr hes
    have hlen : (D.seenV k).length = (sidsV D.sh D.xs k (32 + D.sh.length)).length := by rw [← hids, List.length_map]
    rw [hids, hlen]
    (refine G tt_ok [] ?_; repeat (refine G1 tt_ok [] ?_; intro _))
    refine CW.loop (α := Nat × Option Addr × Nat) (fun x => x.1 ≤ 32 + D.sh.length) (fun x => [(0, .pointer (some ⟨r, 0, none⟩)), (1, .int .i64 k), (5, .slice x.2.1 (sidsV D.sh D.xs k x.1).length x.2.2), (6, .int .i64 x.1)])
      (fun x => own 3 1 (.slice x.2.1 (sidsV D.sh D.xs k x.1).length x.2.2) (sidsV D.sh D.xs k x.1).length ((sidsV D.sh D.xs k x.1).flatMap i1C) :: rD r R D) (fun x => 32 + D.sh.length - x.1) (0, none, 0) (by simp) ⟨rfl, rfl, rfl, rfl, trivial⟩ (Ent.trans (own_nil 3 1) pk_) ?_
    rintro ⟨m, q, c⟩ hm
    simp only at hm ⊢
    have hl := sids_len D.sh D.xs k m
    have hst := sids_step D.sh D.xs k m
    have hw0 : IntKind.i64.wrap (32 + (D.sh.length : Int)) = ((32 + D.sh.length : Nat) : Int) := by rw [wrap_id (by omega) (by omega)]; omega
    rw [show rD r R D = [pt r [.bool D.o0, .bool D.o1, .pointer (some ⟨R.s.b, 0, none⟩), .slice R.qk D.sh.length R.ck, .slice R.qa D.sh.length R.ca, .slice R.qo D.xs.length R.co, .slice R.qs D.xs.length R.cs],
      rowA R.qk D.sh.length (D.sh.flatMap rcC), rowA R.qa D.sh.length (D.sh.flatMap raC), rowA R.qo D.xs.length (R.os.flatMap opC), rowA R.qs D.xs.length (D.xs.flatMap slC), pkA obF (R.os.zip D.xs)] ++ R.s.at_ 32 (Br.lsV D.sh) from rfl]
    (refine G tt_ok [] ?_; repeat (refine G1 tt_ok [] ?_; intro _))
    rw [hw0]
    by_cases hlt : m < 32 + D.sh.length
    · rw [decide_eq_true (show (m : Int) < ((32 + D.sh.length : Nat) : Int) by omega)]
      have hw : IntKind.i64.wrap ((m : Int) + 1) = ((m + 1 : Nat) : Int) := by rw [wrap_i64]; split <;> omega
      (refine G tt_ok [] ?_; repeat (refine G1 tt_ok [] ?_; intro _))
      by_cases h32 : m < 32
      · have hd : decide ((m : Int) < 32) = true := decide_eq_true (by omega)
        rw [hd, Bool.true_or, if_pos rfl] at hst
        rw [hd]
        (refine G tt_ok [] ?_; repeat (refine G1 tt_ok [] ?_; intro _))
        (refine SQ.built tt_ok rfl rfl (fun _ => w_ ?_))
        (refine G tt_ok [] ?_; repeat (refine G1 tt_ok [] ?_; intro _))
        (refine SQ.append tt_ok rfl rfl 1 rfl 0 (q := true) rfl ([.int .i64 (m : Int)]) rfl rfl rfl (scal_eq rfl) (by omega) (by show ((sidsV D.sh D.xs k m).length + 1) * 8 ≤ _; omega) (fun v' => w_ ?_); refine SQ.ent _ (Ent.head (own_shape _ _ _ _ _)) ?_; refine SQ.open_ fun s => ?_; refine SQ.pure_ fun hv => ?_; subst hv)
        (refine G tt_ok [] ?_; repeat (refine G1 tt_ok [] ?_; intro _))
        refine ⟨(m + 1, s.1, s.2), by simp; omega, by simp; omega, ⟨rfl, rfl, by rw [hst, List.length_append]; rfl, by rw [← hw]; rfl, trivial⟩, ?_⟩
        simp only
        rw [hst, List.flatMap_append, List.length_append]
        exact pk_
      · have hd : decide ((m : Int) < 32) = false := decide_eq_false (by omega)
        rw [hd, Bool.false_or] at hst
        rw [hd]
        (refine G tt_ok [] ?_; repeat (refine G1 tt_ok [] ?_; intro _))
        refine ke rfl rfl (refTarget45 β r R D ok (m : Int)) ?_
        refine SQ.ent (own 3 1 (.slice q (sidsV D.sh D.xs k m).length c) (sidsV D.sh D.xs k m).length ((sidsV D.sh D.xs k m).flatMap i1C) :: rD r R D) pk_ ?_
        (refine G tt_ok [] ?_; repeat (refine G1 tt_ok [] ?_; intro _))
        cases hz : (targetV D.sh D.xs m == k) with
        | false =>
          rw [hz] at hst
          simp only [Bool.false_eq_true, if_false, List.append_nil] at hst
          (refine G tt_ok [] ?_; repeat (refine G1 tt_ok [] ?_; intro _))
          refine ⟨(m + 1, q, c), by simp; omega, by simp; omega, ⟨rfl, rfl, by rw [hst]; rfl, by rw [← hw]; rfl, trivial⟩, ?_⟩
          simp only
          rw [hst]
          exact pk_
        | true =>
          rw [hz, if_pos rfl] at hst
          (refine G tt_ok [] ?_; repeat (refine G1 tt_ok [] ?_; intro _))
          (refine SQ.built tt_ok rfl rfl (fun _ => w_ ?_))
          (refine G tt_ok [] ?_; repeat (refine G1 tt_ok [] ?_; intro _))
          (refine SQ.append tt_ok rfl rfl 1 rfl 0 (q := true) rfl ([.int .i64 (m : Int)]) rfl rfl rfl (scal_eq rfl) (by omega) (by show ((sidsV D.sh D.xs k m).length + 1) * 8 ≤ _; omega) (fun v' => w_ ?_); refine SQ.ent _ (Ent.head (own_shape _ _ _ _ _)) ?_; refine SQ.open_ fun s => ?_; refine SQ.pure_ fun hv => ?_; subst hv)
          (refine G tt_ok [] ?_; repeat (refine G1 tt_ok [] ?_; intro _))
          refine ⟨(m + 1, s.1, s.2), by simp; omega, by simp; omega, ⟨rfl, rfl, by rw [hst, List.length_append]; rfl, by rw [← hw]; rfl, trivial⟩, ?_⟩
          simp only
          rw [hst, List.flatMap_append, List.length_append]
          exact pk_
    · rw [decide_eq_false (show ¬ (m : Int) < ((32 + D.sh.length : Nat) : Int) by omega)]
      (refine G tt_ok [] ?_; repeat (refine G1 tt_ok [] ?_; intro _))
      refine CW.exit ?_
      (refine G tt_ok [] ?_; repeat (refine G1 tt_ok [] ?_; intro _))
      obtain rfl : m = 32 + D.sh.length := by omega
      refine CW.ent (Ent.head own_row) ?_
      refine CW.ret (fin_ret rfl (A := rowA q (sidsV D.sh D.xs k (32 + D.sh.length)).length ((sidsV D.sh D.xs k (32 + D.sh.length)).flatMap i1C) :: rD r R D) pk_ ?_)
      exact ⟨q, c, rfl, rfl⟩
theorem pendIs (β : Base) (i : Iq) : Tri Tryz.prog β 116 [.agg #[.bool i.1, .bool i.2.1, .bool i.2.2.1, .bool i.2.2.2]] [] (fun v L => v = .bool (pendI i) ∧ L = []) := pending58 β _ _ _ _
theorem refReady88 (β : Base) (i : Iq) : Tri Tryz.prog β 88 [.agg #[.bool i.1, .bool i.2.1, .bool i.2.2.1, .bool i.2.2.2]] [] (fun v L => v = .bool (readyI i) ∧ L = []) := by
  refine Tri.intro tt_ok Tryz.func88 rfl rfl Tryz.ntmps88 rfl fun F => ?_
  (refine G tt_ok [] ?_; repeat (refine G1 tt_ok [] ?_; intro _))
  refine ke rfl rfl (pendIs β i) ?_
  unfold readyI
  cases hp : pendI i with
  | false =>
    (refine G tt_ok [] ?_; repeat (refine G1 tt_ok [] ?_; intro _))
    exact CW.ret (fin_ret rfl (Ent.dropAll _) ⟨rfl, rfl⟩)
  | true =>
    (refine G tt_ok [] ?_; repeat (refine G1 tt_ok [] ?_; intro _))
    exact CW.ret (fin_ret rfl (Ent.dropAll _) ⟨rfl, rfl⟩)
theorem rd_on7 {o0 o1 : Bool} {u1 u2 u3 u4 u5 : Value} {g : Int} (h0 : 0 ≤ g) (h1 : g ≤ 1) : rdv ti4 [.bool o0, .bool o1, u1, u2, u3, u4, u5] (0 + g.toNat * 1) = some (.bool (if g = 0 then o0 else o1)) := by
  have : g = 0 ∨ g = 1 := by omega
  rcases this with rfl | rfl <;> rfl
theorem filter_step {α : Type} (f : α → Bool) {l : List α} {j : Nat} {a : α} (h : l[j]? = some a) : (l.take (j + 1)).filter f = (l.take j).filter f ++ if f a = true then [a] else [] := by
  rw [List.take_add_one, h, List.filter_append]
  congr 1
  simp only [Option.toList, List.filter_cons, List.filter_nil]
set_option maxHeartbeats 8000000 in
theorem refReady43 (β : Base) (r : Nat) (R : RS) (D : DS) (ok : OkD R D) (k : Int) : Tri Tryz.prog β 43 [.pointer (some ⟨r, 0, none⟩), .int .i64 k] (rD r R D) (fun v L => ∃ q c, v = .slice q (D.readyV k).length c ∧ L = rowA q (D.readyV k).length (((D.readyV k).map (·.1)).flatMap i1C) :: rD r R D) := by
  have ok' := ok
  obtain ⟨h1, h8, hes, hsh, hok, hos, hrt⟩ := ok'
  refine Tri.intro tt_ok Tryz.func43 rfl rfl Tryz.ntmps43 rfl fun F => ?_
  have hu : rD r R D = [pt r [.bool D.o0, .bool D.o1, .pointer (some ⟨R.s.b, 0, none⟩), .slice R.qk D.sh.length R.ck, .slice R.qa D.sh.length R.ca, .slice R.qo D.xs.length R.co, .slice R.qs D.xs.length R.cs],
      rowA R.qk D.sh.length (D.sh.flatMap rcC), rowA R.qa D.sh.length (D.sh.flatMap raC), rowA R.qo D.xs.length (R.os.flatMap opC), rowA R.qs D.xs.length (D.xs.flatMap slC), pkA obF (R.os.zip D.xs)] ++ R.s.at_ 32 (Br.lsV D.sh) := rfl
  rw [hu]
  (refine G tt_ok pk43 ?_; repeat (refine G1 tt_ok pk43 ?_; intro _))
  refine ke rfl rfl (there48 β r _ _ _ rfl rfl rfl R.qk R.qa R.qo R.qs D.sh.length D.sh.length D.xs.length D.xs.length R.ck R.ca R.co R.cs k) ?_
  cases hr : rightV D.xs.length k with
  | false =>
    (refine G tt_ok pk43 ?_; repeat (refine G1 tt_ok pk43 ?_; intro _))
    have hn : D.readyV k = [] := by unfold DS.readyV asleepV; rw [hr]; rfl
    rw [hn]
    refine CW.ent row_nil ?_
    exact CW.ret (fin_ret rfl (A := rowA none 0 [] :: rD r R D) pk_ ⟨none, 0, rfl, by rw [hu]; rfl⟩)
  | true =>
    obtain ⟨x, hx, hl, hk⟩ := right_at hr
    have hsl : asleepV D.xs k = x.sl := by unfold asleepV; rw [if_pos hr, hx]
    obtain ⟨s, qk, ck, qa, ca, qo, co, qs, cs, os⟩ := R
    simp only at hos hu ⊢
    (refine SQ.ent _ (Rm.to (A := rowA qs (D.xs.length) (D.xs.flatMap slC)) (by repeat (first | exact Rm.h | apply Rm.t)) (row_open (by omega))) ?_; refine SQ.open_ fun y => ?_; obtain ⟨g, rest⟩ := y; refine SQ.pure_ fun hv => ?_; simp only at hv; subst hv)
    (refine G tt_ok pk43 ?_; repeat (refine G1 tt_ok pk43 ?_; intro _))
    refine SQ.idx tt_ok rfl rfl k.toNat hk hl (o' := 0 + k.toNat * 1) rfl ?_
    (refine SQ.ldA tt_ok rfl rfl (by repeat (first | exact .h | exact .q | apply At.t)) (rd_slp hx rest) ?_)
    (refine G tt_ok pk43 ?_; repeat (refine G1 tt_ok pk43 ?_; intro _))
    refine CW.ent (L' := rD r ⟨s, qk, ck, qa, ca, qo, co, some ⟨g, 0, none⟩, cs, os⟩ D) (Ent.trans (rm_ (A := pt g (D.xs.flatMap slC ++ rest)) (row_close (n := D.xs.length))) pk_) ?_
    cases hs : x.sl with
    | true =>
      (refine G tt_ok pk43 ?_; repeat (refine G1 tt_ok pk43 ?_; intro _))
      have hn : D.readyV k = [] := by unfold DS.readyV; rw [hsl, hs]; rfl
      rw [hn]
      refine CW.ent row_nil ?_
      exact CW.ret (fin_ret rfl (A := rowA none 0 [] :: rD r ⟨s, qk, ck, qa, ca, qo, co, some ⟨g, 0, none⟩, cs, os⟩ D) pk_ ⟨none, 0, rfl, by rw [hu]; rfl⟩)
    | false =>
      have hn : D.readyV k = (D.seenV k).filter (takeP D.o0 D.o1) := by unfold DS.readyV; rw [hsl, hs]; rfl
      rw [hn]
      (refine G tt_ok pk43 ?_; repeat (refine G1 tt_ok pk43 ?_; intro _))
      (refine ka rfl rfl (refSeen42 β r ⟨s, qk, ck, qa, ca, qo, co, some ⟨g, 0, none⟩, cs, os⟩ D ok k) ?_; rintro _ _ ⟨q2, c2, rfl, rfl⟩; refine w_ ?_)
      have hmem : ∀ p ∈ D.seenV k, D.getV k p.1 = (p.2, 0) ∧ 0 ≤ p.2.2.2.1 ∧ p.2.2.2.1 ≤ 1 := fun p hp => seenV_get hes hok hp
      have hln := seenV_len (k := k) hes
      generalize D.seenV k = l at hmem hln ⊢
      have htk : takeP D.o0 D.o1 = fun p => p.2.2.1 && ((if p.2.2.2.1 = 0 then D.o0 else D.o1) && readyI p.2.1) := rfl
      generalize takeP D.o0 D.o1 = tk at htk ⊢
      (refine G tt_ok pk43 ?_; repeat (refine G1 tt_ok pk43 ?_; intro _))
      refine CW.ent (rm_ (A := rowA q2 l.length ((l.map (·.1)).flatMap i1C)) (row_rd β (sz := 1) (by rw [flatE_len (sz := 1) (fun _ => rfl), List.length_map]))) ?_
      refine CW.open_ fun B => CW.pure_ fun hB => ?_
      refine CW.loop (α := Nat × Option Addr × Nat) (fun x => x.1 ≤ l.length) (fun x => [(0, .pointer (some ⟨r, 0, none⟩)), (1, .int .i64 k), (5, .slice x.2.1 ((l.take x.1).filter tk).length x.2.2), (25, .slice q2 l.length c2), (26, .int .i64 l.length), (27, .int .i64 x.1)])
        (fun x => own 3 1 (.slice x.2.1 ((l.take x.1).filter tk).length x.2.2) ((l.take x.1).filter tk).length ((((l.take x.1).filter tk).map (·.1)).flatMap i1C) :: B :: rD r ⟨s, qk, ck, qa, ca, qo, co, some ⟨g, 0, none⟩, cs, os⟩ D) (fun x => l.length - x.1) (0, none, 0) (by simp) ⟨rfl, rfl, rfl, rfl, rfl, rfl, trivial⟩ (Ent.trans (own_nil 3 1) pk_) ?_
      rintro ⟨j, q, c⟩ hj
      simp only at hj ⊢
      have hfl : ((l.take j).filter tk).length ≤ j := Nat.le_trans (List.length_filter_le _ _) (by rw [List.length_take]; omega)
      (refine G tt_ok pk43 ?_; repeat (refine G1 tt_ok pk43 ?_; intro _))
      by_cases hlt : j < l.length
      · rw [decide_eq_true (show (j : Int) < l.length by omega)]
        have hw : IntKind.i64.wrap ((j : Int) + 1) = ((j + 1 : Nat) : Int) := by rw [wrap_i64]; split <;> omega
        obtain ⟨p, hp⟩ : ∃ p, l[j]? = some p := ⟨_, List.getElem?_eq_getElem hlt⟩
        obtain ⟨hget, hg0, hg1⟩ := hmem p (List.mem_of_getElem? hp)
        have hst := filter_step tk hp
        have hid : (l.map (·.1))[j]? = some p.1 := by rw [List.getElem?_map, hp]; rfl
        obtain ⟨id, iq, en, g1, pr⟩ := p
        rw [show tk (id, iq, en, g1, pr) = (en && ((if g1 = 0 then D.o0 else D.o1) && readyI iq)) by rw [htk]] at hst
        simp only at hget hg0 hg1 hid
        obtain ⟨bs, os', qs', cs', rfl, rfl, hcs⟩ := hB.2.resolve_left (by omega)
        (refine G tt_ok pk43 ?_; repeat (refine G1 tt_ok pk43 ?_; intro _))
        refine SQ.idx tt_ok rfl rfl j rfl hlt (o' := os' + j * 1) rfl ?_
        (refine SQ.ldA tt_ok rfl rfl (by repeat (first | exact .h | exact .q | apply At.t)) (rd_i1 hcs hid) ?_)
        (refine G tt_ok pk43 ?_; repeat (refine G1 tt_ok pk43 ?_; intro _))
        have hgc := refGet44 β r ⟨s, qk, ck, qa, ca, qo, co, some ⟨g, 0, none⟩, cs, os⟩ D ok k id
        rw [hget] at hgc
        refine ke rfl rfl (hgc) ?_
        (refine G tt_ok pk43 ?_; repeat (refine G1 tt_ok pk43 ?_; intro _))
        rw [hu]
        simp only
        cases en with
        | false =>
          simp only [Bool.false_and, Bool.false_eq_true, if_false, List.append_nil] at hst
          (refine G tt_ok pk43 ?_; repeat (refine G1 tt_ok pk43 ?_; intro _))
          refine ⟨(j + 1, q, c), by simp; omega, by simp; omega, ⟨rfl, rfl, by rw [hst]; rfl, rfl, rfl, by rw [← hw]; rfl, trivial⟩, ?_⟩
          simp only
          rw [hst]
          exact pk_
        | true =>
          simp only [Bool.true_and] at hst
          (refine G tt_ok pk43 ?_; repeat (refine G1 tt_ok pk43 ?_; intro _))
          refine SQ.idx tt_ok rfl rfl g1.toNat (by omega) (by omega) (o' := 0 + g1.toNat * 1) rfl ?_
          (refine SQ.ldA tt_ok rfl rfl (by repeat (first | exact .h | exact .q | apply At.t)) (rd_on7 hg0 hg1) ?_)
          (refine G tt_ok pk43 ?_; repeat (refine G1 tt_ok pk43 ?_; intro _))
          have hon := fun u1 u2 u3 u4 u5 => rd_on7 (o0 := D.o0) (o1 := D.o1) (u1 := u1) (u2 := u2) (u3 := u3) (u4 := u4) (u5 := u5) hg0 hg1
          generalize (if g1 = 0 then D.o0 else D.o1) = on at hst hon ⊢
          cases on with
          | false =>
            simp only [Bool.false_and, Bool.false_eq_true, if_false, List.append_nil] at hst
            (refine G tt_ok pk43 ?_; repeat (refine G1 tt_ok pk43 ?_; intro _))
            refine ⟨(j + 1, q, c), by simp; omega, by simp; omega, ⟨rfl, rfl, by rw [hst]; rfl, rfl, rfl, by rw [← hw]; rfl, trivial⟩, ?_⟩
            simp only
            rw [hst]
            exact pk_
          | true =>
            simp only [Bool.true_and] at hst
            (refine G tt_ok pk43 ?_; repeat (refine G1 tt_ok pk43 ?_; intro _))
            (refine SQ.callA rfl rfl (refReady88 β iq) (by repeat (first | exact .n | exact Rm.h | exact Rm.of own_row | exact Rm.of row_close0 | apply Tk.c | apply Rm.t)) ?_; rintro _ _ ⟨rfl, rfl⟩; refine ⟨(by repeat (first | exact trivial | refine ⟨trivial, ?_⟩ | refine ⟨wk (by repeat (first | exact .h | exact .q | apply At.t)) (hon _ _ _ _ _), ?_⟩ | refine ⟨wk (by repeat (first | exact .h | exact .q | apply At.t)) (by rfl), ?_⟩)), ?_⟩)
            generalize readyI iq = rd at hst ⊢
            cases rd with
            | false =>
              simp only [Bool.false_eq_true, if_false, List.append_nil] at hst
              (refine G tt_ok pk43 ?_; repeat (refine G1 tt_ok pk43 ?_; intro _))
              refine ⟨(j + 1, q, c), by simp; omega, by simp; omega, ⟨rfl, rfl, by rw [hst]; rfl, rfl, rfl, by rw [← hw]; rfl, trivial⟩, ?_⟩
              simp only
              rw [hst]
              exact pk_
            | true =>
              simp only [if_true] at hst
              (refine G tt_ok pk43 ?_; repeat (refine G1 tt_ok pk43 ?_; intro _))
              (refine SQ.built tt_ok rfl rfl (fun _ => w_ ?_))
              (refine G tt_ok pk43 ?_; repeat (refine G1 tt_ok pk43 ?_; intro _))
              refine SQ.ent (_ :: own 3 1 (.slice q ((l.take j).filter tk).length c) ((l.take j).filter tk).length ((((l.take j).filter tk).map (·.1)).flatMap i1C) :: pq β qs' bs cs' :: rD r ⟨s, qk, ck, qa, ca, qo, co, some ⟨g, 0, none⟩, cs, os⟩ D) pk_ ?_
              (refine SQ.append tt_ok rfl rfl 1 rfl 0 (q := true) rfl ([.int .i64 id]) rfl rfl rfl (scal_eq rfl) (by omega) (by show (((l.take j).filter tk).length + 1) * 8 ≤ _; omega) (fun v' => w_ ?_); refine SQ.ent _ (Ent.head (own_shape _ _ _ _ _)) ?_; refine SQ.open_ fun s2 => ?_; refine SQ.pure_ fun hv => ?_; subst hv)
              (refine G tt_ok pk43 ?_; repeat (refine G1 tt_ok pk43 ?_; intro _))
              refine ⟨(j + 1, s2.1, s2.2), by simp; omega, by simp; omega, ⟨rfl, rfl, by rw [hst, List.length_append]; rfl, rfl, rfl, by rw [← hw]; rfl, trivial⟩, ?_⟩
              simp only
              rw [hst, List.map_append, List.flatMap_append, List.length_append]
              exact pk_
      · rw [decide_eq_false (show ¬ (j : Int) < l.length by omega)]
        (refine G tt_ok pk43 ?_; repeat (refine G1 tt_ok pk43 ?_; intro _))
        refine CW.exit ?_
        (refine G tt_ok pk43 ?_; repeat (refine G1 tt_ok pk43 ?_; intro _))
        obtain rfl : j = l.length := by omega
        rw [List.take_length]
        refine CW.ent (Ent.head own_row) ?_
        refine CW.ret (fin_ret rfl (A := rowA q (l.filter tk).length (((l.filter tk).map (·.1)).flatMap i1C) :: rD r ⟨s, qk, ck, qa, ca, qo, co, some ⟨g, 0, none⟩, cs, os⟩ D) pk_ ?_)
        exact ⟨q, c, rfl, rfl⟩
end Go.Proofs.YtjphlcfplcacnaaGreat.Sl
namespace Go.Proofs.YtjphlcfplcacnaaGreat.Sl
open Go Go.RowKit Go.Proofs
set_option linter.unusedVariables false
set_option linter.unusedSimpArgs false
attribute [local irreducible] CW Tri OW
set_option maxRecDepth 10000
theorem refBefore87 (β : Base) (p i q j : Int) : Tri Tryz.prog β 87 [.int .i64 p, .int .i64 i, .int .i64 q, .int .i64 j] [] (fun v L => v = .bool (beforeV p i q j) ∧ L = []) := by
  refine Tri.intro tt_ok Tryz.func87 rfl rfl Tryz.ntmps87 rfl fun F => ?_
  (refine G tt_ok [] ?_; repeat (refine G1 tt_ok [] ?_; intro _))
  by_cases h : p = q
  · subst h
    rw [show (p != p) = false by simp]
    (refine G tt_ok [] ?_; repeat (refine G1 tt_ok [] ?_; intro _))
    refine CW.ret (fin_ret rfl (Ent.refl _) ⟨?_, rfl⟩)
    unfold beforeV
    simp [packV]
  · rw [show (p != q) = true by simp [h]]
    (refine G tt_ok [] ?_; repeat (refine G1 tt_ok [] ?_; intro _))
    refine CW.ret (fin_ret rfl (Ent.refl _) ⟨?_, rfl⟩)
    unfold beforeV
    rw [show (p == q) = false by simp [h]]
    simp [packV]
theorem readyV_sub {D : DS} {k : Int} {p : Int × Ln} (h : p ∈ D.readyV k) : p ∈ D.seenV k := by
  unfold DS.readyV at h
  split at h
  · cases h
  · exact (List.mem_filter.1 h).1
theorem readyV_len (D : DS) (k : Int) : (D.readyV k).length ≤ (D.seenV k).length := by
  unfold DS.readyV
  split
  · simp
  · exact List.length_filter_le _ _
set_option maxHeartbeats 8000000 in
theorem refBest41 (β : Base) (r : Nat) (R : RS) (D : DS) (ok : OkD R D) (k : Int) : Tri Tryz.prog β 41 [.pointer (some ⟨r, 0, none⟩), .int .i64 k] (rD r R D) (fun v L => v = .agg #[.int .i64 (bestL (D.readyV k)).1, .int .i64 (bestL (D.readyV k)).2.1, .int .i64 (bestL (D.readyV k)).2.2.1, .bool (bestL (D.readyV k)).2.2.2] ∧ L = rD r R D) := by
  have ok' := ok
  obtain ⟨h1, h8, hes, hsh, hok, hos, hrt⟩ := ok'
  refine Tri.intro tt_ok Tryz.func41 rfl rfl Tryz.ntmps41 rfl fun F => ?_
  (refine G tt_ok [] ?_; repeat (refine G1 tt_ok [] ?_; intro _))
  rename_i b4 b5
  (refine ka rfl rfl (refReady43 β r R D ok k) ?_; rintro _ _ ⟨q2, c2, rfl, rfl⟩; refine w_ ?_)
  have hmem : ∀ p ∈ D.readyV k, D.getV k p.1 = (p.2, 0) ∧ 0 ≤ p.2.2.2.1 ∧ p.2.2.2.1 ≤ 1 := fun p hp => seenV_get hes hok (readyV_sub hp)
  have hln := readyV_len D k
  have hln2 := seenV_len (k := k) hes
  generalize D.readyV k = l at hmem hln ⊢
  (refine G tt_ok [] ?_; repeat (refine G1 tt_ok [] ?_; intro _))
  refine CW.ent (rm_ (A := rowA q2 l.length ((l.map (·.1)).flatMap i1C)) (row_rd β (sz := 1) (by rw [flatE_len (sz := 1) (fun _ => rfl), List.length_map]))) ?_
  refine CW.open_ fun B => CW.pure_ fun hB => ?_
  refine CW.loop (α := Nat) (fun j => j ≤ l.length) (fun j => [(0, .pointer (some ⟨r, 0, none⟩)), (1, .int .i64 k), (4, .pointer (some ⟨b4, 0, none⟩)), (5, .pointer (some ⟨b5, 0, none⟩)), (12, .slice q2 l.length c2), (13, .int .i64 l.length), (14, .int .i64 j)])
    (fun j => pt b5 [.int .i64 (bestL (l.take j)).1, .int .i64 (bestL (l.take j)).2.1, .int .i64 (bestL (l.take j)).2.2.1, .bool (bestL (l.take j)).2.2.2] :: pt b4 [.int .i64 0, .int .i64 0, .int .i64 0, .bool false] :: B :: rD r R D) (fun j => l.length - j) 0 (by omega) ⟨rfl, rfl, rfl, rfl, rfl, rfl, rfl, trivial⟩ pk_ ?_
  intro j hj
  (refine G tt_ok [] ?_; repeat (refine G1 tt_ok [] ?_; intro _))
  by_cases hlt : j < l.length
  · rw [decide_eq_true (show (j : Int) < l.length by omega)]
    have hw : IntKind.i64.wrap ((j : Int) + 1) = ((j + 1 : Nat) : Int) := by rw [wrap_i64]; split <;> omega
    obtain ⟨p, hp⟩ : ∃ p, l[j]? = some p := ⟨_, List.getElem?_eq_getElem hlt⟩
    obtain ⟨hget, hg0, hg1⟩ := hmem p (List.mem_of_getElem? hp)
    have hst : bestL (l.take (j + 1)) = bestS (bestL (l.take j)) p := by unfold bestL; rw [List.take_add_one, hp, List.foldl_append]; rfl
    have hid : (l.map (·.1))[j]? = some p.1 := by rw [List.getElem?_map, hp]; rfl
    generalize bestL (l.take j) = cd at hst ⊢
    obtain ⟨ci, cp, cg, cis⟩ := cd
    obtain ⟨id, iq, en, g1, pr⟩ := p
    unfold bestS at hst
    simp only at hget hg0 hg1 hid hst
    obtain ⟨bs, os', qs', cs', rfl, rfl, hcs⟩ := hB.2.resolve_left (by omega)
    (refine G tt_ok [] ?_; repeat (refine G1 tt_ok [] ?_; intro _))
    refine SQ.idx tt_ok rfl rfl j rfl hlt (o' := os' + j * 1) rfl ?_
    (refine SQ.ldA tt_ok rfl rfl (by repeat (first | exact .h | exact .q | apply At.t)) (rd_i1 hcs hid) ?_)
    (refine G tt_ok [] ?_; repeat (refine G1 tt_ok [] ?_; intro _))
    have hgc := refGet44 β r R D ok k id
    rw [hget] at hgc
    refine ke rfl rfl (hgc) ?_
    (refine G tt_ok [] ?_; repeat (refine G1 tt_ok [] ?_; intro _))
    cases cis with
    | false =>
      simp only [Bool.not_false, Bool.true_or, if_true] at hst
      (refine G tt_ok [] ?_; repeat (refine G1 tt_ok [] ?_; intro _))
      refine ⟨j + 1, by omega, by omega, ⟨rfl, rfl, rfl, rfl, rfl, rfl, by rw [← hw]; rfl, trivial⟩, ?_⟩
      rw [hst]
      exact pk_
    | true =>
      simp only [Bool.not_true, Bool.false_or] at hst
      (refine G tt_ok [] ?_; repeat (refine G1 tt_ok [] ?_; intro _))
      refine ke rfl rfl (refBefore87 β pr id cp ci) ?_
      generalize beforeV pr id cp ci = z at hst ⊢
      cases z with
      | true =>
        simp only [if_true] at hst
        (refine G tt_ok [] ?_; repeat (refine G1 tt_ok [] ?_; intro _))
        refine ⟨j + 1, by omega, by omega, ⟨rfl, rfl, rfl, rfl, rfl, rfl, by rw [← hw]; rfl, trivial⟩, ?_⟩
        rw [hst]
        exact pk_
      | false =>
        simp only [Bool.false_eq_true, if_false] at hst
        (refine G tt_ok [] ?_; repeat (refine G1 tt_ok [] ?_; intro _))
        refine ⟨j + 1, by omega, by omega, ⟨rfl, rfl, rfl, rfl, rfl, rfl, by rw [← hw]; rfl, trivial⟩, ?_⟩
        rw [hst]
        exact pk_
  · rw [decide_eq_false (show ¬ (j : Int) < l.length by omega)]
    (refine G tt_ok [] ?_; repeat (refine G1 tt_ok [] ?_; intro _))
    refine CW.exit ?_
    (refine G tt_ok [] ?_; repeat (refine G1 tt_ok [] ?_; intro _))
    obtain rfl : j = l.length := by omega
    rw [List.take_length]
    refine CW.ret (fin_cells [_] ⟨(by first | exact ⟨_, _, _, _, 0, rfl, rfl, rfl, rfl⟩ | exact ⟨_, _, _, _, 1, rfl, rfl, rfl, rfl⟩ | exact ⟨_, _, _, _, 2, rfl, rfl, rfl, rfl⟩ | exact ⟨_, _, _, _, 3, rfl, rfl, rfl, rfl⟩ | exact ⟨_, _, _, _, 4, rfl, rfl, rfl, rfl⟩ | exact ⟨_, _, _, _, 5, rfl, rfl, rfl, rfl⟩ | exact ⟨_, _, _, _, 6, rfl, rfl, rfl, rfl⟩ | exact ⟨_, _, _, _, 7, rfl, rfl, rfl, rfl⟩ | exact ⟨_, _, _, _, 8, rfl, rfl, rfl, rfl⟩ | exact ⟨_, _, _, _, 9, rfl, rfl, rfl, rfl⟩ | exact ⟨_, _, _, _, 10, rfl, rfl, rfl, rfl⟩ | exact ⟨_, _, _, _, 11, rfl, rfl, rfl, rfl⟩ | exact ⟨_, _, _, _, 12, rfl, rfl, rfl, rfl⟩ | exact ⟨_, _, _, _, 13, rfl, rfl, rfl, rfl⟩ | exact ⟨_, _, _, _, 14, rfl, rfl, rfl, rfl⟩ | exact ⟨_, _, _, _, 15, rfl, rfl, rfl, rfl⟩ | exact ⟨_, _, _, _, 16, rfl, rfl, rfl, rfl⟩ | exact ⟨_, _, _, _, 17, rfl, rfl, rfl, rfl⟩ | exact ⟨_, _, _, _, 18, rfl, rfl, rfl, rfl⟩ | exact ⟨_, _, _, _, 19, rfl, rfl, rfl, rfl⟩ | exact ⟨_, _, _, _, 20, rfl, rfl, rfl, rfl⟩ | exact ⟨_, _, _, _, 21, rfl, rfl, rfl, rfl⟩ | exact ⟨_, _, _, _, 22, rfl, rfl, rfl, rfl⟩ | exact ⟨_, _, _, _, 23, rfl, rfl, rfl, rfl⟩), trivial⟩ (A := rD r R D) pk_ ⟨rfl, rfl⟩)
end Go.Proofs.YtjphlcfplcacnaaGreat.Sl
namespace Go.Proofs.YtjphlcfplcacnaaGreat.Sl
open Go Go.RowKit Go.Proofs
set_option linter.unusedVariables false
set_option linter.unusedSimpArgs false
attribute [local irreducible] CW Tri OW
set_option maxRecDepth 10000
/-- The document's table of a redistributor. -/
def redistRw : List Rw := [(0, 4, 4, 1, 0, 0, 1), (8, 16, 8, 2, 0, 0, 1), (20, 24, 4, 3, 0, 0, 1), (112, 120, 8, 14, 0, 0, 1), (120, 128, 8, 15, 0, 0, 1), (160, 168, 8, 16, 0, 0, 1), (176, 184, 8, 17, 0, 0, 1), (192, 196, 4, 18, 0, 0, 1)] ++ bitsRw 65664 4 128 7 ++ [(66560, 66592, 4, 11, 0, 1, 1), (68608, 68616, 4, 12, 0, 4, 1)]
theorem redistRw_len : redistRw.length = 17 := rfl
theorem scal_redist : scal ((bitsRw 65664 4 128 7).flatMap rwC) = true := by kernel_rfl
set_option maxHeartbeats 4000000 in
theorem redist94 (β : Base) : Tri Tryz.prog β 94 [] [] (fun v L => ∃ q c, v = .slice q 17 c ∧ L = [rowA q 17 (redistRw.flatMap rwC)]) := by
  refine Tri.intro tt_ok Tryz.func94 rfl rfl Tryz.ntmps94 rfl fun F => ?_
  (refine G tt_ok [] ?_; repeat (refine G1 tt_ok [] ?_; intro _))
  refine SQ.builtO tt_ok rfl rfl rfl rfl (fun b => ⟨(by repeat (first | exact trivial | refine ⟨trivial, ?_⟩ | refine ⟨wk (by repeat (first | exact .h | exact .q | apply At.t)) (by rfl), ?_⟩)), ?_⟩)
  (refine G tt_ok [] ?_; repeat (refine G1 tt_ok [] ?_; intro _))
  (refine SQ.call rfl rfl (bits52 β 65664 4 128) [] rfl ?_; rintro _ _ ⟨q, c, rfl, rfl⟩; refine w_ ?_)
  refine SQ.ent _ (Ent.head (Ent.trans own_row (row_open (by omega)))) ?_
  refine SQ.open_ fun x => ?_
  obtain ⟨g, rest⟩ := x
  refine SQ.pure_ fun hv => ?_
  simp only at hv
  subst hv
  (refine G tt_ok [] ?_; repeat (refine G1 tt_ok [] ?_; intro _))
  refine SQ.append tt_ok rfl rfl 1 rfl 0 (q := true) rfl ((bitsRw 65664 4 128 7).flatMap rwC) rfl rfl rfl (scal_eq scal_redist) (by omega) (by decide) (fun v' => ⟨(by repeat (first | exact trivial | refine ⟨trivial, ?_⟩ | refine ⟨wk (by repeat (first | exact .h | exact .q | apply At.t)) (by rfl), ?_⟩)), ?_⟩)
  refine SQ.ent _ (Ent.head (own_shape _ _ _ _ _)) ?_
  refine SQ.open_ fun x => ?_
  refine SQ.pure_ fun hv => ?_
  subst hv
  (refine G tt_ok [] ?_; repeat (refine G1 tt_ok [] ?_; intro _))
  (refine SQ.built tt_ok rfl rfl (fun _ => w_ ?_))
  (refine G tt_ok [] ?_; repeat (refine G1 tt_ok [] ?_; intro _))
  refine SQ.append tt_ok rfl rfl 1 rfl 0 (q := true) rfl ([(66560, 66592, 4, 11, 0, 1, 1), (68608, 68616, 4, 12, 0, 4, 1)].flatMap rwC) rfl rfl rfl (scal_eq rfl) (by omega) (by decide) (fun v' => ⟨(by repeat (first | exact trivial | refine ⟨trivial, ?_⟩ | refine ⟨wk (by repeat (first | exact .h | exact .q | apply At.t)) (by rfl), ?_⟩)), ?_⟩)
  refine SQ.ent _ (Ent.head (own_shape _ _ _ _ _)) ?_
  refine SQ.open_ fun y => ?_
  refine SQ.pure_ fun hv => ?_
  subst hv
  (refine G tt_ok [] ?_; repeat (refine G1 tt_ok [] ?_; intro _))
  refine CW.ret (fin_ret rfl (Ent.trans (Ent.sel (is := [0]) rfl) own_row) ?_)
  refine ⟨y.1, y.2, rfl, ?_⟩
  rfl
def redistV (off w : Int) : (Int × Int × Int) × Int := findV redistRw 131072 off w
theorem redistRw_all : (redistRw.all fun r => decide (0 ≤ r.1) && decide (r.1 ≤ 131072) && decide (0 ≤ r.2.2.2.2.1) && decide (r.2.2.2.2.1 ≤ 32) && (r.2.2.2.2.2.1 == 0 || r.2.2.2.2.2.1 == 1 || r.2.2.2.2.2.1 == 4 || r.2.2.2.2.2.1 == 8) && (r.2.2.2.2.2.2 == 1)) = true := by kernel_rfl
theorem redistRw_per : ∀ r ∈ redistRw, r.2.2.2.2.2.2 ≠ 0 := by
  intro r hr
  have := List.all_eq_true.1 redistRw_all r hr
  simp only [Bool.and_eq_true, beq_iff_eq] at this
  omega
theorem redist_le (off : Int) : (redistV off 4).1.2.2 ≤ 16384 := by
  unfold redistV findV
  split
  · simp
  · split
    · simp
    · split
      · simp
      · split
        · rename_i h1 h2 h3 x r hr
          unfold outV
          split
          · have := List.all_eq_true.1 redistRw_all r (List.mem_of_find?_eq_some hr)
            simp only [Bool.and_eq_true, Bool.or_eq_true, decide_eq_true_eq, beq_iff_eq] at this
            obtain ⟨⟨⟨⟨⟨a1, a2⟩, a3⟩, a4⟩, a5⟩, a6⟩ := this
            simp only [plV]
            rw [a6, Int.tdiv_one]
            rcases a5 with ((g | g) | g) | g <;> rw [g] <;> decide
          · simp
        · simp
set_option maxHeartbeats 4000000 in
theorem refRedist49 (β : Base) (off w : Int) : Tri Tryz.prog β 49 [.int .i64 off, .int .i64 w] [] (fun v L => v = .tuple #[.agg #[.int .i64 (redistV off w).1.1, .int .i64 (redistV off w).1.2.1, .int .i64 (redistV off w).1.2.2], .int .i64 (redistV off w).2] ∧ L = []) := by
  refine Tri.intro tt_ok Tryz.func49 rfl rfl Tryz.ntmps49 rfl fun F => ?_
  (refine G tt_ok [] ?_; repeat (refine G1 tt_ok [] ?_; intro _))
  (refine SQ.call rfl rfl (redist94 β) [] rfl ?_; rintro _ _ ⟨q, c, rfl, rfl⟩; refine w_ ?_)
  (refine G tt_ok [] ?_; repeat (refine G1 tt_ok [] ?_; intro _))
  refine SQ.ent _ (Ent.head (row_rd β (sz := 7) (flatE_len (sz := 7) (fun _ => rfl) redistRw))) ?_
  refine SQ.open_ fun B => SQ.pure_ fun hB => ?_
  refine ke rfl rfl (find31 β hB (by omega) redistRw_per (size := 131072) (by omega) (by omega) off w) ?_
  (refine G tt_ok [] ?_; repeat (refine G1 tt_ok [] ?_; intro _))
  refine CW.ret (fin_cells [_, _] ⟨(by first | exact ⟨_, _, _, _, 0, rfl, rfl, rfl, rfl⟩ | exact ⟨_, _, _, _, 1, rfl, rfl, rfl, rfl⟩ | exact ⟨_, _, _, _, 2, rfl, rfl, rfl, rfl⟩ | exact ⟨_, _, _, _, 3, rfl, rfl, rfl, rfl⟩ | exact ⟨_, _, _, _, 4, rfl, rfl, rfl, rfl⟩ | exact ⟨_, _, _, _, 5, rfl, rfl, rfl, rfl⟩ | exact ⟨_, _, _, _, 6, rfl, rfl, rfl, rfl⟩ | exact ⟨_, _, _, _, 7, rfl, rfl, rfl, rfl⟩ | exact ⟨_, _, _, _, 8, rfl, rfl, rfl, rfl⟩ | exact ⟨_, _, _, _, 9, rfl, rfl, rfl, rfl⟩ | exact ⟨_, _, _, _, 10, rfl, rfl, rfl, rfl⟩ | exact ⟨_, _, _, _, 11, rfl, rfl, rfl, rfl⟩ | exact ⟨_, _, _, _, 12, rfl, rfl, rfl, rfl⟩ | exact ⟨_, _, _, _, 13, rfl, rfl, rfl, rfl⟩ | exact ⟨_, _, _, _, 14, rfl, rfl, rfl, rfl⟩ | exact ⟨_, _, _, _, 15, rfl, rfl, rfl, rfl⟩ | exact ⟨_, _, _, _, 16, rfl, rfl, rfl, rfl⟩ | exact ⟨_, _, _, _, 17, rfl, rfl, rfl, rfl⟩ | exact ⟨_, _, _, _, 18, rfl, rfl, rfl, rfl⟩ | exact ⟨_, _, _, _, 19, rfl, rfl, rfl, rfl⟩ | exact ⟨_, _, _, _, 20, rfl, rfl, rfl, rfl⟩ | exact ⟨_, _, _, _, 21, rfl, rfl, rfl, rfl⟩ | exact ⟨_, _, _, _, 22, rfl, rfl, rfl, rfl⟩ | exact ⟨_, _, _, _, 23, rfl, rfl, rfl, rfl⟩), rfl, trivial⟩ (Ent.dropAll _) ⟨rfl, rfl⟩)
end Go.Proofs.YtjphlcfplcacnaaGreat.Sl
namespace Go.Proofs.YtjphlcfplcacnaaGreat.Sl
open Go Go.RowKit Go.Proofs
set_option linter.unusedVariables false
set_option linter.unusedSimpArgs false
attribute [local irreducible] CW Tri OW
set_option maxRecDepth 10000
/-- What counts of a processor. -/
def plX (x : CR) : List Bn.En × Bool := (x.es, x.sl)
theorem rD_congr {r : Nat} {R : RS} {D D' : DS} (h0 : D.o0 = D'.o0) (h1 : D.o1 = D'.o1) (h2 : D.sh = D'.sh) (h3 : D.xs.map plX = D'.xs.map plX) : rD r R D = rD r R D' := by
  have e0 : D.xs.length = D'.xs.length := by have := congrArg List.length h3; simpa using this
  have e1 : ∀ l : List CR, l.flatMap slC = (l.map plX).flatMap fun t => [.bool t.2] := fun l => by simp [List.flatMap_map, plX]
  have e2 : ∀ l : List CR, (R.os.zip l).flatMap obF = (R.os.zip (l.map plX)).flatMap fun t => t.1.at_ 0 (Bn.lsV t.2.1) := fun l => by rw [List.zip_map_right, List.flatMap_map]; rfl
  unfold rD pkA
  rw [h0, h1, h2, e0, e1 D.xs, e1 D'.xs, e2 D.xs, e2 D'.xs, h3]
def x0 : CR := ⟨0, none, 0, ownK 16, false⟩
theorem newCR_pl {xs : List CR} {n : Nat} (hl : xs.length = n) (h : ∀ x ∈ xs, newCR x) : xs.map plX = (List.replicate n x0).map plX := by
  subst hl
  rw [List.map_replicate]
  induction xs with
  | nil => rfl
  | cons x xs ih =>
    rw [List.map_cons, List.length_cons, List.replicate_succ, ih fun y hy => h y (List.mem_cons_of_mem _ hy)]
    obtain ⟨a, b⟩ := h x (List.mem_cons_self ..)
    unfold plX
    rw [a, b]; rfl
theorem ownK_len : ∀ k, (ownK k).length = 32
  | 0 => by simp [ownK]
  | k + 1 => by unfold ownK; rw [Bn.doV_len]; exact ownK_len k
set_option maxHeartbeats 8000000 in
theorem refNew12 (β : Base) {n s : Nat} (hn0 : 1 ≤ n) (hn1 : n ≤ 8) (hs1 : s ≤ 64) : Tri Tryz.prog β 12 [.int .i64 n, .int .i64 s] [] (fun v L => ∃ r R, v = .tuple #[.pointer (some ⟨r, 0, none⟩), .bool true] ∧ R.os.length = n ∧ ∀ D : DS, D.o0 = false → D.o1 = false → D.sh = List.replicate s (Br.zeroE.1, (0, false)) → D.xs.length = n → (∀ x ∈ D.xs, newCR x) → L = rD r R D) := by
  refine Tri.intro tt_ok Tryz.func12 rfl rfl Tryz.ntmps12 rfl fun F => ?_
  (refine G tt_ok [] ?_; repeat (refine G1 tt_ok [] ?_; intro _))
  rw [decide_eq_false (show ¬ (n : Int) < 1 by omega)]
  (refine G tt_ok [] ?_; repeat (refine G1 tt_ok [] ?_; intro _))
  rw [decide_eq_false (show ¬ (n : Int) > 8 by omega)]
  (refine G tt_ok [] ?_; repeat (refine G1 tt_ok [] ?_; intro _))
  rw [decide_eq_false (show ¬ (s : Int) < 0 by omega)]
  (refine G tt_ok [] ?_; repeat (refine G1 tt_ok [] ?_; intro _))
  rw [decide_eq_false (show ¬ (s : Int) > 64 by omega)]
  (refine G tt_ok [] ?_; repeat (refine G1 tt_ok [] ?_; intro _))
  have hs4 : s * 1 ≤ 16777216 := by omega
  have hn4 : n * 1 ≤ 16777216 := by omega
  have hs8 : 8 * s ≤ 281474976710656 := by omega
  have hs9 : 1 * s ≤ 281474976710656 := by omega
  have hn9 : 1 * n ≤ 281474976710656 := by omega
  have hs63 : s ≤ 9223372036854775807 := by omega
  have hn63 : n ≤ 9223372036854775807 := by omega
  refine CW.regionB tt_ok (by kernel_rfl) (fun x : Nat × Nat × Nat × Nat => [(0, .int .i64 n), (1, .int .i64 s), (6, .pointer (some ⟨x.1, 0, none⟩))])
    (fun x => [pt x.1 [.bool false, .bool false, .pointer none, .slice (some ⟨x.2.1, 0, none⟩) s s, .slice (some ⟨x.2.2.1, 0, none⟩) s s, .slice none 0 0, .slice (some ⟨x.2.2.2, 0, none⟩) n n],
      pt x.2.1 (madeCells ti3.zero.cells (s * ti3.size)).toList, pt x.2.2.1 (madeCells ti4.zero.cells (s * ti4.size)).toList, pt x.2.2.2 (madeCells ti4.zero.cells (n * ti4.size)).toList]) ?_ ?_
  · (refine ⟨by decide +kernel, all_of [0, 2, 4] (by decide +kernel) ⟨⟨_, rfl, rfl, ?_⟩, ⟨_, rfl, rfl, ?_⟩, ⟨_, rfl, rfl, ?_⟩, trivial⟩⟩; (focus refine SQ.pures1 tt_ok rfl ?_; refine SQ.nil ?_; refine ⟨by decide +kernel, all_of [1, 2, 4] (by decide +kernel) ⟨⟨_, rfl, rfl, ?_⟩, ⟨_, rfl, rfl, ?_⟩, ⟨_, rfl, rfl, ?_⟩, trivial⟩⟩; (focus refine SQ.make tt_ok rfl rfl s rfl rfl hs4 hs8 hs63 (fun g1 => ⟨trivial, ?_⟩); refine SQ.nil ?_; refine ⟨by decide +kernel, all_of [2, 4] (by decide +kernel) ⟨⟨_, rfl, rfl, ?_⟩, ⟨_, rfl, rfl, ?_⟩, trivial⟩⟩; (focus refine SQ.pures1 tt_ok rfl ?_; refine SQ.nil ?_; refine ⟨by decide +kernel, all_of [3, 4] (by decide +kernel) ⟨⟨_, rfl, rfl, ?_⟩, ⟨_, rfl, rfl, ?_⟩, trivial⟩⟩; (focus refine SQ.make tt_ok rfl rfl s rfl rfl hs4 hs9 hs63 (fun g2 => ⟨trivial, ?_⟩); refine SQ.nil ?_; refine ⟨by decide +kernel, all_of [4] (by decide +kernel) ⟨⟨_, rfl, rfl, ?_⟩, trivial⟩⟩; (focus refine SQ.pures1 tt_ok rfl ?_; refine SQ.nil ?_; refine ⟨by decide +kernel, all_of [5] (by decide +kernel) ⟨⟨_, rfl, rfl, ?_⟩, trivial⟩⟩; (focus refine SQ.make tt_ok rfl rfl n rfl rfl hn4 hn9 hn63 (fun g3 => ⟨trivial, ?_⟩); refine SQ.nil ?_; refine ⟨by decide +kernel, all_of [6] (by decide +kernel) ⟨⟨_, rfl, rfl, ?_⟩, trivial⟩⟩; (focus refine SQ.pure1 tt_ok rfl ?_; refine SQ.nil ?_; refine ⟨by decide +kernel, all_of [7] (by decide +kernel) ⟨⟨_, rfl, rfl, ?_⟩, trivial⟩⟩; (focus refine SQ.new _ _ rfl rfl (fun d => ?_); refine SQ.nil ?_; refine ⟨by decide +kernel, all_of [8] (by decide +kernel) ⟨⟨_, rfl, rfl, ?_⟩, trivial⟩⟩; (focus refine SQ.pures1 tt_ok rfl ?_; refine SQ.nil ?_; exact ⟨by decide +kernel, ⟨(d, g1, g2, g3), ⟨rfl, rfl, rfl, trivial⟩, (Tk.ent (by repeat (first | exact .n | exact Rm.h | exact Rm.of own_row | exact Rm.of row_close0 | apply Tk.c | apply Rm.t)))⟩⟩)))))); (focus refine SQ.pures1 tt_ok rfl ?_; refine SQ.nil ?_; refine ⟨by decide +kernel, all_of [3, 5] (by decide +kernel) ⟨⟨_, rfl, rfl, ?_⟩, ⟨_, rfl, rfl, ?_⟩, trivial⟩⟩; (focus refine SQ.make tt_ok rfl rfl s rfl rfl hs4 hs9 hs63 (fun g2 => ⟨trivial, ?_⟩); refine SQ.nil ?_; refine ⟨by decide +kernel, all_of [5] (by decide +kernel) ⟨⟨_, rfl, rfl, ?_⟩, trivial⟩⟩; (focus refine SQ.make tt_ok rfl rfl n rfl rfl hn4 hn9 hn63 (fun g3 => ⟨trivial, ?_⟩); refine SQ.nil ?_; refine ⟨by decide +kernel, all_of [6] (by decide +kernel) ⟨⟨_, rfl, rfl, ?_⟩, trivial⟩⟩; (focus refine SQ.pure1 tt_ok rfl ?_; refine SQ.nil ?_; refine ⟨by decide +kernel, all_of [7] (by decide +kernel) ⟨⟨_, rfl, rfl, ?_⟩, trivial⟩⟩; (focus refine SQ.new _ _ rfl rfl (fun d => ?_); refine SQ.nil ?_; refine ⟨by decide +kernel, all_of [8] (by decide +kernel) ⟨⟨_, rfl, rfl, ?_⟩, trivial⟩⟩; (focus refine SQ.pures1 tt_ok rfl ?_; refine SQ.nil ?_; exact ⟨by decide +kernel, ⟨(d, g1, g2, g3), ⟨rfl, rfl, rfl, trivial⟩, (Tk.ent (by repeat (first | exact .n | exact Rm.h | exact Rm.of own_row | exact Rm.of row_close0 | apply Tk.c | apply Rm.t)))⟩⟩))))); (focus refine SQ.make tt_ok rfl rfl n rfl rfl hn4 hn9 hn63 (fun g3 => ⟨trivial, ?_⟩); refine SQ.nil ?_; refine ⟨by decide +kernel, all_of [3] (by decide +kernel) ⟨⟨_, rfl, rfl, ?_⟩, trivial⟩⟩; (focus refine SQ.make tt_ok rfl rfl s rfl rfl hs4 hs9 hs63 (fun g2 => ⟨trivial, ?_⟩); refine SQ.nil ?_; refine ⟨by decide +kernel, all_of [6] (by decide +kernel) ⟨⟨_, rfl, rfl, ?_⟩, trivial⟩⟩; (focus refine SQ.pure1 tt_ok rfl ?_; refine SQ.nil ?_; refine ⟨by decide +kernel, all_of [7] (by decide +kernel) ⟨⟨_, rfl, rfl, ?_⟩, trivial⟩⟩; (focus refine SQ.new _ _ rfl rfl (fun d => ?_); refine SQ.nil ?_; refine ⟨by decide +kernel, all_of [8] (by decide +kernel) ⟨⟨_, rfl, rfl, ?_⟩, trivial⟩⟩; (focus refine SQ.pures1 tt_ok rfl ?_; refine SQ.nil ?_; exact ⟨by decide +kernel, ⟨(d, g1, g2, g3), ⟨rfl, rfl, rfl, trivial⟩, (Tk.ent (by repeat (first | exact .n | exact Rm.h | exact Rm.of own_row | exact Rm.of row_close0 | apply Tk.c | apply Rm.t)))⟩⟩))))))); (focus refine SQ.pures1 tt_ok rfl ?_; refine SQ.nil ?_; refine ⟨by decide +kernel, all_of [2, 5] (by decide +kernel) ⟨⟨_, rfl, rfl, ?_⟩, ⟨_, rfl, rfl, ?_⟩, trivial⟩⟩; (focus refine SQ.pures1 tt_ok rfl ?_; refine SQ.nil ?_; refine ⟨by decide +kernel, all_of [3, 5] (by decide +kernel) ⟨⟨_, rfl, rfl, ?_⟩, ⟨_, rfl, rfl, ?_⟩, trivial⟩⟩; (focus refine SQ.make tt_ok rfl rfl s rfl rfl hs4 hs9 hs63 (fun g2 => ⟨trivial, ?_⟩); refine SQ.nil ?_; refine ⟨by decide +kernel, all_of [5] (by decide +kernel) ⟨⟨_, rfl, rfl, ?_⟩, trivial⟩⟩; (focus refine SQ.make tt_ok rfl rfl n rfl rfl hn4 hn9 hn63 (fun g3 => ⟨trivial, ?_⟩); refine SQ.nil ?_; refine ⟨by decide +kernel, all_of [6] (by decide +kernel) ⟨⟨_, rfl, rfl, ?_⟩, trivial⟩⟩; (focus refine SQ.pure1 tt_ok rfl ?_; refine SQ.nil ?_; refine ⟨by decide +kernel, all_of [7] (by decide +kernel) ⟨⟨_, rfl, rfl, ?_⟩, trivial⟩⟩; (focus refine SQ.new _ _ rfl rfl (fun d => ?_); refine SQ.nil ?_; refine ⟨by decide +kernel, all_of [8] (by decide +kernel) ⟨⟨_, rfl, rfl, ?_⟩, trivial⟩⟩; (focus refine SQ.pures1 tt_ok rfl ?_; refine SQ.nil ?_; exact ⟨by decide +kernel, ⟨(d, g1, g2, g3), ⟨rfl, rfl, rfl, trivial⟩, (Tk.ent (by repeat (first | exact .n | exact Rm.h | exact Rm.of own_row | exact Rm.of row_close0 | apply Tk.c | apply Rm.t)))⟩⟩))))); (focus refine SQ.make tt_ok rfl rfl n rfl rfl hn4 hn9 hn63 (fun g3 => ⟨trivial, ?_⟩); refine SQ.nil ?_; refine ⟨by decide +kernel, all_of [3] (by decide +kernel) ⟨⟨_, rfl, rfl, ?_⟩, trivial⟩⟩; (focus refine SQ.make tt_ok rfl rfl s rfl rfl hs4 hs9 hs63 (fun g2 => ⟨trivial, ?_⟩); refine SQ.nil ?_; refine ⟨by decide +kernel, all_of [6] (by decide +kernel) ⟨⟨_, rfl, rfl, ?_⟩, trivial⟩⟩; (focus refine SQ.pure1 tt_ok rfl ?_; refine SQ.nil ?_; refine ⟨by decide +kernel, all_of [7] (by decide +kernel) ⟨⟨_, rfl, rfl, ?_⟩, trivial⟩⟩; (focus refine SQ.new _ _ rfl rfl (fun d => ?_); refine SQ.nil ?_; refine ⟨by decide +kernel, all_of [8] (by decide +kernel) ⟨⟨_, rfl, rfl, ?_⟩, trivial⟩⟩; (focus refine SQ.pures1 tt_ok rfl ?_; refine SQ.nil ?_; exact ⟨by decide +kernel, ⟨(d, g1, g2, g3), ⟨rfl, rfl, rfl, trivial⟩, (Tk.ent (by repeat (first | exact .n | exact Rm.h | exact Rm.of own_row | exact Rm.of row_close0 | apply Tk.c | apply Rm.t)))⟩⟩)))))); (focus refine SQ.make tt_ok rfl rfl n rfl rfl hn4 hn9 hn63 (fun g3 => ⟨trivial, ?_⟩); refine SQ.nil ?_; refine ⟨by decide +kernel, all_of [2] (by decide +kernel) ⟨⟨_, rfl, rfl, ?_⟩, trivial⟩⟩; (focus refine SQ.pures1 tt_ok rfl ?_; refine SQ.nil ?_; refine ⟨by decide +kernel, all_of [3] (by decide +kernel) ⟨⟨_, rfl, rfl, ?_⟩, trivial⟩⟩; (focus refine SQ.make tt_ok rfl rfl s rfl rfl hs4 hs9 hs63 (fun g2 => ⟨trivial, ?_⟩); refine SQ.nil ?_; refine ⟨by decide +kernel, all_of [6] (by decide +kernel) ⟨⟨_, rfl, rfl, ?_⟩, trivial⟩⟩; (focus refine SQ.pure1 tt_ok rfl ?_; refine SQ.nil ?_; refine ⟨by decide +kernel, all_of [7] (by decide +kernel) ⟨⟨_, rfl, rfl, ?_⟩, trivial⟩⟩; (focus refine SQ.new _ _ rfl rfl (fun d => ?_); refine SQ.nil ?_; refine ⟨by decide +kernel, all_of [8] (by decide +kernel) ⟨⟨_, rfl, rfl, ?_⟩, trivial⟩⟩; (focus refine SQ.pures1 tt_ok rfl ?_; refine SQ.nil ?_; exact ⟨by decide +kernel, ⟨(d, g1, g2, g3), ⟨rfl, rfl, rfl, trivial⟩, (Tk.ent (by repeat (first | exact .n | exact Rm.h | exact Rm.of own_row | exact Rm.of row_close0 | apply Tk.c | apply Rm.t)))⟩⟩)))))))); (focus refine SQ.pures1 tt_ok rfl ?_; refine SQ.nil ?_; refine ⟨by decide +kernel, all_of [1, 3, 4] (by decide +kernel) ⟨⟨_, rfl, rfl, ?_⟩, ⟨_, rfl, rfl, ?_⟩, ⟨_, rfl, rfl, ?_⟩, trivial⟩⟩; (focus refine SQ.make tt_ok rfl rfl s rfl rfl hs4 hs8 hs63 (fun g1 => ⟨trivial, ?_⟩); refine SQ.nil ?_; refine ⟨by decide +kernel, all_of [3, 4] (by decide +kernel) ⟨⟨_, rfl, rfl, ?_⟩, ⟨_, rfl, rfl, ?_⟩, trivial⟩⟩; (focus refine SQ.make tt_ok rfl rfl s rfl rfl hs4 hs9 hs63 (fun g2 => ⟨trivial, ?_⟩); refine SQ.nil ?_; refine ⟨by decide +kernel, all_of [4] (by decide +kernel) ⟨⟨_, rfl, rfl, ?_⟩, trivial⟩⟩; (focus refine SQ.pures1 tt_ok rfl ?_; refine SQ.nil ?_; refine ⟨by decide +kernel, all_of [5] (by decide +kernel) ⟨⟨_, rfl, rfl, ?_⟩, trivial⟩⟩; (focus refine SQ.make tt_ok rfl rfl n rfl rfl hn4 hn9 hn63 (fun g3 => ⟨trivial, ?_⟩); refine SQ.nil ?_; refine ⟨by decide +kernel, all_of [6] (by decide +kernel) ⟨⟨_, rfl, rfl, ?_⟩, trivial⟩⟩; (focus refine SQ.pure1 tt_ok rfl ?_; refine SQ.nil ?_; refine ⟨by decide +kernel, all_of [7] (by decide +kernel) ⟨⟨_, rfl, rfl, ?_⟩, trivial⟩⟩; (focus refine SQ.new _ _ rfl rfl (fun d => ?_); refine SQ.nil ?_; refine ⟨by decide +kernel, all_of [8] (by decide +kernel) ⟨⟨_, rfl, rfl, ?_⟩, trivial⟩⟩; (focus refine SQ.pures1 tt_ok rfl ?_; refine SQ.nil ?_; exact ⟨by decide +kernel, ⟨(d, g1, g2, g3), ⟨rfl, rfl, rfl, trivial⟩, (Tk.ent (by repeat (first | exact .n | exact Rm.h | exact Rm.of own_row | exact Rm.of row_close0 | apply Tk.c | apply Rm.t)))⟩⟩)))))); (focus refine SQ.pures1 tt_ok rfl ?_; refine SQ.nil ?_; refine ⟨by decide +kernel, all_of [3, 5] (by decide +kernel) ⟨⟨_, rfl, rfl, ?_⟩, ⟨_, rfl, rfl, ?_⟩, trivial⟩⟩; (focus refine SQ.make tt_ok rfl rfl s rfl rfl hs4 hs9 hs63 (fun g2 => ⟨trivial, ?_⟩); refine SQ.nil ?_; refine ⟨by decide +kernel, all_of [5] (by decide +kernel) ⟨⟨_, rfl, rfl, ?_⟩, trivial⟩⟩; (focus refine SQ.make tt_ok rfl rfl n rfl rfl hn4 hn9 hn63 (fun g3 => ⟨trivial, ?_⟩); refine SQ.nil ?_; refine ⟨by decide +kernel, all_of [6] (by decide +kernel) ⟨⟨_, rfl, rfl, ?_⟩, trivial⟩⟩; (focus refine SQ.pure1 tt_ok rfl ?_; refine SQ.nil ?_; refine ⟨by decide +kernel, all_of [7] (by decide +kernel) ⟨⟨_, rfl, rfl, ?_⟩, trivial⟩⟩; (focus refine SQ.new _ _ rfl rfl (fun d => ?_); refine SQ.nil ?_; refine ⟨by decide +kernel, all_of [8] (by decide +kernel) ⟨⟨_, rfl, rfl, ?_⟩, trivial⟩⟩; (focus refine SQ.pures1 tt_ok rfl ?_; refine SQ.nil ?_; exact ⟨by decide +kernel, ⟨(d, g1, g2, g3), ⟨rfl, rfl, rfl, trivial⟩, (Tk.ent (by repeat (first | exact .n | exact Rm.h | exact Rm.of own_row | exact Rm.of row_close0 | apply Tk.c | apply Rm.t)))⟩⟩))))); (focus refine SQ.make tt_ok rfl rfl n rfl rfl hn4 hn9 hn63 (fun g3 => ⟨trivial, ?_⟩); refine SQ.nil ?_; refine ⟨by decide +kernel, all_of [3] (by decide +kernel) ⟨⟨_, rfl, rfl, ?_⟩, trivial⟩⟩; (focus refine SQ.make tt_ok rfl rfl s rfl rfl hs4 hs9 hs63 (fun g2 => ⟨trivial, ?_⟩); refine SQ.nil ?_; refine ⟨by decide +kernel, all_of [6] (by decide +kernel) ⟨⟨_, rfl, rfl, ?_⟩, trivial⟩⟩; (focus refine SQ.pure1 tt_ok rfl ?_; refine SQ.nil ?_; refine ⟨by decide +kernel, all_of [7] (by decide +kernel) ⟨⟨_, rfl, rfl, ?_⟩, trivial⟩⟩; (focus refine SQ.new _ _ rfl rfl (fun d => ?_); refine SQ.nil ?_; refine ⟨by decide +kernel, all_of [8] (by decide +kernel) ⟨⟨_, rfl, rfl, ?_⟩, trivial⟩⟩; (focus refine SQ.pures1 tt_ok rfl ?_; refine SQ.nil ?_; exact ⟨by decide +kernel, ⟨(d, g1, g2, g3), ⟨rfl, rfl, rfl, trivial⟩, (Tk.ent (by repeat (first | exact .n | exact Rm.h | exact Rm.of own_row | exact Rm.of row_close0 | apply Tk.c | apply Rm.t)))⟩⟩))))))); (focus refine SQ.make tt_ok rfl rfl s rfl rfl hs4 hs9 hs63 (fun g2 => ⟨trivial, ?_⟩); refine SQ.nil ?_; refine ⟨by decide +kernel, all_of [1, 4] (by decide +kernel) ⟨⟨_, rfl, rfl, ?_⟩, ⟨_, rfl, rfl, ?_⟩, trivial⟩⟩; (focus refine SQ.make tt_ok rfl rfl s rfl rfl hs4 hs8 hs63 (fun g1 => ⟨trivial, ?_⟩); refine SQ.nil ?_; refine ⟨by decide +kernel, all_of [4] (by decide +kernel) ⟨⟨_, rfl, rfl, ?_⟩, trivial⟩⟩; (focus refine SQ.pures1 tt_ok rfl ?_; refine SQ.nil ?_; refine ⟨by decide +kernel, all_of [5] (by decide +kernel) ⟨⟨_, rfl, rfl, ?_⟩, trivial⟩⟩; (focus refine SQ.make tt_ok rfl rfl n rfl rfl hn4 hn9 hn63 (fun g3 => ⟨trivial, ?_⟩); refine SQ.nil ?_; refine ⟨by decide +kernel, all_of [6] (by decide +kernel) ⟨⟨_, rfl, rfl, ?_⟩, trivial⟩⟩; (focus refine SQ.pure1 tt_ok rfl ?_; refine SQ.nil ?_; refine ⟨by decide +kernel, all_of [7] (by decide +kernel) ⟨⟨_, rfl, rfl, ?_⟩, trivial⟩⟩; (focus refine SQ.new _ _ rfl rfl (fun d => ?_); refine SQ.nil ?_; refine ⟨by decide +kernel, all_of [8] (by decide +kernel) ⟨⟨_, rfl, rfl, ?_⟩, trivial⟩⟩; (focus refine SQ.pures1 tt_ok rfl ?_; refine SQ.nil ?_; exact ⟨by decide +kernel, ⟨(d, g1, g2, g3), ⟨rfl, rfl, rfl, trivial⟩, (Tk.ent (by repeat (first | exact .n | exact Rm.h | exact Rm.of own_row | exact Rm.of row_close0 | apply Tk.c | apply Rm.t)))⟩⟩)))))); (focus refine SQ.pures1 tt_ok rfl ?_; refine SQ.nil ?_; refine ⟨by decide +kernel, all_of [1, 5] (by decide +kernel) ⟨⟨_, rfl, rfl, ?_⟩, ⟨_, rfl, rfl, ?_⟩, trivial⟩⟩; (focus refine SQ.make tt_ok rfl rfl s rfl rfl hs4 hs8 hs63 (fun g1 => ⟨trivial, ?_⟩); refine SQ.nil ?_; refine ⟨by decide +kernel, all_of [5] (by decide +kernel) ⟨⟨_, rfl, rfl, ?_⟩, trivial⟩⟩; (focus refine SQ.make tt_ok rfl rfl n rfl rfl hn4 hn9 hn63 (fun g3 => ⟨trivial, ?_⟩); refine SQ.nil ?_; refine ⟨by decide +kernel, all_of [6] (by decide +kernel) ⟨⟨_, rfl, rfl, ?_⟩, trivial⟩⟩; (focus refine SQ.pure1 tt_ok rfl ?_; refine SQ.nil ?_; refine ⟨by decide +kernel, all_of [7] (by decide +kernel) ⟨⟨_, rfl, rfl, ?_⟩, trivial⟩⟩; (focus refine SQ.new _ _ rfl rfl (fun d => ?_); refine SQ.nil ?_; refine ⟨by decide +kernel, all_of [8] (by decide +kernel) ⟨⟨_, rfl, rfl, ?_⟩, trivial⟩⟩; (focus refine SQ.pures1 tt_ok rfl ?_; refine SQ.nil ?_; exact ⟨by decide +kernel, ⟨(d, g1, g2, g3), ⟨rfl, rfl, rfl, trivial⟩, (Tk.ent (by repeat (first | exact .n | exact Rm.h | exact Rm.of own_row | exact Rm.of row_close0 | apply Tk.c | apply Rm.t)))⟩⟩))))); (focus refine SQ.make tt_ok rfl rfl n rfl rfl hn4 hn9 hn63 (fun g3 => ⟨trivial, ?_⟩); refine SQ.nil ?_; refine ⟨by decide +kernel, all_of [1] (by decide +kernel) ⟨⟨_, rfl, rfl, ?_⟩, trivial⟩⟩; (focus refine SQ.make tt_ok rfl rfl s rfl rfl hs4 hs8 hs63 (fun g1 => ⟨trivial, ?_⟩); refine SQ.nil ?_; refine ⟨by decide +kernel, all_of [6] (by decide +kernel) ⟨⟨_, rfl, rfl, ?_⟩, trivial⟩⟩; (focus refine SQ.pure1 tt_ok rfl ?_; refine SQ.nil ?_; refine ⟨by decide +kernel, all_of [7] (by decide +kernel) ⟨⟨_, rfl, rfl, ?_⟩, trivial⟩⟩; (focus refine SQ.new _ _ rfl rfl (fun d => ?_); refine SQ.nil ?_; refine ⟨by decide +kernel, all_of [8] (by decide +kernel) ⟨⟨_, rfl, rfl, ?_⟩, trivial⟩⟩; (focus refine SQ.pures1 tt_ok rfl ?_; refine SQ.nil ?_; exact ⟨by decide +kernel, ⟨(d, g1, g2, g3), ⟨rfl, rfl, rfl, trivial⟩, (Tk.ent (by repeat (first | exact .n | exact Rm.h | exact Rm.of own_row | exact Rm.of row_close0 | apply Tk.c | apply Rm.t)))⟩⟩))))))); (focus refine SQ.pures1 tt_ok rfl ?_; refine SQ.nil ?_; refine ⟨by decide +kernel, all_of [1, 3, 5] (by decide +kernel) ⟨⟨_, rfl, rfl, ?_⟩, ⟨_, rfl, rfl, ?_⟩, ⟨_, rfl, rfl, ?_⟩, trivial⟩⟩; (focus refine SQ.make tt_ok rfl rfl s rfl rfl hs4 hs8 hs63 (fun g1 => ⟨trivial, ?_⟩); refine SQ.nil ?_; refine ⟨by decide +kernel, all_of [3, 5] (by decide +kernel) ⟨⟨_, rfl, rfl, ?_⟩, ⟨_, rfl, rfl, ?_⟩, trivial⟩⟩; (focus refine SQ.make tt_ok rfl rfl s rfl rfl hs4 hs9 hs63 (fun g2 => ⟨trivial, ?_⟩); refine SQ.nil ?_; refine ⟨by decide +kernel, all_of [5] (by decide +kernel) ⟨⟨_, rfl, rfl, ?_⟩, trivial⟩⟩; (focus refine SQ.make tt_ok rfl rfl n rfl rfl hn4 hn9 hn63 (fun g3 => ⟨trivial, ?_⟩); refine SQ.nil ?_; refine ⟨by decide +kernel, all_of [6] (by decide +kernel) ⟨⟨_, rfl, rfl, ?_⟩, trivial⟩⟩; (focus refine SQ.pure1 tt_ok rfl ?_; refine SQ.nil ?_; refine ⟨by decide +kernel, all_of [7] (by decide +kernel) ⟨⟨_, rfl, rfl, ?_⟩, trivial⟩⟩; (focus refine SQ.new _ _ rfl rfl (fun d => ?_); refine SQ.nil ?_; refine ⟨by decide +kernel, all_of [8] (by decide +kernel) ⟨⟨_, rfl, rfl, ?_⟩, trivial⟩⟩; (focus refine SQ.pures1 tt_ok rfl ?_; refine SQ.nil ?_; exact ⟨by decide +kernel, ⟨(d, g1, g2, g3), ⟨rfl, rfl, rfl, trivial⟩, (Tk.ent (by repeat (first | exact .n | exact Rm.h | exact Rm.of own_row | exact Rm.of row_close0 | apply Tk.c | apply Rm.t)))⟩⟩))))); (focus refine SQ.make tt_ok rfl rfl n rfl rfl hn4 hn9 hn63 (fun g3 => ⟨trivial, ?_⟩); refine SQ.nil ?_; refine ⟨by decide +kernel, all_of [3] (by decide +kernel) ⟨⟨_, rfl, rfl, ?_⟩, trivial⟩⟩; (focus refine SQ.make tt_ok rfl rfl s rfl rfl hs4 hs9 hs63 (fun g2 => ⟨trivial, ?_⟩); refine SQ.nil ?_; refine ⟨by decide +kernel, all_of [6] (by decide +kernel) ⟨⟨_, rfl, rfl, ?_⟩, trivial⟩⟩; (focus refine SQ.pure1 tt_ok rfl ?_; refine SQ.nil ?_; refine ⟨by decide +kernel, all_of [7] (by decide +kernel) ⟨⟨_, rfl, rfl, ?_⟩, trivial⟩⟩; (focus refine SQ.new _ _ rfl rfl (fun d => ?_); refine SQ.nil ?_; refine ⟨by decide +kernel, all_of [8] (by decide +kernel) ⟨⟨_, rfl, rfl, ?_⟩, trivial⟩⟩; (focus refine SQ.pures1 tt_ok rfl ?_; refine SQ.nil ?_; exact ⟨by decide +kernel, ⟨(d, g1, g2, g3), ⟨rfl, rfl, rfl, trivial⟩, (Tk.ent (by repeat (first | exact .n | exact Rm.h | exact Rm.of own_row | exact Rm.of row_close0 | apply Tk.c | apply Rm.t)))⟩⟩)))))); (focus refine SQ.make tt_ok rfl rfl s rfl rfl hs4 hs9 hs63 (fun g2 => ⟨trivial, ?_⟩); refine SQ.nil ?_; refine ⟨by decide +kernel, all_of [1, 5] (by decide +kernel) ⟨⟨_, rfl, rfl, ?_⟩, ⟨_, rfl, rfl, ?_⟩, trivial⟩⟩; (focus refine SQ.make tt_ok rfl rfl s rfl rfl hs4 hs8 hs63 (fun g1 => ⟨trivial, ?_⟩); refine SQ.nil ?_; refine ⟨by decide +kernel, all_of [5] (by decide +kernel) ⟨⟨_, rfl, rfl, ?_⟩, trivial⟩⟩; (focus refine SQ.make tt_ok rfl rfl n rfl rfl hn4 hn9 hn63 (fun g3 => ⟨trivial, ?_⟩); refine SQ.nil ?_; refine ⟨by decide +kernel, all_of [6] (by decide +kernel) ⟨⟨_, rfl, rfl, ?_⟩, trivial⟩⟩; (focus refine SQ.pure1 tt_ok rfl ?_; refine SQ.nil ?_; refine ⟨by decide +kernel, all_of [7] (by decide +kernel) ⟨⟨_, rfl, rfl, ?_⟩, trivial⟩⟩; (focus refine SQ.new _ _ rfl rfl (fun d => ?_); refine SQ.nil ?_; refine ⟨by decide +kernel, all_of [8] (by decide +kernel) ⟨⟨_, rfl, rfl, ?_⟩, trivial⟩⟩; (focus refine SQ.pures1 tt_ok rfl ?_; refine SQ.nil ?_; exact ⟨by decide +kernel, ⟨(d, g1, g2, g3), ⟨rfl, rfl, rfl, trivial⟩, (Tk.ent (by repeat (first | exact .n | exact Rm.h | exact Rm.of own_row | exact Rm.of row_close0 | apply Tk.c | apply Rm.t)))⟩⟩))))); (focus refine SQ.make tt_ok rfl rfl n rfl rfl hn4 hn9 hn63 (fun g3 => ⟨trivial, ?_⟩); refine SQ.nil ?_; refine ⟨by decide +kernel, all_of [1] (by decide +kernel) ⟨⟨_, rfl, rfl, ?_⟩, trivial⟩⟩; (focus refine SQ.make tt_ok rfl rfl s rfl rfl hs4 hs8 hs63 (fun g1 => ⟨trivial, ?_⟩); refine SQ.nil ?_; refine ⟨by decide +kernel, all_of [6] (by decide +kernel) ⟨⟨_, rfl, rfl, ?_⟩, trivial⟩⟩; (focus refine SQ.pure1 tt_ok rfl ?_; refine SQ.nil ?_; refine ⟨by decide +kernel, all_of [7] (by decide +kernel) ⟨⟨_, rfl, rfl, ?_⟩, trivial⟩⟩; (focus refine SQ.new _ _ rfl rfl (fun d => ?_); refine SQ.nil ?_; refine ⟨by decide +kernel, all_of [8] (by decide +kernel) ⟨⟨_, rfl, rfl, ?_⟩, trivial⟩⟩; (focus refine SQ.pures1 tt_ok rfl ?_; refine SQ.nil ?_; exact ⟨by decide +kernel, ⟨(d, g1, g2, g3), ⟨rfl, rfl, rfl, trivial⟩, (Tk.ent (by repeat (first | exact .n | exact Rm.h | exact Rm.of own_row | exact Rm.of row_close0 | apply Tk.c | apply Rm.t)))⟩⟩)))))); (focus refine SQ.make tt_ok rfl rfl n rfl rfl hn4 hn9 hn63 (fun g3 => ⟨trivial, ?_⟩); refine SQ.nil ?_; refine ⟨by decide +kernel, all_of [1, 3] (by decide +kernel) ⟨⟨_, rfl, rfl, ?_⟩, ⟨_, rfl, rfl, ?_⟩, trivial⟩⟩; (focus refine SQ.make tt_ok rfl rfl s rfl rfl hs4 hs8 hs63 (fun g1 => ⟨trivial, ?_⟩); refine SQ.nil ?_; refine ⟨by decide +kernel, all_of [3] (by decide +kernel) ⟨⟨_, rfl, rfl, ?_⟩, trivial⟩⟩; (focus refine SQ.make tt_ok rfl rfl s rfl rfl hs4 hs9 hs63 (fun g2 => ⟨trivial, ?_⟩); refine SQ.nil ?_; refine ⟨by decide +kernel, all_of [6] (by decide +kernel) ⟨⟨_, rfl, rfl, ?_⟩, trivial⟩⟩; (focus refine SQ.pure1 tt_ok rfl ?_; refine SQ.nil ?_; refine ⟨by decide +kernel, all_of [7] (by decide +kernel) ⟨⟨_, rfl, rfl, ?_⟩, trivial⟩⟩; (focus refine SQ.new _ _ rfl rfl (fun d => ?_); refine SQ.nil ?_; refine ⟨by decide +kernel, all_of [8] (by decide +kernel) ⟨⟨_, rfl, rfl, ?_⟩, trivial⟩⟩; (focus refine SQ.pures1 tt_ok rfl ?_; refine SQ.nil ?_; exact ⟨by decide +kernel, ⟨(d, g1, g2, g3), ⟨rfl, rfl, rfl, trivial⟩, (Tk.ent (by repeat (first | exact .n | exact Rm.h | exact Rm.of own_row | exact Rm.of row_close0 | apply Tk.c | apply Rm.t)))⟩⟩))))); (focus refine SQ.make tt_ok rfl rfl s rfl rfl hs4 hs9 hs63 (fun g2 => ⟨trivial, ?_⟩); refine SQ.nil ?_; refine ⟨by decide +kernel, all_of [1] (by decide +kernel) ⟨⟨_, rfl, rfl, ?_⟩, trivial⟩⟩; (focus refine SQ.make tt_ok rfl rfl s rfl rfl hs4 hs8 hs63 (fun g1 => ⟨trivial, ?_⟩); refine SQ.nil ?_; refine ⟨by decide +kernel, all_of [6] (by decide +kernel) ⟨⟨_, rfl, rfl, ?_⟩, trivial⟩⟩; (focus refine SQ.pure1 tt_ok rfl ?_; refine SQ.nil ?_; refine ⟨by decide +kernel, all_of [7] (by decide +kernel) ⟨⟨_, rfl, rfl, ?_⟩, trivial⟩⟩; (focus refine SQ.new _ _ rfl rfl (fun d => ?_); refine SQ.nil ?_; refine ⟨by decide +kernel, all_of [8] (by decide +kernel) ⟨⟨_, rfl, rfl, ?_⟩, trivial⟩⟩; (focus refine SQ.pures1 tt_ok rfl ?_; refine SQ.nil ?_; exact ⟨by decide +kernel, ⟨(d, g1, g2, g3), ⟨rfl, rfl, rfl, trivial⟩, (Tk.ent (by repeat (first | exact .n | exact Rm.h | exact Rm.of own_row | exact Rm.of row_close0 | apply Tk.c | apply Rm.t)))⟩⟩)))))))); (focus refine SQ.pures1 tt_ok rfl ?_; refine SQ.nil ?_; refine ⟨by decide +kernel, all_of [1, 2, 5] (by decide +kernel) ⟨⟨_, rfl, rfl, ?_⟩, ⟨_, rfl, rfl, ?_⟩, ⟨_, rfl, rfl, ?_⟩, trivial⟩⟩; (focus refine SQ.make tt_ok rfl rfl s rfl rfl hs4 hs8 hs63 (fun g1 => ⟨trivial, ?_⟩); refine SQ.nil ?_; refine ⟨by decide +kernel, all_of [2, 5] (by decide +kernel) ⟨⟨_, rfl, rfl, ?_⟩, ⟨_, rfl, rfl, ?_⟩, trivial⟩⟩; (focus refine SQ.pures1 tt_ok rfl ?_; refine SQ.nil ?_; refine ⟨by decide +kernel, all_of [3, 5] (by decide +kernel) ⟨⟨_, rfl, rfl, ?_⟩, ⟨_, rfl, rfl, ?_⟩, trivial⟩⟩; (focus refine SQ.make tt_ok rfl rfl s rfl rfl hs4 hs9 hs63 (fun g2 => ⟨trivial, ?_⟩); refine SQ.nil ?_; refine ⟨by decide +kernel, all_of [5] (by decide +kernel) ⟨⟨_, rfl, rfl, ?_⟩, trivial⟩⟩; (focus refine SQ.make tt_ok rfl rfl n rfl rfl hn4 hn9 hn63 (fun g3 => ⟨trivial, ?_⟩); refine SQ.nil ?_; refine ⟨by decide +kernel, all_of [6] (by decide +kernel) ⟨⟨_, rfl, rfl, ?_⟩, trivial⟩⟩; (focus refine SQ.pure1 tt_ok rfl ?_; refine SQ.nil ?_; refine ⟨by decide +kernel, all_of [7] (by decide +kernel) ⟨⟨_, rfl, rfl, ?_⟩, trivial⟩⟩; (focus refine SQ.new _ _ rfl rfl (fun d => ?_); refine SQ.nil ?_; refine ⟨by decide +kernel, all_of [8] (by decide +kernel) ⟨⟨_, rfl, rfl, ?_⟩, trivial⟩⟩; (focus refine SQ.pures1 tt_ok rfl ?_; refine SQ.nil ?_; exact ⟨by decide +kernel, ⟨(d, g1, g2, g3), ⟨rfl, rfl, rfl, trivial⟩, (Tk.ent (by repeat (first | exact .n | exact Rm.h | exact Rm.of own_row | exact Rm.of row_close0 | apply Tk.c | apply Rm.t)))⟩⟩))))); (focus refine SQ.make tt_ok rfl rfl n rfl rfl hn4 hn9 hn63 (fun g3 => ⟨trivial, ?_⟩); refine SQ.nil ?_; refine ⟨by decide +kernel, all_of [3] (by decide +kernel) ⟨⟨_, rfl, rfl, ?_⟩, trivial⟩⟩; (focus refine SQ.make tt_ok rfl rfl s rfl rfl hs4 hs9 hs63 (fun g2 => ⟨trivial, ?_⟩); refine SQ.nil ?_; refine ⟨by decide +kernel, all_of [6] (by decide +kernel) ⟨⟨_, rfl, rfl, ?_⟩, trivial⟩⟩; (focus refine SQ.pure1 tt_ok rfl ?_; refine SQ.nil ?_; refine ⟨by decide +kernel, all_of [7] (by decide +kernel) ⟨⟨_, rfl, rfl, ?_⟩, trivial⟩⟩; (focus refine SQ.new _ _ rfl rfl (fun d => ?_); refine SQ.nil ?_; refine ⟨by decide +kernel, all_of [8] (by decide +kernel) ⟨⟨_, rfl, rfl, ?_⟩, trivial⟩⟩; (focus refine SQ.pures1 tt_ok rfl ?_; refine SQ.nil ?_; exact ⟨by decide +kernel, ⟨(d, g1, g2, g3), ⟨rfl, rfl, rfl, trivial⟩, (Tk.ent (by repeat (first | exact .n | exact Rm.h | exact Rm.of own_row | exact Rm.of row_close0 | apply Tk.c | apply Rm.t)))⟩⟩)))))); (focus refine SQ.make tt_ok rfl rfl n rfl rfl hn4 hn9 hn63 (fun g3 => ⟨trivial, ?_⟩); refine SQ.nil ?_; refine ⟨by decide +kernel, all_of [2] (by decide +kernel) ⟨⟨_, rfl, rfl, ?_⟩, trivial⟩⟩; (focus refine SQ.pures1 tt_ok rfl ?_; refine SQ.nil ?_; refine ⟨by decide +kernel, all_of [3] (by decide +kernel) ⟨⟨_, rfl, rfl, ?_⟩, trivial⟩⟩; (focus refine SQ.make tt_ok rfl rfl s rfl rfl hs4 hs9 hs63 (fun g2 => ⟨trivial, ?_⟩); refine SQ.nil ?_; refine ⟨by decide +kernel, all_of [6] (by decide +kernel) ⟨⟨_, rfl, rfl, ?_⟩, trivial⟩⟩; (focus refine SQ.pure1 tt_ok rfl ?_; refine SQ.nil ?_; refine ⟨by decide +kernel, all_of [7] (by decide +kernel) ⟨⟨_, rfl, rfl, ?_⟩, trivial⟩⟩; (focus refine SQ.new _ _ rfl rfl (fun d => ?_); refine SQ.nil ?_; refine ⟨by decide +kernel, all_of [8] (by decide +kernel) ⟨⟨_, rfl, rfl, ?_⟩, trivial⟩⟩; (focus refine SQ.pures1 tt_ok rfl ?_; refine SQ.nil ?_; exact ⟨by decide +kernel, ⟨(d, g1, g2, g3), ⟨rfl, rfl, rfl, trivial⟩, (Tk.ent (by repeat (first | exact .n | exact Rm.h | exact Rm.of own_row | exact Rm.of row_close0 | apply Tk.c | apply Rm.t)))⟩⟩))))))); (focus refine SQ.pures1 tt_ok rfl ?_; refine SQ.nil ?_; refine ⟨by decide +kernel, all_of [1, 3, 5] (by decide +kernel) ⟨⟨_, rfl, rfl, ?_⟩, ⟨_, rfl, rfl, ?_⟩, ⟨_, rfl, rfl, ?_⟩, trivial⟩⟩; (focus refine SQ.make tt_ok rfl rfl s rfl rfl hs4 hs8 hs63 (fun g1 => ⟨trivial, ?_⟩); refine SQ.nil ?_; refine ⟨by decide +kernel, all_of [3, 5] (by decide +kernel) ⟨⟨_, rfl, rfl, ?_⟩, ⟨_, rfl, rfl, ?_⟩, trivial⟩⟩; (focus refine SQ.make tt_ok rfl rfl s rfl rfl hs4 hs9 hs63 (fun g2 => ⟨trivial, ?_⟩); refine SQ.nil ?_; refine ⟨by decide +kernel, all_of [5] (by decide +kernel) ⟨⟨_, rfl, rfl, ?_⟩, trivial⟩⟩; (focus refine SQ.make tt_ok rfl rfl n rfl rfl hn4 hn9 hn63 (fun g3 => ⟨trivial, ?_⟩); refine SQ.nil ?_; refine ⟨by decide +kernel, all_of [6] (by decide +kernel) ⟨⟨_, rfl, rfl, ?_⟩, trivial⟩⟩; (focus refine SQ.pure1 tt_ok rfl ?_; refine SQ.nil ?_; refine ⟨by decide +kernel, all_of [7] (by decide +kernel) ⟨⟨_, rfl, rfl, ?_⟩, trivial⟩⟩; (focus refine SQ.new _ _ rfl rfl (fun d => ?_); refine SQ.nil ?_; refine ⟨by decide +kernel, all_of [8] (by decide +kernel) ⟨⟨_, rfl, rfl, ?_⟩, trivial⟩⟩; (focus refine SQ.pures1 tt_ok rfl ?_; refine SQ.nil ?_; exact ⟨by decide +kernel, ⟨(d, g1, g2, g3), ⟨rfl, rfl, rfl, trivial⟩, (Tk.ent (by repeat (first | exact .n | exact Rm.h | exact Rm.of own_row | exact Rm.of row_close0 | apply Tk.c | apply Rm.t)))⟩⟩))))); (focus refine SQ.make tt_ok rfl rfl n rfl rfl hn4 hn9 hn63 (fun g3 => ⟨trivial, ?_⟩); refine SQ.nil ?_; refine ⟨by decide +kernel, all_of [3] (by decide +kernel) ⟨⟨_, rfl, rfl, ?_⟩, trivial⟩⟩; (focus refine SQ.make tt_ok rfl rfl s rfl rfl hs4 hs9 hs63 (fun g2 => ⟨trivial, ?_⟩); refine SQ.nil ?_; refine ⟨by decide +kernel, all_of [6] (by decide +kernel) ⟨⟨_, rfl, rfl, ?_⟩, trivial⟩⟩; (focus refine SQ.pure1 tt_ok rfl ?_; refine SQ.nil ?_; refine ⟨by decide +kernel, all_of [7] (by decide +kernel) ⟨⟨_, rfl, rfl, ?_⟩, trivial⟩⟩; (focus refine SQ.new _ _ rfl rfl (fun d => ?_); refine SQ.nil ?_; refine ⟨by decide +kernel, all_of [8] (by decide +kernel) ⟨⟨_, rfl, rfl, ?_⟩, trivial⟩⟩; (focus refine SQ.pures1 tt_ok rfl ?_; refine SQ.nil ?_; exact ⟨by decide +kernel, ⟨(d, g1, g2, g3), ⟨rfl, rfl, rfl, trivial⟩, (Tk.ent (by repeat (first | exact .n | exact Rm.h | exact Rm.of own_row | exact Rm.of row_close0 | apply Tk.c | apply Rm.t)))⟩⟩)))))); (focus refine SQ.make tt_ok rfl rfl s rfl rfl hs4 hs9 hs63 (fun g2 => ⟨trivial, ?_⟩); refine SQ.nil ?_; refine ⟨by decide +kernel, all_of [1, 5] (by decide +kernel) ⟨⟨_, rfl, rfl, ?_⟩, ⟨_, rfl, rfl, ?_⟩, trivial⟩⟩; (focus refine SQ.make tt_ok rfl rfl s rfl rfl hs4 hs8 hs63 (fun g1 => ⟨trivial, ?_⟩); refine SQ.nil ?_; refine ⟨by decide +kernel, all_of [5] (by decide +kernel) ⟨⟨_, rfl, rfl, ?_⟩, trivial⟩⟩; (focus refine SQ.make tt_ok rfl rfl n rfl rfl hn4 hn9 hn63 (fun g3 => ⟨trivial, ?_⟩); refine SQ.nil ?_; refine ⟨by decide +kernel, all_of [6] (by decide +kernel) ⟨⟨_, rfl, rfl, ?_⟩, trivial⟩⟩; (focus refine SQ.pure1 tt_ok rfl ?_; refine SQ.nil ?_; refine ⟨by decide +kernel, all_of [7] (by decide +kernel) ⟨⟨_, rfl, rfl, ?_⟩, trivial⟩⟩; (focus refine SQ.new _ _ rfl rfl (fun d => ?_); refine SQ.nil ?_; refine ⟨by decide +kernel, all_of [8] (by decide +kernel) ⟨⟨_, rfl, rfl, ?_⟩, trivial⟩⟩; (focus refine SQ.pures1 tt_ok rfl ?_; refine SQ.nil ?_; exact ⟨by decide +kernel, ⟨(d, g1, g2, g3), ⟨rfl, rfl, rfl, trivial⟩, (Tk.ent (by repeat (first | exact .n | exact Rm.h | exact Rm.of own_row | exact Rm.of row_close0 | apply Tk.c | apply Rm.t)))⟩⟩))))); (focus refine SQ.make tt_ok rfl rfl n rfl rfl hn4 hn9 hn63 (fun g3 => ⟨trivial, ?_⟩); refine SQ.nil ?_; refine ⟨by decide +kernel, all_of [1] (by decide +kernel) ⟨⟨_, rfl, rfl, ?_⟩, trivial⟩⟩; (focus refine SQ.make tt_ok rfl rfl s rfl rfl hs4 hs8 hs63 (fun g1 => ⟨trivial, ?_⟩); refine SQ.nil ?_; refine ⟨by decide +kernel, all_of [6] (by decide +kernel) ⟨⟨_, rfl, rfl, ?_⟩, trivial⟩⟩; (focus refine SQ.pure1 tt_ok rfl ?_; refine SQ.nil ?_; refine ⟨by decide +kernel, all_of [7] (by decide +kernel) ⟨⟨_, rfl, rfl, ?_⟩, trivial⟩⟩; (focus refine SQ.new _ _ rfl rfl (fun d => ?_); refine SQ.nil ?_; refine ⟨by decide +kernel, all_of [8] (by decide +kernel) ⟨⟨_, rfl, rfl, ?_⟩, trivial⟩⟩; (focus refine SQ.pures1 tt_ok rfl ?_; refine SQ.nil ?_; exact ⟨by decide +kernel, ⟨(d, g1, g2, g3), ⟨rfl, rfl, rfl, trivial⟩, (Tk.ent (by repeat (first | exact .n | exact Rm.h | exact Rm.of own_row | exact Rm.of row_close0 | apply Tk.c | apply Rm.t)))⟩⟩)))))); (focus refine SQ.make tt_ok rfl rfl n rfl rfl hn4 hn9 hn63 (fun g3 => ⟨trivial, ?_⟩); refine SQ.nil ?_; refine ⟨by decide +kernel, all_of [1, 3] (by decide +kernel) ⟨⟨_, rfl, rfl, ?_⟩, ⟨_, rfl, rfl, ?_⟩, trivial⟩⟩; (focus refine SQ.make tt_ok rfl rfl s rfl rfl hs4 hs8 hs63 (fun g1 => ⟨trivial, ?_⟩); refine SQ.nil ?_; refine ⟨by decide +kernel, all_of [3] (by decide +kernel) ⟨⟨_, rfl, rfl, ?_⟩, trivial⟩⟩; (focus refine SQ.make tt_ok rfl rfl s rfl rfl hs4 hs9 hs63 (fun g2 => ⟨trivial, ?_⟩); refine SQ.nil ?_; refine ⟨by decide +kernel, all_of [6] (by decide +kernel) ⟨⟨_, rfl, rfl, ?_⟩, trivial⟩⟩; (focus refine SQ.pure1 tt_ok rfl ?_; refine SQ.nil ?_; refine ⟨by decide +kernel, all_of [7] (by decide +kernel) ⟨⟨_, rfl, rfl, ?_⟩, trivial⟩⟩; (focus refine SQ.new _ _ rfl rfl (fun d => ?_); refine SQ.nil ?_; refine ⟨by decide +kernel, all_of [8] (by decide +kernel) ⟨⟨_, rfl, rfl, ?_⟩, trivial⟩⟩; (focus refine SQ.pures1 tt_ok rfl ?_; refine SQ.nil ?_; exact ⟨by decide +kernel, ⟨(d, g1, g2, g3), ⟨rfl, rfl, rfl, trivial⟩, (Tk.ent (by repeat (first | exact .n | exact Rm.h | exact Rm.of own_row | exact Rm.of row_close0 | apply Tk.c | apply Rm.t)))⟩⟩))))); (focus refine SQ.make tt_ok rfl rfl s rfl rfl hs4 hs9 hs63 (fun g2 => ⟨trivial, ?_⟩); refine SQ.nil ?_; refine ⟨by decide +kernel, all_of [1] (by decide +kernel) ⟨⟨_, rfl, rfl, ?_⟩, trivial⟩⟩; (focus refine SQ.make tt_ok rfl rfl s rfl rfl hs4 hs8 hs63 (fun g1 => ⟨trivial, ?_⟩); refine SQ.nil ?_; refine ⟨by decide +kernel, all_of [6] (by decide +kernel) ⟨⟨_, rfl, rfl, ?_⟩, trivial⟩⟩; (focus refine SQ.pure1 tt_ok rfl ?_; refine SQ.nil ?_; refine ⟨by decide +kernel, all_of [7] (by decide +kernel) ⟨⟨_, rfl, rfl, ?_⟩, trivial⟩⟩; (focus refine SQ.new _ _ rfl rfl (fun d => ?_); refine SQ.nil ?_; refine ⟨by decide +kernel, all_of [8] (by decide +kernel) ⟨⟨_, rfl, rfl, ?_⟩, trivial⟩⟩; (focus refine SQ.pures1 tt_ok rfl ?_; refine SQ.nil ?_; exact ⟨by decide +kernel, ⟨(d, g1, g2, g3), ⟨rfl, rfl, rfl, trivial⟩, (Tk.ent (by repeat (first | exact .n | exact Rm.h | exact Rm.of own_row | exact Rm.of row_close0 | apply Tk.c | apply Rm.t)))⟩⟩))))))); (focus refine SQ.make tt_ok rfl rfl n rfl rfl hn4 hn9 hn63 (fun g3 => ⟨trivial, ?_⟩); refine SQ.nil ?_; refine ⟨by decide +kernel, all_of [1, 2] (by decide +kernel) ⟨⟨_, rfl, rfl, ?_⟩, ⟨_, rfl, rfl, ?_⟩, trivial⟩⟩; (focus refine SQ.make tt_ok rfl rfl s rfl rfl hs4 hs8 hs63 (fun g1 => ⟨trivial, ?_⟩); refine SQ.nil ?_; refine ⟨by decide +kernel, all_of [2] (by decide +kernel) ⟨⟨_, rfl, rfl, ?_⟩, trivial⟩⟩; (focus refine SQ.pures1 tt_ok rfl ?_; refine SQ.nil ?_; refine ⟨by decide +kernel, all_of [3] (by decide +kernel) ⟨⟨_, rfl, rfl, ?_⟩, trivial⟩⟩; (focus refine SQ.make tt_ok rfl rfl s rfl rfl hs4 hs9 hs63 (fun g2 => ⟨trivial, ?_⟩); refine SQ.nil ?_; refine ⟨by decide +kernel, all_of [6] (by decide +kernel) ⟨⟨_, rfl, rfl, ?_⟩, trivial⟩⟩; (focus refine SQ.pure1 tt_ok rfl ?_; refine SQ.nil ?_; refine ⟨by decide +kernel, all_of [7] (by decide +kernel) ⟨⟨_, rfl, rfl, ?_⟩, trivial⟩⟩; (focus refine SQ.new _ _ rfl rfl (fun d => ?_); refine SQ.nil ?_; refine ⟨by decide +kernel, all_of [8] (by decide +kernel) ⟨⟨_, rfl, rfl, ?_⟩, trivial⟩⟩; (focus refine SQ.pures1 tt_ok rfl ?_; refine SQ.nil ?_; exact ⟨by decide +kernel, ⟨(d, g1, g2, g3), ⟨rfl, rfl, rfl, trivial⟩, (Tk.ent (by repeat (first | exact .n | exact Rm.h | exact Rm.of own_row | exact Rm.of row_close0 | apply Tk.c | apply Rm.t)))⟩⟩)))))); (focus refine SQ.pures1 tt_ok rfl ?_; refine SQ.nil ?_; refine ⟨by decide +kernel, all_of [1, 3] (by decide +kernel) ⟨⟨_, rfl, rfl, ?_⟩, ⟨_, rfl, rfl, ?_⟩, trivial⟩⟩; (focus refine SQ.make tt_ok rfl rfl s rfl rfl hs4 hs8 hs63 (fun g1 => ⟨trivial, ?_⟩); refine SQ.nil ?_; refine ⟨by decide +kernel, all_of [3] (by decide +kernel) ⟨⟨_, rfl, rfl, ?_⟩, trivial⟩⟩; (focus refine SQ.make tt_ok rfl rfl s rfl rfl hs4 hs9 hs63 (fun g2 => ⟨trivial, ?_⟩); refine SQ.nil ?_; refine ⟨by decide +kernel, all_of [6] (by decide +kernel) ⟨⟨_, rfl, rfl, ?_⟩, trivial⟩⟩; (focus refine SQ.pure1 tt_ok rfl ?_; refine SQ.nil ?_; refine ⟨by decide +kernel, all_of [7] (by decide +kernel) ⟨⟨_, rfl, rfl, ?_⟩, trivial⟩⟩; (focus refine SQ.new _ _ rfl rfl (fun d => ?_); refine SQ.nil ?_; refine ⟨by decide +kernel, all_of [8] (by decide +kernel) ⟨⟨_, rfl, rfl, ?_⟩, trivial⟩⟩; (focus refine SQ.pures1 tt_ok rfl ?_; refine SQ.nil ?_; exact ⟨by decide +kernel, ⟨(d, g1, g2, g3), ⟨rfl, rfl, rfl, trivial⟩, (Tk.ent (by repeat (first | exact .n | exact Rm.h | exact Rm.of own_row | exact Rm.of row_close0 | apply Tk.c | apply Rm.t)))⟩⟩))))); (focus refine SQ.make tt_ok rfl rfl s rfl rfl hs4 hs9 hs63 (fun g2 => ⟨trivial, ?_⟩); refine SQ.nil ?_; refine ⟨by decide +kernel, all_of [1] (by decide +kernel) ⟨⟨_, rfl, rfl, ?_⟩, trivial⟩⟩; (focus refine SQ.make tt_ok rfl rfl s rfl rfl hs4 hs8 hs63 (fun g1 => ⟨trivial, ?_⟩); refine SQ.nil ?_; refine ⟨by decide +kernel, all_of [6] (by decide +kernel) ⟨⟨_, rfl, rfl, ?_⟩, trivial⟩⟩; (focus refine SQ.pure1 tt_ok rfl ?_; refine SQ.nil ?_; refine ⟨by decide +kernel, all_of [7] (by decide +kernel) ⟨⟨_, rfl, rfl, ?_⟩, trivial⟩⟩; (focus refine SQ.new _ _ rfl rfl (fun d => ?_); refine SQ.nil ?_; refine ⟨by decide +kernel, all_of [8] (by decide +kernel) ⟨⟨_, rfl, rfl, ?_⟩, trivial⟩⟩; (focus refine SQ.pures1 tt_ok rfl ?_; refine SQ.nil ?_; exact ⟨by decide +kernel, ⟨(d, g1, g2, g3), ⟨rfl, rfl, rfl, trivial⟩, (Tk.ent (by repeat (first | exact .n | exact Rm.h | exact Rm.of own_row | exact Rm.of row_close0 | apply Tk.c | apply Rm.t)))⟩⟩))))))))); (focus refine SQ.pures1 tt_ok rfl ?_; refine SQ.nil ?_; refine ⟨by decide +kernel, all_of [0, 3, 4] (by decide +kernel) ⟨⟨_, rfl, rfl, ?_⟩, ⟨_, rfl, rfl, ?_⟩, ⟨_, rfl, rfl, ?_⟩, trivial⟩⟩; (focus refine SQ.pures1 tt_ok rfl ?_; refine SQ.nil ?_; refine ⟨by decide +kernel, all_of [1, 3, 4] (by decide +kernel) ⟨⟨_, rfl, rfl, ?_⟩, ⟨_, rfl, rfl, ?_⟩, ⟨_, rfl, rfl, ?_⟩, trivial⟩⟩; (focus refine SQ.make tt_ok rfl rfl s rfl rfl hs4 hs8 hs63 (fun g1 => ⟨trivial, ?_⟩); refine SQ.nil ?_; refine ⟨by decide +kernel, all_of [3, 4] (by decide +kernel) ⟨⟨_, rfl, rfl, ?_⟩, ⟨_, rfl, rfl, ?_⟩, trivial⟩⟩; (focus refine SQ.make tt_ok rfl rfl s rfl rfl hs4 hs9 hs63 (fun g2 => ⟨trivial, ?_⟩); refine SQ.nil ?_; refine ⟨by decide +kernel, all_of [4] (by decide +kernel) ⟨⟨_, rfl, rfl, ?_⟩, trivial⟩⟩; (focus refine SQ.pures1 tt_ok rfl ?_; refine SQ.nil ?_; refine ⟨by decide +kernel, all_of [5] (by decide +kernel) ⟨⟨_, rfl, rfl, ?_⟩, trivial⟩⟩; (focus refine SQ.make tt_ok rfl rfl n rfl rfl hn4 hn9 hn63 (fun g3 => ⟨trivial, ?_⟩); refine SQ.nil ?_; refine ⟨by decide +kernel, all_of [6] (by decide +kernel) ⟨⟨_, rfl, rfl, ?_⟩, trivial⟩⟩; (focus refine SQ.pure1 tt_ok rfl ?_; refine SQ.nil ?_; refine ⟨by decide +kernel, all_of [7] (by decide +kernel) ⟨⟨_, rfl, rfl, ?_⟩, trivial⟩⟩; (focus refine SQ.new _ _ rfl rfl (fun d => ?_); refine SQ.nil ?_; refine ⟨by decide +kernel, all_of [8] (by decide +kernel) ⟨⟨_, rfl, rfl, ?_⟩, trivial⟩⟩; (focus refine SQ.pures1 tt_ok rfl ?_; refine SQ.nil ?_; exact ⟨by decide +kernel, ⟨(d, g1, g2, g3), ⟨rfl, rfl, rfl, trivial⟩, (Tk.ent (by repeat (first | exact .n | exact Rm.h | exact Rm.of own_row | exact Rm.of row_close0 | apply Tk.c | apply Rm.t)))⟩⟩)))))); (focus refine SQ.pures1 tt_ok rfl ?_; refine SQ.nil ?_; refine ⟨by decide +kernel, all_of [3, 5] (by decide +kernel) ⟨⟨_, rfl, rfl, ?_⟩, ⟨_, rfl, rfl, ?_⟩, trivial⟩⟩; (focus refine SQ.make tt_ok rfl rfl s rfl rfl hs4 hs9 hs63 (fun g2 => ⟨trivial, ?_⟩); refine SQ.nil ?_; refine ⟨by decide +kernel, all_of [5] (by decide +kernel) ⟨⟨_, rfl, rfl, ?_⟩, trivial⟩⟩; (focus refine SQ.make tt_ok rfl rfl n rfl rfl hn4 hn9 hn63 (fun g3 => ⟨trivial, ?_⟩); refine SQ.nil ?_; refine ⟨by decide +kernel, all_of [6] (by decide +kernel) ⟨⟨_, rfl, rfl, ?_⟩, trivial⟩⟩; (focus refine SQ.pure1 tt_ok rfl ?_; refine SQ.nil ?_; refine ⟨by decide +kernel, all_of [7] (by decide +kernel) ⟨⟨_, rfl, rfl, ?_⟩, trivial⟩⟩; (focus refine SQ.new _ _ rfl rfl (fun d => ?_); refine SQ.nil ?_; refine ⟨by decide +kernel, all_of [8] (by decide +kernel) ⟨⟨_, rfl, rfl, ?_⟩, trivial⟩⟩; (focus refine SQ.pures1 tt_ok rfl ?_; refine SQ.nil ?_; exact ⟨by decide +kernel, ⟨(d, g1, g2, g3), ⟨rfl, rfl, rfl, trivial⟩, (Tk.ent (by repeat (first | exact .n | exact Rm.h | exact Rm.of own_row | exact Rm.of row_close0 | apply Tk.c | apply Rm.t)))⟩⟩))))); (focus refine SQ.make tt_ok rfl rfl n rfl rfl hn4 hn9 hn63 (fun g3 => ⟨trivial, ?_⟩); refine SQ.nil ?_; refine ⟨by decide +kernel, all_of [3] (by decide +kernel) ⟨⟨_, rfl, rfl, ?_⟩, trivial⟩⟩; (focus refine SQ.make tt_ok rfl rfl s rfl rfl hs4 hs9 hs63 (fun g2 => ⟨trivial, ?_⟩); refine SQ.nil ?_; refine ⟨by decide +kernel, all_of [6] (by decide +kernel) ⟨⟨_, rfl, rfl, ?_⟩, trivial⟩⟩; (focus refine SQ.pure1 tt_ok rfl ?_; refine SQ.nil ?_; refine ⟨by decide +kernel, all_of [7] (by decide +kernel) ⟨⟨_, rfl, rfl, ?_⟩, trivial⟩⟩; (focus refine SQ.new _ _ rfl rfl (fun d => ?_); refine SQ.nil ?_; refine ⟨by decide +kernel, all_of [8] (by decide +kernel) ⟨⟨_, rfl, rfl, ?_⟩, trivial⟩⟩; (focus refine SQ.pures1 tt_ok rfl ?_; refine SQ.nil ?_; exact ⟨by decide +kernel, ⟨(d, g1, g2, g3), ⟨rfl, rfl, rfl, trivial⟩, (Tk.ent (by repeat (first | exact .n | exact Rm.h | exact Rm.of own_row | exact Rm.of row_close0 | apply Tk.c | apply Rm.t)))⟩⟩))))))); (focus refine SQ.make tt_ok rfl rfl s rfl rfl hs4 hs9 hs63 (fun g2 => ⟨trivial, ?_⟩); refine SQ.nil ?_; refine ⟨by decide +kernel, all_of [1, 4] (by decide +kernel) ⟨⟨_, rfl, rfl, ?_⟩, ⟨_, rfl, rfl, ?_⟩, trivial⟩⟩; (focus refine SQ.make tt_ok rfl rfl s rfl rfl hs4 hs8 hs63 (fun g1 => ⟨trivial, ?_⟩); refine SQ.nil ?_; refine ⟨by decide +kernel, all_of [4] (by decide +kernel) ⟨⟨_, rfl, rfl, ?_⟩, trivial⟩⟩; (focus refine SQ.pures1 tt_ok rfl ?_; refine SQ.nil ?_; refine ⟨by decide +kernel, all_of [5] (by decide +kernel) ⟨⟨_, rfl, rfl, ?_⟩, trivial⟩⟩; (focus refine SQ.make tt_ok rfl rfl n rfl rfl hn4 hn9 hn63 (fun g3 => ⟨trivial, ?_⟩); refine SQ.nil ?_; refine ⟨by decide +kernel, all_of [6] (by decide +kernel) ⟨⟨_, rfl, rfl, ?_⟩, trivial⟩⟩; (focus refine SQ.pure1 tt_ok rfl ?_; refine SQ.nil ?_; refine ⟨by decide +kernel, all_of [7] (by decide +kernel) ⟨⟨_, rfl, rfl, ?_⟩, trivial⟩⟩; (focus refine SQ.new _ _ rfl rfl (fun d => ?_); refine SQ.nil ?_; refine ⟨by decide +kernel, all_of [8] (by decide +kernel) ⟨⟨_, rfl, rfl, ?_⟩, trivial⟩⟩; (focus refine SQ.pures1 tt_ok rfl ?_; refine SQ.nil ?_; exact ⟨by decide +kernel, ⟨(d, g1, g2, g3), ⟨rfl, rfl, rfl, trivial⟩, (Tk.ent (by repeat (first | exact .n | exact Rm.h | exact Rm.of own_row | exact Rm.of row_close0 | apply Tk.c | apply Rm.t)))⟩⟩)))))); (focus refine SQ.pures1 tt_ok rfl ?_; refine SQ.nil ?_; refine ⟨by decide +kernel, all_of [1, 5] (by decide +kernel) ⟨⟨_, rfl, rfl, ?_⟩, ⟨_, rfl, rfl, ?_⟩, trivial⟩⟩; (focus refine SQ.make tt_ok rfl rfl s rfl rfl hs4 hs8 hs63 (fun g1 => ⟨trivial, ?_⟩); refine SQ.nil ?_; refine ⟨by decide +kernel, all_of [5] (by decide +kernel) ⟨⟨_, rfl, rfl, ?_⟩, trivial⟩⟩; (focus refine SQ.make tt_ok rfl rfl n rfl rfl hn4 hn9 hn63 (fun g3 => ⟨trivial, ?_⟩); refine SQ.nil ?_; refine ⟨by decide +kernel, all_of [6] (by decide +kernel) ⟨⟨_, rfl, rfl, ?_⟩, trivial⟩⟩; (focus refine SQ.pure1 tt_ok rfl ?_; refine SQ.nil ?_; refine ⟨by decide +kernel, all_of [7] (by decide +kernel) ⟨⟨_, rfl, rfl, ?_⟩, trivial⟩⟩; (focus refine SQ.new _ _ rfl rfl (fun d => ?_); refine SQ.nil ?_; refine ⟨by decide +kernel, all_of [8] (by decide +kernel) ⟨⟨_, rfl, rfl, ?_⟩, trivial⟩⟩; (focus refine SQ.pures1 tt_ok rfl ?_; refine SQ.nil ?_; exact ⟨by decide +kernel, ⟨(d, g1, g2, g3), ⟨rfl, rfl, rfl, trivial⟩, (Tk.ent (by repeat (first | exact .n | exact Rm.h | exact Rm.of own_row | exact Rm.of row_close0 | apply Tk.c | apply Rm.t)))⟩⟩))))); (focus refine SQ.make tt_ok rfl rfl n rfl rfl hn4 hn9 hn63 (fun g3 => ⟨trivial, ?_⟩); refine SQ.nil ?_; refine ⟨by decide +kernel, all_of [1] (by decide +kernel) ⟨⟨_, rfl, rfl, ?_⟩, trivial⟩⟩; (focus refine SQ.make tt_ok rfl rfl s rfl rfl hs4 hs8 hs63 (fun g1 => ⟨trivial, ?_⟩); refine SQ.nil ?_; refine ⟨by decide +kernel, all_of [6] (by decide +kernel) ⟨⟨_, rfl, rfl, ?_⟩, trivial⟩⟩; (focus refine SQ.pure1 tt_ok rfl ?_; refine SQ.nil ?_; refine ⟨by decide +kernel, all_of [7] (by decide +kernel) ⟨⟨_, rfl, rfl, ?_⟩, trivial⟩⟩; (focus refine SQ.new _ _ rfl rfl (fun d => ?_); refine SQ.nil ?_; refine ⟨by decide +kernel, all_of [8] (by decide +kernel) ⟨⟨_, rfl, rfl, ?_⟩, trivial⟩⟩; (focus refine SQ.pures1 tt_ok rfl ?_; refine SQ.nil ?_; exact ⟨by decide +kernel, ⟨(d, g1, g2, g3), ⟨rfl, rfl, rfl, trivial⟩, (Tk.ent (by repeat (first | exact .n | exact Rm.h | exact Rm.of own_row | exact Rm.of row_close0 | apply Tk.c | apply Rm.t)))⟩⟩))))))); (focus refine SQ.pures1 tt_ok rfl ?_; refine SQ.nil ?_; refine ⟨by decide +kernel, all_of [1, 3, 5] (by decide +kernel) ⟨⟨_, rfl, rfl, ?_⟩, ⟨_, rfl, rfl, ?_⟩, ⟨_, rfl, rfl, ?_⟩, trivial⟩⟩; (focus refine SQ.make tt_ok rfl rfl s rfl rfl hs4 hs8 hs63 (fun g1 => ⟨trivial, ?_⟩); refine SQ.nil ?_; refine ⟨by decide +kernel, all_of [3, 5] (by decide +kernel) ⟨⟨_, rfl, rfl, ?_⟩, ⟨_, rfl, rfl, ?_⟩, trivial⟩⟩; (focus refine SQ.make tt_ok rfl rfl s rfl rfl hs4 hs9 hs63 (fun g2 => ⟨trivial, ?_⟩); refine SQ.nil ?_; refine ⟨by decide +kernel, all_of [5] (by decide +kernel) ⟨⟨_, rfl, rfl, ?_⟩, trivial⟩⟩; (focus refine SQ.make tt_ok rfl rfl n rfl rfl hn4 hn9 hn63 (fun g3 => ⟨trivial, ?_⟩); refine SQ.nil ?_; refine ⟨by decide +kernel, all_of [6] (by decide +kernel) ⟨⟨_, rfl, rfl, ?_⟩, trivial⟩⟩; (focus refine SQ.pure1 tt_ok rfl ?_; refine SQ.nil ?_; refine ⟨by decide +kernel, all_of [7] (by decide +kernel) ⟨⟨_, rfl, rfl, ?_⟩, trivial⟩⟩; (focus refine SQ.new _ _ rfl rfl (fun d => ?_); refine SQ.nil ?_; refine ⟨by decide +kernel, all_of [8] (by decide +kernel) ⟨⟨_, rfl, rfl, ?_⟩, trivial⟩⟩; (focus refine SQ.pures1 tt_ok rfl ?_; refine SQ.nil ?_; exact ⟨by decide +kernel, ⟨(d, g1, g2, g3), ⟨rfl, rfl, rfl, trivial⟩, (Tk.ent (by repeat (first | exact .n | exact Rm.h | exact Rm.of own_row | exact Rm.of row_close0 | apply Tk.c | apply Rm.t)))⟩⟩))))); (focus refine SQ.make tt_ok rfl rfl n rfl rfl hn4 hn9 hn63 (fun g3 => ⟨trivial, ?_⟩); refine SQ.nil ?_; refine ⟨by decide +kernel, all_of [3] (by decide +kernel) ⟨⟨_, rfl, rfl, ?_⟩, trivial⟩⟩; (focus refine SQ.make tt_ok rfl rfl s rfl rfl hs4 hs9 hs63 (fun g2 => ⟨trivial, ?_⟩); refine SQ.nil ?_; refine ⟨by decide +kernel, all_of [6] (by decide +kernel) ⟨⟨_, rfl, rfl, ?_⟩, trivial⟩⟩; (focus refine SQ.pure1 tt_ok rfl ?_; refine SQ.nil ?_; refine ⟨by decide +kernel, all_of [7] (by decide +kernel) ⟨⟨_, rfl, rfl, ?_⟩, trivial⟩⟩; (focus refine SQ.new _ _ rfl rfl (fun d => ?_); refine SQ.nil ?_; refine ⟨by decide +kernel, all_of [8] (by decide +kernel) ⟨⟨_, rfl, rfl, ?_⟩, trivial⟩⟩; (focus refine SQ.pures1 tt_ok rfl ?_; refine SQ.nil ?_; exact ⟨by decide +kernel, ⟨(d, g1, g2, g3), ⟨rfl, rfl, rfl, trivial⟩, (Tk.ent (by repeat (first | exact .n | exact Rm.h | exact Rm.of own_row | exact Rm.of row_close0 | apply Tk.c | apply Rm.t)))⟩⟩)))))); (focus refine SQ.make tt_ok rfl rfl s rfl rfl hs4 hs9 hs63 (fun g2 => ⟨trivial, ?_⟩); refine SQ.nil ?_; refine ⟨by decide +kernel, all_of [1, 5] (by decide +kernel) ⟨⟨_, rfl, rfl, ?_⟩, ⟨_, rfl, rfl, ?_⟩, trivial⟩⟩; (focus refine SQ.make tt_ok rfl rfl s rfl rfl hs4 hs8 hs63 (fun g1 => ⟨trivial, ?_⟩); refine SQ.nil ?_; refine ⟨by decide +kernel, all_of [5] (by decide +kernel) ⟨⟨_, rfl, rfl, ?_⟩, trivial⟩⟩; (focus refine SQ.make tt_ok rfl rfl n rfl rfl hn4 hn9 hn63 (fun g3 => ⟨trivial, ?_⟩); refine SQ.nil ?_; refine ⟨by decide +kernel, all_of [6] (by decide +kernel) ⟨⟨_, rfl, rfl, ?_⟩, trivial⟩⟩; (focus refine SQ.pure1 tt_ok rfl ?_; refine SQ.nil ?_; refine ⟨by decide +kernel, all_of [7] (by decide +kernel) ⟨⟨_, rfl, rfl, ?_⟩, trivial⟩⟩; (focus refine SQ.new _ _ rfl rfl (fun d => ?_); refine SQ.nil ?_; refine ⟨by decide +kernel, all_of [8] (by decide +kernel) ⟨⟨_, rfl, rfl, ?_⟩, trivial⟩⟩; (focus refine SQ.pures1 tt_ok rfl ?_; refine SQ.nil ?_; exact ⟨by decide +kernel, ⟨(d, g1, g2, g3), ⟨rfl, rfl, rfl, trivial⟩, (Tk.ent (by repeat (first | exact .n | exact Rm.h | exact Rm.of own_row | exact Rm.of row_close0 | apply Tk.c | apply Rm.t)))⟩⟩))))); (focus refine SQ.make tt_ok rfl rfl n rfl rfl hn4 hn9 hn63 (fun g3 => ⟨trivial, ?_⟩); refine SQ.nil ?_; refine ⟨by decide +kernel, all_of [1] (by decide +kernel) ⟨⟨_, rfl, rfl, ?_⟩, trivial⟩⟩; (focus refine SQ.make tt_ok rfl rfl s rfl rfl hs4 hs8 hs63 (fun g1 => ⟨trivial, ?_⟩); refine SQ.nil ?_; refine ⟨by decide +kernel, all_of [6] (by decide +kernel) ⟨⟨_, rfl, rfl, ?_⟩, trivial⟩⟩; (focus refine SQ.pure1 tt_ok rfl ?_; refine SQ.nil ?_; refine ⟨by decide +kernel, all_of [7] (by decide +kernel) ⟨⟨_, rfl, rfl, ?_⟩, trivial⟩⟩; (focus refine SQ.new _ _ rfl rfl (fun d => ?_); refine SQ.nil ?_; refine ⟨by decide +kernel, all_of [8] (by decide +kernel) ⟨⟨_, rfl, rfl, ?_⟩, trivial⟩⟩; (focus refine SQ.pures1 tt_ok rfl ?_; refine SQ.nil ?_; exact ⟨by decide +kernel, ⟨(d, g1, g2, g3), ⟨rfl, rfl, rfl, trivial⟩, (Tk.ent (by repeat (first | exact .n | exact Rm.h | exact Rm.of own_row | exact Rm.of row_close0 | apply Tk.c | apply Rm.t)))⟩⟩)))))); (focus refine SQ.make tt_ok rfl rfl n rfl rfl hn4 hn9 hn63 (fun g3 => ⟨trivial, ?_⟩); refine SQ.nil ?_; refine ⟨by decide +kernel, all_of [1, 3] (by decide +kernel) ⟨⟨_, rfl, rfl, ?_⟩, ⟨_, rfl, rfl, ?_⟩, trivial⟩⟩; (focus refine SQ.make tt_ok rfl rfl s rfl rfl hs4 hs8 hs63 (fun g1 => ⟨trivial, ?_⟩); refine SQ.nil ?_; refine ⟨by decide +kernel, all_of [3] (by decide +kernel) ⟨⟨_, rfl, rfl, ?_⟩, trivial⟩⟩; (focus refine SQ.make tt_ok rfl rfl s rfl rfl hs4 hs9 hs63 (fun g2 => ⟨trivial, ?_⟩); refine SQ.nil ?_; refine ⟨by decide +kernel, all_of [6] (by decide +kernel) ⟨⟨_, rfl, rfl, ?_⟩, trivial⟩⟩; (focus refine SQ.pure1 tt_ok rfl ?_; refine SQ.nil ?_; refine ⟨by decide +kernel, all_of [7] (by decide +kernel) ⟨⟨_, rfl, rfl, ?_⟩, trivial⟩⟩; (focus refine SQ.new _ _ rfl rfl (fun d => ?_); refine SQ.nil ?_; refine ⟨by decide +kernel, all_of [8] (by decide +kernel) ⟨⟨_, rfl, rfl, ?_⟩, trivial⟩⟩; (focus refine SQ.pures1 tt_ok rfl ?_; refine SQ.nil ?_; exact ⟨by decide +kernel, ⟨(d, g1, g2, g3), ⟨rfl, rfl, rfl, trivial⟩, (Tk.ent (by repeat (first | exact .n | exact Rm.h | exact Rm.of own_row | exact Rm.of row_close0 | apply Tk.c | apply Rm.t)))⟩⟩))))); (focus refine SQ.make tt_ok rfl rfl s rfl rfl hs4 hs9 hs63 (fun g2 => ⟨trivial, ?_⟩); refine SQ.nil ?_; refine ⟨by decide +kernel, all_of [1] (by decide +kernel) ⟨⟨_, rfl, rfl, ?_⟩, trivial⟩⟩; (focus refine SQ.make tt_ok rfl rfl s rfl rfl hs4 hs8 hs63 (fun g1 => ⟨trivial, ?_⟩); refine SQ.nil ?_; refine ⟨by decide +kernel, all_of [6] (by decide +kernel) ⟨⟨_, rfl, rfl, ?_⟩, trivial⟩⟩; (focus refine SQ.pure1 tt_ok rfl ?_; refine SQ.nil ?_; refine ⟨by decide +kernel, all_of [7] (by decide +kernel) ⟨⟨_, rfl, rfl, ?_⟩, trivial⟩⟩; (focus refine SQ.new _ _ rfl rfl (fun d => ?_); refine SQ.nil ?_; refine ⟨by decide +kernel, all_of [8] (by decide +kernel) ⟨⟨_, rfl, rfl, ?_⟩, trivial⟩⟩; (focus refine SQ.pures1 tt_ok rfl ?_; refine SQ.nil ?_; exact ⟨by decide +kernel, ⟨(d, g1, g2, g3), ⟨rfl, rfl, rfl, trivial⟩, (Tk.ent (by repeat (first | exact .n | exact Rm.h | exact Rm.of own_row | exact Rm.of row_close0 | apply Tk.c | apply Rm.t)))⟩⟩)))))))); (focus refine SQ.make tt_ok rfl rfl s rfl rfl hs4 hs9 hs63 (fun g2 => ⟨trivial, ?_⟩); refine SQ.nil ?_; refine ⟨by decide +kernel, all_of [0, 4] (by decide +kernel) ⟨⟨_, rfl, rfl, ?_⟩, ⟨_, rfl, rfl, ?_⟩, trivial⟩⟩; (focus refine SQ.pures1 tt_ok rfl ?_; refine SQ.nil ?_; refine ⟨by decide +kernel, all_of [1, 4] (by decide +kernel) ⟨⟨_, rfl, rfl, ?_⟩, ⟨_, rfl, rfl, ?_⟩, trivial⟩⟩; (focus refine SQ.make tt_ok rfl rfl s rfl rfl hs4 hs8 hs63 (fun g1 => ⟨trivial, ?_⟩); refine SQ.nil ?_; refine ⟨by decide +kernel, all_of [4] (by decide +kernel) ⟨⟨_, rfl, rfl, ?_⟩, trivial⟩⟩; (focus refine SQ.pures1 tt_ok rfl ?_; refine SQ.nil ?_; refine ⟨by decide +kernel, all_of [5] (by decide +kernel) ⟨⟨_, rfl, rfl, ?_⟩, trivial⟩⟩; (focus refine SQ.make tt_ok rfl rfl n rfl rfl hn4 hn9 hn63 (fun g3 => ⟨trivial, ?_⟩); refine SQ.nil ?_; refine ⟨by decide +kernel, all_of [6] (by decide +kernel) ⟨⟨_, rfl, rfl, ?_⟩, trivial⟩⟩; (focus refine SQ.pure1 tt_ok rfl ?_; refine SQ.nil ?_; refine ⟨by decide +kernel, all_of [7] (by decide +kernel) ⟨⟨_, rfl, rfl, ?_⟩, trivial⟩⟩; (focus refine SQ.new _ _ rfl rfl (fun d => ?_); refine SQ.nil ?_; refine ⟨by decide +kernel, all_of [8] (by decide +kernel) ⟨⟨_, rfl, rfl, ?_⟩, trivial⟩⟩; (focus refine SQ.pures1 tt_ok rfl ?_; refine SQ.nil ?_; exact ⟨by decide +kernel, ⟨(d, g1, g2, g3), ⟨rfl, rfl, rfl, trivial⟩, (Tk.ent (by repeat (first | exact .n | exact Rm.h | exact Rm.of own_row | exact Rm.of row_close0 | apply Tk.c | apply Rm.t)))⟩⟩)))))); (focus refine SQ.pures1 tt_ok rfl ?_; refine SQ.nil ?_; refine ⟨by decide +kernel, all_of [1, 5] (by decide +kernel) ⟨⟨_, rfl, rfl, ?_⟩, ⟨_, rfl, rfl, ?_⟩, trivial⟩⟩; (focus refine SQ.make tt_ok rfl rfl s rfl rfl hs4 hs8 hs63 (fun g1 => ⟨trivial, ?_⟩); refine SQ.nil ?_; refine ⟨by decide +kernel, all_of [5] (by decide +kernel) ⟨⟨_, rfl, rfl, ?_⟩, trivial⟩⟩; (focus refine SQ.make tt_ok rfl rfl n rfl rfl hn4 hn9 hn63 (fun g3 => ⟨trivial, ?_⟩); refine SQ.nil ?_; refine ⟨by decide +kernel, all_of [6] (by decide +kernel) ⟨⟨_, rfl, rfl, ?_⟩, trivial⟩⟩; (focus refine SQ.pure1 tt_ok rfl ?_; refine SQ.nil ?_; refine ⟨by decide +kernel, all_of [7] (by decide +kernel) ⟨⟨_, rfl, rfl, ?_⟩, trivial⟩⟩; (focus refine SQ.new _ _ rfl rfl (fun d => ?_); refine SQ.nil ?_; refine ⟨by decide +kernel, all_of [8] (by decide +kernel) ⟨⟨_, rfl, rfl, ?_⟩, trivial⟩⟩; (focus refine SQ.pures1 tt_ok rfl ?_; refine SQ.nil ?_; exact ⟨by decide +kernel, ⟨(d, g1, g2, g3), ⟨rfl, rfl, rfl, trivial⟩, (Tk.ent (by repeat (first | exact .n | exact Rm.h | exact Rm.of own_row | exact Rm.of row_close0 | apply Tk.c | apply Rm.t)))⟩⟩))))); (focus refine SQ.make tt_ok rfl rfl n rfl rfl hn4 hn9 hn63 (fun g3 => ⟨trivial, ?_⟩); refine SQ.nil ?_; refine ⟨by decide +kernel, all_of [1] (by decide +kernel) ⟨⟨_, rfl, rfl, ?_⟩, trivial⟩⟩; (focus refine SQ.make tt_ok rfl rfl s rfl rfl hs4 hs8 hs63 (fun g1 => ⟨trivial, ?_⟩); refine SQ.nil ?_; refine ⟨by decide +kernel, all_of [6] (by decide +kernel) ⟨⟨_, rfl, rfl, ?_⟩, trivial⟩⟩; (focus refine SQ.pure1 tt_ok rfl ?_; refine SQ.nil ?_; refine ⟨by decide +kernel, all_of [7] (by decide +kernel) ⟨⟨_, rfl, rfl, ?_⟩, trivial⟩⟩; (focus refine SQ.new _ _ rfl rfl (fun d => ?_); refine SQ.nil ?_; refine ⟨by decide +kernel, all_of [8] (by decide +kernel) ⟨⟨_, rfl, rfl, ?_⟩, trivial⟩⟩; (focus refine SQ.pures1 tt_ok rfl ?_; refine SQ.nil ?_; exact ⟨by decide +kernel, ⟨(d, g1, g2, g3), ⟨rfl, rfl, rfl, trivial⟩, (Tk.ent (by repeat (first | exact .n | exact Rm.h | exact Rm.of own_row | exact Rm.of row_close0 | apply Tk.c | apply Rm.t)))⟩⟩))))))); (focus refine SQ.pures1 tt_ok rfl ?_; refine SQ.nil ?_; refine ⟨by decide +kernel, all_of [0, 5] (by decide +kernel) ⟨⟨_, rfl, rfl, ?_⟩, ⟨_, rfl, rfl, ?_⟩, trivial⟩⟩; (focus refine SQ.pures1 tt_ok rfl ?_; refine SQ.nil ?_; refine ⟨by decide +kernel, all_of [1, 5] (by decide +kernel) ⟨⟨_, rfl, rfl, ?_⟩, ⟨_, rfl, rfl, ?_⟩, trivial⟩⟩; (focus refine SQ.make tt_ok rfl rfl s rfl rfl hs4 hs8 hs63 (fun g1 => ⟨trivial, ?_⟩); refine SQ.nil ?_; refine ⟨by decide +kernel, all_of [5] (by decide +kernel) ⟨⟨_, rfl, rfl, ?_⟩, trivial⟩⟩; (focus refine SQ.make tt_ok rfl rfl n rfl rfl hn4 hn9 hn63 (fun g3 => ⟨trivial, ?_⟩); refine SQ.nil ?_; refine ⟨by decide +kernel, all_of [6] (by decide +kernel) ⟨⟨_, rfl, rfl, ?_⟩, trivial⟩⟩; (focus refine SQ.pure1 tt_ok rfl ?_; refine SQ.nil ?_; refine ⟨by decide +kernel, all_of [7] (by decide +kernel) ⟨⟨_, rfl, rfl, ?_⟩, trivial⟩⟩; (focus refine SQ.new _ _ rfl rfl (fun d => ?_); refine SQ.nil ?_; refine ⟨by decide +kernel, all_of [8] (by decide +kernel) ⟨⟨_, rfl, rfl, ?_⟩, trivial⟩⟩; (focus refine SQ.pures1 tt_ok rfl ?_; refine SQ.nil ?_; exact ⟨by decide +kernel, ⟨(d, g1, g2, g3), ⟨rfl, rfl, rfl, trivial⟩, (Tk.ent (by repeat (first | exact .n | exact Rm.h | exact Rm.of own_row | exact Rm.of row_close0 | apply Tk.c | apply Rm.t)))⟩⟩))))); (focus refine SQ.make tt_ok rfl rfl n rfl rfl hn4 hn9 hn63 (fun g3 => ⟨trivial, ?_⟩); refine SQ.nil ?_; refine ⟨by decide +kernel, all_of [1] (by decide +kernel) ⟨⟨_, rfl, rfl, ?_⟩, trivial⟩⟩; (focus refine SQ.make tt_ok rfl rfl s rfl rfl hs4 hs8 hs63 (fun g1 => ⟨trivial, ?_⟩); refine SQ.nil ?_; refine ⟨by decide +kernel, all_of [6] (by decide +kernel) ⟨⟨_, rfl, rfl, ?_⟩, trivial⟩⟩; (focus refine SQ.pure1 tt_ok rfl ?_; refine SQ.nil ?_; refine ⟨by decide +kernel, all_of [7] (by decide +kernel) ⟨⟨_, rfl, rfl, ?_⟩, trivial⟩⟩; (focus refine SQ.new _ _ rfl rfl (fun d => ?_); refine SQ.nil ?_; refine ⟨by decide +kernel, all_of [8] (by decide +kernel) ⟨⟨_, rfl, rfl, ?_⟩, trivial⟩⟩; (focus refine SQ.pures1 tt_ok rfl ?_; refine SQ.nil ?_; exact ⟨by decide +kernel, ⟨(d, g1, g2, g3), ⟨rfl, rfl, rfl, trivial⟩, (Tk.ent (by repeat (first | exact .n | exact Rm.h | exact Rm.of own_row | exact Rm.of row_close0 | apply Tk.c | apply Rm.t)))⟩⟩)))))); (focus refine SQ.make tt_ok rfl rfl n rfl rfl hn4 hn9 hn63 (fun g3 => ⟨trivial, ?_⟩); refine SQ.nil ?_; refine ⟨by decide +kernel, all_of [0] (by decide +kernel) ⟨⟨_, rfl, rfl, ?_⟩, trivial⟩⟩; (focus refine SQ.pures1 tt_ok rfl ?_; refine SQ.nil ?_; refine ⟨by decide +kernel, all_of [1] (by decide +kernel) ⟨⟨_, rfl, rfl, ?_⟩, trivial⟩⟩; (focus refine SQ.make tt_ok rfl rfl s rfl rfl hs4 hs8 hs63 (fun g1 => ⟨trivial, ?_⟩); refine SQ.nil ?_; refine ⟨by decide +kernel, all_of [6] (by decide +kernel) ⟨⟨_, rfl, rfl, ?_⟩, trivial⟩⟩; (focus refine SQ.pure1 tt_ok rfl ?_; refine SQ.nil ?_; refine ⟨by decide +kernel, all_of [7] (by decide +kernel) ⟨⟨_, rfl, rfl, ?_⟩, trivial⟩⟩; (focus refine SQ.new _ _ rfl rfl (fun d => ?_); refine SQ.nil ?_; refine ⟨by decide +kernel, all_of [8] (by decide +kernel) ⟨⟨_, rfl, rfl, ?_⟩, trivial⟩⟩; (focus refine SQ.pures1 tt_ok rfl ?_; refine SQ.nil ?_; exact ⟨by decide +kernel, ⟨(d, g1, g2, g3), ⟨rfl, rfl, rfl, trivial⟩, (Tk.ent (by repeat (first | exact .n | exact Rm.h | exact Rm.of own_row | exact Rm.of row_close0 | apply Tk.c | apply Rm.t)))⟩⟩)))))))); (focus refine SQ.pures1 tt_ok rfl ?_; refine SQ.nil ?_; refine ⟨by decide +kernel, all_of [0, 3, 5] (by decide +kernel) ⟨⟨_, rfl, rfl, ?_⟩, ⟨_, rfl, rfl, ?_⟩, ⟨_, rfl, rfl, ?_⟩, trivial⟩⟩; (focus refine SQ.pures1 tt_ok rfl ?_; refine SQ.nil ?_; refine ⟨by decide +kernel, all_of [1, 3, 5] (by decide +kernel) ⟨⟨_, rfl, rfl, ?_⟩, ⟨_, rfl, rfl, ?_⟩, ⟨_, rfl, rfl, ?_⟩, trivial⟩⟩; (focus refine SQ.make tt_ok rfl rfl s rfl rfl hs4 hs8 hs63 (fun g1 => ⟨trivial, ?_⟩); refine SQ.nil ?_; refine ⟨by decide +kernel, all_of [3, 5] (by decide +kernel) ⟨⟨_, rfl, rfl, ?_⟩, ⟨_, rfl, rfl, ?_⟩, trivial⟩⟩; (focus refine SQ.make tt_ok rfl rfl s rfl rfl hs4 hs9 hs63 (fun g2 => ⟨trivial, ?_⟩); refine SQ.nil ?_; refine ⟨by decide +kernel, all_of [5] (by decide +kernel) ⟨⟨_, rfl, rfl, ?_⟩, trivial⟩⟩; (focus refine SQ.make tt_ok rfl rfl n rfl rfl hn4 hn9 hn63 (fun g3 => ⟨trivial, ?_⟩); refine SQ.nil ?_; refine ⟨by decide +kernel, all_of [6] (by decide +kernel) ⟨⟨_, rfl, rfl, ?_⟩, trivial⟩⟩; (focus refine SQ.pure1 tt_ok rfl ?_; refine SQ.nil ?_; refine ⟨by decide +kernel, all_of [7] (by decide +kernel) ⟨⟨_, rfl, rfl, ?_⟩, trivial⟩⟩; (focus refine SQ.new _ _ rfl rfl (fun d => ?_); refine SQ.nil ?_; refine ⟨by decide +kernel, all_of [8] (by decide +kernel) ⟨⟨_, rfl, rfl, ?_⟩, trivial⟩⟩; (focus refine SQ.pures1 tt_ok rfl ?_; refine SQ.nil ?_; exact ⟨by decide +kernel, ⟨(d, g1, g2, g3), ⟨rfl, rfl, rfl, trivial⟩, (Tk.ent (by repeat (first | exact .n | exact Rm.h | exact Rm.of own_row | exact Rm.of row_close0 | apply Tk.c | apply Rm.t)))⟩⟩))))); (focus refine SQ.make tt_ok rfl rfl n rfl rfl hn4 hn9 hn63 (fun g3 => ⟨trivial, ?_⟩); refine SQ.nil ?_; refine ⟨by decide +kernel, all_of [3] (by decide +kernel) ⟨⟨_, rfl, rfl, ?_⟩, trivial⟩⟩; (focus refine SQ.make tt_ok rfl rfl s rfl rfl hs4 hs9 hs63 (fun g2 => ⟨trivial, ?_⟩); refine SQ.nil ?_; refine ⟨by decide +kernel, all_of [6] (by decide +kernel) ⟨⟨_, rfl, rfl, ?_⟩, trivial⟩⟩; (focus refine SQ.pure1 tt_ok rfl ?_; refine SQ.nil ?_; refine ⟨by decide +kernel, all_of [7] (by decide +kernel) ⟨⟨_, rfl, rfl, ?_⟩, trivial⟩⟩; (focus refine SQ.new _ _ rfl rfl (fun d => ?_); refine SQ.nil ?_; refine ⟨by decide +kernel, all_of [8] (by decide +kernel) ⟨⟨_, rfl, rfl, ?_⟩, trivial⟩⟩; (focus refine SQ.pures1 tt_ok rfl ?_; refine SQ.nil ?_; exact ⟨by decide +kernel, ⟨(d, g1, g2, g3), ⟨rfl, rfl, rfl, trivial⟩, (Tk.ent (by repeat (first | exact .n | exact Rm.h | exact Rm.of own_row | exact Rm.of row_close0 | apply Tk.c | apply Rm.t)))⟩⟩)))))); (focus refine SQ.make tt_ok rfl rfl s rfl rfl hs4 hs9 hs63 (fun g2 => ⟨trivial, ?_⟩); refine SQ.nil ?_; refine ⟨by decide +kernel, all_of [1, 5] (by decide +kernel) ⟨⟨_, rfl, rfl, ?_⟩, ⟨_, rfl, rfl, ?_⟩, trivial⟩⟩; (focus refine SQ.make tt_ok rfl rfl s rfl rfl hs4 hs8 hs63 (fun g1 => ⟨trivial, ?_⟩); refine SQ.nil ?_; refine ⟨by decide +kernel, all_of [5] (by decide +kernel) ⟨⟨_, rfl, rfl, ?_⟩, trivial⟩⟩; (focus refine SQ.make tt_ok rfl rfl n rfl rfl hn4 hn9 hn63 (fun g3 => ⟨trivial, ?_⟩); refine SQ.nil ?_; refine ⟨by decide +kernel, all_of [6] (by decide +kernel) ⟨⟨_, rfl, rfl, ?_⟩, trivial⟩⟩; (focus refine SQ.pure1 tt_ok rfl ?_; refine SQ.nil ?_; refine ⟨by decide +kernel, all_of [7] (by decide +kernel) ⟨⟨_, rfl, rfl, ?_⟩, trivial⟩⟩; (focus refine SQ.new _ _ rfl rfl (fun d => ?_); refine SQ.nil ?_; refine ⟨by decide +kernel, all_of [8] (by decide +kernel) ⟨⟨_, rfl, rfl, ?_⟩, trivial⟩⟩; (focus refine SQ.pures1 tt_ok rfl ?_; refine SQ.nil ?_; exact ⟨by decide +kernel, ⟨(d, g1, g2, g3), ⟨rfl, rfl, rfl, trivial⟩, (Tk.ent (by repeat (first | exact .n | exact Rm.h | exact Rm.of own_row | exact Rm.of row_close0 | apply Tk.c | apply Rm.t)))⟩⟩))))); (focus refine SQ.make tt_ok rfl rfl n rfl rfl hn4 hn9 hn63 (fun g3 => ⟨trivial, ?_⟩); refine SQ.nil ?_; refine ⟨by decide +kernel, all_of [1] (by decide +kernel) ⟨⟨_, rfl, rfl, ?_⟩, trivial⟩⟩; (focus refine SQ.make tt_ok rfl rfl s rfl rfl hs4 hs8 hs63 (fun g1 => ⟨trivial, ?_⟩); refine SQ.nil ?_; refine ⟨by decide +kernel, all_of [6] (by decide +kernel) ⟨⟨_, rfl, rfl, ?_⟩, trivial⟩⟩; (focus refine SQ.pure1 tt_ok rfl ?_; refine SQ.nil ?_; refine ⟨by decide +kernel, all_of [7] (by decide +kernel) ⟨⟨_, rfl, rfl, ?_⟩, trivial⟩⟩; (focus refine SQ.new _ _ rfl rfl (fun d => ?_); refine SQ.nil ?_; refine ⟨by decide +kernel, all_of [8] (by decide +kernel) ⟨⟨_, rfl, rfl, ?_⟩, trivial⟩⟩; (focus refine SQ.pures1 tt_ok rfl ?_; refine SQ.nil ?_; exact ⟨by decide +kernel, ⟨(d, g1, g2, g3), ⟨rfl, rfl, rfl, trivial⟩, (Tk.ent (by repeat (first | exact .n | exact Rm.h | exact Rm.of own_row | exact Rm.of row_close0 | apply Tk.c | apply Rm.t)))⟩⟩)))))); (focus refine SQ.make tt_ok rfl rfl n rfl rfl hn4 hn9 hn63 (fun g3 => ⟨trivial, ?_⟩); refine SQ.nil ?_; refine ⟨by decide +kernel, all_of [1, 3] (by decide +kernel) ⟨⟨_, rfl, rfl, ?_⟩, ⟨_, rfl, rfl, ?_⟩, trivial⟩⟩; (focus refine SQ.make tt_ok rfl rfl s rfl rfl hs4 hs8 hs63 (fun g1 => ⟨trivial, ?_⟩); refine SQ.nil ?_; refine ⟨by decide +kernel, all_of [3] (by decide +kernel) ⟨⟨_, rfl, rfl, ?_⟩, trivial⟩⟩; (focus refine SQ.make tt_ok rfl rfl s rfl rfl hs4 hs9 hs63 (fun g2 => ⟨trivial, ?_⟩); refine SQ.nil ?_; refine ⟨by decide +kernel, all_of [6] (by decide +kernel) ⟨⟨_, rfl, rfl, ?_⟩, trivial⟩⟩; (focus refine SQ.pure1 tt_ok rfl ?_; refine SQ.nil ?_; refine ⟨by decide +kernel, all_of [7] (by decide +kernel) ⟨⟨_, rfl, rfl, ?_⟩, trivial⟩⟩; (focus refine SQ.new _ _ rfl rfl (fun d => ?_); refine SQ.nil ?_; refine ⟨by decide +kernel, all_of [8] (by decide +kernel) ⟨⟨_, rfl, rfl, ?_⟩, trivial⟩⟩; (focus refine SQ.pures1 tt_ok rfl ?_; refine SQ.nil ?_; exact ⟨by decide +kernel, ⟨(d, g1, g2, g3), ⟨rfl, rfl, rfl, trivial⟩, (Tk.ent (by repeat (first | exact .n | exact Rm.h | exact Rm.of own_row | exact Rm.of row_close0 | apply Tk.c | apply Rm.t)))⟩⟩))))); (focus refine SQ.make tt_ok rfl rfl s rfl rfl hs4 hs9 hs63 (fun g2 => ⟨trivial, ?_⟩); refine SQ.nil ?_; refine ⟨by decide +kernel, all_of [1] (by decide +kernel) ⟨⟨_, rfl, rfl, ?_⟩, trivial⟩⟩; (focus refine SQ.make tt_ok rfl rfl s rfl rfl hs4 hs8 hs63 (fun g1 => ⟨trivial, ?_⟩); refine SQ.nil ?_; refine ⟨by decide +kernel, all_of [6] (by decide +kernel) ⟨⟨_, rfl, rfl, ?_⟩, trivial⟩⟩; (focus refine SQ.pure1 tt_ok rfl ?_; refine SQ.nil ?_; refine ⟨by decide +kernel, all_of [7] (by decide +kernel) ⟨⟨_, rfl, rfl, ?_⟩, trivial⟩⟩; (focus refine SQ.new _ _ rfl rfl (fun d => ?_); refine SQ.nil ?_; refine ⟨by decide +kernel, all_of [8] (by decide +kernel) ⟨⟨_, rfl, rfl, ?_⟩, trivial⟩⟩; (focus refine SQ.pures1 tt_ok rfl ?_; refine SQ.nil ?_; exact ⟨by decide +kernel, ⟨(d, g1, g2, g3), ⟨rfl, rfl, rfl, trivial⟩, (Tk.ent (by repeat (first | exact .n | exact Rm.h | exact Rm.of own_row | exact Rm.of row_close0 | apply Tk.c | apply Rm.t)))⟩⟩))))))); (focus refine SQ.make tt_ok rfl rfl s rfl rfl hs4 hs9 hs63 (fun g2 => ⟨trivial, ?_⟩); refine SQ.nil ?_; refine ⟨by decide +kernel, all_of [0, 5] (by decide +kernel) ⟨⟨_, rfl, rfl, ?_⟩, ⟨_, rfl, rfl, ?_⟩, trivial⟩⟩; (focus refine SQ.pures1 tt_ok rfl ?_; refine SQ.nil ?_; refine ⟨by decide +kernel, all_of [1, 5] (by decide +kernel) ⟨⟨_, rfl, rfl, ?_⟩, ⟨_, rfl, rfl, ?_⟩, trivial⟩⟩; (focus refine SQ.make tt_ok rfl rfl s rfl rfl hs4 hs8 hs63 (fun g1 => ⟨trivial, ?_⟩); refine SQ.nil ?_; refine ⟨by decide +kernel, all_of [5] (by decide +kernel) ⟨⟨_, rfl, rfl, ?_⟩, trivial⟩⟩; (focus refine SQ.make tt_ok rfl rfl n rfl rfl hn4 hn9 hn63 (fun g3 => ⟨trivial, ?_⟩); refine SQ.nil ?_; refine ⟨by decide +kernel, all_of [6] (by decide +kernel) ⟨⟨_, rfl, rfl, ?_⟩, trivial⟩⟩; (focus refine SQ.pure1 tt_ok rfl ?_; refine SQ.nil ?_; refine ⟨by decide +kernel, all_of [7] (by decide +kernel) ⟨⟨_, rfl, rfl, ?_⟩, trivial⟩⟩; (focus refine SQ.new _ _ rfl rfl (fun d => ?_); refine SQ.nil ?_; refine ⟨by decide +kernel, all_of [8] (by decide +kernel) ⟨⟨_, rfl, rfl, ?_⟩, trivial⟩⟩; (focus refine SQ.pures1 tt_ok rfl ?_; refine SQ.nil ?_; exact ⟨by decide +kernel, ⟨(d, g1, g2, g3), ⟨rfl, rfl, rfl, trivial⟩, (Tk.ent (by repeat (first | exact .n | exact Rm.h | exact Rm.of own_row | exact Rm.of row_close0 | apply Tk.c | apply Rm.t)))⟩⟩))))); (focus refine SQ.make tt_ok rfl rfl n rfl rfl hn4 hn9 hn63 (fun g3 => ⟨trivial, ?_⟩); refine SQ.nil ?_; refine ⟨by decide +kernel, all_of [1] (by decide +kernel) ⟨⟨_, rfl, rfl, ?_⟩, trivial⟩⟩; (focus refine SQ.make tt_ok rfl rfl s rfl rfl hs4 hs8 hs63 (fun g1 => ⟨trivial, ?_⟩); refine SQ.nil ?_; refine ⟨by decide +kernel, all_of [6] (by decide +kernel) ⟨⟨_, rfl, rfl, ?_⟩, trivial⟩⟩; (focus refine SQ.pure1 tt_ok rfl ?_; refine SQ.nil ?_; refine ⟨by decide +kernel, all_of [7] (by decide +kernel) ⟨⟨_, rfl, rfl, ?_⟩, trivial⟩⟩; (focus refine SQ.new _ _ rfl rfl (fun d => ?_); refine SQ.nil ?_; refine ⟨by decide +kernel, all_of [8] (by decide +kernel) ⟨⟨_, rfl, rfl, ?_⟩, trivial⟩⟩; (focus refine SQ.pures1 tt_ok rfl ?_; refine SQ.nil ?_; exact ⟨by decide +kernel, ⟨(d, g1, g2, g3), ⟨rfl, rfl, rfl, trivial⟩, (Tk.ent (by repeat (first | exact .n | exact Rm.h | exact Rm.of own_row | exact Rm.of row_close0 | apply Tk.c | apply Rm.t)))⟩⟩)))))); (focus refine SQ.make tt_ok rfl rfl n rfl rfl hn4 hn9 hn63 (fun g3 => ⟨trivial, ?_⟩); refine SQ.nil ?_; refine ⟨by decide +kernel, all_of [0] (by decide +kernel) ⟨⟨_, rfl, rfl, ?_⟩, trivial⟩⟩; (focus refine SQ.pures1 tt_ok rfl ?_; refine SQ.nil ?_; refine ⟨by decide +kernel, all_of [1] (by decide +kernel) ⟨⟨_, rfl, rfl, ?_⟩, trivial⟩⟩; (focus refine SQ.make tt_ok rfl rfl s rfl rfl hs4 hs8 hs63 (fun g1 => ⟨trivial, ?_⟩); refine SQ.nil ?_; refine ⟨by decide +kernel, all_of [6] (by decide +kernel) ⟨⟨_, rfl, rfl, ?_⟩, trivial⟩⟩; (focus refine SQ.pure1 tt_ok rfl ?_; refine SQ.nil ?_; refine ⟨by decide +kernel, all_of [7] (by decide +kernel) ⟨⟨_, rfl, rfl, ?_⟩, trivial⟩⟩; (focus refine SQ.new _ _ rfl rfl (fun d => ?_); refine SQ.nil ?_; refine ⟨by decide +kernel, all_of [8] (by decide +kernel) ⟨⟨_, rfl, rfl, ?_⟩, trivial⟩⟩; (focus refine SQ.pures1 tt_ok rfl ?_; refine SQ.nil ?_; exact ⟨by decide +kernel, ⟨(d, g1, g2, g3), ⟨rfl, rfl, rfl, trivial⟩, (Tk.ent (by repeat (first | exact .n | exact Rm.h | exact Rm.of own_row | exact Rm.of row_close0 | apply Tk.c | apply Rm.t)))⟩⟩))))))); (focus refine SQ.make tt_ok rfl rfl n rfl rfl hn4 hn9 hn63 (fun g3 => ⟨trivial, ?_⟩); refine SQ.nil ?_; refine ⟨by decide +kernel, all_of [0, 3] (by decide +kernel) ⟨⟨_, rfl, rfl, ?_⟩, ⟨_, rfl, rfl, ?_⟩, trivial⟩⟩; (focus refine SQ.pures1 tt_ok rfl ?_; refine SQ.nil ?_; refine ⟨by decide +kernel, all_of [1, 3] (by decide +kernel) ⟨⟨_, rfl, rfl, ?_⟩, ⟨_, rfl, rfl, ?_⟩, trivial⟩⟩; (focus refine SQ.make tt_ok rfl rfl s rfl rfl hs4 hs8 hs63 (fun g1 => ⟨trivial, ?_⟩); refine SQ.nil ?_; refine ⟨by decide +kernel, all_of [3] (by decide +kernel) ⟨⟨_, rfl, rfl, ?_⟩, trivial⟩⟩; (focus refine SQ.make tt_ok rfl rfl s rfl rfl hs4 hs9 hs63 (fun g2 => ⟨trivial, ?_⟩); refine SQ.nil ?_; refine ⟨by decide +kernel, all_of [6] (by decide +kernel) ⟨⟨_, rfl, rfl, ?_⟩, trivial⟩⟩; (focus refine SQ.pure1 tt_ok rfl ?_; refine SQ.nil ?_; refine ⟨by decide +kernel, all_of [7] (by decide +kernel) ⟨⟨_, rfl, rfl, ?_⟩, trivial⟩⟩; (focus refine SQ.new _ _ rfl rfl (fun d => ?_); refine SQ.nil ?_; refine ⟨by decide +kernel, all_of [8] (by decide +kernel) ⟨⟨_, rfl, rfl, ?_⟩, trivial⟩⟩; (focus refine SQ.pures1 tt_ok rfl ?_; refine SQ.nil ?_; exact ⟨by decide +kernel, ⟨(d, g1, g2, g3), ⟨rfl, rfl, rfl, trivial⟩, (Tk.ent (by repeat (first | exact .n | exact Rm.h | exact Rm.of own_row | exact Rm.of row_close0 | apply Tk.c | apply Rm.t)))⟩⟩))))); (focus refine SQ.make tt_ok rfl rfl s rfl rfl hs4 hs9 hs63 (fun g2 => ⟨trivial, ?_⟩); refine SQ.nil ?_; refine ⟨by decide +kernel, all_of [1] (by decide +kernel) ⟨⟨_, rfl, rfl, ?_⟩, trivial⟩⟩; (focus refine SQ.make tt_ok rfl rfl s rfl rfl hs4 hs8 hs63 (fun g1 => ⟨trivial, ?_⟩); refine SQ.nil ?_; refine ⟨by decide +kernel, all_of [6] (by decide +kernel) ⟨⟨_, rfl, rfl, ?_⟩, trivial⟩⟩; (focus refine SQ.pure1 tt_ok rfl ?_; refine SQ.nil ?_; refine ⟨by decide +kernel, all_of [7] (by decide +kernel) ⟨⟨_, rfl, rfl, ?_⟩, trivial⟩⟩; (focus refine SQ.new _ _ rfl rfl (fun d => ?_); refine SQ.nil ?_; refine ⟨by decide +kernel, all_of [8] (by decide +kernel) ⟨⟨_, rfl, rfl, ?_⟩, trivial⟩⟩; (focus refine SQ.pures1 tt_ok rfl ?_; refine SQ.nil ?_; exact ⟨by decide +kernel, ⟨(d, g1, g2, g3), ⟨rfl, rfl, rfl, trivial⟩, (Tk.ent (by repeat (first | exact .n | exact Rm.h | exact Rm.of own_row | exact Rm.of row_close0 | apply Tk.c | apply Rm.t)))⟩⟩)))))); (focus refine SQ.make tt_ok rfl rfl s rfl rfl hs4 hs9 hs63 (fun g2 => ⟨trivial, ?_⟩); refine SQ.nil ?_; refine ⟨by decide +kernel, all_of [0] (by decide +kernel) ⟨⟨_, rfl, rfl, ?_⟩, trivial⟩⟩; (focus refine SQ.pures1 tt_ok rfl ?_; refine SQ.nil ?_; refine ⟨by decide +kernel, all_of [1] (by decide +kernel) ⟨⟨_, rfl, rfl, ?_⟩, trivial⟩⟩; (focus refine SQ.make tt_ok rfl rfl s rfl rfl hs4 hs8 hs63 (fun g1 => ⟨trivial, ?_⟩); refine SQ.nil ?_; refine ⟨by decide +kernel, all_of [6] (by decide +kernel) ⟨⟨_, rfl, rfl, ?_⟩, trivial⟩⟩; (focus refine SQ.pure1 tt_ok rfl ?_; refine SQ.nil ?_; refine ⟨by decide +kernel, all_of [7] (by decide +kernel) ⟨⟨_, rfl, rfl, ?_⟩, trivial⟩⟩; (focus refine SQ.new _ _ rfl rfl (fun d => ?_); refine SQ.nil ?_; refine ⟨by decide +kernel, all_of [8] (by decide +kernel) ⟨⟨_, rfl, rfl, ?_⟩, trivial⟩⟩; (focus refine SQ.pures1 tt_ok rfl ?_; refine SQ.nil ?_; exact ⟨by decide +kernel, ⟨(d, g1, g2, g3), ⟨rfl, rfl, rfl, trivial⟩, (Tk.ent (by repeat (first | exact .n | exact Rm.h | exact Rm.of own_row | exact Rm.of row_close0 | apply Tk.c | apply Rm.t)))⟩⟩))))))))); (focus refine SQ.pures1 tt_ok rfl ?_; refine SQ.nil ?_; refine ⟨by decide +kernel, all_of [0, 2, 5] (by decide +kernel) ⟨⟨_, rfl, rfl, ?_⟩, ⟨_, rfl, rfl, ?_⟩, ⟨_, rfl, rfl, ?_⟩, trivial⟩⟩; (focus refine SQ.pures1 tt_ok rfl ?_; refine SQ.nil ?_; refine ⟨by decide +kernel, all_of [1, 2, 5] (by decide +kernel) ⟨⟨_, rfl, rfl, ?_⟩, ⟨_, rfl, rfl, ?_⟩, ⟨_, rfl, rfl, ?_⟩, trivial⟩⟩; (focus refine SQ.make tt_ok rfl rfl s rfl rfl hs4 hs8 hs63 (fun g1 => ⟨trivial, ?_⟩); refine SQ.nil ?_; refine ⟨by decide +kernel, all_of [2, 5] (by decide +kernel) ⟨⟨_, rfl, rfl, ?_⟩, ⟨_, rfl, rfl, ?_⟩, trivial⟩⟩; (focus refine SQ.pures1 tt_ok rfl ?_; refine SQ.nil ?_; refine ⟨by decide +kernel, all_of [3, 5] (by decide +kernel) ⟨⟨_, rfl, rfl, ?_⟩, ⟨_, rfl, rfl, ?_⟩, trivial⟩⟩; (focus refine SQ.make tt_ok rfl rfl s rfl rfl hs4 hs9 hs63 (fun g2 => ⟨trivial, ?_⟩); refine SQ.nil ?_; refine ⟨by decide +kernel, all_of [5] (by decide +kernel) ⟨⟨_, rfl, rfl, ?_⟩, trivial⟩⟩; (focus refine SQ.make tt_ok rfl rfl n rfl rfl hn4 hn9 hn63 (fun g3 => ⟨trivial, ?_⟩); refine SQ.nil ?_; refine ⟨by decide +kernel, all_of [6] (by decide +kernel) ⟨⟨_, rfl, rfl, ?_⟩, trivial⟩⟩; (focus refine SQ.pure1 tt_ok rfl ?_; refine SQ.nil ?_; refine ⟨by decide +kernel, all_of [7] (by decide +kernel) ⟨⟨_, rfl, rfl, ?_⟩, trivial⟩⟩; (focus refine SQ.new _ _ rfl rfl (fun d => ?_); refine SQ.nil ?_; refine ⟨by decide +kernel, all_of [8] (by decide +kernel) ⟨⟨_, rfl, rfl, ?_⟩, trivial⟩⟩; (focus refine SQ.pures1 tt_ok rfl ?_; refine SQ.nil ?_; exact ⟨by decide +kernel, ⟨(d, g1, g2, g3), ⟨rfl, rfl, rfl, trivial⟩, (Tk.ent (by repeat (first | exact .n | exact Rm.h | exact Rm.of own_row | exact Rm.of row_close0 | apply Tk.c | apply Rm.t)))⟩⟩))))); (focus refine SQ.make tt_ok rfl rfl n rfl rfl hn4 hn9 hn63 (fun g3 => ⟨trivial, ?_⟩); refine SQ.nil ?_; refine ⟨by decide +kernel, all_of [3] (by decide +kernel) ⟨⟨_, rfl, rfl, ?_⟩, trivial⟩⟩; (focus refine SQ.make tt_ok rfl rfl s rfl rfl hs4 hs9 hs63 (fun g2 => ⟨trivial, ?_⟩); refine SQ.nil ?_; refine ⟨by decide +kernel, all_of [6] (by decide +kernel) ⟨⟨_, rfl, rfl, ?_⟩, trivial⟩⟩; (focus refine SQ.pure1 tt_ok rfl ?_; refine SQ.nil ?_; refine ⟨by decide +kernel, all_of [7] (by decide +kernel) ⟨⟨_, rfl, rfl, ?_⟩, trivial⟩⟩; (focus refine SQ.new _ _ rfl rfl (fun d => ?_); refine SQ.nil ?_; refine ⟨by decide +kernel, all_of [8] (by decide +kernel) ⟨⟨_, rfl, rfl, ?_⟩, trivial⟩⟩; (focus refine SQ.pures1 tt_ok rfl ?_; refine SQ.nil ?_; exact ⟨by decide +kernel, ⟨(d, g1, g2, g3), ⟨rfl, rfl, rfl, trivial⟩, (Tk.ent (by repeat (first | exact .n | exact Rm.h | exact Rm.of own_row | exact Rm.of row_close0 | apply Tk.c | apply Rm.t)))⟩⟩)))))); (focus refine SQ.make tt_ok rfl rfl n rfl rfl hn4 hn9 hn63 (fun g3 => ⟨trivial, ?_⟩); refine SQ.nil ?_; refine ⟨by decide +kernel, all_of [2] (by decide +kernel) ⟨⟨_, rfl, rfl, ?_⟩, trivial⟩⟩; (focus refine SQ.pures1 tt_ok rfl ?_; refine SQ.nil ?_; refine ⟨by decide +kernel, all_of [3] (by decide +kernel) ⟨⟨_, rfl, rfl, ?_⟩, trivial⟩⟩; (focus refine SQ.make tt_ok rfl rfl s rfl rfl hs4 hs9 hs63 (fun g2 => ⟨trivial, ?_⟩); refine SQ.nil ?_; refine ⟨by decide +kernel, all_of [6] (by decide +kernel) ⟨⟨_, rfl, rfl, ?_⟩, trivial⟩⟩; (focus refine SQ.pure1 tt_ok rfl ?_; refine SQ.nil ?_; refine ⟨by decide +kernel, all_of [7] (by decide +kernel) ⟨⟨_, rfl, rfl, ?_⟩, trivial⟩⟩; (focus refine SQ.new _ _ rfl rfl (fun d => ?_); refine SQ.nil ?_; refine ⟨by decide +kernel, all_of [8] (by decide +kernel) ⟨⟨_, rfl, rfl, ?_⟩, trivial⟩⟩; (focus refine SQ.pures1 tt_ok rfl ?_; refine SQ.nil ?_; exact ⟨by decide +kernel, ⟨(d, g1, g2, g3), ⟨rfl, rfl, rfl, trivial⟩, (Tk.ent (by repeat (first | exact .n | exact Rm.h | exact Rm.of own_row | exact Rm.of row_close0 | apply Tk.c | apply Rm.t)))⟩⟩))))))); (focus refine SQ.pures1 tt_ok rfl ?_; refine SQ.nil ?_; refine ⟨by decide +kernel, all_of [1, 3, 5] (by decide +kernel) ⟨⟨_, rfl, rfl, ?_⟩, ⟨_, rfl, rfl, ?_⟩, ⟨_, rfl, rfl, ?_⟩, trivial⟩⟩; (focus refine SQ.make tt_ok rfl rfl s rfl rfl hs4 hs8 hs63 (fun g1 => ⟨trivial, ?_⟩); refine SQ.nil ?_; refine ⟨by decide +kernel, all_of [3, 5] (by decide +kernel) ⟨⟨_, rfl, rfl, ?_⟩, ⟨_, rfl, rfl, ?_⟩, trivial⟩⟩; (focus refine SQ.make tt_ok rfl rfl s rfl rfl hs4 hs9 hs63 (fun g2 => ⟨trivial, ?_⟩); refine SQ.nil ?_; refine ⟨by decide +kernel, all_of [5] (by decide +kernel) ⟨⟨_, rfl, rfl, ?_⟩, trivial⟩⟩; (focus refine SQ.make tt_ok rfl rfl n rfl rfl hn4 hn9 hn63 (fun g3 => ⟨trivial, ?_⟩); refine SQ.nil ?_; refine ⟨by decide +kernel, all_of [6] (by decide +kernel) ⟨⟨_, rfl, rfl, ?_⟩, trivial⟩⟩; (focus refine SQ.pure1 tt_ok rfl ?_; refine SQ.nil ?_; refine ⟨by decide +kernel, all_of [7] (by decide +kernel) ⟨⟨_, rfl, rfl, ?_⟩, trivial⟩⟩; (focus refine SQ.new _ _ rfl rfl (fun d => ?_); refine SQ.nil ?_; refine ⟨by decide +kernel, all_of [8] (by decide +kernel) ⟨⟨_, rfl, rfl, ?_⟩, trivial⟩⟩; (focus refine SQ.pures1 tt_ok rfl ?_; refine SQ.nil ?_; exact ⟨by decide +kernel, ⟨(d, g1, g2, g3), ⟨rfl, rfl, rfl, trivial⟩, (Tk.ent (by repeat (first | exact .n | exact Rm.h | exact Rm.of own_row | exact Rm.of row_close0 | apply Tk.c | apply Rm.t)))⟩⟩))))); (focus refine SQ.make tt_ok rfl rfl n rfl rfl hn4 hn9 hn63 (fun g3 => ⟨trivial, ?_⟩); refine SQ.nil ?_; refine ⟨by decide +kernel, all_of [3] (by decide +kernel) ⟨⟨_, rfl, rfl, ?_⟩, trivial⟩⟩; (focus refine SQ.make tt_ok rfl rfl s rfl rfl hs4 hs9 hs63 (fun g2 => ⟨trivial, ?_⟩); refine SQ.nil ?_; refine ⟨by decide +kernel, all_of [6] (by decide +kernel) ⟨⟨_, rfl, rfl, ?_⟩, trivial⟩⟩; (focus refine SQ.pure1 tt_ok rfl ?_; refine SQ.nil ?_; refine ⟨by decide +kernel, all_of [7] (by decide +kernel) ⟨⟨_, rfl, rfl, ?_⟩, trivial⟩⟩; (focus refine SQ.new _ _ rfl rfl (fun d => ?_); refine SQ.nil ?_; refine ⟨by decide +kernel, all_of [8] (by decide +kernel) ⟨⟨_, rfl, rfl, ?_⟩, trivial⟩⟩; (focus refine SQ.pures1 tt_ok rfl ?_; refine SQ.nil ?_; exact ⟨by decide +kernel, ⟨(d, g1, g2, g3), ⟨rfl, rfl, rfl, trivial⟩, (Tk.ent (by repeat (first | exact .n | exact Rm.h | exact Rm.of own_row | exact Rm.of row_close0 | apply Tk.c | apply Rm.t)))⟩⟩)))))); (focus refine SQ.make tt_ok rfl rfl s rfl rfl hs4 hs9 hs63 (fun g2 => ⟨trivial, ?_⟩); refine SQ.nil ?_; refine ⟨by decide +kernel, all_of [1, 5] (by decide +kernel) ⟨⟨_, rfl, rfl, ?_⟩, ⟨_, rfl, rfl, ?_⟩, trivial⟩⟩; (focus refine SQ.make tt_ok rfl rfl s rfl rfl hs4 hs8 hs63 (fun g1 => ⟨trivial, ?_⟩); refine SQ.nil ?_; refine ⟨by decide +kernel, all_of [5] (by decide +kernel) ⟨⟨_, rfl, rfl, ?_⟩, trivial⟩⟩; (focus refine SQ.make tt_ok rfl rfl n rfl rfl hn4 hn9 hn63 (fun g3 => ⟨trivial, ?_⟩); refine SQ.nil ?_; refine ⟨by decide +kernel, all_of [6] (by decide +kernel) ⟨⟨_, rfl, rfl, ?_⟩, trivial⟩⟩; (focus refine SQ.pure1 tt_ok rfl ?_; refine SQ.nil ?_; refine ⟨by decide +kernel, all_of [7] (by decide +kernel) ⟨⟨_, rfl, rfl, ?_⟩, trivial⟩⟩; (focus refine SQ.new _ _ rfl rfl (fun d => ?_); refine SQ.nil ?_; refine ⟨by decide +kernel, all_of [8] (by decide +kernel) ⟨⟨_, rfl, rfl, ?_⟩, trivial⟩⟩; (focus refine SQ.pures1 tt_ok rfl ?_; refine SQ.nil ?_; exact ⟨by decide +kernel, ⟨(d, g1, g2, g3), ⟨rfl, rfl, rfl, trivial⟩, (Tk.ent (by repeat (first | exact .n | exact Rm.h | exact Rm.of own_row | exact Rm.of row_close0 | apply Tk.c | apply Rm.t)))⟩⟩))))); (focus refine SQ.make tt_ok rfl rfl n rfl rfl hn4 hn9 hn63 (fun g3 => ⟨trivial, ?_⟩); refine SQ.nil ?_; refine ⟨by decide +kernel, all_of [1] (by decide +kernel) ⟨⟨_, rfl, rfl, ?_⟩, trivial⟩⟩; (focus refine SQ.make tt_ok rfl rfl s rfl rfl hs4 hs8 hs63 (fun g1 => ⟨trivial, ?_⟩); refine SQ.nil ?_; refine ⟨by decide +kernel, all_of [6] (by decide +kernel) ⟨⟨_, rfl, rfl, ?_⟩, trivial⟩⟩; (focus refine SQ.pure1 tt_ok rfl ?_; refine SQ.nil ?_; refine ⟨by decide +kernel, all_of [7] (by decide +kernel) ⟨⟨_, rfl, rfl, ?_⟩, trivial⟩⟩; (focus refine SQ.new _ _ rfl rfl (fun d => ?_); refine SQ.nil ?_; refine ⟨by decide +kernel, all_of [8] (by decide +kernel) ⟨⟨_, rfl, rfl, ?_⟩, trivial⟩⟩; (focus refine SQ.pures1 tt_ok rfl ?_; refine SQ.nil ?_; exact ⟨by decide +kernel, ⟨(d, g1, g2, g3), ⟨rfl, rfl, rfl, trivial⟩, (Tk.ent (by repeat (first | exact .n | exact Rm.h | exact Rm.of own_row | exact Rm.of row_close0 | apply Tk.c | apply Rm.t)))⟩⟩)))))); (focus refine SQ.make tt_ok rfl rfl n rfl rfl hn4 hn9 hn63 (fun g3 => ⟨trivial, ?_⟩); refine SQ.nil ?_; refine ⟨by decide +kernel, all_of [1, 3] (by decide +kernel) ⟨⟨_, rfl, rfl, ?_⟩, ⟨_, rfl, rfl, ?_⟩, trivial⟩⟩; (focus refine SQ.make tt_ok rfl rfl s rfl rfl hs4 hs8 hs63 (fun g1 => ⟨trivial, ?_⟩); refine SQ.nil ?_; refine ⟨by decide +kernel, all_of [3] (by decide +kernel) ⟨⟨_, rfl, rfl, ?_⟩, trivial⟩⟩; (focus refine SQ.make tt_ok rfl rfl s rfl rfl hs4 hs9 hs63 (fun g2 => ⟨trivial, ?_⟩); refine SQ.nil ?_; refine ⟨by decide +kernel, all_of [6] (by decide +kernel) ⟨⟨_, rfl, rfl, ?_⟩, trivial⟩⟩; (focus refine SQ.pure1 tt_ok rfl ?_; refine SQ.nil ?_; refine ⟨by decide +kernel, all_of [7] (by decide +kernel) ⟨⟨_, rfl, rfl, ?_⟩, trivial⟩⟩; (focus refine SQ.new _ _ rfl rfl (fun d => ?_); refine SQ.nil ?_; refine ⟨by decide +kernel, all_of [8] (by decide +kernel) ⟨⟨_, rfl, rfl, ?_⟩, trivial⟩⟩; (focus refine SQ.pures1 tt_ok rfl ?_; refine SQ.nil ?_; exact ⟨by decide +kernel, ⟨(d, g1, g2, g3), ⟨rfl, rfl, rfl, trivial⟩, (Tk.ent (by repeat (first | exact .n | exact Rm.h | exact Rm.of own_row | exact Rm.of row_close0 | apply Tk.c | apply Rm.t)))⟩⟩))))); (focus refine SQ.make tt_ok rfl rfl s rfl rfl hs4 hs9 hs63 (fun g2 => ⟨trivial, ?_⟩); refine SQ.nil ?_; refine ⟨by decide +kernel, all_of [1] (by decide +kernel) ⟨⟨_, rfl, rfl, ?_⟩, trivial⟩⟩; (focus refine SQ.make tt_ok rfl rfl s rfl rfl hs4 hs8 hs63 (fun g1 => ⟨trivial, ?_⟩); refine SQ.nil ?_; refine ⟨by decide +kernel, all_of [6] (by decide +kernel) ⟨⟨_, rfl, rfl, ?_⟩, trivial⟩⟩; (focus refine SQ.pure1 tt_ok rfl ?_; refine SQ.nil ?_; refine ⟨by decide +kernel, all_of [7] (by decide +kernel) ⟨⟨_, rfl, rfl, ?_⟩, trivial⟩⟩; (focus refine SQ.new _ _ rfl rfl (fun d => ?_); refine SQ.nil ?_; refine ⟨by decide +kernel, all_of [8] (by decide +kernel) ⟨⟨_, rfl, rfl, ?_⟩, trivial⟩⟩; (focus refine SQ.pures1 tt_ok rfl ?_; refine SQ.nil ?_; exact ⟨by decide +kernel, ⟨(d, g1, g2, g3), ⟨rfl, rfl, rfl, trivial⟩, (Tk.ent (by repeat (first | exact .n | exact Rm.h | exact Rm.of own_row | exact Rm.of row_close0 | apply Tk.c | apply Rm.t)))⟩⟩))))))); (focus refine SQ.make tt_ok rfl rfl n rfl rfl hn4 hn9 hn63 (fun g3 => ⟨trivial, ?_⟩); refine SQ.nil ?_; refine ⟨by decide +kernel, all_of [1, 2] (by decide +kernel) ⟨⟨_, rfl, rfl, ?_⟩, ⟨_, rfl, rfl, ?_⟩, trivial⟩⟩; (focus refine SQ.make tt_ok rfl rfl s rfl rfl hs4 hs8 hs63 (fun g1 => ⟨trivial, ?_⟩); refine SQ.nil ?_; refine ⟨by decide +kernel, all_of [2] (by decide +kernel) ⟨⟨_, rfl, rfl, ?_⟩, trivial⟩⟩; (focus refine SQ.pures1 tt_ok rfl ?_; refine SQ.nil ?_; refine ⟨by decide +kernel, all_of [3] (by decide +kernel) ⟨⟨_, rfl, rfl, ?_⟩, trivial⟩⟩; (focus refine SQ.make tt_ok rfl rfl s rfl rfl hs4 hs9 hs63 (fun g2 => ⟨trivial, ?_⟩); refine SQ.nil ?_; refine ⟨by decide +kernel, all_of [6] (by decide +kernel) ⟨⟨_, rfl, rfl, ?_⟩, trivial⟩⟩; (focus refine SQ.pure1 tt_ok rfl ?_; refine SQ.nil ?_; refine ⟨by decide +kernel, all_of [7] (by decide +kernel) ⟨⟨_, rfl, rfl, ?_⟩, trivial⟩⟩; (focus refine SQ.new _ _ rfl rfl (fun d => ?_); refine SQ.nil ?_; refine ⟨by decide +kernel, all_of [8] (by decide +kernel) ⟨⟨_, rfl, rfl, ?_⟩, trivial⟩⟩; (focus refine SQ.pures1 tt_ok rfl ?_; refine SQ.nil ?_; exact ⟨by decide +kernel, ⟨(d, g1, g2, g3), ⟨rfl, rfl, rfl, trivial⟩, (Tk.ent (by repeat (first | exact .n | exact Rm.h | exact Rm.of own_row | exact Rm.of row_close0 | apply Tk.c | apply Rm.t)))⟩⟩)))))); (focus refine SQ.pures1 tt_ok rfl ?_; refine SQ.nil ?_; refine ⟨by decide +kernel, all_of [1, 3] (by decide +kernel) ⟨⟨_, rfl, rfl, ?_⟩, ⟨_, rfl, rfl, ?_⟩, trivial⟩⟩; (focus refine SQ.make tt_ok rfl rfl s rfl rfl hs4 hs8 hs63 (fun g1 => ⟨trivial, ?_⟩); refine SQ.nil ?_; refine ⟨by decide +kernel, all_of [3] (by decide +kernel) ⟨⟨_, rfl, rfl, ?_⟩, trivial⟩⟩; (focus refine SQ.make tt_ok rfl rfl s rfl rfl hs4 hs9 hs63 (fun g2 => ⟨trivial, ?_⟩); refine SQ.nil ?_; refine ⟨by decide +kernel, all_of [6] (by decide +kernel) ⟨⟨_, rfl, rfl, ?_⟩, trivial⟩⟩; (focus refine SQ.pure1 tt_ok rfl ?_; refine SQ.nil ?_; refine ⟨by decide +kernel, all_of [7] (by decide +kernel) ⟨⟨_, rfl, rfl, ?_⟩, trivial⟩⟩; (focus refine SQ.new _ _ rfl rfl (fun d => ?_); refine SQ.nil ?_; refine ⟨by decide +kernel, all_of [8] (by decide +kernel) ⟨⟨_, rfl, rfl, ?_⟩, trivial⟩⟩; (focus refine SQ.pures1 tt_ok rfl ?_; refine SQ.nil ?_; exact ⟨by decide +kernel, ⟨(d, g1, g2, g3), ⟨rfl, rfl, rfl, trivial⟩, (Tk.ent (by repeat (first | exact .n | exact Rm.h | exact Rm.of own_row | exact Rm.of row_close0 | apply Tk.c | apply Rm.t)))⟩⟩))))); (focus refine SQ.make tt_ok rfl rfl s rfl rfl hs4 hs9 hs63 (fun g2 => ⟨trivial, ?_⟩); refine SQ.nil ?_; refine ⟨by decide +kernel, all_of [1] (by decide +kernel) ⟨⟨_, rfl, rfl, ?_⟩, trivial⟩⟩; (focus refine SQ.make tt_ok rfl rfl s rfl rfl hs4 hs8 hs63 (fun g1 => ⟨trivial, ?_⟩); refine SQ.nil ?_; refine ⟨by decide +kernel, all_of [6] (by decide +kernel) ⟨⟨_, rfl, rfl, ?_⟩, trivial⟩⟩; (focus refine SQ.pure1 tt_ok rfl ?_; refine SQ.nil ?_; refine ⟨by decide +kernel, all_of [7] (by decide +kernel) ⟨⟨_, rfl, rfl, ?_⟩, trivial⟩⟩; (focus refine SQ.new _ _ rfl rfl (fun d => ?_); refine SQ.nil ?_; refine ⟨by decide +kernel, all_of [8] (by decide +kernel) ⟨⟨_, rfl, rfl, ?_⟩, trivial⟩⟩; (focus refine SQ.pures1 tt_ok rfl ?_; refine SQ.nil ?_; exact ⟨by decide +kernel, ⟨(d, g1, g2, g3), ⟨rfl, rfl, rfl, trivial⟩, (Tk.ent (by repeat (first | exact .n | exact Rm.h | exact Rm.of own_row | exact Rm.of row_close0 | apply Tk.c | apply Rm.t)))⟩⟩)))))))); (focus refine SQ.pures1 tt_ok rfl ?_; refine SQ.nil ?_; refine ⟨by decide +kernel, all_of [0, 3, 5] (by decide +kernel) ⟨⟨_, rfl, rfl, ?_⟩, ⟨_, rfl, rfl, ?_⟩, ⟨_, rfl, rfl, ?_⟩, trivial⟩⟩; (focus refine SQ.pures1 tt_ok rfl ?_; refine SQ.nil ?_; refine ⟨by decide +kernel, all_of [1, 3, 5] (by decide +kernel) ⟨⟨_, rfl, rfl, ?_⟩, ⟨_, rfl, rfl, ?_⟩, ⟨_, rfl, rfl, ?_⟩, trivial⟩⟩; (focus refine SQ.make tt_ok rfl rfl s rfl rfl hs4 hs8 hs63 (fun g1 => ⟨trivial, ?_⟩); refine SQ.nil ?_; refine ⟨by decide +kernel, all_of [3, 5] (by decide +kernel) ⟨⟨_, rfl, rfl, ?_⟩, ⟨_, rfl, rfl, ?_⟩, trivial⟩⟩; (focus refine SQ.make tt_ok rfl rfl s rfl rfl hs4 hs9 hs63 (fun g2 => ⟨trivial, ?_⟩); refine SQ.nil ?_; refine ⟨by decide +kernel, all_of [5] (by decide +kernel) ⟨⟨_, rfl, rfl, ?_⟩, trivial⟩⟩; (focus refine SQ.make tt_ok rfl rfl n rfl rfl hn4 hn9 hn63 (fun g3 => ⟨trivial, ?_⟩); refine SQ.nil ?_; refine ⟨by decide +kernel, all_of [6] (by decide +kernel) ⟨⟨_, rfl, rfl, ?_⟩, trivial⟩⟩; (focus refine SQ.pure1 tt_ok rfl ?_; refine SQ.nil ?_; refine ⟨by decide +kernel, all_of [7] (by decide +kernel) ⟨⟨_, rfl, rfl, ?_⟩, trivial⟩⟩; (focus refine SQ.new _ _ rfl rfl (fun d => ?_); refine SQ.nil ?_; refine ⟨by decide +kernel, all_of [8] (by decide +kernel) ⟨⟨_, rfl, rfl, ?_⟩, trivial⟩⟩; (focus refine SQ.pures1 tt_ok rfl ?_; refine SQ.nil ?_; exact ⟨by decide +kernel, ⟨(d, g1, g2, g3), ⟨rfl, rfl, rfl, trivial⟩, (Tk.ent (by repeat (first | exact .n | exact Rm.h | exact Rm.of own_row | exact Rm.of row_close0 | apply Tk.c | apply Rm.t)))⟩⟩))))); (focus refine SQ.make tt_ok rfl rfl n rfl rfl hn4 hn9 hn63 (fun g3 => ⟨trivial, ?_⟩); refine SQ.nil ?_; refine ⟨by decide +kernel, all_of [3] (by decide +kernel) ⟨⟨_, rfl, rfl, ?_⟩, trivial⟩⟩; (focus refine SQ.make tt_ok rfl rfl s rfl rfl hs4 hs9 hs63 (fun g2 => ⟨trivial, ?_⟩); refine SQ.nil ?_; refine ⟨by decide +kernel, all_of [6] (by decide +kernel) ⟨⟨_, rfl, rfl, ?_⟩, trivial⟩⟩; (focus refine SQ.pure1 tt_ok rfl ?_; refine SQ.nil ?_; refine ⟨by decide +kernel, all_of [7] (by decide +kernel) ⟨⟨_, rfl, rfl, ?_⟩, trivial⟩⟩; (focus refine SQ.new _ _ rfl rfl (fun d => ?_); refine SQ.nil ?_; refine ⟨by decide +kernel, all_of [8] (by decide +kernel) ⟨⟨_, rfl, rfl, ?_⟩, trivial⟩⟩; (focus refine SQ.pures1 tt_ok rfl ?_; refine SQ.nil ?_; exact ⟨by decide +kernel, ⟨(d, g1, g2, g3), ⟨rfl, rfl, rfl, trivial⟩, (Tk.ent (by repeat (first | exact .n | exact Rm.h | exact Rm.of own_row | exact Rm.of row_close0 | apply Tk.c | apply Rm.t)))⟩⟩)))))); (focus refine SQ.make tt_ok rfl rfl s rfl rfl hs4 hs9 hs63 (fun g2 => ⟨trivial, ?_⟩); refine SQ.nil ?_; refine ⟨by decide +kernel, all_of [1, 5] (by decide +kernel) ⟨⟨_, rfl, rfl, ?_⟩, ⟨_, rfl, rfl, ?_⟩, trivial⟩⟩; (focus refine SQ.make tt_ok rfl rfl s rfl rfl hs4 hs8 hs63 (fun g1 => ⟨trivial, ?_⟩); refine SQ.nil ?_; refine ⟨by decide +kernel, all_of [5] (by decide +kernel) ⟨⟨_, rfl, rfl, ?_⟩, trivial⟩⟩; (focus refine SQ.make tt_ok rfl rfl n rfl rfl hn4 hn9 hn63 (fun g3 => ⟨trivial, ?_⟩); refine SQ.nil ?_; refine ⟨by decide +kernel, all_of [6] (by decide +kernel) ⟨⟨_, rfl, rfl, ?_⟩, trivial⟩⟩; (focus refine SQ.pure1 tt_ok rfl ?_; refine SQ.nil ?_; refine ⟨by decide +kernel, all_of [7] (by decide +kernel) ⟨⟨_, rfl, rfl, ?_⟩, trivial⟩⟩; (focus refine SQ.new _ _ rfl rfl (fun d => ?_); refine SQ.nil ?_; refine ⟨by decide +kernel, all_of [8] (by decide +kernel) ⟨⟨_, rfl, rfl, ?_⟩, trivial⟩⟩; (focus refine SQ.pures1 tt_ok rfl ?_; refine SQ.nil ?_; exact ⟨by decide +kernel, ⟨(d, g1, g2, g3), ⟨rfl, rfl, rfl, trivial⟩, (Tk.ent (by repeat (first | exact .n | exact Rm.h | exact Rm.of own_row | exact Rm.of row_close0 | apply Tk.c | apply Rm.t)))⟩⟩))))); (focus refine SQ.make tt_ok rfl rfl n rfl rfl hn4 hn9 hn63 (fun g3 => ⟨trivial, ?_⟩); refine SQ.nil ?_; refine ⟨by decide +kernel, all_of [1] (by decide +kernel) ⟨⟨_, rfl, rfl, ?_⟩, trivial⟩⟩; (focus refine SQ.make tt_ok rfl rfl s rfl rfl hs4 hs8 hs63 (fun g1 => ⟨trivial, ?_⟩); refine SQ.nil ?_; refine ⟨by decide +kernel, all_of [6] (by decide +kernel) ⟨⟨_, rfl, rfl, ?_⟩, trivial⟩⟩; (focus refine SQ.pure1 tt_ok rfl ?_; refine SQ.nil ?_; refine ⟨by decide +kernel, all_of [7] (by decide +kernel) ⟨⟨_, rfl, rfl, ?_⟩, trivial⟩⟩; (focus refine SQ.new _ _ rfl rfl (fun d => ?_); refine SQ.nil ?_; refine ⟨by decide +kernel, all_of [8] (by decide +kernel) ⟨⟨_, rfl, rfl, ?_⟩, trivial⟩⟩; (focus refine SQ.pures1 tt_ok rfl ?_; refine SQ.nil ?_; exact ⟨by decide +kernel, ⟨(d, g1, g2, g3), ⟨rfl, rfl, rfl, trivial⟩, (Tk.ent (by repeat (first | exact .n | exact Rm.h | exact Rm.of own_row | exact Rm.of row_close0 | apply Tk.c | apply Rm.t)))⟩⟩)))))); (focus refine SQ.make tt_ok rfl rfl n rfl rfl hn4 hn9 hn63 (fun g3 => ⟨trivial, ?_⟩); refine SQ.nil ?_; refine ⟨by decide +kernel, all_of [1, 3] (by decide +kernel) ⟨⟨_, rfl, rfl, ?_⟩, ⟨_, rfl, rfl, ?_⟩, trivial⟩⟩; (focus refine SQ.make tt_ok rfl rfl s rfl rfl hs4 hs8 hs63 (fun g1 => ⟨trivial, ?_⟩); refine SQ.nil ?_; refine ⟨by decide +kernel, all_of [3] (by decide +kernel) ⟨⟨_, rfl, rfl, ?_⟩, trivial⟩⟩; (focus refine SQ.make tt_ok rfl rfl s rfl rfl hs4 hs9 hs63 (fun g2 => ⟨trivial, ?_⟩); refine SQ.nil ?_; refine ⟨by decide +kernel, all_of [6] (by decide +kernel) ⟨⟨_, rfl, rfl, ?_⟩, trivial⟩⟩; (focus refine SQ.pure1 tt_ok rfl ?_; refine SQ.nil ?_; refine ⟨by decide +kernel, all_of [7] (by decide +kernel) ⟨⟨_, rfl, rfl, ?_⟩, trivial⟩⟩; (focus refine SQ.new _ _ rfl rfl (fun d => ?_); refine SQ.nil ?_; refine ⟨by decide +kernel, all_of [8] (by decide +kernel) ⟨⟨_, rfl, rfl, ?_⟩, trivial⟩⟩; (focus refine SQ.pures1 tt_ok rfl ?_; refine SQ.nil ?_; exact ⟨by decide +kernel, ⟨(d, g1, g2, g3), ⟨rfl, rfl, rfl, trivial⟩, (Tk.ent (by repeat (first | exact .n | exact Rm.h | exact Rm.of own_row | exact Rm.of row_close0 | apply Tk.c | apply Rm.t)))⟩⟩))))); (focus refine SQ.make tt_ok rfl rfl s rfl rfl hs4 hs9 hs63 (fun g2 => ⟨trivial, ?_⟩); refine SQ.nil ?_; refine ⟨by decide +kernel, all_of [1] (by decide +kernel) ⟨⟨_, rfl, rfl, ?_⟩, trivial⟩⟩; (focus refine SQ.make tt_ok rfl rfl s rfl rfl hs4 hs8 hs63 (fun g1 => ⟨trivial, ?_⟩); refine SQ.nil ?_; refine ⟨by decide +kernel, all_of [6] (by decide +kernel) ⟨⟨_, rfl, rfl, ?_⟩, trivial⟩⟩; (focus refine SQ.pure1 tt_ok rfl ?_; refine SQ.nil ?_; refine ⟨by decide +kernel, all_of [7] (by decide +kernel) ⟨⟨_, rfl, rfl, ?_⟩, trivial⟩⟩; (focus refine SQ.new _ _ rfl rfl (fun d => ?_); refine SQ.nil ?_; refine ⟨by decide +kernel, all_of [8] (by decide +kernel) ⟨⟨_, rfl, rfl, ?_⟩, trivial⟩⟩; (focus refine SQ.pures1 tt_ok rfl ?_; refine SQ.nil ?_; exact ⟨by decide +kernel, ⟨(d, g1, g2, g3), ⟨rfl, rfl, rfl, trivial⟩, (Tk.ent (by repeat (first | exact .n | exact Rm.h | exact Rm.of own_row | exact Rm.of row_close0 | apply Tk.c | apply Rm.t)))⟩⟩))))))); (focus refine SQ.make tt_ok rfl rfl s rfl rfl hs4 hs9 hs63 (fun g2 => ⟨trivial, ?_⟩); refine SQ.nil ?_; refine ⟨by decide +kernel, all_of [0, 5] (by decide +kernel) ⟨⟨_, rfl, rfl, ?_⟩, ⟨_, rfl, rfl, ?_⟩, trivial⟩⟩; (focus refine SQ.pures1 tt_ok rfl ?_; refine SQ.nil ?_; refine ⟨by decide +kernel, all_of [1, 5] (by decide +kernel) ⟨⟨_, rfl, rfl, ?_⟩, ⟨_, rfl, rfl, ?_⟩, trivial⟩⟩; (focus refine SQ.make tt_ok rfl rfl s rfl rfl hs4 hs8 hs63 (fun g1 => ⟨trivial, ?_⟩); refine SQ.nil ?_; refine ⟨by decide +kernel, all_of [5] (by decide +kernel) ⟨⟨_, rfl, rfl, ?_⟩, trivial⟩⟩; (focus refine SQ.make tt_ok rfl rfl n rfl rfl hn4 hn9 hn63 (fun g3 => ⟨trivial, ?_⟩); refine SQ.nil ?_; refine ⟨by decide +kernel, all_of [6] (by decide +kernel) ⟨⟨_, rfl, rfl, ?_⟩, trivial⟩⟩; (focus refine SQ.pure1 tt_ok rfl ?_; refine SQ.nil ?_; refine ⟨by decide +kernel, all_of [7] (by decide +kernel) ⟨⟨_, rfl, rfl, ?_⟩, trivial⟩⟩; (focus refine SQ.new _ _ rfl rfl (fun d => ?_); refine SQ.nil ?_; refine ⟨by decide +kernel, all_of [8] (by decide +kernel) ⟨⟨_, rfl, rfl, ?_⟩, trivial⟩⟩; (focus refine SQ.pures1 tt_ok rfl ?_; refine SQ.nil ?_; exact ⟨by decide +kernel, ⟨(d, g1, g2, g3), ⟨rfl, rfl, rfl, trivial⟩, (Tk.ent (by repeat (first | exact .n | exact Rm.h | exact Rm.of own_row | exact Rm.of row_close0 | apply Tk.c | apply Rm.t)))⟩⟩))))); (focus refine SQ.make tt_ok rfl rfl n rfl rfl hn4 hn9 hn63 (fun g3 => ⟨trivial, ?_⟩); refine SQ.nil ?_; refine ⟨by decide +kernel, all_of [1] (by decide +kernel) ⟨⟨_, rfl, rfl, ?_⟩, trivial⟩⟩; (focus refine SQ.make tt_ok rfl rfl s rfl rfl hs4 hs8 hs63 (fun g1 => ⟨trivial, ?_⟩); refine SQ.nil ?_; refine ⟨by decide +kernel, all_of [6] (by decide +kernel) ⟨⟨_, rfl, rfl, ?_⟩, trivial⟩⟩; (focus refine SQ.pure1 tt_ok rfl ?_; refine SQ.nil ?_; refine ⟨by decide +kernel, all_of [7] (by decide +kernel) ⟨⟨_, rfl, rfl, ?_⟩, trivial⟩⟩; (focus refine SQ.new _ _ rfl rfl (fun d => ?_); refine SQ.nil ?_; refine ⟨by decide +kernel, all_of [8] (by decide +kernel) ⟨⟨_, rfl, rfl, ?_⟩, trivial⟩⟩; (focus refine SQ.pures1 tt_ok rfl ?_; refine SQ.nil ?_; exact ⟨by decide +kernel, ⟨(d, g1, g2, g3), ⟨rfl, rfl, rfl, trivial⟩, (Tk.ent (by repeat (first | exact .n | exact Rm.h | exact Rm.of own_row | exact Rm.of row_close0 | apply Tk.c | apply Rm.t)))⟩⟩)))))); (focus refine SQ.make tt_ok rfl rfl n rfl rfl hn4 hn9 hn63 (fun g3 => ⟨trivial, ?_⟩); refine SQ.nil ?_; refine ⟨by decide +kernel, all_of [0] (by decide +kernel) ⟨⟨_, rfl, rfl, ?_⟩, trivial⟩⟩; (focus refine SQ.pures1 tt_ok rfl ?_; refine SQ.nil ?_; refine ⟨by decide +kernel, all_of [1] (by decide +kernel) ⟨⟨_, rfl, rfl, ?_⟩, trivial⟩⟩; (focus refine SQ.make tt_ok rfl rfl s rfl rfl hs4 hs8 hs63 (fun g1 => ⟨trivial, ?_⟩); refine SQ.nil ?_; refine ⟨by decide +kernel, all_of [6] (by decide +kernel) ⟨⟨_, rfl, rfl, ?_⟩, trivial⟩⟩; (focus refine SQ.pure1 tt_ok rfl ?_; refine SQ.nil ?_; refine ⟨by decide +kernel, all_of [7] (by decide +kernel) ⟨⟨_, rfl, rfl, ?_⟩, trivial⟩⟩; (focus refine SQ.new _ _ rfl rfl (fun d => ?_); refine SQ.nil ?_; refine ⟨by decide +kernel, all_of [8] (by decide +kernel) ⟨⟨_, rfl, rfl, ?_⟩, trivial⟩⟩; (focus refine SQ.pures1 tt_ok rfl ?_; refine SQ.nil ?_; exact ⟨by decide +kernel, ⟨(d, g1, g2, g3), ⟨rfl, rfl, rfl, trivial⟩, (Tk.ent (by repeat (first | exact .n | exact Rm.h | exact Rm.of own_row | exact Rm.of row_close0 | apply Tk.c | apply Rm.t)))⟩⟩))))))); (focus refine SQ.make tt_ok rfl rfl n rfl rfl hn4 hn9 hn63 (fun g3 => ⟨trivial, ?_⟩); refine SQ.nil ?_; refine ⟨by decide +kernel, all_of [0, 3] (by decide +kernel) ⟨⟨_, rfl, rfl, ?_⟩, ⟨_, rfl, rfl, ?_⟩, trivial⟩⟩; (focus refine SQ.pures1 tt_ok rfl ?_; refine SQ.nil ?_; refine ⟨by decide +kernel, all_of [1, 3] (by decide +kernel) ⟨⟨_, rfl, rfl, ?_⟩, ⟨_, rfl, rfl, ?_⟩, trivial⟩⟩; (focus refine SQ.make tt_ok rfl rfl s rfl rfl hs4 hs8 hs63 (fun g1 => ⟨trivial, ?_⟩); refine SQ.nil ?_; refine ⟨by decide +kernel, all_of [3] (by decide +kernel) ⟨⟨_, rfl, rfl, ?_⟩, trivial⟩⟩; (focus refine SQ.make tt_ok rfl rfl s rfl rfl hs4 hs9 hs63 (fun g2 => ⟨trivial, ?_⟩); refine SQ.nil ?_; refine ⟨by decide +kernel, all_of [6] (by decide +kernel) ⟨⟨_, rfl, rfl, ?_⟩, trivial⟩⟩; (focus refine SQ.pure1 tt_ok rfl ?_; refine SQ.nil ?_; refine ⟨by decide +kernel, all_of [7] (by decide +kernel) ⟨⟨_, rfl, rfl, ?_⟩, trivial⟩⟩; (focus refine SQ.new _ _ rfl rfl (fun d => ?_); refine SQ.nil ?_; refine ⟨by decide +kernel, all_of [8] (by decide +kernel) ⟨⟨_, rfl, rfl, ?_⟩, trivial⟩⟩; (focus refine SQ.pures1 tt_ok rfl ?_; refine SQ.nil ?_; exact ⟨by decide +kernel, ⟨(d, g1, g2, g3), ⟨rfl, rfl, rfl, trivial⟩, (Tk.ent (by repeat (first | exact .n | exact Rm.h | exact Rm.of own_row | exact Rm.of row_close0 | apply Tk.c | apply Rm.t)))⟩⟩))))); (focus refine SQ.make tt_ok rfl rfl s rfl rfl hs4 hs9 hs63 (fun g2 => ⟨trivial, ?_⟩); refine SQ.nil ?_; refine ⟨by decide +kernel, all_of [1] (by decide +kernel) ⟨⟨_, rfl, rfl, ?_⟩, trivial⟩⟩; (focus refine SQ.make tt_ok rfl rfl s rfl rfl hs4 hs8 hs63 (fun g1 => ⟨trivial, ?_⟩); refine SQ.nil ?_; refine ⟨by decide +kernel, all_of [6] (by decide +kernel) ⟨⟨_, rfl, rfl, ?_⟩, trivial⟩⟩; (focus refine SQ.pure1 tt_ok rfl ?_; refine SQ.nil ?_; refine ⟨by decide +kernel, all_of [7] (by decide +kernel) ⟨⟨_, rfl, rfl, ?_⟩, trivial⟩⟩; (focus refine SQ.new _ _ rfl rfl (fun d => ?_); refine SQ.nil ?_; refine ⟨by decide +kernel, all_of [8] (by decide +kernel) ⟨⟨_, rfl, rfl, ?_⟩, trivial⟩⟩; (focus refine SQ.pures1 tt_ok rfl ?_; refine SQ.nil ?_; exact ⟨by decide +kernel, ⟨(d, g1, g2, g3), ⟨rfl, rfl, rfl, trivial⟩, (Tk.ent (by repeat (first | exact .n | exact Rm.h | exact Rm.of own_row | exact Rm.of row_close0 | apply Tk.c | apply Rm.t)))⟩⟩)))))); (focus refine SQ.make tt_ok rfl rfl s rfl rfl hs4 hs9 hs63 (fun g2 => ⟨trivial, ?_⟩); refine SQ.nil ?_; refine ⟨by decide +kernel, all_of [0] (by decide +kernel) ⟨⟨_, rfl, rfl, ?_⟩, trivial⟩⟩; (focus refine SQ.pures1 tt_ok rfl ?_; refine SQ.nil ?_; refine ⟨by decide +kernel, all_of [1] (by decide +kernel) ⟨⟨_, rfl, rfl, ?_⟩, trivial⟩⟩; (focus refine SQ.make tt_ok rfl rfl s rfl rfl hs4 hs8 hs63 (fun g1 => ⟨trivial, ?_⟩); refine SQ.nil ?_; refine ⟨by decide +kernel, all_of [6] (by decide +kernel) ⟨⟨_, rfl, rfl, ?_⟩, trivial⟩⟩; (focus refine SQ.pure1 tt_ok rfl ?_; refine SQ.nil ?_; refine ⟨by decide +kernel, all_of [7] (by decide +kernel) ⟨⟨_, rfl, rfl, ?_⟩, trivial⟩⟩; (focus refine SQ.new _ _ rfl rfl (fun d => ?_); refine SQ.nil ?_; refine ⟨by decide +kernel, all_of [8] (by decide +kernel) ⟨⟨_, rfl, rfl, ?_⟩, trivial⟩⟩; (focus refine SQ.pures1 tt_ok rfl ?_; refine SQ.nil ?_; exact ⟨by decide +kernel, ⟨(d, g1, g2, g3), ⟨rfl, rfl, rfl, trivial⟩, (Tk.ent (by repeat (first | exact .n | exact Rm.h | exact Rm.of own_row | exact Rm.of row_close0 | apply Tk.c | apply Rm.t)))⟩⟩)))))))); (focus refine SQ.make tt_ok rfl rfl n rfl rfl hn4 hn9 hn63 (fun g3 => ⟨trivial, ?_⟩); refine SQ.nil ?_; refine ⟨by decide +kernel, all_of [0, 2] (by decide +kernel) ⟨⟨_, rfl, rfl, ?_⟩, ⟨_, rfl, rfl, ?_⟩, trivial⟩⟩; (focus refine SQ.pures1 tt_ok rfl ?_; refine SQ.nil ?_; refine ⟨by decide +kernel, all_of [1, 2] (by decide +kernel) ⟨⟨_, rfl, rfl, ?_⟩, ⟨_, rfl, rfl, ?_⟩, trivial⟩⟩; (focus refine SQ.make tt_ok rfl rfl s rfl rfl hs4 hs8 hs63 (fun g1 => ⟨trivial, ?_⟩); refine SQ.nil ?_; refine ⟨by decide +kernel, all_of [2] (by decide +kernel) ⟨⟨_, rfl, rfl, ?_⟩, trivial⟩⟩; (focus refine SQ.pures1 tt_ok rfl ?_; refine SQ.nil ?_; refine ⟨by decide +kernel, all_of [3] (by decide +kernel) ⟨⟨_, rfl, rfl, ?_⟩, trivial⟩⟩; (focus refine SQ.make tt_ok rfl rfl s rfl rfl hs4 hs9 hs63 (fun g2 => ⟨trivial, ?_⟩); refine SQ.nil ?_; refine ⟨by decide +kernel, all_of [6] (by decide +kernel) ⟨⟨_, rfl, rfl, ?_⟩, trivial⟩⟩; (focus refine SQ.pure1 tt_ok rfl ?_; refine SQ.nil ?_; refine ⟨by decide +kernel, all_of [7] (by decide +kernel) ⟨⟨_, rfl, rfl, ?_⟩, trivial⟩⟩; (focus refine SQ.new _ _ rfl rfl (fun d => ?_); refine SQ.nil ?_; refine ⟨by decide +kernel, all_of [8] (by decide +kernel) ⟨⟨_, rfl, rfl, ?_⟩, trivial⟩⟩; (focus refine SQ.pures1 tt_ok rfl ?_; refine SQ.nil ?_; exact ⟨by decide +kernel, ⟨(d, g1, g2, g3), ⟨rfl, rfl, rfl, trivial⟩, (Tk.ent (by repeat (first | exact .n | exact Rm.h | exact Rm.of own_row | exact Rm.of row_close0 | apply Tk.c | apply Rm.t)))⟩⟩)))))); (focus refine SQ.pures1 tt_ok rfl ?_; refine SQ.nil ?_; refine ⟨by decide +kernel, all_of [1, 3] (by decide +kernel) ⟨⟨_, rfl, rfl, ?_⟩, ⟨_, rfl, rfl, ?_⟩, trivial⟩⟩; (focus refine SQ.make tt_ok rfl rfl s rfl rfl hs4 hs8 hs63 (fun g1 => ⟨trivial, ?_⟩); refine SQ.nil ?_; refine ⟨by decide +kernel, all_of [3] (by decide +kernel) ⟨⟨_, rfl, rfl, ?_⟩, trivial⟩⟩; (focus refine SQ.make tt_ok rfl rfl s rfl rfl hs4 hs9 hs63 (fun g2 => ⟨trivial, ?_⟩); refine SQ.nil ?_; refine ⟨by decide +kernel, all_of [6] (by decide +kernel) ⟨⟨_, rfl, rfl, ?_⟩, trivial⟩⟩; (focus refine SQ.pure1 tt_ok rfl ?_; refine SQ.nil ?_; refine ⟨by decide +kernel, all_of [7] (by decide +kernel) ⟨⟨_, rfl, rfl, ?_⟩, trivial⟩⟩; (focus refine SQ.new _ _ rfl rfl (fun d => ?_); refine SQ.nil ?_; refine ⟨by decide +kernel, all_of [8] (by decide +kernel) ⟨⟨_, rfl, rfl, ?_⟩, trivial⟩⟩; (focus refine SQ.pures1 tt_ok rfl ?_; refine SQ.nil ?_; exact ⟨by decide +kernel, ⟨(d, g1, g2, g3), ⟨rfl, rfl, rfl, trivial⟩, (Tk.ent (by repeat (first | exact .n | exact Rm.h | exact Rm.of own_row | exact Rm.of row_close0 | apply Tk.c | apply Rm.t)))⟩⟩))))); (focus refine SQ.make tt_ok rfl rfl s rfl rfl hs4 hs9 hs63 (fun g2 => ⟨trivial, ?_⟩); refine SQ.nil ?_; refine ⟨by decide +kernel, all_of [1] (by decide +kernel) ⟨⟨_, rfl, rfl, ?_⟩, trivial⟩⟩; (focus refine SQ.make tt_ok rfl rfl s rfl rfl hs4 hs8 hs63 (fun g1 => ⟨trivial, ?_⟩); refine SQ.nil ?_; refine ⟨by decide +kernel, all_of [6] (by decide +kernel) ⟨⟨_, rfl, rfl, ?_⟩, trivial⟩⟩; (focus refine SQ.pure1 tt_ok rfl ?_; refine SQ.nil ?_; refine ⟨by decide +kernel, all_of [7] (by decide +kernel) ⟨⟨_, rfl, rfl, ?_⟩, trivial⟩⟩; (focus refine SQ.new _ _ rfl rfl (fun d => ?_); refine SQ.nil ?_; refine ⟨by decide +kernel, all_of [8] (by decide +kernel) ⟨⟨_, rfl, rfl, ?_⟩, trivial⟩⟩; (focus refine SQ.pures1 tt_ok rfl ?_; refine SQ.nil ?_; exact ⟨by decide +kernel, ⟨(d, g1, g2, g3), ⟨rfl, rfl, rfl, trivial⟩, (Tk.ent (by repeat (first | exact .n | exact Rm.h | exact Rm.of own_row | exact Rm.of row_close0 | apply Tk.c | apply Rm.t)))⟩⟩))))))); (focus refine SQ.pures1 tt_ok rfl ?_; refine SQ.nil ?_; refine ⟨by decide +kernel, all_of [0, 3] (by decide +kernel) ⟨⟨_, rfl, rfl, ?_⟩, ⟨_, rfl, rfl, ?_⟩, trivial⟩⟩; (focus refine SQ.pures1 tt_ok rfl ?_; refine SQ.nil ?_; refine ⟨by decide +kernel, all_of [1, 3] (by decide +kernel) ⟨⟨_, rfl, rfl, ?_⟩, ⟨_, rfl, rfl, ?_⟩, trivial⟩⟩; (focus refine SQ.make tt_ok rfl rfl s rfl rfl hs4 hs8 hs63 (fun g1 => ⟨trivial, ?_⟩); refine SQ.nil ?_; refine ⟨by decide +kernel, all_of [3] (by decide +kernel) ⟨⟨_, rfl, rfl, ?_⟩, trivial⟩⟩; (focus refine SQ.make tt_ok rfl rfl s rfl rfl hs4 hs9 hs63 (fun g2 => ⟨trivial, ?_⟩); refine SQ.nil ?_; refine ⟨by decide +kernel, all_of [6] (by decide +kernel) ⟨⟨_, rfl, rfl, ?_⟩, trivial⟩⟩; (focus refine SQ.pure1 tt_ok rfl ?_; refine SQ.nil ?_; refine ⟨by decide +kernel, all_of [7] (by decide +kernel) ⟨⟨_, rfl, rfl, ?_⟩, trivial⟩⟩; (focus refine SQ.new _ _ rfl rfl (fun d => ?_); refine SQ.nil ?_; refine ⟨by decide +kernel, all_of [8] (by decide +kernel) ⟨⟨_, rfl, rfl, ?_⟩, trivial⟩⟩; (focus refine SQ.pures1 tt_ok rfl ?_; refine SQ.nil ?_; exact ⟨by decide +kernel, ⟨(d, g1, g2, g3), ⟨rfl, rfl, rfl, trivial⟩, (Tk.ent (by repeat (first | exact .n | exact Rm.h | exact Rm.of own_row | exact Rm.of row_close0 | apply Tk.c | apply Rm.t)))⟩⟩))))); (focus refine SQ.make tt_ok rfl rfl s rfl rfl hs4 hs9 hs63 (fun g2 => ⟨trivial, ?_⟩); refine SQ.nil ?_; refine ⟨by decide +kernel, all_of [1] (by decide +kernel) ⟨⟨_, rfl, rfl, ?_⟩, trivial⟩⟩; (focus refine SQ.make tt_ok rfl rfl s rfl rfl hs4 hs8 hs63 (fun g1 => ⟨trivial, ?_⟩); refine SQ.nil ?_; refine ⟨by decide +kernel, all_of [6] (by decide +kernel) ⟨⟨_, rfl, rfl, ?_⟩, trivial⟩⟩; (focus refine SQ.pure1 tt_ok rfl ?_; refine SQ.nil ?_; refine ⟨by decide +kernel, all_of [7] (by decide +kernel) ⟨⟨_, rfl, rfl, ?_⟩, trivial⟩⟩; (focus refine SQ.new _ _ rfl rfl (fun d => ?_); refine SQ.nil ?_; refine ⟨by decide +kernel, all_of [8] (by decide +kernel) ⟨⟨_, rfl, rfl, ?_⟩, trivial⟩⟩; (focus refine SQ.pures1 tt_ok rfl ?_; refine SQ.nil ?_; exact ⟨by decide +kernel, ⟨(d, g1, g2, g3), ⟨rfl, rfl, rfl, trivial⟩, (Tk.ent (by repeat (first | exact .n | exact Rm.h | exact Rm.of own_row | exact Rm.of row_close0 | apply Tk.c | apply Rm.t)))⟩⟩)))))); (focus refine SQ.make tt_ok rfl rfl s rfl rfl hs4 hs9 hs63 (fun g2 => ⟨trivial, ?_⟩); refine SQ.nil ?_; refine ⟨by decide +kernel, all_of [0] (by decide +kernel) ⟨⟨_, rfl, rfl, ?_⟩, trivial⟩⟩; (focus refine SQ.pures1 tt_ok rfl ?_; refine SQ.nil ?_; refine ⟨by decide +kernel, all_of [1] (by decide +kernel) ⟨⟨_, rfl, rfl, ?_⟩, trivial⟩⟩; (focus refine SQ.make tt_ok rfl rfl s rfl rfl hs4 hs8 hs63 (fun g1 => ⟨trivial, ?_⟩); refine SQ.nil ?_; refine ⟨by decide +kernel, all_of [6] (by decide +kernel) ⟨⟨_, rfl, rfl, ?_⟩, trivial⟩⟩; (focus refine SQ.pure1 tt_ok rfl ?_; refine SQ.nil ?_; refine ⟨by decide +kernel, all_of [7] (by decide +kernel) ⟨⟨_, rfl, rfl, ?_⟩, trivial⟩⟩; (focus refine SQ.new _ _ rfl rfl (fun d => ?_); refine SQ.nil ?_; refine ⟨by decide +kernel, all_of [8] (by decide +kernel) ⟨⟨_, rfl, rfl, ?_⟩, trivial⟩⟩; (focus refine SQ.pures1 tt_ok rfl ?_; refine SQ.nil ?_; exact ⟨by decide +kernel, ⟨(d, g1, g2, g3), ⟨rfl, rfl, rfl, trivial⟩, (Tk.ent (by repeat (first | exact .n | exact Rm.h | exact Rm.of own_row | exact Rm.of row_close0 | apply Tk.c | apply Rm.t)))⟩⟩))))))))))
  · rintro ⟨d, g1, g2, g3⟩
    simp only
    (refine G tt_ok [] ?_; repeat (refine G1 tt_ok [] ?_; intro _))
    (refine ka rfl rfl (new33 β (first := 32) (n := s) (by omega) (by omega) (by omega) _) ?_; rintro _ _ ⟨sb, sq, sc, sq2, sc2, rfl, rfl⟩; refine w_ ?_)
    (refine G tt_ok [] ?_; repeat (refine G1 tt_ok [] ?_; intro _))
    refine CW.loop (α := List OB × Option Addr × Nat) (fun x => x.1.length ≤ n) (fun x => [(9, .int .i64 x.1.length), (0, .int .i64 n), (6, .pointer (some ⟨d, 0, none⟩))])
      (fun x => [pt d [.bool false, .bool false, .pointer (some ⟨sb, 0, none⟩), .slice (some ⟨g1, 0, none⟩) s s, .slice (some ⟨g2, 0, none⟩) s s, .slice x.2.1 x.1.length x.2.2, .slice (some ⟨g3, 0, none⟩) n n], own 97 1 (.slice x.2.1 x.1.length x.2.2) x.1.length (x.1.flatMap opC), pkA obF (x.1.zip (List.replicate x.1.length x0))] ++
        [pt sb [.int .i64 32, .slice sq (s : Int).toNat sc, .slice sq2 (s : Int).toNat sc2], rowA sq (s : Int).toNat ((List.replicate (s : Int).toNat zeroL).flatMap lnC), pt g1 (madeCells ti3.zero.cells (s * ti3.size)).toList, pt g2 (madeCells ti4.zero.cells (s * ti4.size)).toList, pt g3 (madeCells ti4.zero.cells (n * ti4.size)).toList]) (fun x => n - x.1.length) ([], none, 0) (by simp) ⟨rfl, rfl, rfl, trivial⟩ ?_ ?_
    · refine Ent.trans ((own_nil 97 1).trans (pk_nil (f := obF))) ?_
      exact pk_
    rintro ⟨os, qc, cc⟩ hl
    simp only at hl ⊢
    (refine G tt_ok [] ?_; repeat (refine G1 tt_ok [] ?_; intro _))
    by_cases hlt : os.length < n
    · rw [decide_eq_true (show (os.length : Int) < n by omega)]
      have hw : IntKind.i64.wrap ((os.length : Int) + 1) = ((os.length + 1 : Nat) : Int) := by rw [wrap_i64]; split <;> omega
      (refine G tt_ok [] ?_; repeat (refine G1 tt_ok [] ?_; intro _))
      (refine ka rfl rfl (new33 β (first := 0) (n := 32) (by omega) (by omega) (by omega) _) ?_; rintro _ _ ⟨b, bq, bc, bq2, bc2, rfl, rfl⟩; refine w_ ?_)
      (refine G tt_ok [] ?_; repeat (refine G1 tt_ok [] ?_; intro _))
      refine CW.loop (α := Nat) (fun j => j ≤ 16) (fun j => [(12, .int .i64 j), (10, .pointer (some ⟨b, 0, none⟩)), (9, .int .i64 os.length), (0, .int .i64 n), (6, .pointer (some ⟨d, 0, none⟩))])
        (fun j => OB.at_ ⟨b, bq, bc, bq2, bc2⟩ 0 (Bn.lsV (ownK j)) ++ ([pt d [.bool false, .bool false, .pointer (some ⟨sb, 0, none⟩), .slice (some ⟨g1, 0, none⟩) s s, .slice (some ⟨g2, 0, none⟩) s s, .slice qc os.length cc, .slice (some ⟨g3, 0, none⟩) n n], own 97 1 (.slice qc os.length cc) os.length (os.flatMap opC), pkA obF (os.zip (List.replicate os.length x0))] ++
        [pt sb [.int .i64 32, .slice sq (s : Int).toNat sc, .slice sq2 (s : Int).toNat sc2], rowA sq (s : Int).toNat ((List.replicate (s : Int).toNat zeroL).flatMap lnC), pt g1 (madeCells ti3.zero.cells (s * ti3.size)).toList, pt g2 (madeCells ti4.zero.cells (s * ti4.size)).toList, pt g3 (madeCells ti4.zero.cells (n * ti4.size)).toList])) (fun j => 16 - j) 0 (by omega) ⟨rfl, rfl, rfl, rfl, rfl, trivial⟩ pk_ ?_
      intro j hj
      (refine G tt_ok [] ?_; repeat (refine G1 tt_ok [] ?_; intro _))
      generalize e1 : decide ((j : Int) < 16) = cc2
      cases cc2
      · have : j = 16 := by simp at e1; omega
        subst this
        (refine G tt_ok [] ?_; repeat (refine G1 tt_ok [] ?_; intro _))
        refine CW.exit ?_
        (refine G tt_ok [] ?_; repeat (refine G1 tt_ok [] ?_; intro _))
        (refine SQ.built tt_ok rfl rfl (fun _ => w_ ?_))
        (refine G tt_ok [] ?_; repeat (refine G1 tt_ok [] ?_; intro _))
        refine SQ.append tt_ok rfl rfl 4 rfl 0 (q := true) rfl (opC ⟨b, bq, bc, bq2, bc2⟩) rfl rfl rfl (scal_eq rfl) (by omega) (by show (os.length + 1) * 8 ≤ _; omega) (fun v' => ⟨(by repeat (first | exact trivial | refine ⟨trivial, ?_⟩ | refine ⟨wk (by repeat (first | exact .h | exact .q | apply At.t)) (by rfl), ?_⟩)), ?_⟩)
        refine SQ.ent _ (Ent.head (own_shape _ _ _ _ _)) ?_
        refine SQ.open_ fun z => ?_
        refine SQ.pure_ fun hv => ?_
        subst hv
        (refine G tt_ok [] ?_; repeat (refine G1 tt_ok [] ?_; intro _))
        have hlen : (os ++ [(⟨b, bq, bc, bq2, bc2⟩ : OB)]).length = os.length + 1 := by simp
        refine ⟨(os ++ [⟨b, bq, bc, bq2, bc2⟩], z.1, z.2), by simp; omega, by simp; omega, ⟨by rw [hlen, ← hw]; rfl, rfl, rfl, trivial⟩, ?_⟩
        simp only
        rw [hlen, show (os ++ [(⟨b, bq, bc, bq2, bc2⟩ : OB)]).flatMap opC = os.flatMap opC ++ opC ⟨b, bq, bc, bq2, bc2⟩ by simp,
          show (os ++ [(⟨b, bq, bc, bq2, bc2⟩ : OB)]).zip (List.replicate (os.length + 1) x0) = os.zip (List.replicate os.length x0) ++ [(⟨b, bq, bc, bq2, bc2⟩, x0)] by rw [List.replicate_succ', List.zip_append (by simp)]; rfl]
        refine Ent.trans ((tk_ (As := obF (⟨b, bq, bc, bq2, bc2⟩, x0) ++ [pkA obF (os.zip (List.replicate os.length x0))]) (pk_snoc))) ?_
        exact pk_
      · have hlt2 : j < 16 := by simp at e1; omega
        have hw2 : IntKind.i64.wrap ((j : Int) + 1) = ((j + 1 : Nat) : Int) := by rw [wrap_i64]; split <;> omega
        (refine G tt_ok [] ?_; repeat (refine G1 tt_ok [] ?_; intro _))
        refine ke rfl rfl (doN β ⟨b, bq, bc, bq2, bc2⟩ (first := 0) (j : Int) 8 (ownK j) (by omega) (by omega) (by rw [ownK_len]; omega)) ?_
        (refine G tt_ok [] ?_; repeat (refine G1 tt_ok [] ?_; intro _))
        exact ⟨j + 1, by omega, by omega, ⟨by rw [← hw2]; rfl, rfl, rfl, rfl, rfl, trivial⟩, pk_⟩
    · rw [decide_eq_false (show ¬ (os.length : Int) < n by omega)]
      (refine G tt_ok [] ?_; repeat (refine G1 tt_ok [] ?_; intro _))
      refine CW.exit ?_
      (refine G tt_ok [] ?_; repeat (refine G1 tt_ok [] ?_; intro _))
      obtain rfl : os.length = n := by omega
      let R : RS := ⟨⟨sb, sq, sc, sq2, sc2⟩, some ⟨g1, 0, none⟩, s, some ⟨g2, 0, none⟩, s, qc, cc, some ⟨g3, 0, none⟩, os.length, os⟩
      let D : DS := ⟨false, false, 0, none, 0, List.replicate s (Br.zeroE.1, (0, false)), none, 0, List.replicate os.length x0⟩
      refine CW.ret (fin_ret rfl (A := rD d R D) ?_ ?_)
      · have hD1 : D.sh.length = s := by simp [D]
        have hD2 : D.xs.length = os.length := by simp [D]
        have f1 : (madeCells ti3.zero.cells (s * ti3.size)).toList = D.sh.flatMap rcC := Bn.made_flat_of (enc := rcC) (a := (Br.zeroE.1, (0, false))) ti3.zero.cells rfl (by decide) _
        have f2 : (madeCells ti4.zero.cells (s * ti4.size)).toList = D.sh.flatMap raC := Bn.made_flat_of (enc := raC) (a := (Br.zeroE.1, (0, false))) ti4.zero.cells rfl (by decide) _
        have f3 : (madeCells ti4.zero.cells (os.length * ti4.size)).toList = D.xs.flatMap slC := Bn.made_flat_of (enc := slC) (a := x0) ti4.zero.cells rfl (by decide) _
        rw [f1, f2, f3]
        unfold rD OB.at_ rbA
        simp only [R, hD1, hD2, Br.lsV_len]
        have hls : Br.lsV D.sh = List.replicate s zeroL := by simp [D, Br.lsV, List.map_replicate]; exact .inr rfl
        rw [hls]
        refine Ent.trans ((rm_ (A := own 97 1 (.slice qc os.length cc) os.length (os.flatMap opC)) (own_row))) ?_
        refine Ent.trans ((rm_ (A := pt g1 (D.sh.flatMap rcC)) (row_close0 (n := s)))) ?_
        refine Ent.trans ((rm_ (A := pt g2 (D.sh.flatMap raC)) (row_close0 (n := s)))) ?_
        refine Ent.trans ((rm_ (A := pt g3 (D.xs.flatMap slC)) (row_close0 (n := os.length)))) ?_
        exact pk_
      · refine ⟨d, R, rfl, rfl, fun D' a1 a2 a3 a4 a5 => ?_⟩
        exact rD_congr a1.symm a2.symm a3.symm (newCR_pl a4 a5).symm
end Go.Proofs.YtjphlcfplcacnaaGreat.Sl
namespace Go.Proofs.YtjphlcfplcacnaaGreat.Sl
open Go Go.RowKit Go.Proofs
set_option linter.unusedVariables false
set_option linter.unusedSimpArgs false
attribute [local irreducible] CW Tri OW
set_option maxRecDepth 10000
@[reducible] def pk24 : List (Nat × Plan) := [(1, [(0, 0, []), (1, 0, []), (2, 0, []), (3, 0, []), (4, 0, []), (5, 0, []), (6, 0, []), (7, 0, []), (8, 1, [3, 7]), (9, 0, []), (10, 1, [3, 7]), (11, 0, [])]), (5, [(0, 0, []), (1, 0, []), (2, 0, []), (3, 0, []), (4, 0, []), (5, 0, []), (6, 0, []), (8, 0, []), (9, 0, []), (7, 1, [4, 6, 9]), (10, 0, []), (11, 1, [4, 6, 9]), (12, 1, []), (13, 0, []), (14, 0, []), (15, 1, [])])]
/-- The same but for where it lies. -/
def DS.like (D E : DS) : Prop := D.o0 = E.o0 ∧ D.o1 = E.o1 ∧ D.sh = E.sh ∧ D.xs.map plX = E.xs.map plX
set_option maxHeartbeats 8000000 in
theorem copy24 (β : Base) (d : Nat) (D : DS) (h8 : D.xs.length ≤ 8) (hsh : D.sh.length ≤ 64) (hes : ∀ x ∈ D.xs, x.es.length = 32) : Tri Tryz.prog β 24 [.pointer (some ⟨d, 0, none⟩)] (dA d D) (fun v L => ∃ c E, v = .pointer (some ⟨c, 0, none⟩) ∧ L = dA c E ++ dA d D ∧ E.like D) := by
  obtain ⟨o0, o1, sb, sq, sc, sh, qc, cc, xs⟩ := D
  simp only at h8 hsh hes
  refine Tri.intro tt_ok Tryz.func24 rfl rfl Tryz.ntmps24 rfl fun F => ?_
  unfold dA
  simp only
  (refine G tt_ok pk24 ?_; repeat (refine G1 tt_ok pk24 ?_; intro _))
  (refine ka rfl rfl (Br.copy40 β sb sq sc 32 sh (by omega)) ?_; rintro _ _ ⟨sb2, sq2, sc2, rfl, rfl⟩; refine w_ ?_)
  (refine G tt_ok pk24 ?_; repeat (refine G1 tt_ok pk24 ?_; intro _))
  rename_i c
  refine CW.loop (α := List CR × Option Addr × Nat) (fun y => y.1.length ≤ xs.length ∧ y.1.map plX = (xs.take y.1.length).map plX) (fun y => [(22, .int .i64 y.1.length), (21, .int .i64 xs.length), (20, .slice qc xs.length cc), (3, .pointer (some ⟨c, 0, none⟩))])
    (fun y => [pt c [.bool o0, .bool o1, .pointer (some ⟨sb2, 0, none⟩), .slice y.2.1 y.1.length y.2.2], own 95 2 (.slice y.2.1 y.1.length y.2.2) y.1.length (y.1.flatMap crC), bksA y.1] ++ Br.bkA sb2 sq2 sc2 32 sh ++ ([pt d [.bool o0, .bool o1, .pointer (some ⟨sb, 0, none⟩), .slice qc xs.length cc], rowA qc xs.length (xs.flatMap crC), bksA xs] ++ Br.bkA sb sq sc 32 sh)) (fun y => xs.length - y.1.length) ([], none, 0) ⟨by simp, by simp⟩ ⟨rfl, rfl, rfl, rfl, trivial⟩ ?_ ?_
  · refine Ent.trans ((own_nil 95 2).trans bks_nil) ?_
    exact pk_
  rintro ⟨ys, q, cap⟩ ⟨hl, hys⟩
  simp only at hl hys ⊢
  (refine G tt_ok pk24 ?_; repeat (refine G1 tt_ok pk24 ?_; intro _))
  by_cases hlt : ys.length < xs.length
  · have hw : IntKind.i64.wrap ((ys.length : Int) + 1) = ((ys.length + 1 : Nat) : Int) := by rw [wrap_i64]; split <;> omega
    obtain ⟨x, hx⟩ : ∃ x, xs[ys.length]? = some x := ⟨_, List.getElem?_eq_getElem hlt⟩
    rw [decide_eq_true (show (ys.length : Int) < xs.length by omega)]
    (refine CW.ent (Rm.to (A := rowA qc (xs.length) (xs.flatMap crC)) (by repeat (first | exact Rm.h | apply Rm.t)) (row_open (by omega))) ?_; refine CW.open_ fun y => ?_; obtain ⟨g, rest⟩ := y; refine CW.pure_ fun hv => ?_; simp only at hv; subst hv)
    (refine G tt_ok pk24 ?_; repeat (refine G1 tt_ok pk24 ?_; intro _))
    refine SQ.idx tt_ok rfl rfl ys.length rfl hlt (o' := 0 + ys.length * 2) rfl ?_
    (refine SQ.ldA tt_ok rfl rfl (by repeat (first | exact .h | exact .q | apply At.t)) (rd_core hx rest) ?_)
    (refine G tt_ok pk24 ?_; repeat (refine G1 tt_ok pk24 ?_; intro _))
    refine SQ.ent _ (rm_ (A := pt g (xs.flatMap crC ++ rest)) (row_close (n := xs.length))) ?_
    generalize (some ⟨g, 0, none⟩ : Option Addr) = qc
    refine SQ.ent _ (rm_ (A := bksA xs) (bks_open hx)) ?_
    (refine G tt_ok pk24 ?_; repeat (refine G1 tt_ok pk24 ?_; intro _))
    (refine ka rfl rfl (Bn.copy40 β x.b x.q x.c 0 x.es (by have := hes x (List.mem_of_getElem? hx); omega)) ?_; rintro _ _ ⟨b, bq, bc, rfl, rfl⟩; refine w_ ?_)
    refine SQ.ent _ (tk_ (As := x.bank ++ [bksA (xs.eraseIdx ys.length)]) (bks_shut hx)) ?_
    (refine G tt_ok pk24 ?_; repeat (refine G1 tt_ok pk24 ?_; intro _))
    (refine SQ.built tt_ok rfl rfl (fun _ => w_ ?_))
    (refine G tt_ok pk24 ?_; repeat (refine G1 tt_ok pk24 ?_; intro _))
    (refine SQ.appA tt_ok rfl rfl (by repeat (first | exact Rm.h | apply Rm.t)) (by repeat (first | exact .h | exact .q | apply At.t)) (crC ⟨b, bq, bc, x.es, x.sl⟩) rfl rfl rfl (scal_eq rfl) (by omega) (by show (ys.length + 1) * 16 ≤ _; omega) (fun q' c' => w_ ?_))
    (refine G tt_ok pk24 ?_; repeat (refine G1 tt_ok pk24 ?_; intro _))
    have hlen : (ys ++ [(⟨b, bq, bc, x.es, x.sl⟩ : CR)]).length = ys.length + 1 := by simp
    refine ⟨(ys ++ [⟨b, bq, bc, x.es, x.sl⟩], q', c'), ⟨by simp; omega, ?_⟩, by simp; omega, ⟨by rw [hlen, ← hw]; rfl, rfl, rfl, rfl, trivial⟩, ?_⟩
    · simp only
      rw [hlen, List.map_append, hys, List.take_add_one, hx, List.map_append]; rfl
    · simp only
      rw [hlen, show (ys ++ [(⟨b, bq, bc, x.es, x.sl⟩ : CR)]).flatMap crC = ys.flatMap crC ++ crC ⟨b, bq, bc, x.es, x.sl⟩ by simp]
      refine Ent.trans (Tk.to (As := CR.bank ⟨b, bq, bc, x.es, x.sl⟩ ++ [bksA ys]) (by repeat (first | exact .n | exact Rm.h | apply Tk.c | apply Rm.t)) bks_snoc) ?_
      exact pk_
  · rw [decide_eq_false (show ¬ (ys.length : Int) < xs.length by omega)]
    (refine G tt_ok pk24 ?_; repeat (refine G1 tt_ok pk24 ?_; intro _))
    refine CW.exit ?_
    (refine G tt_ok pk24 ?_; repeat (refine G1 tt_ok pk24 ?_; intro _))
    have hl2 : ys.length = xs.length := by omega
    refine CW.ret (fin_ret rfl (A := dA c ⟨o0, o1, sb2, sq2, sc2, sh, q, cap, ys⟩ ++ dA d ⟨o0, o1, sb, sq, sc, sh, qc, cc, xs⟩) pk_ ⟨c, ⟨o0, o1, sb2, sq2, sc2, sh, q, cap, ys⟩, rfl, rfl, rfl, rfl, rfl, ?_⟩)
    simp only
    rw [hys, hl2, List.take_length]
end Go.Proofs.YtjphlcfplcacnaaGreat.Sl
