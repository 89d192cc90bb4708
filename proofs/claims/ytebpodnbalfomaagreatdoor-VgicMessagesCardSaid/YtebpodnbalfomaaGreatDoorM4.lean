/-
  Part 4 of the proof: contracts of the code's functions, and what is plain.
-/
import Derived.Test.YtebpodnbalfomaaGreatDoorM3
namespace Go.Proofs.YtebpodnbalfomaaGreatDoor.Sl
open Go Go.RowKit Go.Proofs
set_option linter.unusedVariables false
set_option linter.unusedSimpArgs false
attribute [local irreducible] CW Tri OW
set_option maxRecDepth 10000
@[reducible] def pk117 : List (Nat × Plan) := []
@[reducible] def pk49 : List (Nat × Plan) := []
@[reducible] def pk18 : List (Nat × Plan) := [(8, [(0, 0, []), (1, 0, []), (2, 0, []), (3, 0, []), (4, 0, []), (5, 0, []), (6, 0, []), (7, 0, []), (8, 0, []), (9, 1, [1, 5, 7]), (10, 0, []), (11, 0, [])])]
theorem redistRw_ok : ∀ r ∈ redistRw, rowOk r := by
  have h : (redistRw.all fun r => decide (r.1 < r.2.1) && (r.2.2.2.2.2.2 == 1 || (r.2.2.2.2.2.1 == 1 && r.2.2.2.2.2.2 != 0))) = true := by kernel_rfl
  intro r hr
  have := List.all_eq_true.1 h r hr
  simp only [Bool.and_eq_true, Bool.or_eq_true, decide_eq_true_eq, beq_iff_eq, bne_iff_ne] at this
  exact this
theorem redist117 (β : Base) : Tri Tryz.prog β 117 [] [] (fun v L => ∃ b, v = .slice (some ⟨b, 0, none⟩) 17 17 ∧ L = [pt b (redistRw.flatMap rwC)]) := by
  refine Tri.intro tt_ok Tryz.func117 rfl rfl Tryz.ntmps117 rfl fun F => ?_
  refine G tt_ok pk117 ?_
  refine SQ.built tt_ok rfl rfl (fun b => ⟨(by repeat (first | exact trivial | refine ⟨trivial, ?_⟩ | refine ⟨wk (by repeat (first | exact .h | exact .q | apply At.t)) (by rfl), ?_⟩)), ?_⟩)
  refine G tt_ok pk117 ?_
  refine CW.ret (fin_ret rfl (Ent.refl _) ⟨b, rfl, ?_⟩)
  rfl
theorem regsRedist49 (β : Base) (off w : Int) : Tri Tryz.prog β 49 [.int .i64 off, .int .i64 w] [] (fun v L => v = .tuple #[.agg #[.int .i64 (redistV off w).1.1, .int .i64 (redistV off w).1.2.1, .int .i64 (redistV off w).1.2.2], .int .i64 (redistV off w).2] ∧ L = []) := by
  refine Tri.intro tt_ok Tryz.func49 rfl rfl Tryz.ntmps49 rfl fun F => ?_
  (refine G tt_ok pk49 ?_; repeat (refine G1 tt_ok pk49 ?_; intro _))
  (refine ka rfl rfl (redist117 β) ?_; rintro _ _ ⟨b, rfl, rfl⟩; refine w_ ?_)
  have hB : RdS β (some ⟨b, 0, none⟩) 17 7 (redistRw.flatMap rwC) (pt b (redistRw.flatMap rwC)) := ⟨rfl, .inr ⟨b, 0, true, _, rfl, rfl, rfl⟩⟩
  (refine G tt_ok pk49 ?_; repeat (refine G1 tt_ok pk49 ?_; intro _))
  refine ke rfl rfl (find108 β hB (by omega) redistRw_ok (by omega) (by omega) off w) ?_
  (refine G tt_ok pk49 ?_; repeat (refine G1 tt_ok pk49 ?_; intro _))
  refine CW.ret (fin_cells [_, _] ⟨⟨_, _, _, _, 1, rfl, rfl, rfl, rfl⟩, rfl, trivial⟩ (Ent.dropAll _) ⟨rfl, rfl⟩)
/-- A write to a processor's own registers. -/
def GS.setS (G : GS) (k : Int) (s : SdS) : GS := { G with ss := G.ss.set k.toNat s }
def GS.wrRegV (G : GS) (k r f c : Int) (v : Nat) : GS × Int := match G.ss[k.toNat]? with
  | some s =>
    if r = 1 then (G.setS k { s with on := decide (v % 2 = 1) }, 0)
    else if r = 14 then (if s.on then G else G.setS k { s with pr := v % 2 ^ 48 }, 0)
    else if r = 15 then (if s.on then G else G.setS k { s with pe := v % 2 ^ 48 }, 0)
    else if r = 2 ∨ r = 16 ∨ r = 17 ∨ r = 18 ∨ r = 0 then (G, 0)
    else ({ G with D := (G.D.wrOwnV k r f c v).1 }, (G.D.wrOwnV k r f c v).2)
  | none => (G, 271)
def GS.wrOwnV (G : GS) (k off w : Int) (v : Nat) : GS × (Int × Int) :=
  if (redistV off w).2 ≠ 0 then (G, (0, (redistV off w).2))
  else if rightV G.ss.length k then ((G.wrRegV k (redistV off w).1.1 (redistV off w).1.2.1 (redistV off w).1.2.2 v).1, ((redistV off w).1.1, (G.wrRegV k (redistV off w).1.1 (redistV off w).1.2.1 (redistV off w).1.2.2 v).2))
  else (G, (0, 271))
theorem v48 {v : Nat} (hv : v < 2 ^ 64) : IntKind.u64.wrap ((BitVec.ofInt IntKind.u64.bits (v : Int) &&& BitVec.ofInt IntKind.u64.bits 281474976710655).toNat : Int) = ((v % 2 ^ 48 : Nat) : Int) := and_mod (k := 48) hv (by omega)
theorem pk_same {ss : List SdS} {k : Nat} {s t : SdS} (h : ss[k]? = some s) (e : sdA t = sdA s) : pkA sdA (ss.set k t) = pkA sdA ss := by
  have : (ss.set k t).flatMap sdA = ss.flatMap sdA := by
    rw [List.flatMap_def, List.flatMap_def, List.map_set, e]
    congr 1
    apply List.ext_getElem?
    intro i
    by_cases hi : k = i
    · subst hi
      rw [List.getElem?_set_self (by rw [List.length_map]; exact (List.getElem?_eq_some_iff.1 h).1), List.getElem?_map, h]; rfl
    · rw [List.getElem?_set_ne hi]
  unfold pkA
  rw [this]
theorem gA_set {g d : Nat} {D : DS} {qc qs : Option Addr} {cc cs : Nat} {cf : List Nat} {ss : List SdS} {k : Int} {s t : SdS} (h : ss[k.toNat]? = some s) (e : sdA t = sdA s) :
    gA g (GS.setS ⟨d, D, qc, cc, cf, qs, cs, ss⟩ k t) = [pt g (gC d qc cf.length cc qs ss.length cs), rowA qc cf.length (cf.flatMap byC), rowA qs ss.length ((ss.set k.toNat t).flatMap sdC), pkA sdA ss] ++ dA d D := by
  unfold gA GS.setS
  simp only [List.length_set]
  rw [pk_same h e]
set_option maxHeartbeats 16000000 in
theorem gwriteOwn18 (β : Base) (g : Nat) (Z : GS) (k off w : Int) {v : Nat} (hv : v < 2 ^ 64) :
    Tri Tryz.prog β 18 [.pointer (some ⟨g, 0, none⟩), .int .i64 k, .int .i64 off, .int .i64 w, .int .u64 v] (gA g Z)
    (fun u L => u = .tuple #[.int .i64 (Z.wrOwnV k off w v).2.1, .int .i64 (Z.wrOwnV k off w v).2.2] ∧ L = gA g (Z.wrOwnV k off w v).1) := by
  obtain ⟨d, D, qc, cc, cf, qs, cs, ss⟩ := Z
  refine Tri.intro tt_ok Tryz.func18 rfl rfl Tryz.ntmps18 rfl fun F => ?_
  unfold GS.wrOwnV GS.wrRegV
  simp only
  (refine G tt_ok pk18 ?_; repeat (refine G1 tt_ok pk18 ?_; intro _))
  refine ke rfl rfl (regsRedist49 β off w) ?_
  generalize redistV off w = z
  obtain ⟨⟨r, fi, co⟩, e⟩ := z
  simp only
  (refine G tt_ok pk18 ?_; repeat (refine G1 tt_ok pk18 ?_; intro _))
  by_cases he : e = 0
  · subst he
    rw [if_neg (by simp), show ((0 : Int) != 0) = false from rfl]
    unfold gA
    (refine G tt_ok pk18 ?_; repeat (refine G1 tt_ok pk18 ?_; intro _))
    refine ke rfl rfl (ghas46 β g d qc qs cf.length cc ss.length cs k) ?_
    cases hr : rightV ss.length k with
    | false =>
      (refine G tt_ok pk18 ?_; repeat (refine G1 tt_ok pk18 ?_; intro _))
      exact CW.ret (fin_ret rfl pk_ ⟨rfl, rfl⟩)
    | true =>
      obtain ⟨s, hx, hl, hk⟩ := rights_at hr
      have hn0 : 0 < ss.length := by omega
      simp only [if_true, hx]
      (refine G tt_ok pk18 ?_; repeat (refine G1 tt_ok pk18 ?_; intro _))
      refine ir_ tt_ok rfl rfl (k.toNat) (hk) rfl ?_ (hlt := hl)
      (refine G tt_ok pk18 ?_; repeat (refine G1 tt_ok pk18 ?_; intro _))
      by_cases h1 : r = 1
      · subst h1
        (refine G tt_ok pk18 ?_; repeat (refine G1 tt_ok pk18 ?_; intro _))
        rw [and1_is v hv]
        refine sr_ tt_ok rfl rfl (wr_sdo hx _) ?_ (hn := hn0)
        (refine G tt_ok pk18 ?_; repeat (refine G1 tt_ok pk18 ?_; intro _))
        refine CW.ret (fin_ret rfl (A := gA g (GS.setS ⟨d, D, qc, cc, cf, qs, cs, ss⟩ k { s with on := decide (v % 2 = 1) })) ?_ ⟨rfl, rfl⟩)
        rw [gA_set (t := { s with on := decide (v % 2 = 1) }) hx rfl]
        exact pk_
      rw [if_neg h1, show (r == 1) = false by simp [h1]]
      (refine G tt_ok pk18 ?_; repeat (refine G1 tt_ok pk18 ?_; intro _))
      by_cases h14 : r = 14
      · subst h14
        (refine G tt_ok pk18 ?_; repeat (refine G1 tt_ok pk18 ?_; intro _))
        refine lr_ tt_ok rfl rfl (rd_sdo hx) ?_ (hn := hn0)
        (refine G tt_ok pk18 ?_; repeat (refine G1 tt_ok pk18 ?_; intro _))
        cases hon : s.on with
        | true =>
          (refine G tt_ok pk18 ?_; repeat (refine G1 tt_ok pk18 ?_; intro _))
          exact CW.ret (fin_ret rfl (A := [pt g (gC d qc cf.length cc qs ss.length cs), rowA qc cf.length (cf.flatMap byC), rowA qs ss.length (ss.flatMap sdC), pkA sdA ss] ++ dA d D) pk_ ⟨rfl, rfl⟩)
        | false =>
          (refine G tt_ok pk18 ?_; repeat (refine G1 tt_ok pk18 ?_; intro _))
          rw [v48 hv]
          refine sr_ tt_ok rfl rfl (wr_sdp hx _) ?_ (hn := hn0)
          (refine G tt_ok pk18 ?_; repeat (refine G1 tt_ok pk18 ?_; intro _))
          have e : ({ s with on := false, pr := v % 2 ^ 48 } : SdS) = { s with pr := v % 2 ^ 48 } := by rw [← hon]
          refine CW.ret (fin_ret rfl (A := gA g (GS.setS ⟨d, D, qc, cc, cf, qs, cs, ss⟩ k { s with on := false, pr := v % 2 ^ 48 })) ?_ ⟨rfl, rfl⟩)
          rw [e, gA_set (t := { s with pr := v % 2 ^ 48 }) hx rfl]
          exact pk_
      rw [if_neg h14, show (r == 14) = false by simp [h14]]
      (refine G tt_ok pk18 ?_; repeat (refine G1 tt_ok pk18 ?_; intro _))
      by_cases h15 : r = 15
      · subst h15
        (refine G tt_ok pk18 ?_; repeat (refine G1 tt_ok pk18 ?_; intro _))
        refine lr_ tt_ok rfl rfl (rd_sdo hx) ?_ (hn := hn0)
        (refine G tt_ok pk18 ?_; repeat (refine G1 tt_ok pk18 ?_; intro _))
        cases hon : s.on with
        | true =>
          (refine G tt_ok pk18 ?_; repeat (refine G1 tt_ok pk18 ?_; intro _))
          exact CW.ret (fin_ret rfl (A := [pt g (gC d qc cf.length cc qs ss.length cs), rowA qc cf.length (cf.flatMap byC), rowA qs ss.length (ss.flatMap sdC), pkA sdA ss] ++ dA d D) pk_ ⟨rfl, rfl⟩)
        | false =>
          (refine G tt_ok pk18 ?_; repeat (refine G1 tt_ok pk18 ?_; intro _))
          rw [v48 hv]
          refine sr_ tt_ok rfl rfl (wr_sde hx _) ?_ (hn := hn0)
          (refine G tt_ok pk18 ?_; repeat (refine G1 tt_ok pk18 ?_; intro _))
          have e : ({ s with on := false, pe := v % 2 ^ 48 } : SdS) = { s with pe := v % 2 ^ 48 } := by rw [← hon]
          refine CW.ret (fin_ret rfl (A := gA g (GS.setS ⟨d, D, qc, cc, cf, qs, cs, ss⟩ k { s with on := false, pe := v % 2 ^ 48 })) ?_ ⟨rfl, rfl⟩)
          rw [e, gA_set (t := { s with pe := v % 2 ^ 48 }) hx rfl]
          exact pk_
      rw [if_neg h15, show (r == 15) = false by simp [h15]]
      (refine G tt_ok pk18 ?_; repeat (refine G1 tt_ok pk18 ?_; intro _))
      by_cases h2 : r = 2
      · subst h2
        rw [if_pos (by simp)]
        (refine G tt_ok pk18 ?_; repeat (refine G1 tt_ok pk18 ?_; intro _))
        exact CW.ret (fin_ret rfl (A := [pt g (gC d qc cf.length cc qs ss.length cs), rowA qc cf.length (cf.flatMap byC), rowA qs ss.length (ss.flatMap sdC), pkA sdA ss] ++ dA d D) pk_ ⟨rfl, rfl⟩)
      rw [show (r == 2) = false by simp [h2]]
      (refine G tt_ok pk18 ?_; repeat (refine G1 tt_ok pk18 ?_; intro _))
      by_cases h16 : r = 16
      · subst h16
        rw [if_pos (by simp)]
        (refine G tt_ok pk18 ?_; repeat (refine G1 tt_ok pk18 ?_; intro _))
        exact CW.ret (fin_ret rfl (A := [pt g (gC d qc cf.length cc qs ss.length cs), rowA qc cf.length (cf.flatMap byC), rowA qs ss.length (ss.flatMap sdC), pkA sdA ss] ++ dA d D) pk_ ⟨rfl, rfl⟩)
      rw [show (r == 16) = false by simp [h16]]
      (refine G tt_ok pk18 ?_; repeat (refine G1 tt_ok pk18 ?_; intro _))
      by_cases h17 : r = 17
      · subst h17
        rw [if_pos (by simp)]
        (refine G tt_ok pk18 ?_; repeat (refine G1 tt_ok pk18 ?_; intro _))
        exact CW.ret (fin_ret rfl (A := [pt g (gC d qc cf.length cc qs ss.length cs), rowA qc cf.length (cf.flatMap byC), rowA qs ss.length (ss.flatMap sdC), pkA sdA ss] ++ dA d D) pk_ ⟨rfl, rfl⟩)
      rw [show (r == 17) = false by simp [h17]]
      (refine G tt_ok pk18 ?_; repeat (refine G1 tt_ok pk18 ?_; intro _))
      by_cases h18 : r = 18
      · subst h18
        rw [if_pos (by simp)]
        (refine G tt_ok pk18 ?_; repeat (refine G1 tt_ok pk18 ?_; intro _))
        exact CW.ret (fin_ret rfl (A := [pt g (gC d qc cf.length cc qs ss.length cs), rowA qc cf.length (cf.flatMap byC), rowA qs ss.length (ss.flatMap sdC), pkA sdA ss] ++ dA d D) pk_ ⟨rfl, rfl⟩)
      rw [show (r == 18) = false by simp [h18]]
      (refine G tt_ok pk18 ?_; repeat (refine G1 tt_ok pk18 ?_; intro _))
      by_cases h0 : r = 0
      · subst h0
        rw [if_pos (by simp)]
        (refine G tt_ok pk18 ?_; repeat (refine G1 tt_ok pk18 ?_; intro _))
        exact CW.ret (fin_ret rfl (A := [pt g (gC d qc cf.length cc qs ss.length cs), rowA qc cf.length (cf.flatMap byC), rowA qs ss.length (ss.flatMap sdC), pkA sdA ss] ++ dA d D) pk_ ⟨rfl, rfl⟩)
      rw [show (r == 0) = false by simp [h0]]
      (refine G tt_ok pk18 ?_; repeat (refine G1 tt_ok pk18 ?_; intro _))
      rw [if_neg (by simp [h2, h16, h17, h18, h0])]
      refine ke rfl rfl (wrOwn27 β d D k r fi co v hv) ?_
      (refine G tt_ok pk18 ?_; repeat (refine G1 tt_ok pk18 ?_; intro _))
      exact CW.ret (fin_ret rfl (A := [pt g (gC d qc cf.length cc qs ss.length cs), rowA qc cf.length (cf.flatMap byC), rowA qs ss.length (ss.flatMap sdC), pkA sdA ss] ++ dA d (D.wrOwnV k r fi co v).1) pk_ ⟨rfl, rfl⟩)
  · rw [if_pos he, show (e != 0) = true by simpa using he]
    (refine G tt_ok pk18 ?_; repeat (refine G1 tt_ok pk18 ?_; intro _))
    exact CW.ret (fin_ret rfl pk_ ⟨rfl, rfl⟩)
end Go.Proofs.YtebpodnbalfomaaGreatDoor.Sl
namespace Go.Proofs.YtebpodnbalfomaaGreatDoor.Sl
open Go Go.RowKit Go.Proofs
set_option linter.unusedVariables false
set_option linter.unusedSimpArgs false
attribute [local irreducible] CW Tri OW
attribute [local irreducible] wlen
set_option maxRecDepth 10000
@[reducible] def pk65 : List (Nat × Plan) := []
@[reducible] def pk107 : List (Nat × Plan) := []
@[reducible] def pk67 : List (Nat × Plan) := []
/-- An interrupt has been taken. -/
def GS.takenV (G : GS) (k id : Int) : GS := if msgV G.cf.length id then (G.letV k id false).1 else { G with D := (G.D.doV k id 5).1 }
/-- An interrupt has ended. -/
def GS.endedV (G : GS) (k id : Int) : GS × Bool := if (G.D.getV k id).2 ≠ 0 ∨ (G.D.getV k id).1.1.2.2.2 = false then (G, false) else ({ G with D := (G.D.doV k id 6).1 }, true)
def GS.endV (G : GS) (k id : Int) (may : Bool) : GS × Int := if may = true ∧ (G.endedV k id).2 = true then ((G.endedV k id).1, id) else (if may then (G.endedV k id).1 else G, -1)
theorem gL_of (g : Nat) (Z : GS) : gA g Z = [pt g (gC Z.d Z.qc Z.cf.length Z.cc Z.qs Z.ss.length Z.cs), rowA Z.qc Z.cf.length (Z.cf.flatMap byC), rowA Z.qs Z.ss.length (Z.ss.flatMap sdC), pkA sdA Z.ss] ++ dA Z.d Z.D := rfl
theorem letV_same (Z : GS) (k id : Int) (w : Bool) : (Z.letV k id w).1.d = Z.d ∧ (Z.letV k id w).1.D = Z.D ∧ (Z.letV k id w).1.qc = Z.qc ∧ (Z.letV k id w).1.cc = Z.cc ∧ (Z.letV k id w).1.cf = Z.cf ∧ (Z.letV k id w).1.qs = Z.qs ∧ (Z.letV k id w).1.cs = Z.cs := by
  unfold GS.letV
  repeat' split
  all_goals exact ⟨rfl, rfl, rfl, rfl, rfl, rfl, rfl⟩
theorem glet21 (β : Base) (g : Nat) {R : RS} {Z : GS} (ok : OkG R Z) (k : Int) {id : Int} (hi : id ≤ 9223372036854775807) (w : Bool) : Tri Tryz.prog β 21 [.pointer (some ⟨g, 0, none⟩), .int .i64 k, .int .i64 id, .bool w] (gA g Z)
    (fun v L => v = .tuple #[.bool (Z.letV k id w).2.1, .int .i64 (Z.letV k id w).2.2] ∧ L = gA g (Z.letV k id w).1) := by
  have h := (let21 β g Z ok.lp ok.w k hi w).frame (rowA Z.qc Z.cf.length (Z.cf.flatMap byC) :: dA Z.d Z.D)
  refine (Tri.ent ?_ h).monoE ?_
  · rw [gL_of]; unfold gL; exact pk_
  · rintro v L ⟨A', rfl, hv, rfl⟩
    refine ⟨gA g (Z.letV k id w).1, ?_, hv, rfl⟩
    obtain ⟨e1, e2, e3, e4, e5, e6, e7⟩ := letV_same Z k id w
    rw [gL_of (Z := (Z.letV k id w).1)]; unfold gL
    rw [e1, e2, e3, e4, e5, e6, e7]
    exact pk_
theorem taken65 (β : Base) (g : Nat) {R : RS} {Z : GS} (ok : OkG R Z) (k : Int) {id : Int} (hi : id < 9223372036854775808) : Tri Tryz.prog β 65 [.pointer (some ⟨g, 0, none⟩), .int .i64 k, .int .i64 id] (gA g Z)
    (fun v L => v = .tuple #[] ∧ L = gA g (Z.takenV k id)) := by
  have hlet := glet21 β g ok k (id := id) (by omega) false
  unfold GS.takenV
  generalize hW : (Z.letV k id false) = W at hlet ⊢
  obtain ⟨d, D, qc, cc, cf, qs, cs, ss⟩ := Z
  refine Tri.intro tt_ok Tryz.func65 rfl rfl Tryz.ntmps65 rfl fun F => ?_
  rw [gL_of] at hlet ⊢
  simp only at hlet ⊢
  refine G tt_ok pk65 ?_
  refine ke rfl rfl (msg15 β g d qc qs cf.length cc ss.length cs id) ?_
  cases h : msgV cf.length id with
  | true =>
    rw [if_pos rfl]
    refine G tt_ok pk65 ?_
    refine ke rfl rfl (hlet) ?_
    refine G tt_ok pk65 ?_
    exact CW.ret (fin_ret (vs := []) rfl (A := gA g W.1) pk_ ⟨rfl, rfl⟩)
  | false =>
    rw [if_neg (by simp)]
    refine G tt_ok pk65 ?_
    refine ke rfl rfl (do23 β d D k id 5 (by omega)) ?_
    refine G tt_ok pk65 ?_
    exact fin_normal (vs := []) rfl (A := [pt g (gC d qc cf.length cc qs ss.length cs), rowA qc cf.length (cf.flatMap byC), rowA qs ss.length (ss.flatMap sdC), pkA sdA ss] ++ dA d (D.doV k id 5).1) pk_ ⟨rfl, rfl⟩
theorem ended107 (β : Base) (g : Nat) (Z : GS) (k : Int) {id : Int} (hi : id < 9223372036854775808) : Tri Tryz.prog β 107 [.pointer (some ⟨g, 0, none⟩), .int .i64 k, .int .i64 id] (gA g Z)
    (fun v L => v = .bool (Z.endedV k id).2 ∧ L = gA g (Z.endedV k id).1) := by
  obtain ⟨d, D, qc, cc, cf, qs, cs, ss⟩ := Z
  refine Tri.intro tt_ok Tryz.func107 rfl rfl Tryz.ntmps107 rfl fun F => ?_
  unfold GS.endedV
  rw [gL_of]
  simp only
  have hget := get21 β d D k id (by omega)
  generalize D.getV k id = lv at hget ⊢
  obtain ⟨⟨⟨e0, l0, t0, a0⟩, en, gr, pr⟩, e⟩ := lv
  simp only at hget ⊢
  (refine G tt_ok pk107 ?_; repeat (refine G1 tt_ok pk107 ?_; intro _))
  refine ke rfl rfl (hget) ?_
  (refine G tt_ok pk107 ?_; repeat (refine G1 tt_ok pk107 ?_; intro _))
  by_cases he : e = 0
  · subst he
    rw [show ((0 : Int) != 0) = false from rfl]
    (refine G tt_ok pk107 ?_; repeat (refine G1 tt_ok pk107 ?_; intro _))
    cases a0 with
    | false =>
      rw [if_pos (by simp)]
      (refine G tt_ok pk107 ?_; repeat (refine G1 tt_ok pk107 ?_; intro _))
      exact CW.ret (fin_ret rfl (A := [pt g (gC d qc cf.length cc qs ss.length cs), rowA qc cf.length (cf.flatMap byC), rowA qs ss.length (ss.flatMap sdC), pkA sdA ss] ++ dA d D) pk_ ⟨rfl, rfl⟩)
    | true =>
      rw [if_neg (by simp)]
      (refine G tt_ok pk107 ?_; repeat (refine G1 tt_ok pk107 ?_; intro _))
      refine ke rfl rfl (do23 β d D k id 6 (by omega)) ?_
      (refine G tt_ok pk107 ?_; repeat (refine G1 tt_ok pk107 ?_; intro _))
      exact CW.ret (fin_ret rfl (A := [pt g (gC d qc cf.length cc qs ss.length cs), rowA qc cf.length (cf.flatMap byC), rowA qs ss.length (ss.flatMap sdC), pkA sdA ss] ++ dA d (D.doV k id 6).1) pk_ ⟨rfl, rfl⟩)
  · rw [if_pos (.inl he), show (e != 0) = true by simpa using he]
    (refine G tt_ok pk107 ?_; repeat (refine G1 tt_ok pk107 ?_; intro _))
    exact CW.ret (fin_ret rfl (A := [pt g (gC d qc cf.length cc qs ss.length cs), rowA qc cf.length (cf.flatMap byC), rowA qs ss.length (ss.flatMap sdC), pkA sdA ss] ++ dA d D) pk_ ⟨rfl, rfl⟩)
theorem end67 (β : Base) (g : Nat) (Z : GS) (k : Int) {id : Int} (hi : id < 9223372036854775808) (may : Bool) : Tri Tryz.prog β 67 [.pointer (some ⟨g, 0, none⟩), .int .i64 k, .int .i64 id, .bool may] (gA g Z)
    (fun v L => v = .int .i64 (Z.endV k id may).2 ∧ L = gA g (Z.endV k id may).1) := by
  have hend := ended107 β g Z k hi
  unfold GS.endV
  generalize hE : Z.endedV k id = E at hend ⊢
  obtain ⟨Y, b⟩ := E
  simp only at hend ⊢
  refine Tri.intro tt_ok Tryz.func67 rfl rfl Tryz.ntmps67 rfl fun F => ?_
  cases may with
  | false =>
    rw [if_neg (by simp), if_neg (by simp)]
    refine G tt_ok pk67 ?_
    exact CW.ret (fin_ret rfl (A := gA g Z) pk_ ⟨rfl, rfl⟩)
  | true =>
    refine G tt_ok pk67 ?_
    refine ke rfl rfl (hend) ?_
    cases b with
    | true =>
      rw [if_pos (by simp)]
      refine G tt_ok pk67 ?_
      exact CW.ret (fin_ret rfl (A := gA g Y) pk_ ⟨rfl, rfl⟩)
    | false =>
      rw [if_neg (by simp), if_pos rfl]
      refine G tt_ok pk67 ?_
      exact CW.ret (fin_ret rfl (A := gA g Y) pk_ ⟨rfl, rfl⟩)
end Go.Proofs.YtebpodnbalfomaaGreatDoor.Sl
namespace Go.Proofs.YtebpodnbalfomaaGreatDoor.Sl
open Go Go.RowKit Go.Proofs
set_option linter.unusedVariables false
set_option linter.unusedSimpArgs false
/-- What is seen has a priority of eight bits. -/
theorem seen_pri {R : RS} {D : DS} (ok : OkD R D) {k : Int} {p : Int × Ln} (h : p ∈ D.seenV k) : 0 ≤ p.2.2.2.2 ∧ p.2.2.2.2 ≤ 255 := by
  unfold DS.seenV at h
  split at h
  · split at h
    · rename_i x hx
      have hes := (ok.es x (List.mem_of_getElem? hx)).2
      rcases List.mem_append.1 h with h | h
      · unfold seenA at h
        obtain ⟨q, hq, rfl⟩ := List.mem_map.1 h
        obtain ⟨i, e, he, rfl⟩ := allN_mem hq
        have := hes e (List.mem_of_getElem? he)
        exact ⟨this.2.2.1, this.2.2.2.1⟩
      · unfold seenB at h
        obtain ⟨q, hq, rfl⟩ := List.mem_map.1 h
        obtain ⟨i, e, he, rfl⟩ := allR_mem (List.mem_filter.1 hq).1
        have := ok.ok e (List.mem_of_getElem? he)
        exact ⟨this.2.2.1, this.2.2.2.1⟩
    · simp at h
  · simp at h
/-- What a candidate may be. -/
def candOk (c : Cd) : Prop := 0 ≤ c.1 ∧ c.1 < 8256 ∧ 0 ≤ c.2.1 ∧ c.2.1 ≤ 255 ∧ 0 ≤ c.2.2.1 ∧ c.2.2.1 ≤ 1
theorem and_255 (b : Nat) (hb : b < 256) : 0 ≤ andI (b : Int) 248 ∧ andI (b : Int) 248 ≤ 255 := by
  rw [show andI (b : Int) 248 = ((b &&& 248 : Nat) : Int) from andI_nat (b := 248) (by omega) (by decide)]
  have := @Nat.and_le_left b 248
  omega
theorem cfAt_lt {cf : List Nat} (h : ∀ b ∈ cf, b < 256) (id : Int) : cfAt cf id < 256 := by
  unfold cfAt
  cases e : cf[(id - 8192).toNat]? with
  | none => decide
  | some b => exact h b (List.mem_of_getElem? e)
theorem cand_ok {R : RS} {G : GS} (ok : OkG R G) {k : Int} {c : Cd} (h : c ∈ G.candV k) : candOk c ∧ c.2.2.2 = true := by
  unfold GS.candV at h
  split at h
  · rcases List.mem_append.1 h with h | h
    · obtain ⟨p, hp, rfl⟩ := List.mem_map.1 h
      have h1 := readyV_sub hp
      have h2 := seen_id ok.ok h1
      have h3 := seen_pri ok.ok h1
      have h4 := seen_gr ok.ok k p h1
      exact ⟨⟨h2.1, by show p.1 < 8256; omega, h3.1, h3.2, h4.1, h4.2⟩, rfl⟩
    · obtain ⟨h1, _, e⟩ := candB_ids ok h
      obtain ⟨j, hj, hj64, e2⟩ := waits_mem ok h1
      have := and_255 (cfAt G.cf c.1) (cfAt_lt ok.by_ _)
      rw [e]
      refine ⟨⟨?_, ?_, this.1, this.2, by show (0 : Int) ≤ 1; omega, by show (1 : Int) ≤ 1; omega⟩, rfl⟩
      · show 0 ≤ c.1; omega
      · show c.1 < 8256; omega
  · simp at h
theorem top_mem (l : List Cd) : topC l = (0, 0, 0, false) ∧ l = [] ∨ topC l ∈ l := by
  unfold topC
  cases h : ordC l with
  | nil =>
    left
    refine ⟨rfl, ?_⟩
    have := ordC_len l
    rw [h] at this
    exact List.eq_nil_of_length_eq_zero this.symm
  | cons c r =>
    right
    have : c ∈ ordC l := by rw [h]; simp
    exact ordC_mem.1 this
theorem top_ok {R : RS} {G : GS} (ok : OkG R G) (k : Int) : candOk (topC (G.candV k)) := by
  rcases top_mem (G.candV k) with ⟨h, _⟩ | h
  · rw [h]; unfold candOk; simp
  · exact (cand_ok ok h).1
theorem OkG.setF {R : RS} {G : GS} (ok : OkG R G) (k : Int) {s t : SdS} (hx : G.ss[k.toNat]? = some s) (hf : FcOk t.f) (hw : t.W = s.W) (h1 : t.pr < 2 ^ 64) (h2 : t.pe < 2 ^ 64) : OkG R (G.setS k t) := by
  have hs := ok.sd s (List.mem_of_getElem? hx)
  refine ⟨ok.ok, by unfold GS.setS; simp only [List.length_set]; exact ok.len, by unfold GS.setS; simp only [List.length_set]; exact ok.n4, ok.lp, ok.by_, ?_⟩
  intro x hx2
  rcases List.mem_or_eq_of_mem_set hx2 with h | rfl
  · exact ok.sd x h
  · exact ⟨hf, hw ▸ hs.w, hw ▸ hs.lt, h1, h2⟩
def realI (id : Int) : Bool := decide (0 ≤ id ∧ id < 1020) || decide (8192 ≤ id ∧ id < 16384)
/-- A read of the acknowledge register. -/
def GS.iarV (G : GS) (k : Int) (s : SdS) (kg : Nat) : GS × Int :=
  if s.f.takes (topC (G.candV k)).2.1.toNat (topC (G.candV k)).2.2.1.toNat (topC (G.candV k)).2.2.2 kg then
    ((G.setS k { s with f := s.f.takeF (topC (G.candV k)).2.1.toNat (topC (G.candV k)).2.2.1.toNat (topC (G.candV k)).2.2.2 kg }).takenV k (topC (G.candV k)).1, (topC (G.candV k)).1)
  else (G.setS k { s with f := s.f.takeF (topC (G.candV k)).2.1.toNat (topC (G.candV k)).2.2.1.toNat (topC (G.candV k)).2.2.2 kg }, 1023)
/-- A write to the end's register. -/
def GS.eoiV (G : GS) (k : Int) (s : SdS) (kg : Nat) (id : Int) : GS × Int :=
  if realI id then (G.setS k { s with f := s.f.dropF kg }).endV k id (s.f.drops kg && !s.f.sp) else G.endV k id false
/-- An access to a processor's interface. -/
def GS.accS (G : GS) (k r : Int) (w : Bool) (x : Nat) (s : SdS) : GS × (Int × Int × Int) :=
  if w then
    if r = 3 then ((G.eoiV k s 0 (x % 2 ^ 24 : Nat)).1, (0, (G.eoiV k s 0 (x % 2 ^ 24 : Nat)).2, 0))
    else if r = 4 then ((G.eoiV k s 1 (x % 2 ^ 24 : Nat)).1, (0, (G.eoiV k s 1 (x % 2 ^ 24 : Nat)).2, 0))
    else if r = 5 then ((G.endV k (x % 2 ^ 24 : Nat) (realI (x % 2 ^ 24 : Nat) && s.f.sp)).1, (0, (G.endV k (x % 2 ^ 24 : Nat) (realI (x % 2 ^ 24 : Nat) && s.f.sp)).2, 0))
    else if r = 15 then ({ G with D := (G.D.callV k 0 x).1 }, (0, -1, 0))
    else if r = 16 then ({ G with D := (G.D.callV k 1 x).1 }, (0, -1, 0))
    else (G.setS k { s with f := (s.f.writeF r x).1 }, (0, -1, if (s.f.writeF r x).2 then 0 else 281))
  else
    if r = 1 then ((G.iarV k s 0).1, ((G.iarV k s 0).2, -1, 0))
    else if r = 2 then ((G.iarV k s 1).1, ((G.iarV k s 1).2, -1, 0))
    else if r = 13 then (G, (s.f.shows (topC (G.candV k)) 0, -1, 0))
    else if r = 14 then (G, (s.f.shows (topC (G.candV k)) 1, -1, 0))
    else if (s.f.readF r).2 then (G, ((s.f.readF r).1, -1, 0)) else (G, (0, -1, 281))
def GS.accV (G : GS) (k r : Int) (w : Bool) (x : Nat) : GS × (Int × Int × Int) :=
  if rightV G.ss.length k then (match G.ss[k.toNat]? with
    | some s => G.accS k r w x s
    | none => (G, (0, -1, 271)))
  else (G, (0, -1, 271))
end Go.Proofs.YtebpodnbalfomaaGreatDoor.Sl
namespace Go.Proofs.YtebpodnbalfomaaGreatDoor.Sl
open Go Go.RowKit Go.Proofs
set_option linter.unusedVariables false
set_option linter.unusedSimpArgs false
attribute [local irreducible] CW Tri OW
attribute [local irreducible] wlen
set_option maxRecDepth 10000
@[reducible] def pk23 : List (Nat × Plan) := [(11, [(0, 0, []), (1, 0, []), (2, 0, []), (3, 0, []), (4, 0, []), (6, 0, []), (7, 0, []), (5, 1, [2]), (8, 1, [2]), (9, 0, []), (10, 0, []), (11, 0, []), (12, 0, [])])]
theorem v24 {v : Nat} (hv : v < 2 ^ 64) : IntKind.i64.wrap (IntKind.u64.wrap ((BitVec.ofInt IntKind.u64.bits (v : Int) &&& BitVec.ofInt IntKind.u64.bits 16777215).toNat : Int)) = ((v % 2 ^ 24 : Nat) : Int) := by
  rw [show IntKind.u64.wrap ((BitVec.ofInt IntKind.u64.bits (v : Int) &&& BitVec.ofInt IntKind.u64.bits 16777215).toNat : Int) = ((v % 2 ^ 24 : Nat) : Int) from and_mod (k := 24) hv (by omega)]
  exact wrap_id (by omega) (by omega)
theorem shows_range (f : Fc) {c : Cd} (h : candOk c) (k : Nat) : 0 ≤ f.shows c k ∧ f.shows c k < 8256 := by
  unfold Fc.shows
  split
  · exact ⟨h.1, h.2.1⟩
  · omega
theorem dropF_sp (f : Fc) (k : Nat) : (f.dropF k).sp = f.sp := by unfold Fc.dropF; split <;> rfl
theorem rd_ssp {ss : List SdS} {k : Nat} {s : SdS} (h : ss[k]? = some s) (X : List Value) : rdv ti4 (ss.flatMap sdC ++ X) (bif Nat.beq (0 + k * 12) 0 then 5 else 0 + k * 12 + 5) = some (.bool s.f.sp) :=
  rd_partR (enc := sdC) (sz := 12) (fun _ => rfl) h 5 (i := ti4) rfl (by decide) (by rw [off_add]; omega) (by decide) X
set_option maxHeartbeats 16000000 in
theorem access23 (β : Base) (hG : TabOk β) (g : Nat) {R : RS} {Z : GS} (ok : OkG R Z) (k r : Int) (w : Bool) {x : Nat} (hv : x < 2 ^ 64) :
    Tri Tryz.prog β 23 [.pointer (some ⟨g, 0, none⟩), .int .i64 k, .int .i64 r, .bool w, .int .u64 x] (gA g Z)
    (fun u L => u = .tuple #[.int .u64 (Z.accV k r w x).2.1, .int .i64 (Z.accV k r w x).2.2.1, .int .i64 (Z.accV k r w x).2.2.2] ∧ L = gA g (Z.accV k r w x).1) := by
  have htop := top24 β hG g ok k
  have htok := top_ok ok k
  have hn4 := ok.n4
  have x8 := ok.ok.x8
  unfold GS.accV
  cases hr : rightV Z.ss.length k with
  | false =>
    rw [if_neg (by simp)]
    obtain ⟨d, D, qc, cc, cf, qs, cs, ss⟩ := Z
    refine Tri.intro tt_ok Tryz.func23 rfl rfl Tryz.ntmps23 rfl fun F => ?_
    rw [gL_of]
    simp only at hr ⊢
    refine G tt_ok pk23 ?_
    refine ke rfl rfl (ghas46 β g d qc qs cf.length cc ss.length cs k) ?_
    rw [hr]
    refine G tt_ok pk23 ?_
    exact CW.ret (fin_ret rfl pk_ ⟨rfl, rfl⟩)
  | true =>
    obtain ⟨s, hx, hl, hk⟩ := rights_at hr
    have hn0 : 0 < Z.ss.length := by omega
    have hsd := ok.sd s (List.mem_of_getElem? hx)
    rw [if_pos rfl, hx]
    simp only
    have hhas := ghas46 β g Z.d Z.qc Z.qs Z.cf.length Z.cc Z.ss.length Z.cs k
    refine Tri.intro tt_ok Tryz.func23 rfl rfl Tryz.ntmps23 rfl fun F => ?_
    rw [gL_of] at htop ⊢
    have hset : ∀ f' : Fc, gA g (Z.setS k { s with f := f' }) = [pt g (gC Z.d Z.qc Z.cf.length Z.cc Z.qs Z.ss.length Z.cs), rowA Z.qc Z.cf.length (Z.cf.flatMap byC), rowA Z.qs Z.ss.length ((Z.ss.set k.toNat { s with f := f' }).flatMap sdC), pkA sdA Z.ss] ++ dA Z.d Z.D := fun f' => gA_set (t := { s with f := f' }) hx rfl
    have hend := fun (Y : GS) (id : Int) (hi : id < 9223372036854775808) (may : Bool) => end67 β g Y k hi may
    unfold GS.accS
    refine G tt_ok pk23 ?_
    refine ke rfl rfl (hhas) ?_
    rw [hr]
    refine G tt_ok pk23 ?_
    refine ir_ tt_ok rfl rfl (k.toNat) (hk) rfl ?_ (hlt := hl)
    refine G tt_ok pk23 ?_
    rw [v24 hv]
    refine G tt_ok pk23 ?_
    cases w with
    | false =>
      simp only [Bool.false_eq_true, if_false]
      refine G tt_ok pk23 ?_
      by_cases h1 : r = 1
      · subst h1
        unfold GS.iarV
        refine G tt_ok pk23 ?_
        refine ke rfl rfl (htop) ?_
        generalize hc : topC (Z.candV k) = c at htok htop ⊢
        obtain ⟨id, pri, gr, is⟩ := c
        obtain ⟨t1, t2, t3, t4, t5, t6⟩ := htok
        simp only at t1 t2 t3 t4 t5 t6 ⊢
        obtain ⟨p, rfl⟩ : ∃ p : Nat, pri = (p : Int) := ⟨pri.toNat, by omega⟩
        obtain ⟨gn, rfl⟩ : ∃ n : Nat, gr = (n : Int) := ⟨gr.toNat, by omega⟩
        rw [Int.toNat_natCast, Int.toNat_natCast]
        have htk := take64 β (q := Z.qs) hx hsd.f id (p := p) (g := gn) (k := 0) (by omega) (by omega) is (by omega)
        have hok2 := ok.setF k hx (t := { s with f := s.f.takeF p gn is 0 }) (takeF_ok hsd.f (by omega) gn is 0) rfl hsd.pr hsd.pe
        have htn := taken65 β g hok2 k (id := id) (by omega)
        rw [hset] at htn
        refine G tt_ok pk23 ?_
        refine ke rfl rfl (htk) ?_
        refine G tt_ok pk23 ?_
        cases htak : s.f.takes p gn is 0 with
        | true =>
          simp only [if_true]
          refine G tt_ok pk23 ?_
          refine ke rfl rfl (htn) ?_
          refine G tt_ok pk23 ?_
          rw [show IntKind.u64.wrap id = id from wrap_u (by omega) (by omega)]
          exact CW.ret (fin_ret rfl (A := gA g ((Z.setS k { s with f := s.f.takeF p gn is 0 }).takenV k id)) pk_ ⟨rfl, rfl⟩)
        | false =>
          simp only [Bool.false_eq_true, if_false]
          refine G tt_ok pk23 ?_
          refine CW.ret (fin_ret rfl (A := gA g (Z.setS k { s with f := s.f.takeF p gn is 0 })) ?_ ⟨rfl, rfl⟩)
          rw [hset]
          exact pk_
      rw [if_neg h1, show (r == 1) = false by simp [h1]]
      refine G tt_ok pk23 ?_
      by_cases h2 : r = 2
      · subst h2
        unfold GS.iarV
        refine G tt_ok pk23 ?_
        refine ke rfl rfl (htop) ?_
        generalize hc : topC (Z.candV k) = c at htok htop ⊢
        obtain ⟨id, pri, gr, is⟩ := c
        obtain ⟨t1, t2, t3, t4, t5, t6⟩ := htok
        simp only at t1 t2 t3 t4 t5 t6 ⊢
        obtain ⟨p, rfl⟩ : ∃ p : Nat, pri = (p : Int) := ⟨pri.toNat, by omega⟩
        obtain ⟨gn, rfl⟩ : ∃ n : Nat, gr = (n : Int) := ⟨gr.toNat, by omega⟩
        rw [Int.toNat_natCast, Int.toNat_natCast]
        have htk := take64 β (q := Z.qs) hx hsd.f id (p := p) (g := gn) (k := 1) (by omega) (by omega) is (by omega)
        have hok2 := ok.setF k hx (t := { s with f := s.f.takeF p gn is 1 }) (takeF_ok hsd.f (by omega) gn is 1) rfl hsd.pr hsd.pe
        have htn := taken65 β g hok2 k (id := id) (by omega)
        rw [hset] at htn
        refine G tt_ok pk23 ?_
        refine ke rfl rfl (htk) ?_
        refine G tt_ok pk23 ?_
        cases htak : s.f.takes p gn is 1 with
        | true =>
          simp only [if_true]
          refine G tt_ok pk23 ?_
          refine ke rfl rfl (htn) ?_
          refine G tt_ok pk23 ?_
          rw [show IntKind.u64.wrap id = id from wrap_u (by omega) (by omega)]
          exact CW.ret (fin_ret rfl (A := gA g ((Z.setS k { s with f := s.f.takeF p gn is 1 }).takenV k id)) pk_ ⟨rfl, rfl⟩)
        | false =>
          simp only [Bool.false_eq_true, if_false]
          refine G tt_ok pk23 ?_
          refine CW.ret (fin_ret rfl (A := gA g (Z.setS k { s with f := s.f.takeF p gn is 1 })) ?_ ⟨rfl, rfl⟩)
          rw [hset]
          exact pk_
      rw [if_neg h2, show (r == 2) = false by simp [h2]]
      refine G tt_ok pk23 ?_
      by_cases h13 : r = 13
      · subst h13
        have hsh := shows66 β s.f (topC (Z.candV k)) (k := 0) (by omega)
        have hrg := shows_range s.f htok 0
        refine G tt_ok pk23 ?_
        refine lr_ tt_ok rfl rfl (rd_sdf hx) ?_ (hn := hn0)
        refine G tt_ok pk23 ?_
        (refine ka rfl rfl (htop) ?_; rintro _ _ ⟨rfl, rfl⟩; refine ⟨(by repeat (first | exact trivial | refine ⟨trivial, ?_⟩ | refine ⟨rr_ (rd_sdf hx), ?_⟩ | refine ⟨wk (by repeat (first | exact .h | exact .q | apply At.t)) (by rfl), ?_⟩)), ?_⟩)
        refine G tt_ok pk23 ?_
        (refine ka rfl rfl (hsh) ?_; rintro _ _ ⟨rfl, rfl⟩; refine ⟨(by repeat (first | exact trivial | refine ⟨trivial, ?_⟩ | refine ⟨rr_ (rd_sdf hx), ?_⟩ | refine ⟨wk (by repeat (first | exact .h | exact .q | apply At.t)) (by rfl), ?_⟩)), ?_⟩)
        refine G tt_ok pk23 ?_
        rw [show IntKind.u64.wrap (s.f.shows (topC (Z.candV k)) 0) = s.f.shows (topC (Z.candV k)) 0 from wrap_u (by omega) (by omega)]
        refine CW.ret (fin_ret rfl (A := gA g Z) ?_ ⟨rfl, rfl⟩)
        rw [gL_of]
        exact pk_
      rw [if_neg h13, show (r == 13) = false by simp [h13]]
      refine G tt_ok pk23 ?_
      by_cases h14 : r = 14
      · subst h14
        have hsh := shows66 β s.f (topC (Z.candV k)) (k := 1) (by omega)
        have hrg := shows_range s.f htok 1
        refine G tt_ok pk23 ?_
        refine lr_ tt_ok rfl rfl (rd_sdf hx) ?_ (hn := hn0)
        refine G tt_ok pk23 ?_
        (refine ka rfl rfl (htop) ?_; rintro _ _ ⟨rfl, rfl⟩; refine ⟨(by repeat (first | exact trivial | refine ⟨trivial, ?_⟩ | refine ⟨rr_ (rd_sdf hx), ?_⟩ | refine ⟨wk (by repeat (first | exact .h | exact .q | apply At.t)) (by rfl), ?_⟩)), ?_⟩)
        refine G tt_ok pk23 ?_
        (refine ka rfl rfl (hsh) ?_; rintro _ _ ⟨rfl, rfl⟩; refine ⟨(by repeat (first | exact trivial | refine ⟨trivial, ?_⟩ | refine ⟨rr_ (rd_sdf hx), ?_⟩ | refine ⟨wk (by repeat (first | exact .h | exact .q | apply At.t)) (by rfl), ?_⟩)), ?_⟩)
        refine G tt_ok pk23 ?_
        rw [show IntKind.u64.wrap (s.f.shows (topC (Z.candV k)) 1) = s.f.shows (topC (Z.candV k)) 1 from wrap_u (by omega) (by omega)]
        refine CW.ret (fin_ret rfl (A := gA g Z) ?_ ⟨rfl, rfl⟩)
        rw [gL_of]
        exact pk_
      rw [if_neg h14, show (r == 14) = false by simp [h14]]
      refine G tt_ok pk23 ?_
      refine lr_ tt_ok rfl rfl (rd_sdf hx) ?_ (hn := hn0)
      refine G tt_ok pk23 ?_
      refine ke rfl rfl (read72 β hsd.f r) ?_
      refine G tt_ok pk23 ?_
      cases hrd : (s.f.readF r).2 with
      | true =>
        rw [if_pos rfl]
        refine G tt_ok pk23 ?_
        refine CW.ret (fin_ret rfl (A := gA g Z) ?_ ⟨rfl, rfl⟩)
        rw [gL_of]
        exact pk_
      | false =>
        rw [if_neg (by simp)]
        refine G tt_ok pk23 ?_
        refine CW.ret (fin_ret rfl (A := gA g Z) ?_ ⟨rfl, rfl⟩)
        rw [gL_of]
        exact pk_
    | true =>
      simp only [if_true]
      refine G tt_ok pk23 ?_
      generalize hid : ((x % 2 ^ 24 : Nat) : Int) = id
      have hidr : 0 ≤ id ∧ id < 16777216 := by omega
      by_cases h3 : r = 3
      · subst h3
        unfold GS.eoiV
        have hcr := creal68 β id
        rw [show (decide (0 ≤ id ∧ id < 1020) || decide (8192 ≤ id ∧ id < 16384)) = realI id from rfl] at hcr
        refine G tt_ok pk23 ?_
        refine ke rfl rfl (hcr) ?_
        cases hre : realI id with
        | false =>
          have he := hend Z id (by omega) false
          rw [gL_of] at he
          simp only [Bool.false_eq_true, if_false]
          refine G tt_ok pk23 ?_
          refine ke rfl rfl (he) ?_
          refine G tt_ok pk23 ?_
          exact CW.ret (fin_ret rfl (A := gA g (Z.endV k id false).1) pk_ ⟨rfl, rfl⟩)
        | true =>
          have hdr := drop69 β (q := Z.qs) hx hsd.f (k := 0) (by omega)
          have hx2 : (Z.ss.set k.toNat { s with f := s.f.dropF 0 })[k.toNat]? = some { s with f := s.f.dropF 0 } := List.getElem?_set_self hl
          have hl2 : (Z.ss.set k.toNat { s with f := s.f.dropF 0 }).length = Z.ss.length := List.length_set
          simp only [if_true]
          refine G tt_ok pk23 ?_
          refine ke rfl rfl (hdr) ?_
          cases hd : s.f.drops 0 with
          | false =>
            have he := hend (Z.setS k { s with f := s.f.dropF 0 }) id (by omega) false
            rw [hset] at he
            simp only [Bool.false_and]
            refine G tt_ok pk23 ?_
            refine ke rfl rfl (he) ?_
            refine G tt_ok pk23 ?_
            exact CW.ret (fin_ret rfl (A := gA g ((Z.setS k { s with f := s.f.dropF 0 }).endV k id false).1) pk_ ⟨rfl, rfl⟩)
          | true =>
            have he := hend (Z.setS k { s with f := s.f.dropF 0 }) id (by omega) (!s.f.sp)
            rw [hset] at he
            simp only [Bool.true_and]
            refine G tt_ok pk23 ?_
            refine lr_ tt_ok rfl rfl (rd_ssp hx2) ?_ (hn := hn0)
            refine G tt_ok pk23 ?_
            rw [show (s.f.dropF 0).sp = s.f.sp from dropF_sp _ _]
            refine ke rfl rfl (he) ?_
            refine G tt_ok pk23 ?_
            exact CW.ret (fin_ret rfl (A := gA g ((Z.setS k { s with f := s.f.dropF 0 }).endV k id (!s.f.sp)).1) pk_ ⟨rfl, rfl⟩)
      rw [if_neg h3, show (r == 3) = false by simp [h3]]
      refine G tt_ok pk23 ?_
      by_cases h4 : r = 4
      · subst h4
        unfold GS.eoiV
        have hcr := creal68 β id
        rw [show (decide (0 ≤ id ∧ id < 1020) || decide (8192 ≤ id ∧ id < 16384)) = realI id from rfl] at hcr
        refine G tt_ok pk23 ?_
        refine ke rfl rfl (hcr) ?_
        cases hre : realI id with
        | false =>
          have he := hend Z id (by omega) false
          rw [gL_of] at he
          simp only [Bool.false_eq_true, if_false]
          refine G tt_ok pk23 ?_
          refine ke rfl rfl (he) ?_
          refine G tt_ok pk23 ?_
          exact CW.ret (fin_ret rfl (A := gA g (Z.endV k id false).1) pk_ ⟨rfl, rfl⟩)
        | true =>
          have hdr := drop69 β (q := Z.qs) hx hsd.f (k := 1) (by omega)
          have hx2 : (Z.ss.set k.toNat { s with f := s.f.dropF 1 })[k.toNat]? = some { s with f := s.f.dropF 1 } := List.getElem?_set_self hl
          have hl2 : (Z.ss.set k.toNat { s with f := s.f.dropF 1 }).length = Z.ss.length := List.length_set
          simp only [if_true]
          refine G tt_ok pk23 ?_
          refine ke rfl rfl (hdr) ?_
          cases hd : s.f.drops 1 with
          | false =>
            have he := hend (Z.setS k { s with f := s.f.dropF 1 }) id (by omega) false
            rw [hset] at he
            simp only [Bool.false_and]
            refine G tt_ok pk23 ?_
            refine ke rfl rfl (he) ?_
            refine G tt_ok pk23 ?_
            exact CW.ret (fin_ret rfl (A := gA g ((Z.setS k { s with f := s.f.dropF 1 }).endV k id false).1) pk_ ⟨rfl, rfl⟩)
          | true =>
            have he := hend (Z.setS k { s with f := s.f.dropF 1 }) id (by omega) (!s.f.sp)
            rw [hset] at he
            simp only [Bool.true_and]
            refine G tt_ok pk23 ?_
            refine lr_ tt_ok rfl rfl (rd_ssp hx2) ?_ (hn := hn0)
            refine G tt_ok pk23 ?_
            rw [show (s.f.dropF 1).sp = s.f.sp from dropF_sp _ _]
            refine ke rfl rfl (he) ?_
            refine G tt_ok pk23 ?_
            exact CW.ret (fin_ret rfl (A := gA g ((Z.setS k { s with f := s.f.dropF 1 }).endV k id (!s.f.sp)).1) pk_ ⟨rfl, rfl⟩)
      rw [if_neg h4, show (r == 4) = false by simp [h4]]
      refine G tt_ok pk23 ?_
      by_cases h5 : r = 5
      · subst h5
        have hcr := creal68 β id
        rw [show (decide (0 ≤ id ∧ id < 1020) || decide (8192 ≤ id ∧ id < 16384)) = realI id from rfl] at hcr
        refine G tt_ok pk23 ?_
        refine ke rfl rfl (hcr) ?_
        cases hre : realI id with
        | false =>
          have he := hend Z id (by omega) false
          rw [gL_of] at he
          simp only [Bool.false_and]
          refine G tt_ok pk23 ?_
          refine ke rfl rfl (he) ?_
          refine G tt_ok pk23 ?_
          exact CW.ret (fin_ret rfl (A := gA g (Z.endV k id false).1) pk_ ⟨rfl, rfl⟩)
        | true =>
          have he := hend Z id (by omega) s.f.sp
          rw [gL_of] at he
          simp only [Bool.true_and]
          refine G tt_ok pk23 ?_
          refine lr_ tt_ok rfl rfl (rd_ssp hx) ?_ (hn := hn0)
          refine G tt_ok pk23 ?_
          refine ke rfl rfl (he) ?_
          refine G tt_ok pk23 ?_
          exact CW.ret (fin_ret rfl (A := gA g (Z.endV k id s.f.sp).1) pk_ ⟨rfl, rfl⟩)
      rw [if_neg h5, show (r == 5) = false by simp [h5]]
      refine G tt_ok pk23 ?_
      by_cases h15 : r = 15
      · subst h15
        refine G tt_ok pk23 ?_
        refine ke rfl rfl (call25 β Z.d Z.D k 0 x hv x8) ?_
        refine G tt_ok pk23 ?_
        refine CW.ret (fin_ret rfl (A := gA g { Z with D := (Z.D.callV k 0 x).1 }) ?_ ⟨rfl, rfl⟩)
        rw [gL_of]
        exact pk_
      rw [if_neg h15, show (r == 15) = false by simp [h15]]
      refine G tt_ok pk23 ?_
      by_cases h16 : r = 16
      · subst h16
        refine G tt_ok pk23 ?_
        refine ke rfl rfl (call25 β Z.d Z.D k 1 x hv x8) ?_
        refine G tt_ok pk23 ?_
        refine CW.ret (fin_ret rfl (A := gA g { Z with D := (Z.D.callV k 1 x).1 }) ?_ ⟨rfl, rfl⟩)
        rw [gL_of]
        exact pk_
      rw [if_neg h16, show (r == 16) = false by simp [h16]]
      refine G tt_ok pk23 ?_
      have hwr := write71 β (q := Z.qs) hx r hv
      refine ke rfl rfl (hwr) ?_
      cases hw : (s.f.writeF r x).2 with
      | true =>
        simp only [if_true]
        refine G tt_ok pk23 ?_
        refine CW.ret (fin_ret rfl (A := gA g (Z.setS k { s with f := (s.f.writeF r x).1 })) ?_ ⟨rfl, rfl⟩)
        rw [hset]
        exact pk_
      | false =>
        have hx2 : (Z.ss.set k.toNat { s with f := (s.f.writeF r x).1 })[k.toNat]? = some { s with f := (s.f.writeF r x).1 } := List.getElem?_set_self hl
        have hok2 : FcOk (s.f.writeF r x).1 := writeF_ok hsd.f r x
        simp only [Bool.false_eq_true, if_false]
        refine G tt_ok pk23 ?_
        refine lr_ tt_ok rfl rfl (rd_sdf hx2) ?_ (hn := hn0)
        refine G tt_ok pk23 ?_
        refine ke rfl rfl (read72 β hok2 r) ?_
        refine G tt_ok pk23 ?_
        cases hrd : ((s.f.writeF r x).1.readF r).2 <;> (
          refine G tt_ok pk23 ?_
          refine CW.ret (fin_ret rfl (A := gA g (Z.setS k { s with f := (s.f.writeF r x).1 })) ?_ ⟨rfl, rfl⟩)
          rw [hset]
          exact pk_)
end Go.Proofs.YtebpodnbalfomaaGreatDoor.Sl
namespace Go.Proofs.YtebpodnbalfomaaGreatDoor.Sl
open Go Go.RowKit Go.Proofs
set_option linter.unusedVariables false
set_option linter.unusedSimpArgs false
theorem OkG.setD {R : RS} {G : GS} (ok : OkG R G) {D : DS} (h : OkD R D) (hl : D.xs.length = G.D.xs.length) : OkG R { G with D := D } :=
  ⟨h, by show G.ss.length = D.xs.length; rw [hl]; exact ok.len, ok.n4, ok.lp, ok.by_, ok.sd⟩
theorem OkG.setW {R : RS} {G : GS} (ok : OkG R G) {k : Nat} {s t : SdS} (hx : G.ss[k]? = some s) (ht : OkS G.cf.length t) : OkG R { G with ss := G.ss.set k t } := by
  refine ⟨ok.ok, by simp only [List.length_set]; exact ok.len, by simp only [List.length_set]; exact ok.n4, ok.lp, ok.by_, ?_⟩
  intro x hx2
  rcases List.mem_or_eq_of_mem_set hx2 with h | rfl
  · exact ok.sd x h
  · exact ht
theorem OkS.let_ {n : Nat} {s : SdS} (h : OkS n s) {j : Nat} (hj : j < n) (hj64 : j < 64) (w : Bool) : OkS n (s.letS j w) := by
  unfold SdS.letS
  refine ⟨h.f, ?_, ?_, h.pr, h.pe⟩
  · cases w with
    | true => exact putS_ok h.w hj64
    | false => exact takeS_ok h.w j
  · intro i hi hh
    cases w with
    | true =>
      simp only [if_true] at hh
      rw [has_putS, Bool.or_eq_true, decide_eq_true_eq] at hh
      rcases hh with rfl | hh
      · exact hj
      · exact h.lt i hi hh
    | false =>
      simp only [Bool.false_eq_true, if_false] at hh
      rw [has_takeS _ _ hi, Bool.and_eq_true] at hh
      exact h.lt i hi hh.2
theorem OkG.letV {R : RS} {G : GS} (ok : OkG R G) (k : Int) {id : Int} (hi : id ≤ 9223372036854775807) (w : Bool) : OkG R (G.letV k id w).1 := by
  unfold GS.letV
  split
  · split
    · rename_i hm
      split
      · rename_i s hs
        obtain ⟨j, hj, e1, e2⟩ := msg_at hi hm
        have e3 : (id - 8192).toNat = j := by omega
        have := ok.lp
        rw [e3]
        exact ok.setW hs ((ok.sd s (List.mem_of_getElem? hs)).let_ hj (by omega) w)
      · exact ok
    · exact ok
  · exact ok
theorem OkG.setupV {R : RS} {G : GS} (ok : OkG R G) (id : Int) {b : Nat} (hb : b < 256) : OkG R (G.setupV id b).1 := by
  unfold GS.setupV
  split
  · refine ⟨ok.ok, ok.len, ok.n4, by simp only [List.length_set]; exact ok.lp, ?_, ?_⟩
    · intro x hx
      rcases List.mem_or_eq_of_mem_set hx with h | rfl
      · exact ok.by_ x h
      · exact hb
    · simp only [List.length_set]
      exact ok.sd
  · exact ok
theorem doV_len (D : DS) (k id a : Int) : (D.doV k id a).1.xs.length = D.xs.length := by
  unfold DS.doV
  repeat' split
  all_goals simp
theorem wrOwnV_len (D : DS) (k r f c : Int) (v : Nat) : (D.wrOwnV k r f c v).1.xs.length = D.xs.length := by
  unfold DS.wrOwnV
  repeat' split
  all_goals simp
theorem wrV_len (D : DS) (off w : Int) (v : Nat) : (D.wrV off w v).1.xs.length = D.xs.length := by
  unfold DS.wrV
  repeat' split
  all_goals simp
theorem callV_len (D : DS) (fr gr : Int) (v : Nat) : (D.callV fr gr v).1.xs.length = D.xs.length := by
  unfold DS.callV
  split
  · simp only [callL]
    exact (callF_len _ _ _ (D.xs, 0)).1
  · rfl
theorem putV_len (D : DS) (k id : Int) (s : Iq) : (D.putV k id s).1.xs.length = D.xs.length := by
  unfold DS.putV
  repeat' split
  all_goals simp
theorem actV_len (D : DS) (x : Ac) : (actV D x).xs.length = D.xs.length := by
  unfold actV
  repeat' split
  all_goals first | rfl | exact doV_len _ _ _ _ | exact wrOwnV_len _ _ _ _ _ _ | exact wrV_len _ _ _ _ | exact callV_len _ _ _ _ | exact putV_len _ _ _ _
theorem OkG.takenV {R : RS} {G : GS} (ok : OkG R G) (k : Int) {id : Int} (hi : id ≤ 9223372036854775807) : OkG R (G.takenV k id) := by
  unfold GS.takenV
  split
  · exact ok.letV k hi false
  · exact ok.setD (ok.ok.doV _ _ _) (doV_len _ _ _ _)
theorem OkG.endedV {R : RS} {G : GS} (ok : OkG R G) (k id : Int) : OkG R (G.endedV k id).1 := by
  unfold GS.endedV
  split
  · exact ok
  · exact ok.setD (ok.ok.doV _ _ _) (doV_len _ _ _ _)
theorem OkG.endV {R : RS} {G : GS} (ok : OkG R G) (k id : Int) (may : Bool) : OkG R (G.endV k id may).1 := by
  unfold GS.endV
  split
  · exact ok.endedV k id
  · split
    · exact ok.endedV k id
    · exact ok
theorem OkG.wrOwnV {R : RS} {G : GS} (ok : OkG R G) (k off w : Int) (v : Nat) : OkG R (G.wrOwnV k off w v).1 := by
  have h48 : v % 2 ^ 48 < 2 ^ 64 := by omega
  unfold GS.wrOwnV
  split
  · exact ok
  · split
    · unfold GS.wrRegV
      generalize v % 2 ^ 48 = z at h48 ⊢
      split
      · rename_i s hs
        have hsd := ok.sd s (List.mem_of_getElem? hs)
        repeat' split
        all_goals first | with_reducible exact ok | (refine ok.setF k hs ?_ ?_ ?_ ?_ <;> first | with_reducible exact hsd.f | with_reducible rfl | with_reducible exact hsd.pr | with_reducible exact hsd.pe | with_reducible exact h48) | exact ok.setD (ok.ok.wrOwnV _ _ _ _ _) (wrOwnV_len _ _ _ _ _ _)
      · exact ok
    · exact ok
theorem OkG.iarV {R : RS} {G : GS} (ok : OkG R G) (k : Int) {s : SdS} (hs : G.ss[k.toNat]? = some s) (kg : Nat) : OkG R (G.iarV k s kg).1 := by
  have hsd := ok.sd s (List.mem_of_getElem? hs)
  have ht := top_ok ok k
  unfold candOk at ht
  have hF := ok.setF k hs (t := { s with f := s.f.takeF (topC (G.candV k)).2.1.toNat (topC (G.candV k)).2.2.1.toNat (topC (G.candV k)).2.2.2 kg }) (takeF_ok hsd.f (by omega) _ _ _) rfl hsd.pr hsd.pe
  unfold GS.iarV
  split
  · exact hF.takenV k (by omega)
  · exact hF
theorem OkG.eoiV {R : RS} {G : GS} (ok : OkG R G) (k : Int) {s : SdS} (hs : G.ss[k.toNat]? = some s) (kg : Nat) (id : Int) : OkG R (G.eoiV k s kg id).1 := by
  have hsd := ok.sd s (List.mem_of_getElem? hs)
  unfold GS.eoiV
  split
  · exact (ok.setF k hs (t := { s with f := s.f.dropF kg }) (dropF_ok hsd.f kg) rfl hsd.pr hsd.pe).endV k id _
  · exact ok.endV k id _
theorem OkG.accV {R : RS} {G : GS} (ok : OkG R G) (k r : Int) (w : Bool) (x : Nat) : OkG R (G.accV k r w x).1 := by
  unfold GS.accV
  split
  · split
    · rename_i s hs
      have hsd := ok.sd s (List.mem_of_getElem? hs)
      unfold GS.accS
      generalize ((x % 2 ^ 24 : Nat) : Int) = id
      repeat' split
      all_goals first | exact ok | exact ok.eoiV k hs _ _ | exact ok.endV k _ _ | exact ok.setD (ok.ok.callV _ _ _) (callV_len _ _ _ _) | exact ok.iarV k hs _ | exact ok.setF k hs (writeF_ok hsd.f _ _) rfl hsd.pr hsd.pe
    · exact ok
  · exact ok
/-- What waits for one processor waits for another one. -/
def mvS (id fr to : Int) (st : GS × Int) (x : Int) : GS × Int := if id = 0 ∨ id = x then (((st.1.letV fr x false).1.letV to x true).1, st.2 + 1) else st
def GS.moveV (G : GS) (id fr to : Int) : GS × Int := if fr = to ∨ rightV G.ss.length to = false then (G, 0) else (G.waitsV fr).foldl (mvS id fr to) (G, 0)
theorem OkG.mv {R : RS} (id fr to : Int) : ∀ (l : List Int) (st : GS × Int), (∀ x ∈ l, x ≤ 9223372036854775807) → OkG R st.1 → OkG R (l.foldl (mvS id fr to) st).1
  | [], _, _, h => h
  | x :: l, st, hl, h => by
    have hx := hl x (by simp)
    refine OkG.mv id fr to l _ (fun y hy => hl y (List.mem_cons_of_mem _ hy)) ?_
    unfold mvS
    split
    · exact (h.letV fr hx false).letV to hx true
    · exact h
end Go.Proofs.YtebpodnbalfomaaGreatDoor.Sl
namespace Go.Proofs.YtebpodnbalfomaaGreatDoor.Sl
open Go Go.RowKit Go.Proofs
set_option linter.unusedVariables false
set_option linter.unusedSimpArgs false
attribute [local irreducible] CW Tri OW
attribute [local irreducible] wlen
set_option maxRecDepth 10000
@[reducible] def pk104 : List (Nat × Plan) := []
theorem mv_cnt (id fr to : Int) : ∀ (l : List Int) (st : GS × Int), st.2 ≤ (l.foldl (mvS id fr to) st).2 ∧ (l.foldl (mvS id fr to) st).2 ≤ st.2 + l.length
  | [], st => by simp
  | x :: l, st => by
    have ih := mv_cnt id fr to l (mvS id fr to st x)
    have h : st.2 ≤ (mvS id fr to st x).2 ∧ (mvS id fr to st x).2 ≤ st.2 + 1 := by unfold mvS; split <;> simp <;> omega
    simp only [List.foldl_cons, List.length_cons]
    omega
theorem mv_snoc (id fr to : Int) (l : List Int) (st : GS × Int) (x : Int) : (l ++ [x]).foldl (mvS id fr to) st = mvS id fr to (l.foldl (mvS id fr to) st) x := by rw [List.foldl_append]; rfl
theorem waits_lt {R : RS} {G : GS} (ok : OkG R G) {k : Int} : ∀ x ∈ G.waitsV k, x ≤ 8255 := fun x hx => by
  obtain ⟨j, _, h, e⟩ := waits_mem ok hx
  omega
set_option maxHeartbeats 8000000 in
theorem move104 (β : Base) (hG : TabOk β) (g : Nat) {R : RS} {Z : GS} (ok : OkG R Z) (id fr to : Int) : Tri Tryz.prog β 104 [.pointer (some ⟨g, 0, none⟩), .int .i64 id, .int .i64 fr, .int .i64 to] (gA g Z)
    (fun v L => v = .int .i64 (Z.moveV id fr to).2 ∧ L = gA g (Z.moveV id fr to).1) := by
  have hhas := ghas46 β g Z.d Z.qc Z.qs Z.cf.length Z.cc Z.ss.length Z.cs to
  have hwt := waits29 β g Z fr
  have hlt := waits_lt ok (k := fr)
  have hlen := waits_len ok fr
  have hww := ok.w
  have hlet : ∀ (Y : GS) (oy : OkG R Y) (k x : Int) (hx : x ≤ 8255) (w : Bool), Tri Tryz.prog β 21 [.pointer (some ⟨g, 0, none⟩), .int .i64 k, .int .i64 x, .bool w] (gA g Y) (fun v L => v = .tuple #[.bool (Y.letV k x w).2.1, .int .i64 (Y.letV k x w).2.2] ∧ L = gA g (Y.letV k x w).1) := fun Y oy k x hx w => glet21 β g oy k (by omega) w
  refine Tri.intro tt_ok Tryz.func104 rfl rfl Tryz.ntmps104 rfl fun F => ?_
  unfold GS.moveV
  (refine G tt_ok pk104 ?_; repeat (refine G1 tt_ok pk104 ?_; intro _))
  rename_i c4 c5 c6 c7 c9
  by_cases h : fr = to
  · subst h
    rw [if_pos (.inl rfl), show (fr == fr) = true by simp]
    (refine G tt_ok pk104 ?_; repeat (refine G1 tt_ok pk104 ?_; intro _))
    exact CW.ret (fin_ret rfl (A := gA g Z) pk_ ⟨rfl, rfl⟩)
  · rw [show (fr == to) = false by simpa using h]
    (refine G tt_ok pk104 ?_; repeat (refine G1 tt_ok pk104 ?_; intro _))
    rw [gL_of]
    refine ke rfl rfl (hhas) ?_
    cases hr : rightV Z.ss.length to with
    | false =>
      rw [if_pos (.inr rfl)]
      (refine G tt_ok pk104 ?_; repeat (refine G1 tt_ok pk104 ?_; intro _))
      exact CW.ret (fin_ret rfl (A := gA g Z) (by rw [gL_of]; exact pk_) ⟨rfl, rfl⟩)
    | true =>
      rw [if_neg (by simp [h])]
      (refine G tt_ok pk104 ?_; repeat (refine G1 tt_ok pk104 ?_; intro _))
      (refine ka rfl rfl (hwt) ?_; rintro _ _ ⟨w1, w2, q1, cc1, W, hW, hmem, rfl, rfl⟩; refine w_ ?_)
      (refine G tt_ok pk104 ?_; repeat (refine G1 tt_ok pk104 ?_; intro _))
      have hWo : setOk W := by
        rcases hW with h | ⟨s, hs, rfl⟩
        · exact h
        · exact hww s hs
      have hI := iterW β hG w1 w2 q1 cc1 hWo
      rw [hmem] at hI
      refine CW.rangeA rfl hI (by repeat (first | exact .n | exact Rm.h | apply Tk.c | apply Rm.t))
        (fun pre => [pt c4 [.pointer (some ⟨g, 0, none⟩)], pt c5 [.int .i64 id], pt c6 [.int .i64 fr], pt c7 [.int .i64 to], pt c9 [.int .i64 (pre.foldl (mvS id fr to) (Z, 0)).2]] ++ gA g (pre.foldl (mvS id fr to) (Z, 0)).1)
        (fun _ _ => False) ?_ (fun _ => rfl) (by decide) ?_ ?_ (fun _ _ h => h.elim)
      · rw [show (([] : List Int).foldl (mvS id fr to) (Z, 0)) = (Z, 0) from rfl]
        rw [gL_of]
        unfold gL
        exact pk_
      · intro pre x hpre lp fm rec1
        have hsub : ∀ y ∈ pre, y ≤ 9223372036854775807 := fun y hy => by
          have := hlt y (hpre.subset (List.mem_append_left _ hy)); omega
        have hxl := hlt x (hpre.subset (by simp))
        have hpl : pre.length < 64 := by have := hpre.length_le; simp at this; omega
        have oy := OkG.mv id fr to pre (Z, 0) hsub ok
        have hcn := mv_cnt id fr to pre (Z, 0)
        rw [mv_snoc]
        generalize pre.foldl (mvS id fr to) (Z, 0) = st at oy hcn ⊢
        obtain ⟨Y, n⟩ := st
        simp only at oy hcn ⊢
        unfold mvS
        simp only
        (refine G tt_ok pk104 ?_; repeat (refine G1 tt_ok pk104 ?_; intro _))
        intro fm2 rec2
        (refine G tt_ok pk104 ?_; repeat (refine G1 tt_ok pk104 ?_; intro _))
        have hl1 := hlet Y oy fr x hxl false
        have hl2 := hlet (Y.letV fr x false).1 (oy.letV fr (by omega) false) to x hxl true
        by_cases hm : id = 0 ∨ id = x
        · rw [if_pos hm]
          simp only
          have hwr : IntKind.i64.wrap (n + 1) = n + 1 := wrap_id (by omega) (by omega)
          by_cases h0 : id = 0
          · rw [show (id == 0) = true by simpa using h0]
            (refine G tt_ok pk104 ?_; repeat (refine G1 tt_ok pk104 ?_; intro _))
            refine ke rfl rfl (hl1) ?_
            (refine G tt_ok pk104 ?_; repeat (refine G1 tt_ok pk104 ?_; intro _))
            refine ke rfl rfl (hl2) ?_
            (refine G tt_ok pk104 ?_; repeat (refine G1 tt_ok pk104 ?_; intro _))
            rw [hwr]
            exact pk_
          · have hx0 : id = x := by rcases hm with h | h; exact absurd h h0; exact h
            rw [show (id == 0) = false by simpa using h0]
            (refine G tt_ok pk104 ?_; repeat (refine G1 tt_ok pk104 ?_; intro _))
            rw [show (id == x) = true by simpa using hx0]
            (refine G tt_ok pk104 ?_; repeat (refine G1 tt_ok pk104 ?_; intro _))
            refine ke rfl rfl (hl1) ?_
            (refine G tt_ok pk104 ?_; repeat (refine G1 tt_ok pk104 ?_; intro _))
            refine ke rfl rfl (hl2) ?_
            (refine G tt_ok pk104 ?_; repeat (refine G1 tt_ok pk104 ?_; intro _))
            rw [hwr]
            exact pk_
        · rw [if_neg hm]
          have h0 : ¬ id = 0 := fun e => hm (.inl e)
          have hx0 : ¬ id = x := fun e => hm (.inr e)
          rw [show (id == 0) = false by simpa using h0]
          (refine G tt_ok pk104 ?_; repeat (refine G1 tt_ok pk104 ?_; intro _))
          rw [show (id == x) = false by simpa using hx0]
          (refine G tt_ok pk104 ?_; repeat (refine G1 tt_ok pk104 ?_; intro _))
          exact pk_
      · (refine G tt_ok pk104 ?_; repeat (refine G1 tt_ok pk104 ?_; intro _))
        exact CW.ret (fin_ret rfl (A := gA g ((Z.waitsV fr).foldl (mvS id fr to) (Z, 0)).1) pk_ ⟨rfl, rfl⟩)
@[reducible] def pk34 : List (Nat × Plan) := [(9, [(0, 0, []), (1, 0, []), (2, 0, []), (3, 0, []), (4, 0, []), (5, 1, [4]), (6, 1, [4]), (7, 0, []), (8, 1, [4]), (9, 1, []), (10, 0, []), (11, 0, []), (12, 1, [])])]
/-- A new processor's part. -/
def newS (s : SdS) : Prop := s.f = fc0 ∧ s.W = none ∧ s.on = false ∧ s.pr = 0 ∧ s.pe = 0
/-- A new controller. -/
structure NewG (Z : GS) (n s l : Nat) : Prop where
  d : newD Z.D n s
  cf : Z.cf = List.replicate l 0
  n : Z.ss.length = n
  ss : ∀ x ∈ Z.ss, newS x
theorem made_by (n : Nat) : (madeCells ti5.zero.cells (n * ti5.size)).toList = (List.replicate n 0).flatMap byC := Bn.made_flat_of (enc := byC) (a := 0) ti5.zero.cells rfl (by decide) n
set_option maxHeartbeats 8000000 in
theorem gnew34 (β : Base) {n s l : Nat} (hn0 : 1 ≤ n) (hn1 : n ≤ 4) (hs1 : s ≤ 64) (hl : l ≤ 512) : Tri Tryz.prog β 34 [.int .i64 n, .int .i64 s, .int .i64 l] []
    (fun v L => ∃ g Z, v = .tuple #[.pointer (some ⟨g, 0, none⟩), .int .i64 0] ∧ L = gA g Z ∧ NewG Z n s l) := by
  refine Tri.intro tt_ok Tryz.func34 rfl rfl Tryz.ntmps34 rfl fun F => ?_
  (refine G tt_ok pk34 ?_; repeat (refine G1 tt_ok pk34 ?_; intro _))
  rw [decide_eq_false (show ¬ (n : Int) < 1 by omega)]
  (refine G tt_ok pk34 ?_; repeat (refine G1 tt_ok pk34 ?_; intro _))
  rw [decide_eq_false (show ¬ (n : Int) > 4 by omega)]
  (refine G tt_ok pk34 ?_; repeat (refine G1 tt_ok pk34 ?_; intro _))
  rw [decide_eq_false (show ¬ (l : Int) < 0 by omega)]
  (refine G tt_ok pk34 ?_; repeat (refine G1 tt_ok pk34 ?_; intro _))
  rw [decide_eq_false (show ¬ (l : Int) > 512 by omega)]
  (refine G tt_ok pk34 ?_; repeat (refine G1 tt_ok pk34 ?_; intro _))
  (refine ka rfl rfl (new11' β (n := n) (s := s) hn0 (by omega) hs1) ?_; rintro _ _ ⟨d, D, rfl, rfl, hD⟩; refine w_ ?_)
  (refine G tt_ok pk34 ?_; repeat (refine G1 tt_ok pk34 ?_; intro _))
  refine SQ.make tt_ok rfl rfl l rfl rfl (show l * 1 ≤ 16777216 by omega) (show 1 * l ≤ 281474976710656 by omega) (by omega) (fun eb => ⟨(by repeat (first | exact trivial | refine ⟨trivial, ?_⟩ | refine ⟨wk (by repeat (first | exact .h | exact .q | apply At.t)) (by rfl), ?_⟩)), ?_⟩)
  rw [made_by]
  (refine G tt_ok pk34 ?_; repeat (refine G1 tt_ok pk34 ?_; intro _))
  rename_i g
  have hok0 : FcOk fc0 := ⟨by decide, by decide, by decide, by decide, by decide⟩
  refine CW.loop (α := List SdS × Option Addr × Nat) (fun x => x.1.length ≤ n ∧ ∀ s ∈ x.1, newS s) (fun x => [(40, .int .i64 x.1.length), (39, .int .i64 n), (10, .pointer (some ⟨g, 0, none⟩))])
    (fun x => [pt g (gC d (some ⟨eb, 0, none⟩) l l x.2.1 x.1.length x.2.2), own 113 12 (.slice x.2.1 x.1.length x.2.2) x.1.length (x.1.flatMap sdC), pkA sdA x.1, pt eb ((List.replicate l 0).flatMap byC)] ++ dA d D) (fun x => n - x.1.length) ([], none, 0) ⟨by simp, by simp⟩ ⟨rfl, rfl, rfl, trivial⟩ ?_ ?_
  · have hC : Ent ([pt g (gC d (some ⟨eb, 0, none⟩) l l none 0 0), pt eb ((List.replicate l 0).flatMap byC)] ++ dA d D) (pkA sdA [] :: own 113 12 (.slice none 0 0) 0 [] :: ([pt g (gC d (some ⟨eb, 0, none⟩) l l none 0 0), pt eb ((List.replicate l 0).flatMap byC)] ++ dA d D)) := (own_nil 113 12).trans pk_nil
    refine Ent.trans (M := [pt g (gC d (some ⟨eb, 0, none⟩) l l none 0 0), pt eb ((List.replicate l 0).flatMap byC)] ++ dA d D) pk_ (hC.trans ?_)
    show Ent _ ([pt g (gC d (some ⟨eb, 0, none⟩) l l none 0 0), own 113 12 (.slice none 0 0) 0 [], pkA sdA [], pt eb ((List.replicate l 0).flatMap byC)] ++ dA d D)
    exact pk_
  rintro ⟨ss, q, c⟩ ⟨hle, hnew⟩
  simp only at hle hnew ⊢
  (refine G tt_ok pk34 ?_; repeat (refine G1 tt_ok pk34 ?_; intro _))
  by_cases hlt : ss.length < n
  · rw [decide_eq_true (show (ss.length : Int) < (n : Int) by omega)]
    (refine G tt_ok pk34 ?_; repeat (refine G1 tt_ok pk34 ?_; intro _))
    refine ke rfl rfl (fnew73 β) ?_
    (refine G tt_ok pk34 ?_; repeat (refine G1 tt_ok pk34 ?_; intro _))
    (refine ka rfl rfl (of78 β) ?_; rintro _ _ ⟨S, rfl, rfl⟩; refine w_ ?_)
    (refine G tt_ok pk34 ?_; repeat (refine G1 tt_ok pk34 ?_; intro _))
    (refine SQ.built tt_ok rfl rfl (fun _ => w_ ?_))
    (refine G tt_ok pk34 ?_; repeat (refine G1 tt_ok pk34 ?_; intro _))
    (refine SQ.appA tt_ok rfl rfl (by repeat (first | exact Rm.h | apply Rm.t)) (by repeat (first | exact .h | exact .q | apply At.t)) (sdC ⟨fc0, S, none, false, 0, 0⟩) rfl rfl rfl (scal_eq rfl) (by omega) (by show (ss.length + 1) * 72 ≤ _; omega) (fun q2 c2 => w_ ?_))
    (refine G tt_ok pk34 ?_; repeat (refine G1 tt_ok pk34 ?_; intro _))
    have hsn : Ent (setL S none 0 none ++ [pkA sdA ss]) [pkA sdA (ss ++ [⟨fc0, S, none, false, 0, 0⟩])] :=
      (Ent.append (Ent.exA (f := fun y : Option Addr × Nat => setL S y.1 y.2 none) (none, 0)) (Ent.refl _)).trans (pk_snoc (f := sdA) (x := ⟨fc0, S, none, false, 0, 0⟩))
    have hwr : IntKind.i64.wrap ((ss.length : Int) + 1) = (((ss ++ [(⟨fc0, S, none, false, 0, 0⟩ : SdS)]).length : Nat) : Int) := by rw [wrap_id (by omega) (by omega)]; simp
    refine ⟨(ss ++ [⟨fc0, S, none, false, 0, 0⟩], q2, c2), ⟨by simp; omega, ?_⟩, by simp; omega, ⟨by rw [← hwr]; rfl, rfl, rfl, trivial⟩, ?_⟩
    · intro y hy
      simp only [List.mem_append, List.mem_singleton] at hy
      rcases hy with h | rfl
      · exact hnew y h
      · exact ⟨rfl, rfl, rfl, rfl, rfl⟩
    · refine Ent.trans (M := (setL S none 0 none ++ [pkA sdA ss]) ++ ([pt g (gC d (some ⟨eb, 0, none⟩) l l q2 (ss.length + 1) c2), own 113 12 (.slice q2 (ss.length + 1) c2) (ss.length + 1) (ss.flatMap sdC ++ sdC ⟨fc0, S, none, false, 0, 0⟩), pt eb ((List.replicate l 0).flatMap byC)] ++ dA d D)) (by unfold setL; exact pk_) ((Ent.append hsn (Ent.refl _)).trans ?_)
      simp only
      rw [show (ss ++ [(⟨fc0, S, none, false, 0, 0⟩ : SdS)]).length = ss.length + 1 by simp, flat_snoc]
      exact pk_
  · rw [decide_eq_false (show ¬ (ss.length : Int) < (n : Int) by omega)]
    (refine G tt_ok pk34 ?_; repeat (refine G1 tt_ok pk34 ?_; intro _))
    refine CW.exit ?_
    (refine G tt_ok pk34 ?_; repeat (refine G1 tt_ok pk34 ?_; intro _))
    have hn : ss.length = n := by omega
    refine CW.ret (fin_ret rfl (A := gA g ⟨d, D, some ⟨eb, 0, none⟩, l, List.replicate l 0, q, c, ss⟩) ?_ ⟨g, ⟨d, D, some ⟨eb, 0, none⟩, l, List.replicate l 0, q, c, ss⟩, rfl, rfl, hD, rfl, hn, hnew⟩)
    rw [gL_of]
    simp only [List.length_replicate]
    refine Ent.trans (M := [own 113 12 (.slice q ss.length c) ss.length (ss.flatMap sdC)] ++ ([pt eb ((List.replicate l 0).flatMap byC)] ++ ([pt g (gC d (some ⟨eb, 0, none⟩) l l q ss.length c), pkA sdA ss] ++ dA d D))) pk_ ((Ent.append own_row (Ent.append (row_close0 (n := l)) (Ent.refl _))).trans ?_)
    exact pk_
end Go.Proofs.YtebpodnbalfomaaGreatDoor.Sl
namespace Go.Proofs.YtebpodnbalfomaaGreatDoor.Sl
open Go Go.RowKit Go.Proofs
set_option linter.unusedVariables false
set_option linter.unusedSimpArgs false
attribute [local irreducible] CW Tri OW
set_option maxRecDepth 10000
@[reducible] def pk173 : List (Nat × Plan) := []
theorem rmay235 (β : Base) (m : Int) : Tri Tryz.prog β 235 [.int .i64 m] [] (fun v L => v = .bool (decide (0 ≤ m) && decide (m < 16384)) ∧ L = []) := by
  refine Tri.intro tt_ok Tryz.func235 rfl rfl Tryz.ntmps235 rfl fun F => ?_
  (repeat' (first | refine CW.seq ?_ | refine CW.region tt_ok rfl ?_ | refine CW.block ?_ | refine CW.skip ?_ | refine SQ.nil ?_ | refine SQ.pures1 tt_ok rfl ?_ | refine SQ.pure1 tt_ok rfl ?_ | refine SQ.new _ _ rfl rfl (fun _ => ?_) | refine SQ.ldA tt_ok rfl rfl (by repeat (first | exact .h | exact .q | apply At.t)) (by rfl) ?_ | refine SQ.stA tt_ok rfl rfl (by repeat (first | apply Up.h | apply Up.t)) (by rfl) (by rfl) (by repeat (first | exact trivial | refine ⟨trivial, ?_⟩ | refine ⟨wk (by repeat (first | exact .h | exact .q | apply At.t)) (by rfl), ?_⟩)) ?_ | refine CW.cond_tt rfl ?_ | refine CW.cond_ff rfl ?_ | ((first | refine CW.cond rfl (fun hc => ?_) (fun hc => ?_) | refine SQ.gsplit rfl (fun hc => ?_) (fun hc => ?_)) <;> try (exfalso; simp_all; done))))
  all_goals (refine CW.ret (fin_ret rfl (Ent.refl _) ⟨congrArg Value.bool ?_, rfl⟩); rw [Bool.eq_iff_iff]; simp_all; try omega)
def takeL (l : List Int) (m : Int) : List Int := l.filter fun x => x != m
theorem takeL_succ {l : List Int} {k : Nat} {x m : Int} (h : l[k]? = some x) : takeL (l.take (k + 1)) m = takeL (l.take k) m ++ if (x != m) = true then [x] else [] := filter_step (fun x => x != m) h
set_option maxHeartbeats 4000000 in
theorem rtake173 (β : Base) {q : Option Addr} {c : Nat} {l : List Int} (hl : l.length ≤ 1000) (m : Int) : Tri Tryz.prog β 173 [.slice q l.length c, .int .i64 m] [rowA q l.length (l.flatMap i1C)]
    (fun v L => ∃ q' c', v = .slice q' (takeL l m).length c' ∧ L = [rowA q' (takeL l m).length ((takeL l m).flatMap i1C)]) := by
  refine Tri.intro tt_ok Tryz.func173 rfl rfl Tryz.ntmps173 rfl fun F => ?_
  refine G tt_ok pk173 ?_
  refine CW.loop (α := Nat × Option Addr × Nat) (fun x => x.1 ≤ l.length) (fun x => [(6, .int .i64 x.1), (5, .slice x.2.1 (takeL (l.take x.1) m).length x.2.2), (0, .slice q l.length c), (1, .int .i64 m)])
    (fun x => [rowA q l.length (l.flatMap i1C), own 3 1 (.slice x.2.1 (takeL (l.take x.1) m).length x.2.2) (takeL (l.take x.1) m).length ((takeL (l.take x.1) m).flatMap i1C)]) (fun x => l.length - x.1) (0, none, 0) (by simp) ⟨rfl, rfl, rfl, rfl, trivial⟩ ?_ ?_
  · exact (own_nil 3 1).trans (Ent.perm (List.Perm.swap _ _ _))
  rintro ⟨k, q1, c1⟩ hk
  simp only at hk ⊢
  refine G tt_ok pk173 ?_
  have hll : (takeL (l.take k) m).length ≤ 1000 := by
    have h1 : (takeL (l.take k) m).length ≤ (l.take k).length := List.length_filter_le _ _
    rw [List.length_take] at h1; omega
  by_cases hlt : k < l.length
  · rw [decide_eq_true (show (k : Int) < (l.length : Int) by omega)]
    obtain ⟨x, hx⟩ : ∃ x, l[k]? = some x := ⟨_, List.getElem?_eq_getElem hlt⟩
    have hst := takeL_succ (m := m) hx
    have hwr : IntKind.i64.wrap ((k : Int) + 1) = ((k + 1 : Nat) : Int) := by rw [wrap_id (by omega) (by omega)]; simp
    refine G tt_ok pk173 ?_
    refine ir_ tt_ok rfl rfl (k) (rfl) rfl ?_ (hlt := hlt)
    refine G tt_ok pk173 ?_
    refine lr_ tt_ok rfl rfl (rd_i1r hx) ?_
    refine G tt_ok pk173 ?_
    cases hm : (x != m) with
    | true =>
      rw [hm, if_pos rfl] at hst
      refine G tt_ok pk173 ?_
      refine ir_ tt_ok rfl rfl (k) (rfl) rfl ?_ (hlt := hlt)
      refine G tt_ok pk173 ?_
      refine lr_ tt_ok rfl rfl (rd_i1r hx) ?_
      refine G tt_ok pk173 ?_
      (refine SQ.built tt_ok rfl rfl (fun _ => w_ ?_))
      refine G tt_ok pk173 ?_
      (refine SQ.appA tt_ok rfl rfl (by repeat (first | exact Rm.h | apply Rm.t)) (by repeat (first | exact .h | exact .q | apply At.t)) (i1C x) rfl rfl rfl (scal_eq rfl) (by omega) (by show ((takeL (l.take k) m).length + 1) * 8 ≤ _; omega) (fun q2 c2 => w_ ?_))
      refine G tt_ok pk173 ?_
      refine ⟨(k + 1, q2, c2), by simp; omega, by simp; omega, ⟨by rw [← hwr]; rfl, ?_, rfl, rfl, trivial⟩, ?_⟩
      · simp only; rw [hst, List.length_append]; rfl
      · simp only
        rw [hst, List.length_append, show [x].length = 1 from rfl, flat_snoc]
        exact pk_
    | false =>
      rw [hm, if_neg (by simp), List.append_nil] at hst
      refine G tt_ok pk173 ?_
      refine ⟨(k + 1, q1, c1), by simp; omega, by simp; omega, ⟨by rw [← hwr]; rfl, ?_, rfl, rfl, trivial⟩, ?_⟩
      · simp only; rw [hst]; rfl
      · simp only
        rw [hst]
        exact pk_
  · rw [decide_eq_false (show ¬ (k : Int) < (l.length : Int) by omega)]
    refine G tt_ok pk173 ?_
    refine CW.exit ?_
    refine G tt_ok pk173 ?_
    have hk2 : l.take k = l := List.take_of_length_le (by omega)
    rw [hk2]
    exact CW.ret (fin_ret rfl (Ent.trans (M := [own 3 1 (.slice q1 (takeL l m).length c1) (takeL l m).length ((takeL l m).flatMap i1C)]) pk_ own_row) ⟨q1, c1, rfl, rfl⟩)
def insS (m : Int) (st : List Int × Bool) (x : Int) : List Int × Bool := if x > m ∧ st.2 = false then (st.1 ++ [m, x], true) else (st.1 ++ [x], st.2)
def insL (l : List Int) (m : Int) : List Int × Bool := l.foldl (insS m) ([], false)
def putL (l : List Int) (m : Int) : List Int := if (0 ≤ m ∧ m < 16384) ∧ m ∉ l then (if (insL l m).2 then (insL l m).1 else (insL l m).1 ++ [m]) else l
theorem insL_succ {l : List Int} {k : Nat} {x m : Int} (h : l[k]? = some x) : insL (l.take (k + 1)) m = insS m (insL (l.take k) m) x := by
  unfold insL
  rw [List.take_add_one, h, List.foldl_append]; rfl
def insI (m : Int) (st : List Int × Bool) (p : List Int) : Prop := (st.2 = true → st.1.Perm (m :: p)) ∧ (st.2 = false → st.1.Perm p)
theorem insI_step {m : Int} {st : List Int × Bool} {p : List Int} (h : insI m st p) (x : Int) : insI m (insS m st x) (p ++ [x]) := by
  obtain ⟨a, b⟩ := st
  obtain ⟨h1, h2⟩ := h
  unfold insS
  by_cases hc : x > m ∧ b = false
  · have h2 := h2 hc.2
    rw [if_pos hc]
    refine ⟨fun _ => ?_, fun h => by cases h⟩
    refine (List.Perm.append_right [m, x] h2).trans ?_
    refine (List.perm_append_comm (l₁ := p) (l₂ := [m, x])).trans ?_
    exact List.Perm.cons m (List.perm_append_comm (l₁ := [x]) (l₂ := p))
  · rw [if_neg hc]
    exact ⟨fun h => List.Perm.append_right [x] (h1 h), fun h => List.Perm.append_right [x] (h2 h)⟩
theorem insL_perm (m : Int) : ∀ (l : List Int) (st : List Int × Bool) (p : List Int), insI m st p → insI m (l.foldl (insS m) st) (p ++ l)
  | [], st, p, h => by simpa using h
  | x :: l, st, p, h => by
    have ih := insL_perm m l (insS m st x) (p ++ [x]) (insI_step h x)
    rw [List.append_assoc] at ih
    exact ih
theorem putL_perm (l : List Int) (m : Int) : (putL l m).Perm l ∨ (m ∉ l ∧ (putL l m).Perm (m :: l)) := by
  unfold putL
  split
  · rename_i h
    right
    refine ⟨h.2, ?_⟩
    have := insL_perm m l ([], false) [] ⟨fun h => (by cases h), fun _ => List.Perm.refl _⟩
    rw [List.nil_append] at this
    unfold insL
    split
    · rename_i h2
      exact this.1 h2
    · rename_i h2
      exact (List.Perm.append_right [m] (this.2 (by simpa using h2))).trans (List.perm_append_comm (l₁ := l) (l₂ := [m]))
  · left; exact List.Perm.refl _
/-- A list of different numbers below n. -/
def okW (n : Nat) (l : List Int) : Prop := l.Nodup ∧ ∀ x ∈ l, 0 ≤ x ∧ x < n
theorem okW_len {n : Nat} {l : List Int} (h : okW n l) : l.length ≤ n := by
  have h1 : (l.map Int.toNat).Nodup := by
    unfold List.Nodup
    rw [List.pairwise_map]
    refine List.Pairwise.imp_of_mem ?_ h.1
    intro a b ha hb hne
    have h1 := h.2 a ha
    have h2 := h.2 b hb
    omega
  have h2 := List.Nodup.length_le_of_subset h1 (l₂ := List.range n) (fun x hx => by
    obtain ⟨y, hy, rfl⟩ := List.mem_map.1 hx
    have := h.2 y hy
    rw [List.mem_range]; omega)
  simpa using h2
theorem takeL_ok {n : Nat} {l : List Int} (h : okW n l) (m : Int) : okW n (takeL l m) :=
  ⟨h.1.filter _, fun x hx => h.2 x (List.mem_filter.1 hx).1⟩
theorem putL_ok {n : Nat} {l : List Int} (h : okW n l) {m : Int} (h0 : 0 ≤ m) (hn : m < n) : okW n (putL l m) := by
  rcases putL_perm l m with p | ⟨hm, p⟩
  · exact ⟨p.nodup_iff.2 h.1, fun x hx => h.2 x (p.mem_iff.1 hx)⟩
  · refine ⟨p.nodup_iff.2 (List.nodup_cons.2 ⟨hm, h.1⟩), fun x hx => ?_⟩
    rcases List.mem_cons.1 (p.mem_iff.1 hx) with rfl | hx
    · exact ⟨h0, hn⟩
    · exact h.2 x hx
@[reducible] def pk174 : List (Nat × Plan) := []
theorem insS_len (m : Int) : ∀ (l : List Int) (st : List Int × Bool), (l.foldl (insS m) st).1.length ≤ st.1.length + 2 * l.length
  | [], st => by simp
  | x :: l, st => by
    have ih := insS_len m l (insS m st x)
    have h : (insS m st x).1.length ≤ st.1.length + 2 := by unfold insS; split <;> simp
    rw [List.foldl_cons, List.length_cons]; omega
set_option maxHeartbeats 8000000 in
theorem rput174 (β : Base) {q : Option Addr} {c : Nat} {l : List Int} (hl : l.length ≤ 1000) (m : Int) : Tri Tryz.prog β 174 [.slice q l.length c, .int .i64 m] [rowA q l.length (l.flatMap i1C)]
    (fun v L => ∃ q' c', v = .slice q' (putL l m).length c' ∧ L = [rowA q' (putL l m).length ((putL l m).flatMap i1C)]) := by
  refine Tri.intro tt_ok Tryz.func174 rfl rfl Tryz.ntmps174 rfl fun F => ?_
  unfold putL
  refine G tt_ok pk174 ?_
  refine ke rfl rfl (rmay235 β m) ?_
  cases hmay : (decide (0 ≤ m) && decide (m < 16384)) with
  | false =>
    have hn : ¬ ((0 ≤ m ∧ m < 16384) ∧ m ∉ l) := fun h => by simp [h.1.1, h.1.2] at hmay
    rw [if_neg hn]
    refine G tt_ok pk174 ?_
    exact CW.ret (fin_ret rfl pk_ ⟨q, c, rfl, rfl⟩)
  | true =>
    have hm2 : 0 ≤ m ∧ m < 16384 := by simpa using hmay
    have hh := has18 β (c := c) (slr_row (q := q) (n := l.length) (sz := 1) (cs := l.flatMap i1C) (by rw [flatE_len (sz := 1) (fun _ => rfl)])) rfl (by omega) m
    refine G tt_ok pk174 ?_
    refine ke rfl rfl (hh) ?_
    by_cases hin : m ∈ l
    · have hn : ¬ ((0 ≤ m ∧ m < 16384) ∧ m ∉ l) := fun h => h.2 hin
      rw [if_neg hn, decide_eq_true hin]
      refine G tt_ok pk174 ?_
      exact CW.ret (fin_ret rfl pk_ ⟨q, c, rfl, rfl⟩)
    · rw [if_pos ⟨hm2, hin⟩, decide_eq_false hin]
      refine G tt_ok pk174 ?_
      refine CW.loop (α := Nat × Option Addr × Nat) (fun x => x.1 ≤ l.length) (fun x => [(7, .int .i64 x.1), (6, .bool (insL (l.take x.1) m).2), (5, .slice x.2.1 (insL (l.take x.1) m).1.length x.2.2), (0, .slice q l.length c), (1, .int .i64 m)])
        (fun x => [rowA q l.length (l.flatMap i1C), own 3 1 (.slice x.2.1 (insL (l.take x.1) m).1.length x.2.2) (insL (l.take x.1) m).1.length ((insL (l.take x.1) m).1.flatMap i1C)]) (fun x => l.length - x.1) (0, none, 0) (by simp) ⟨rfl, rfl, rfl, rfl, rfl, trivial⟩ ?_ ?_
      · exact (own_nil 3 1).trans pk_
      rintro ⟨k, q1, c1⟩ hk
      simp only at hk ⊢
      have hlen : (insL (l.take k) m).1.length ≤ 2000 := by
        have h1 := insS_len m (l.take k) ([], false)
        rw [List.length_take] at h1
        unfold insL
        simp only [List.length_nil] at h1
        omega
      by_cases hlt : k < l.length
      · obtain ⟨x, hx⟩ : ∃ x, l[k]? = some x := ⟨_, List.getElem?_eq_getElem hlt⟩
        have hst := insL_succ (m := m) hx
        have hwr : IntKind.i64.wrap ((k : Int) + 1) = ((k + 1 : Nat) : Int) := by rw [wrap_id (by omega) (by omega)]; simp
        generalize insL (l.take k) m = st at hst hlen ⊢
        obtain ⟨out, dn⟩ := st
        simp only at hlen ⊢
        unfold insS at hst
        refine G tt_ok pk174 ?_
        rw [decide_eq_true (show (k : Int) < (l.length : Int) by omega)]
        refine G tt_ok pk174 ?_
        refine ir_ tt_ok rfl rfl (k) (rfl) rfl ?_ (hlt := hlt)
        refine G tt_ok pk174 ?_
        refine lr_ tt_ok rfl rfl (rd_i1r hx) ?_
        refine G tt_ok pk174 ?_
        by_cases hc : x > m ∧ dn = false
        · obtain ⟨hc1, rfl⟩ := hc
          rw [if_pos ⟨hc1, rfl⟩] at hst
          rw [decide_eq_true hc1]
          refine G tt_ok pk174 ?_
          (refine SQ.built tt_ok rfl rfl (fun _ => w_ ?_))
          refine G tt_ok pk174 ?_
          (refine SQ.appA tt_ok rfl rfl (by repeat (first | exact Rm.h | apply Rm.t)) (by repeat (first | exact .h | exact .q | apply At.t)) (i1C m) rfl rfl rfl (scal_eq rfl) (by omega) (by show (out.length + 1) * 8 ≤ _; omega) (fun q2 c2 => w_ ?_))
          refine G tt_ok pk174 ?_
          refine ir_ tt_ok rfl rfl (k) (rfl) rfl ?_ (hlt := hlt)
          refine G tt_ok pk174 ?_
          refine lr_ tt_ok rfl rfl (rd_i1r hx) ?_
          refine G tt_ok pk174 ?_
          (refine SQ.built tt_ok rfl rfl (fun _ => w_ ?_))
          refine G tt_ok pk174 ?_
          (refine SQ.appA tt_ok rfl rfl (by repeat (first | exact Rm.h | apply Rm.t)) (by repeat (first | exact .h | exact .q | apply At.t)) (i1C x) rfl rfl rfl (scal_eq rfl) (by omega) (by show (out.length + 1 + 1) * 8 ≤ _; omega) (fun q3 c3 => w_ ?_))
          refine G tt_ok pk174 ?_
          refine ⟨(k + 1, q3, c3), by simp; omega, by simp; omega, ⟨by rw [← hwr]; rfl, by simp only; rw [hst]; rfl, by simp only; rw [hst, List.length_append]; rfl, rfl, rfl, trivial⟩, ?_⟩
          simp only
          rw [hst, List.length_append, show [m, x].length = 1 + 1 from rfl, ← Nat.add_assoc, List.flatMap_append, show ([m, x] : List Int).flatMap i1C = i1C m ++ i1C x from rfl, ← List.append_assoc]
          exact pk_
        · rw [if_neg hc] at hst
          by_cases hc1 : x > m
          · have hdn : dn = true := by cases dn with | true => rfl | false => exact absurd ⟨hc1, rfl⟩ hc
            subst hdn
            rw [decide_eq_true hc1]
            refine G tt_ok pk174 ?_
            refine ir_ tt_ok rfl rfl (k) (rfl) rfl ?_ (hlt := hlt)
            refine G tt_ok pk174 ?_
            refine lr_ tt_ok rfl rfl (rd_i1r hx) ?_
            refine G tt_ok pk174 ?_
            (refine SQ.built tt_ok rfl rfl (fun _ => w_ ?_))
            refine G tt_ok pk174 ?_
            (refine SQ.appA tt_ok rfl rfl (by repeat (first | exact Rm.h | apply Rm.t)) (by repeat (first | exact .h | exact .q | apply At.t)) (i1C x) rfl rfl rfl (scal_eq rfl) (by omega) (by show (out.length + 1) * 8 ≤ _; omega) (fun q3 c3 => w_ ?_))
            refine G tt_ok pk174 ?_
            refine ⟨(k + 1, q3, c3), by simp; omega, by simp; omega, ⟨by rw [← hwr]; rfl, by simp only; rw [hst]; rfl, by simp only; rw [hst, List.length_append]; rfl, rfl, rfl, trivial⟩, ?_⟩
            simp only
            rw [hst, List.length_append, show [x].length = 1 from rfl, flat_snoc]
            exact pk_
          · rw [decide_eq_false hc1]
            refine G tt_ok pk174 ?_
            refine ir_ tt_ok rfl rfl (k) (rfl) rfl ?_ (hlt := hlt)
            refine G tt_ok pk174 ?_
            refine lr_ tt_ok rfl rfl (rd_i1r hx) ?_
            refine G tt_ok pk174 ?_
            (refine SQ.built tt_ok rfl rfl (fun _ => w_ ?_))
            refine G tt_ok pk174 ?_
            (refine SQ.appA tt_ok rfl rfl (by repeat (first | exact Rm.h | apply Rm.t)) (by repeat (first | exact .h | exact .q | apply At.t)) (i1C x) rfl rfl rfl (scal_eq rfl) (by omega) (by show (out.length + 1) * 8 ≤ _; omega) (fun q3 c3 => w_ ?_))
            refine G tt_ok pk174 ?_
            refine ⟨(k + 1, q3, c3), by simp; omega, by simp; omega, ⟨by rw [← hwr]; rfl, by simp only; rw [hst]; rfl, by simp only; rw [hst, List.length_append]; rfl, rfl, rfl, trivial⟩, ?_⟩
            simp only
            rw [hst, List.length_append, show [x].length = 1 from rfl, flat_snoc]
            exact pk_
      · have hk2 : l.take k = l := List.take_of_length_le (by omega)
        rw [hk2] at hlen ⊢
        generalize insL l m = st at hlen ⊢
        obtain ⟨out, dn⟩ := st
        simp only at hlen ⊢
        refine G tt_ok pk174 ?_
        rw [decide_eq_false (show ¬ (k : Int) < (l.length : Int) by omega)]
        refine G tt_ok pk174 ?_
        refine CW.exit ?_
        refine G tt_ok pk174 ?_
        cases dn with
        | true =>
          rw [if_pos rfl]
          refine G tt_ok pk174 ?_
          exact CW.ret (fin_ret rfl (Ent.trans (M := [own 3 1 (.slice q1 out.length c1) out.length (out.flatMap i1C)]) pk_ own_row) ⟨q1, c1, rfl, rfl⟩)
        | false =>
          rw [if_neg (by simp)]
          refine G tt_ok pk174 ?_
          (refine SQ.built tt_ok rfl rfl (fun _ => w_ ?_))
          refine G tt_ok pk174 ?_
          (refine SQ.appA tt_ok rfl rfl (by repeat (first | exact Rm.h | apply Rm.t)) (by repeat (first | exact .h | exact .q | apply At.t)) (i1C m) rfl rfl rfl (scal_eq rfl) (by omega) (by show (out.length + 1) * 8 ≤ _; omega) (fun q2 c2 => w_ ?_))
          refine G tt_ok pk174 ?_
          rw [List.length_append, show [m].length = 1 from rfl, flat_snoc]
          exact CW.ret (fin_ret rfl (Ent.trans (M := [own 3 1 (.slice q2 (out.length + 1) c2) (out.length + 1) (out.flatMap i1C ++ i1C m)]) pk_ own_row) ⟨q2, c2, rfl, rfl⟩)
@[reducible] def pk245 : List (Nat × Plan) := []
@[reducible] def pk226 : List (Nat × Plan) := []
@[reducible] def pk247 : List (Nat × Plan) := []
def lds (r : Nat → Bool) : List Value := (List.range 64).map fun i => .bool (r i)
theorem lds_len (r : Nat → Bool) : (lds r).length = 64 := by simp [lds]
theorem lds_at {r : Nat → Bool} {i : Nat} (h : i < 64) : (lds r)[i]? = some (.bool (r i)) := by simp [lds, h]
theorem lds_set {r : Nat → Bool} {i : Nat} (h : i < 64) (b : Bool) : (lds r).set i (.bool b) = lds (fun j => if j = i then b else r j) := by
  apply List.ext_getElem?
  intro j
  by_cases hj : j < 64
  · rw [lds_at hj]
    by_cases e : i = j
    · subst e
      rw [List.getElem?_set_self (by rw [lds_len]; exact h), if_pos rfl]
    · rw [List.getElem?_set_ne e, lds_at hj, if_neg (fun x => e x.symm)]
  · rw [List.getElem?_eq_none (by rw [List.length_set, lds_len]; omega), List.getElem?_eq_none (by rw [lds_len]; omega)]
theorem rd_ld {r : Nat → Bool} {i : Nat} (h : i < 64) : rdv ti4 (lds r) (0 + i * 1) = some (.bool (r i)) := by
  have h3 : aggD ti4.desc = false := rfl
  simp only [rdv, h3, Nat.mul_one, Nat.zero_add, takeN_eq, dropN_eq]
  have := lds_at (r := r) h
  have hl : i < (lds r).length := by rw [lds_len]; exact h
  rw [List.drop_eq_getElem_cons hl]
  rw [List.getElem?_eq_getElem hl] at this
  simp at this
  simp [this]
theorem wr_ld {r : Nat → Bool} {i : Nat} (h : i < 64) (b : Bool) : wrv ti4 (lds r) (0 + i * 1) (.bool b) = some (lds (fun j => if j = i then b else r j)) := by
  have h0 : wrv ti4 (((List.range 64).map r).flatMap (fun x : Bool => [Value.bool x])) (0 + i * 1) (.bool b) = some ((((List.range 64).map r).set i b).flatMap fun x : Bool => [Value.bool x]) :=
    wr_enc (enc := fun x : Bool => [Value.bool x]) (sz := 1) (fun _ => rfl) (es := (List.range 64).map r) (k := i) (e := r i) (by simp [h]) 0 (i := ti4) (by decide) rfl rfl (by omega)
  have e1 : ∀ l : List Bool, l.flatMap (fun x : Bool => [Value.bool x]) = l.map Value.bool := fun l => by induction l with | nil => rfl | cons a l ih => simp [List.flatMap_cons, ih]
  rw [e1, e1, List.map_map, List.map_set, List.map_map] at h0
  rw [show lds r = (List.range 64).map (Value.bool ∘ r) from rfl, h0]
  exact congrArg some (lds_set h b)
theorem and1_range (a : Int) : 0 ≤ IntKind.i64.wrap ((BitVec.ofInt IntKind.i64.bits a &&& BitVec.ofInt IntKind.i64.bits 1).toNat : Int) ∧ IntKind.i64.wrap ((BitVec.ofInt IntKind.i64.bits a &&& BitVec.ofInt IntKind.i64.bits 1).toNat : Int) ≤ 1 := by
  have h : (BitVec.ofInt IntKind.i64.bits a &&& BitVec.ofInt IntKind.i64.bits 1).toNat ≤ 1 := by
    rw [BitVec.toNat_and]
    exact Nat.and_le_right
  rw [wrap_id (by omega) (by omega)]
  omega
set_option maxHeartbeats 4000000 in
theorem rplace245 (β : Base) (g p : Int) : Tri Tryz.prog β 245 [.int .i64 g, .int .i64 p] [] (fun v L => ∃ n : Nat, n < 64 ∧ v = .int .i64 n ∧ L = []) := by
  refine Tri.intro tt_ok Tryz.func245 rfl rfl Tryz.ntmps245 rfl fun F => ?_
  refine G tt_ok pk245 ?_
  refine CW.loop (α := Nat × Nat) (fun x => 3 ≤ x.1 ∧ x.1 ≤ 8 ∧ x.2 < 2 ^ (x.1 - 3)) (fun x => [(6, .int .i64 x.1), (5, .int .i64 x.2), (0, .int .i64 g), (1, .int .i64 p)]) (fun x => []) (fun x => 8 - x.1) (3, 0) ⟨by decide, by decide, by decide⟩ ⟨rfl, rfl, rfl, rfl, trivial⟩ pk_ ?_
  rintro ⟨i, k⟩ ⟨h3, h8, hk⟩
  simp only at h3 h8 hk ⊢
  refine G tt_ok pk245 ?_
  by_cases hlt : i ≤ 7
  · rw [decide_eq_true (show (i : Int) ≤ 7 by omega)]
    have hp5 : 2 ^ (i - 3) ≤ 16 := by
      have : 2 ^ (i - 3) ≤ 2 ^ 4 := Nat.pow_le_pow_right (by omega) (by omega)
      omega
    have hps : 2 ^ (i + 1 - 3) = 2 * 2 ^ (i - 3) := by rw [show i + 1 - 3 = (i - 3) + 1 by omega, Nat.pow_succ]; omega
    have hwr : IntKind.i64.wrap ((i : Int) + 1) = ((i + 1 : Nat) : Int) := by rw [wrap_id (by omega) (by omega)]; simp
    refine G tt_ok pk245 ?_
    generalize hb : (IntKind.i64.wrap ((BitVec.ofInt IntKind.i64.bits (p.fdiv (2 ^ min i IntKind.i64.bits)) &&& BitVec.ofInt IntKind.i64.bits 1).toNat : Int) == 1) = b
    cases b with
    | true =>
      refine G tt_ok pk245 ?_
      rw [show IntKind.i64.wrap ((i : Int) - 3) = ((i - 3 : Nat) : Int) by rw [wrap_id (by omega) (by omega)]; omega]
      refine SQ.shift tt_ok rfl rfl (i - 3) (by rfl) (v := ((2 ^ (i - 3) : Nat) : Int)) ?_ ?_
      · rw [if_pos rfl, Int.one_mul, show min (i - 3) IntKind.i64.bits = i - 3 from Nat.min_eq_left (by show i - 3 ≤ 64; omega), show (2 : Int) ^ (i - 3) = ((2 ^ (i - 3) : Nat) : Int) by simp]
        exact wrap_id (by omega) (by omega)
      refine G tt_ok pk245 ?_
      rw [show IntKind.i64.wrap ((k : Int) + ((2 ^ (i - 3) : Nat) : Int)) = ((k + 2 ^ (i - 3) : Nat) : Int) by rw [wrap_id (by omega) (by omega)]; simp]
      refine G tt_ok pk245 ?_
      exact ⟨(i + 1, k + 2 ^ (i - 3)), ⟨by simp only; omega, by simp only; omega, by simp only; rw [hps]; omega⟩, by simp only; omega, ⟨by rw [← hwr]; rfl, rfl, rfl, rfl, trivial⟩, pk_⟩
    | false =>
      refine G tt_ok pk245 ?_
      exact ⟨(i + 1, k), ⟨by simp only; omega, by simp only; omega, by simp only; rw [hps]; omega⟩, by simp only; omega, ⟨by rw [← hwr]; rfl, rfl, rfl, rfl, trivial⟩, pk_⟩
  · rw [decide_eq_false (show ¬ (i : Int) ≤ 7 by omega)]
    obtain rfl : i = 8 := by omega
    have hk32 : k < 32 := hk
    refine G tt_ok pk245 ?_
    refine CW.exit ?_
    refine G tt_ok pk245 ?_
    have h1 := and1_range g
    refine CW.ret (fin_ret rfl (A := []) (Ent.refl _) ⟨(2 * (k : Int) + IntKind.i64.wrap ((BitVec.ofInt IntKind.i64.bits g &&& BitVec.ofInt IntKind.i64.bits 1).toNat : Int)).toNat, by omega, ?_, rfl⟩)
    show Value.int _ _ = _
    congr 1
    rw [show IntKind.i64.wrap (2 * (k : Int)) = 2 * (k : Int) from wrap_id (by omega) (by omega), wrap_id (by omega) (by omega)]
    omega
set_option maxHeartbeats 4000000 in
theorem rset226 (β : Base) (r : Nat → Bool) (g p : Int) (b : Bool) : Tri Tryz.prog β 226 [.agg (lds r).toArray, .int .i64 g, .int .i64 p, .bool b] [] (fun v L => ∃ r2, v = .agg (lds r2).toArray ∧ L = []) := by
  refine Tri.intro tt_ok Tryz.func226 rfl rfl Tryz.ntmps226 rfl fun F => ?_
  (refine G tt_ok pk226 ?_; repeat (refine G1 tt_ok pk226 ?_; intro _))
  rename_i c1 c2
  (refine ka rfl rfl (rplace245 β g p) ?_; rintro _ _ ⟨n, hn, rfl, rfl⟩; refine w_ ?_)
  (refine G tt_ok pk226 ?_; repeat (refine G1 tt_ok pk226 ?_; intro _))
  refine SQ.ent [pt c1 (lds r), pt c2 (lds (fun _ => false))] pk_ ?_
  refine SQ.idx tt_ok rfl rfl n rfl hn (o' := 0 + n * 1) rfl ?_
  (refine SQ.stA tt_ok rfl rfl (by repeat (first | apply Up.h | apply Up.t)) (by rfl) (wr_ld hn b) (by repeat (first | exact trivial | refine ⟨trivial, ?_⟩ | refine ⟨wk (by repeat (first | exact .h | exact .q | apply At.t)) (by rfl), ?_⟩)) ?_)
  generalize (fun j => if j = n then b else r j) = r2
  (refine G tt_ok pk226 ?_; repeat (refine G1 tt_ok pk226 ?_; intro _))
  exact CW.ret (fin_cells [_] ⟨cl_, trivial⟩ (A := []) (Ent.dropAll _) ⟨r2, rfl, rfl⟩)
set_option maxHeartbeats 4000000 in
/-- Pairs of a priority and a group. -/
theorem rall247 (β : Base) (r : Nat → Bool) : Tri Tryz.prog β 247 [.agg (lds r).toArray] [] (fun v L => ∃ (ps : List (Int × Int)) (q : Option Addr) (c : Nat), v = .slice q (ps.length * 2) c ∧ L = [rowA q (ps.length * 2) (ps.flatMap ppC)] ∧ ((∀ i, i < 64 → r i = false) → ps = [])) := by
  refine Tri.intro tt_ok Tryz.func247 rfl rfl Tryz.ntmps247 rfl fun F => ?_
  (refine G tt_ok pk247 ?_; repeat (refine G1 tt_ok pk247 ?_; intro _))
  rename_i c1
  refine CW.ent (L' := [pt c1 (lds r)]) pk_ ?_
  refine CW.loop (α := Nat × List (Int × Int) × Option Addr × Nat) (fun x => x.1 ≤ 64 ∧ x.2.1.length ≤ x.1 ∧ ((∀ i, i < 64 → r i = false) → x.2.1 = [])) (fun x => [(4, .int .i64 x.1), (3, .slice x.2.2.1 (x.2.1.length * 2) x.2.2.2), (1, .pointer (some ⟨c1, 0, none⟩))])
    (fun x => [pt c1 (lds r), own 3 1 (.slice x.2.2.1 (x.2.1.length * 2) x.2.2.2) (x.2.1.length * 2) (x.2.1.flatMap ppC)]) (fun x => 64 - x.1) (0, [], none, 0) ⟨by simp, by simp, fun _ => rfl⟩ ⟨rfl, rfl, rfl, trivial⟩ ?_ ?_
  · exact (own_nil 3 1).trans pk_
  rintro ⟨i, ps, q1, n1⟩ ⟨hi, hps, hz⟩
  simp only at hi hps hz ⊢
  by_cases hlt : i < 64
  · have hwr : IntKind.i64.wrap ((i : Int) + 1) = ((i + 1 : Nat) : Int) := by rw [wrap_id (by omega) (by omega)]; simp
    have hrd := rd_ld (r := r) hlt
    (refine G tt_ok pk247 ?_; repeat (refine G1 tt_ok pk247 ?_; intro _))
    rw [decide_eq_true (show (i : Int) < 64 by omega)]
    (refine G tt_ok pk247 ?_; repeat (refine G1 tt_ok pk247 ?_; intro _))
    refine SQ.idx tt_ok rfl rfl i rfl hlt (o' := 0 + i * 1) rfl ?_
    (refine SQ.ldA tt_ok rfl rfl (by repeat (first | exact .h | exact .q | apply At.t)) (hrd) ?_)
    (refine G tt_ok pk247 ?_; repeat (refine G1 tt_ok pk247 ?_; intro _))
    cases hb : r i with
    | true =>
      (refine G tt_ok pk247 ?_; repeat (refine G1 tt_ok pk247 ?_; intro _))
      have hnz : ¬ ∀ i, i < 64 → r i = false := fun h => by rw [h i hlt] at hb; cases hb
      generalize IntKind.i64.wrap (8 * IntKind.i64.wrap ((i : Int).tdiv 2)) = a
      generalize (i : Int).tmod 2 = b
      (refine SQ.built tt_ok rfl rfl (fun _ => w_ ?_))
      (refine G tt_ok pk247 ?_; repeat (refine G1 tt_ok pk247 ?_; intro _))
      (refine SQ.appA tt_ok rfl rfl (by repeat (first | exact Rm.h | apply Rm.t)) (by repeat (first | exact .h | exact .q | apply At.t)) ([.int .i64 a, .int .i64 b]) rfl rfl rfl (scal_eq rfl) (by omega) (by show (ps.length * 2 + 2) * 8 ≤ _; omega) (fun q2 c2 => w_ ?_))
      (refine G tt_ok pk247 ?_; repeat (refine G1 tt_ok pk247 ?_; intro _))
      have hlen2 : (ps ++ [(a, b)]).length * 2 = ps.length * 2 + 2 := by simp; omega
      refine ⟨(i + 1, ps ++ [(a, b)], q2, c2), ⟨by simp only; omega, by simp; omega, fun h => absurd h hnz⟩, by simp only; omega, ⟨by rw [← hwr]; rfl, by simp only; rw [hlen2]; rfl, rfl, trivial⟩, ?_⟩
      simp only
      rw [hlen2, flat_snoc]
      exact pk_
    | false =>
      (refine G tt_ok pk247 ?_; repeat (refine G1 tt_ok pk247 ?_; intro _))
      exact ⟨(i + 1, ps, q1, n1), ⟨by simp only; omega, by simp only; omega, hz⟩, by simp only; omega, ⟨by rw [← hwr]; rfl, rfl, rfl, trivial⟩, pk_⟩
  · obtain rfl : i = 64 := by omega
    (refine G tt_ok pk247 ?_; repeat (refine G1 tt_ok pk247 ?_; intro _))
    refine CW.exit ?_
    (refine G tt_ok pk247 ?_; repeat (refine G1 tt_ok pk247 ?_; intro _))
    exact CW.ret (fin_ret rfl (Ent.trans (M := [own 3 1 (.slice q1 (ps.length * 2) n1) (ps.length * 2) (ps.flatMap ppC)]) pk_ own_row) ⟨ps, q1, n1, rfl, rfl, hz⟩)
@[reducible] def pk228 : List (Nat × Plan) := [(4, [(0, 0, []), (1, 0, []), (2, 0, []), (3, 0, []), (4, 0, []), (5, 0, []), (6, 0, []), (7, 0, [])])]
@[reducible] def pk229 : List (Nat × Plan) := []
def noneR (r : Nat → Bool) : Prop := ∀ i, i < 64 → r i = false
theorem rrun228 (β : Base) (r : Nat → Bool) : Tri Tryz.prog β 228 [.agg (lds r).toArray] [] (fun v L => ∃ a b : Int, v = .tuple #[.int .i64 a, .int .i64 b] ∧ L = [] ∧ (noneR r → a = 255 ∧ b = 0)) := by
  refine Tri.intro tt_ok Tryz.func228 rfl rfl Tryz.ntmps228 rfl fun F => ?_
  (refine G tt_ok pk228 ?_; repeat (refine G1 tt_ok pk228 ?_; intro _))
  rename_i c1
  (refine ka rfl rfl (rall247 β r) ?_; rintro _ _ ⟨ps, q, c, rfl, rfl, hz⟩; refine w_ ?_)
  (refine G tt_ok pk228 ?_; repeat (refine G1 tt_ok pk228 ?_; intro _))
  match ps with
  | [] =>
    rw [show ((((([] : List (Int × Int)).length * 2 : Nat) : Int)) == 0) = true from rfl]
    (refine G tt_ok pk228 ?_; repeat (refine G1 tt_ok pk228 ?_; intro _))
    exact CW.ret (fin_ret rfl (A := []) (Ent.dropAll _) ⟨_, _, rfl, rfl, fun _ => ⟨rfl, rfl⟩⟩)
  | x :: t =>
    rw [show (((((x :: t).length * 2 : Nat) : Int)) == 0) = false by simp; omega]
    (refine G tt_ok pk228 ?_; repeat (refine G1 tt_ok pk228 ?_; intro _))
    refine ir_ tt_ok rfl rfl (0) (rfl) rfl ?_ (hlt := by simp)
    (refine G tt_ok pk228 ?_; repeat (refine G1 tt_ok pk228 ?_; intro _))
    refine lr_ tt_ok rfl rfl (fun X => rfl) ?_ (hn := by simp)
    (refine G tt_ok pk228 ?_; repeat (refine G1 tt_ok pk228 ?_; intro _))
    refine ir_ tt_ok rfl rfl (1) (rfl) rfl ?_ (hlt := by simp; omega)
    (refine G tt_ok pk228 ?_; repeat (refine G1 tt_ok pk228 ?_; intro _))
    refine lr_ tt_ok rfl rfl (fun X => rfl) ?_ (hn := by simp)
    (refine G tt_ok pk228 ?_; repeat (refine G1 tt_ok pk228 ?_; intro _))
    exact CW.ret (fin_ret rfl (A := []) (Ent.dropAll _) ⟨_, _, rfl, rfl, fun h => absurd (hz h) (by simp)⟩)
set_option maxHeartbeats 4000000 in
theorem rdrop229 (β : Base) (r : Nat → Bool) : Tri Tryz.prog β 229 [.agg (lds r).toArray] [] (fun v L => ∃ r2 b, v = .tuple #[.agg (lds r2).toArray, .bool b] ∧ L = []) := by
  refine Tri.intro tt_ok Tryz.func229 rfl rfl Tryz.ntmps229 rfl fun F => ?_
  (refine G tt_ok pk229 ?_; repeat (refine G1 tt_ok pk229 ?_; intro _))
  rename_i c1 c2
  refine CW.ent (L' := [pt c1 (lds r), pt c2 (lds (fun _ => false))]) pk_ ?_
  refine CW.loop (α := Nat) (fun i => i ≤ 64) (fun i => [(4, .int .i64 i), (1, .pointer (some ⟨c1, 0, none⟩)), (2, .pointer (some ⟨c2, 0, none⟩))]) (fun i => [pt c1 (lds r), pt c2 (lds (fun _ => false))]) (fun i => 64 - i) 0 (by simp) ⟨rfl, rfl, rfl, trivial⟩ pk_ ?_
  intro i hi
  by_cases hlt : i < 64
  · have hwr : IntKind.i64.wrap ((i : Int) + 1) = ((i + 1 : Nat) : Int) := by rw [wrap_id (by omega) (by omega)]; simp
    have hrd := rd_ld (r := r) hlt
    (refine G tt_ok pk229 ?_; repeat (refine G1 tt_ok pk229 ?_; intro _))
    rw [decide_eq_true (show (i : Int) < 64 by omega)]
    (refine G tt_ok pk229 ?_; repeat (refine G1 tt_ok pk229 ?_; intro _))
    refine SQ.idx tt_ok rfl rfl i rfl hlt (o' := 0 + i * 1) rfl ?_
    (refine SQ.ldA tt_ok rfl rfl (by repeat (first | exact .h | exact .q | apply At.t)) (hrd) ?_)
    (refine G tt_ok pk229 ?_; repeat (refine G1 tt_ok pk229 ?_; intro _))
    cases hb : r i with
    | true =>
      (refine G tt_ok pk229 ?_; repeat (refine G1 tt_ok pk229 ?_; intro _))
      refine SQ.idx tt_ok rfl rfl i rfl hlt (o' := 0 + i * 1) rfl ?_
      (refine SQ.stA tt_ok rfl rfl (by repeat (first | apply Up.h | apply Up.t)) (by rfl) (wr_ld hlt false) (by repeat (first | exact trivial | refine ⟨trivial, ?_⟩ | refine ⟨wk (by repeat (first | exact .h | exact .q | apply At.t)) (by rfl), ?_⟩)) ?_)
      generalize (fun j => if j = i then false else r j) = r2
      (refine G tt_ok pk229 ?_; repeat (refine G1 tt_ok pk229 ?_; intro _))
      exact CW.ret (fin_cells [_, _] ⟨cl_, rfl, trivial⟩ (A := []) (Ent.dropAll _) ⟨r2, _, rfl, rfl⟩)
    | false =>
      (refine G tt_ok pk229 ?_; repeat (refine G1 tt_ok pk229 ?_; intro _))
      exact ⟨i + 1, by omega, by omega, ⟨by rw [← hwr]; rfl, rfl, rfl, trivial⟩, pk_⟩
  · obtain rfl : i = 64 := by omega
    (refine G tt_ok pk229 ?_; repeat (refine G1 tt_ok pk229 ?_; intro _))
    refine CW.exit ?_
    (refine G tt_ok pk229 ?_; repeat (refine G1 tt_ok pk229 ?_; intro _))
    exact CW.ret (fin_cells [_, _] ⟨cl_, rfl, trivial⟩ (A := []) (Ent.dropAll _) ⟨r, _, rfl, rfl⟩)
@[reducible] def pk218 : List (Nat × Plan) := []
@[reducible] def pk157 : List (Nat × Plan) := []
@[reducible] def pk246 : List (Nat × Plan) := []
theorem rbit218 (β : Base) (n : Int) (k : Nat) : Tri Tryz.prog β 218 [.int .i64 n, .int .i64 k] [] (fun v L => ∃ b, v = .bool b ∧ L = [] ∧ (n = 0 → b = false)) := by
  refine Tri.intro tt_ok Tryz.func218 rfl rfl Tryz.ntmps218 rfl fun F => ?_
  refine G tt_ok pk218 ?_
  refine CW.ret (fin_ret rfl (Ent.refl _) ⟨_, rfl, rfl, fun h => ?_⟩)
  subst h
  rw [show (0 : Int).fdiv (2 ^ min k IntKind.i64.bits) = 0 from Int.zero_fdiv _]
  rfl
set_option maxHeartbeats 4000000 in
theorem rreal157 (β : Base) (p : Int) : Tri Tryz.prog β 157 [.int .i64 p] [] (fun v L => ∃ n : Int, v = .int .i64 n ∧ L = [] ∧ (p = 0 → n = 0)) := by
  refine Tri.intro tt_ok Tryz.func157 rfl rfl Tryz.ntmps157 rfl fun F => ?_
  refine G tt_ok pk157 ?_
  refine CW.loop (α := Nat × Int) (fun x => x.1 ≤ 8 ∧ (p = 0 → x.2 = 0)) (fun x => [(4, .int .i64 x.1), (3, .int .i64 x.2), (0, .int .i64 p)]) (fun x => []) (fun x => 8 - x.1) (3, 0) ⟨by decide, fun _ => rfl⟩ ⟨rfl, rfl, rfl, trivial⟩ pk_ ?_
  rintro ⟨i, n⟩ ⟨h8, hz⟩
  simp only at h8 hz ⊢
  refine G tt_ok pk157 ?_
  by_cases hlt : i ≤ 7
  · have hwr : IntKind.i64.wrap ((i : Int) + 1) = ((i + 1 : Nat) : Int) := by rw [wrap_id (by omega) (by omega)]; simp
    rw [decide_eq_true (show (i : Int) ≤ 7 by omega)]
    refine G tt_ok pk157 ?_
    (refine ka rfl rfl (rbit218 β p i) ?_; rintro _ _ ⟨b, rfl, rfl, hb⟩; refine w_ ?_)
    refine G tt_ok pk157 ?_
    cases b with
    | true =>
      refine G tt_ok pk157 ?_
      exact ⟨(i + 1, _), ⟨by simp only; omega, fun h => absurd (hb h) (by simp)⟩, by simp only; omega, ⟨by rw [← hwr]; rfl, rfl, rfl, trivial⟩, pk_⟩
    | false =>
      refine G tt_ok pk157 ?_
      exact ⟨(i + 1, n), ⟨by simp only; omega, hz⟩, by simp only; omega, ⟨by rw [← hwr]; rfl, rfl, rfl, trivial⟩, pk_⟩
  · rw [decide_eq_false (show ¬ (i : Int) ≤ 7 by omega)]
    refine G tt_ok pk157 ?_
    refine CW.exit ?_
    refine G tt_ok pk157 ?_
    exact CW.ret (fin_ret rfl (Ent.refl _) ⟨n, rfl, rfl, hz⟩)
set_option maxHeartbeats 4000000 in
theorem rmask246 (β : Base) (g p : Int) : Tri Tryz.prog β 246 [.int .i64 g, .int .i64 p] [] (fun v L => ∃ n : Int, v = .int .i64 n ∧ L = []) := by
  refine Tri.intro tt_ok Tryz.func246 rfl rfl Tryz.ntmps246 rfl fun F => ?_
  refine G tt_ok pk246 ?_
  refine CW.loop (α := Nat × Nat) (fun x => x.1 ≤ 3 ∧ x.2 < 2 ^ x.1) (fun x => [(6, .int .i64 x.1), (5, .int .i64 x.2), (0, .int .i64 g), (1, .int .i64 p)]) (fun x => []) (fun x => 3 - x.1) (0, 0) ⟨by decide, by decide⟩ ⟨rfl, rfl, rfl, rfl, trivial⟩ pk_ ?_
  rintro ⟨i, n⟩ ⟨h3, hn⟩
  simp only at h3 hn ⊢
  refine G tt_ok pk246 ?_
  by_cases hlt : i ≤ 2
  · have hwr : IntKind.i64.wrap ((i : Int) + 1) = ((i + 1 : Nat) : Int) := by rw [wrap_id (by omega) (by omega)]; simp
    have hp4 : 2 ^ i ≤ 4 := by
      have : 2 ^ i ≤ 2 ^ 2 := Nat.pow_le_pow_right (by omega) (by omega)
      omega
    have hps : 2 ^ (i + 1) = 2 * 2 ^ i := by rw [Nat.pow_succ]; omega
    rw [decide_eq_true (show (i : Int) ≤ 2 by omega)]
    refine G tt_ok pk246 ?_
    (refine ka rfl rfl (rbit218 β p i) ?_; rintro _ _ ⟨b, rfl, rfl, hb⟩; refine w_ ?_)
    refine G tt_ok pk246 ?_
    cases b with
    | true =>
      refine G tt_ok pk246 ?_
      have hv : IntKind.i64.wrap (1 * 2 ^ min i IntKind.i64.bits) = ((2 ^ i : Nat) : Int) := by
        rw [Int.one_mul, show min i IntKind.i64.bits = i from Nat.min_eq_left (by show i ≤ 64; omega), show (2 : Int) ^ i = ((2 ^ i : Nat) : Int) by simp]
        exact wrap_id (by omega) (by omega)
      rw [hv, show IntKind.i64.wrap ((n : Int) + ((2 ^ i : Nat) : Int)) = ((n + 2 ^ i : Nat) : Int) by rw [wrap_id (by omega) (by omega)]; simp]
      exact ⟨(i + 1, n + 2 ^ i), ⟨by simp only; omega, by simp only; rw [hps]; omega⟩, by simp only; omega, ⟨by rw [← hwr]; rfl, rfl, rfl, rfl, trivial⟩, pk_⟩
    | false =>
      refine G tt_ok pk246 ?_
      exact ⟨(i + 1, n), ⟨by simp only; omega, by simp only; rw [hps]; omega⟩, by simp only; omega, ⟨by rw [← hwr]; rfl, rfl, rfl, rfl, trivial⟩, pk_⟩
  · rw [decide_eq_false (show ¬ (i : Int) ≤ 2 by omega)]
    obtain rfl : i = 3 := by omega
    have hn8 : n < 8 := hn
    refine G tt_ok pk246 ?_
    refine CW.exit ?_
    refine G tt_ok pk246 ?_
    by_cases hg : g = 0
    · subst hg
      rw [show ((0 : Int) == 0) = true from rfl]
      refine G tt_ok pk246 ?_
      rw [show IntKind.i64.wrap ((n : Int) + 1) = ((n + 1 : Nat) : Int) by rw [wrap_id (by omega) (by omega)]; simp]
      refine G tt_ok pk246 ?_
      refine CW.loop (α := Nat × Int) (fun x => x.1 ≤ 8) (fun x => [(9, .int .i64 x.1), (8, .int .i64 x.2)]) (fun x => []) (fun x => 8 - x.1) (n + 1, 0) (by simp only; omega) ⟨rfl, rfl, trivial⟩ pk_ ?_
      rintro ⟨i, z⟩ h8
      simp only at h8 ⊢
      refine G tt_ok pk246 ?_
      by_cases hlt2 : i ≤ 7
      · have hwr : IntKind.i64.wrap ((i : Int) + 1) = ((i + 1 : Nat) : Int) := by rw [wrap_id (by omega) (by omega)]; simp
        rw [decide_eq_true (show (i : Int) ≤ 7 by omega)]
        refine G tt_ok pk246 ?_
        exact ⟨(i + 1, _), by simp only; omega, by simp only; omega, ⟨by rw [← hwr]; rfl, rfl, trivial⟩, pk_⟩
      · rw [decide_eq_false (show ¬ (i : Int) ≤ 7 by omega)]
        refine G tt_ok pk246 ?_
        refine CW.exit ?_
        refine G tt_ok pk246 ?_
        exact CW.ret (fin_ret rfl (Ent.refl _) ⟨_, rfl, rfl⟩)
    · rw [show (g == 0) = false by simpa using hg]
      refine G tt_ok pk246 ?_
      by_cases hn0 : n = 0
      · subst hn0
        rw [show ((((0 : Nat) : Int)) == 0) = true from rfl]
        refine G tt_ok pk246 ?_
        refine CW.loop (α := Nat × Int) (fun x => x.1 ≤ 8) (fun x => [(9, .int .i64 x.1), (8, .int .i64 x.2)]) (fun x => []) (fun x => 8 - x.1) (1, 0) (by simp only; omega) ⟨rfl, rfl, trivial⟩ pk_ ?_
        rintro ⟨i, z⟩ h8
        simp only at h8 ⊢
        refine G tt_ok pk246 ?_
        by_cases hlt2 : i ≤ 7
        · have hwr : IntKind.i64.wrap ((i : Int) + 1) = ((i + 1 : Nat) : Int) := by rw [wrap_id (by omega) (by omega)]; simp
          rw [decide_eq_true (show (i : Int) ≤ 7 by omega)]
          refine G tt_ok pk246 ?_
          exact ⟨(i + 1, _), by simp only; omega, by simp only; omega, ⟨by rw [← hwr]; rfl, rfl, trivial⟩, pk_⟩
        · rw [decide_eq_false (show ¬ (i : Int) ≤ 7 by omega)]
          refine G tt_ok pk246 ?_
          refine CW.exit ?_
          refine G tt_ok pk246 ?_
          exact CW.ret (fin_ret rfl (Ent.refl _) ⟨_, rfl, rfl⟩)
      · rw [show (((n : Nat) : Int) == 0) = false by simpa using hn0]
        refine G tt_ok pk246 ?_
        refine CW.loop (α := Nat × Int) (fun x => x.1 ≤ 8) (fun x => [(9, .int .i64 x.1), (8, .int .i64 x.2)]) (fun x => []) (fun x => 8 - x.1) (n, 0) (by simp only; omega) ⟨rfl, rfl, trivial⟩ pk_ ?_
        rintro ⟨i, z⟩ h8
        simp only at h8 ⊢
        refine G tt_ok pk246 ?_
        by_cases hlt2 : i ≤ 7
        · have hwr : IntKind.i64.wrap ((i : Int) + 1) = ((i + 1 : Nat) : Int) := by rw [wrap_id (by omega) (by omega)]; simp
          rw [decide_eq_true (show (i : Int) ≤ 7 by omega)]
          refine G tt_ok pk246 ?_
          exact ⟨(i + 1, _), by simp only; omega, by simp only; omega, ⟨by rw [← hwr]; rfl, rfl, trivial⟩, pk_⟩
        · rw [decide_eq_false (show ¬ (i : Int) ≤ 7 by omega)]
          refine G tt_ok pk246 ?_
          refine CW.exit ?_
          refine G tt_ok pk246 ?_
          exact CW.ret (fin_ret rfl (Ent.refl _) ⟨_, rfl, rfl⟩)
@[reducible] def pk227 : List (Nat × Plan) := []
/-- The document's interface. -/
structure RF where
  m : Int
  p0 : Int
  p1 : Int
  on0 : Bool
  on1 : Bool
  sp : Bool
  r : Nat → Bool
@[reducible] def rfC (f : RF) : List Value := .int .i64 f.m :: .int .i64 f.p0 :: .int .i64 f.p1 :: .bool f.on0 :: .bool f.on1 :: .bool f.sp :: lds f.r
@[reducible] def rfV (f : RF) : Value := .agg (rfC f).toArray
theorem bit_cases {z : Int} (h : 0 ≤ z ∧ z ≤ 1) : z = 0 ∨ z = 1 := by omega
set_option maxHeartbeats 4000000 in
theorem rbits227 (β : Base) (f : RF) (g : Int) : Tri Tryz.prog β 227 [rfV f, .int .i64 g] [] (fun v L => ∃ n : Int, v = .int .i64 n ∧ L = []) := by
  refine Tri.intro tt_ok Tryz.func227 rfl rfl Tryz.ntmps227 rfl fun F => ?_
  have hg := bit_cases (and1_range g)
  (refine G tt_ok pk227 ?_; repeat (refine G1 tt_ok pk227 ?_; intro _))
  rename_i c1
  generalize IntKind.i64.wrap ((BitVec.ofInt IntKind.i64.bits g &&& BitVec.ofInt IntKind.i64.bits 1).toNat : Int) = z at hg ⊢
  rcases hg with rfl | rfl
  · refine SQ.idx tt_ok rfl rfl 0 rfl (by decide) (o' := 1) rfl ?_
    (refine G tt_ok pk227 ?_; repeat (refine G1 tt_ok pk227 ?_; intro _))
    (refine ka rfl rfl (rmask246 β 0 _) ?_; rintro _ _ ⟨n, rfl, rfl⟩; refine w_ ?_)
    (refine G tt_ok pk227 ?_; repeat (refine G1 tt_ok pk227 ?_; intro _))
    exact CW.ret (fin_ret rfl (A := []) (Ent.dropAll _) ⟨_, rfl, rfl⟩)
  · refine SQ.idx tt_ok rfl rfl 1 rfl (by decide) (o' := 2) rfl ?_
    (refine G tt_ok pk227 ?_; repeat (refine G1 tt_ok pk227 ?_; intro _))
    (refine ka rfl rfl (rmask246 β 1 _) ?_; rintro _ _ ⟨n, rfl, rfl⟩; refine w_ ?_)
    (refine G tt_ok pk227 ?_; repeat (refine G1 tt_ok pk227 ?_; intro _))
    exact CW.ret (fin_ret rfl (A := []) (Ent.dropAll _) ⟨_, rfl, rfl⟩)
@[reducible] def pk233 : List (Nat × Plan) := []
@[reducible] def pk225 : List (Nat × Plan) := [(4, [(0, 0, []), (1, 0, []), (2, 0, []), (3, 0, []), (4, 0, []), (7, 0, []), (5, 1, [1, 2, 4]), (6, 0, []), (8, 0, []), (9, 0, [])])]
@[reducible] def pk165 : List (Nat × Plan) := []
theorem rreal166 (β : Base) (n : Int) : Tri Tryz.prog β 166 [.int .i64 n] [] (fun v L => ∃ b, v = .bool b ∧ L = []) := by
  refine Tri.intro tt_ok Tryz.func166 rfl rfl Tryz.ntmps166 rfl fun F => ?_
  (repeat' (first | refine CW.seq ?_ | refine CW.region tt_ok rfl ?_ | refine CW.block ?_ | refine CW.skip ?_ | refine SQ.nil ?_ | refine SQ.pures1 tt_ok rfl ?_ | refine SQ.pure1 tt_ok rfl ?_ | refine SQ.new _ _ rfl rfl (fun _ => ?_) | refine SQ.ldA tt_ok rfl rfl (by repeat (first | exact .h | exact .q | apply At.t)) (by rfl) ?_ | refine SQ.stA tt_ok rfl rfl (by repeat (first | apply Up.h | apply Up.t)) (by rfl) (by rfl) (by repeat (first | exact trivial | refine ⟨trivial, ?_⟩ | refine ⟨wk (by repeat (first | exact .h | exact .q | apply At.t)) (by rfl), ?_⟩)) ?_ | refine CW.cond_tt rfl ?_ | refine CW.cond_ff rfl ?_ | ((first | refine CW.cond rfl (fun hc => ?_) (fun hc => ?_) | refine SQ.gsplit rfl (fun hc => ?_) (fun hc => ?_)) <;> try (exfalso; simp_all; done))))
  all_goals exact CW.ret (fin_ret rfl (Ent.refl _) ⟨_, rfl, rfl⟩)
theorem rone233 (β : Base) (b : Bool) (n : Int) : Tri Tryz.prog β 233 [.bool b, .int .u64 n] [] (fun v L => ∃ m : Int, v = .int .u64 m ∧ L = []) := by
  refine Tri.intro tt_ok Tryz.func233 rfl rfl Tryz.ntmps233 rfl fun F => ?_
  cases b <;> (
    refine G tt_ok pk233 ?_
    exact CW.ret (fin_ret rfl (Ent.refl _) ⟨_, rfl, rfl⟩))
set_option maxHeartbeats 8000000 in
theorem rmay225 (β : Base) (f : RF) (c : Cd) : Tri Tryz.prog β 225 [rfV f, .agg #[.int .i64 c.1, .int .i64 c.2.1, .int .i64 c.2.2.1, .bool c.2.2.2]] [] (fun v L => ∃ b, v = .bool b ∧ L = []) := by
  obtain ⟨id, p, g, is⟩ := c
  refine Tri.intro tt_ok Tryz.func225 rfl rfl Tryz.ntmps225 rfl fun F => ?_
  have hg := bit_cases (and1_range g)
  cases is with
  | false =>
    (refine G tt_ok pk225 ?_; repeat (refine G1 tt_ok pk225 ?_; intro _))
    exact CW.ret (fin_ret rfl (A := []) (Ent.dropAll _) ⟨_, rfl, rfl⟩)
  | true =>
    obtain ⟨m, p0, p1, on0, on1, sp, r⟩ := f
    have hbits := fun a b => rbits227 β ⟨m, p0, p1, a, b, sp, r⟩ g
    have hrun := rrun228 β r
    (refine G tt_ok pk225 ?_; repeat (refine G1 tt_ok pk225 ?_; intro _))
    rename_i c1 c2
    refine SQ.ent [pt c1 (rfC ⟨m, p0, p1, on0, on1, sp, r⟩), pt c2 [.int .i64 id, .int .i64 p, .int .i64 g, .bool true]] pk_ ?_
    generalize IntKind.i64.wrap ((BitVec.ofInt IntKind.i64.bits g &&& BitVec.ofInt IntKind.i64.bits 1).toNat : Int) = z at hg ⊢
    rcases hg with rfl | rfl
    · refine SQ.idx tt_ok rfl rfl 0 rfl (by decide) (o' := 3) rfl ?_
      (refine G tt_ok pk225 ?_; repeat (refine G1 tt_ok pk225 ?_; intro _))
      cases on0 with
      | false =>
        (refine G tt_ok pk225 ?_; repeat (refine G1 tt_ok pk225 ?_; intro _))
        exact CW.ret (fin_ret rfl (A := []) (Ent.dropAll _) ⟨_, rfl, rfl⟩)
      | true =>
        (refine G tt_ok pk225 ?_; repeat (refine G1 tt_ok pk225 ?_; intro _))
        cases decide (p ≥ m) with
        | true =>
          (refine G tt_ok pk225 ?_; repeat (refine G1 tt_ok pk225 ?_; intro _))
          exact CW.ret (fin_ret rfl (A := []) (Ent.dropAll _) ⟨_, rfl, rfl⟩)
        | false =>
          (refine G tt_ok pk225 ?_; repeat (refine G1 tt_ok pk225 ?_; intro _))
          (refine ka rfl rfl (hrun) ?_; rintro _ _ ⟨a, b, rfl, rfl, _⟩; refine w_ ?_)
          (refine G tt_ok pk225 ?_; repeat (refine G1 tt_ok pk225 ?_; intro _))
          (refine ka rfl rfl (hbits true on1) ?_; rintro _ _ ⟨n, rfl, rfl⟩; refine w_ ?_)
          (refine G tt_ok pk225 ?_; repeat (refine G1 tt_ok pk225 ?_; intro _))
          exact CW.ret (fin_ret rfl (A := []) (Ent.dropAll _) ⟨_, rfl, rfl⟩)
    · refine SQ.idx tt_ok rfl rfl 1 rfl (by decide) (o' := 4) rfl ?_
      (refine G tt_ok pk225 ?_; repeat (refine G1 tt_ok pk225 ?_; intro _))
      cases on1 with
      | false =>
        (refine G tt_ok pk225 ?_; repeat (refine G1 tt_ok pk225 ?_; intro _))
        exact CW.ret (fin_ret rfl (A := []) (Ent.dropAll _) ⟨_, rfl, rfl⟩)
      | true =>
        (refine G tt_ok pk225 ?_; repeat (refine G1 tt_ok pk225 ?_; intro _))
        cases decide (p ≥ m) with
        | true =>
          (refine G tt_ok pk225 ?_; repeat (refine G1 tt_ok pk225 ?_; intro _))
          exact CW.ret (fin_ret rfl (A := []) (Ent.dropAll _) ⟨_, rfl, rfl⟩)
        | false =>
          (refine G tt_ok pk225 ?_; repeat (refine G1 tt_ok pk225 ?_; intro _))
          (refine ka rfl rfl (hrun) ?_; rintro _ _ ⟨a, b, rfl, rfl, _⟩; refine w_ ?_)
          (refine G tt_ok pk225 ?_; repeat (refine G1 tt_ok pk225 ?_; intro _))
          (refine ka rfl rfl (hbits on0 true) ?_; rintro _ _ ⟨n, rfl, rfl⟩; refine w_ ?_)
          (refine G tt_ok pk225 ?_; repeat (refine G1 tt_ok pk225 ?_; intro _))
          exact CW.ret (fin_ret rfl (A := []) (Ent.dropAll _) ⟨_, rfl, rfl⟩)
theorem rshows165 (β : Base) (f : RF) (c : Cd) (k : Int) : Tri Tryz.prog β 165 [rfV f, .agg #[.int .i64 c.1, .int .i64 c.2.1, .int .i64 c.2.2.1, .bool c.2.2.2], .int .i64 k] [] (fun v L => ∃ n : Int, v = .int .i64 n ∧ L = []) := by
  obtain ⟨id, p, g, is⟩ := c
  refine Tri.intro tt_ok Tryz.func165 rfl rfl Tryz.ntmps165 rfl fun F => ?_
  have hg := bit_cases (and1_range k)
  cases is with
  | false =>
    (refine G tt_ok pk165 ?_; repeat (refine G1 tt_ok pk165 ?_; intro _))
    exact CW.ret (fin_ret rfl (A := []) (Ent.dropAll _) ⟨_, rfl, rfl⟩)
  | true =>
    obtain ⟨m, p0, p1, on0, on1, sp, r⟩ := f
    (refine G tt_ok pk165 ?_; repeat (refine G1 tt_ok pk165 ?_; intro _))
    cases (g != k) with
    | true =>
      (refine G tt_ok pk165 ?_; repeat (refine G1 tt_ok pk165 ?_; intro _))
      exact CW.ret (fin_ret rfl (A := []) (Ent.dropAll _) ⟨_, rfl, rfl⟩)
    | false =>
      (refine G tt_ok pk165 ?_; repeat (refine G1 tt_ok pk165 ?_; intro _))
      generalize IntKind.i64.wrap ((BitVec.ofInt IntKind.i64.bits k &&& BitVec.ofInt IntKind.i64.bits 1).toNat : Int) = z at hg ⊢
      rcases hg with rfl | rfl
      · refine SQ.idx tt_ok rfl rfl 0 rfl (by decide) (o' := 3) rfl ?_
        (refine G tt_ok pk165 ?_; repeat (refine G1 tt_ok pk165 ?_; intro _))
        cases on0 <;> (
          (refine G tt_ok pk165 ?_; repeat (refine G1 tt_ok pk165 ?_; intro _))
          exact CW.ret (fin_ret rfl (A := []) (Ent.dropAll _) ⟨_, rfl, rfl⟩))
      · refine SQ.idx tt_ok rfl rfl 1 rfl (by decide) (o' := 4) rfl ?_
        (refine G tt_ok pk165 ?_; repeat (refine G1 tt_ok pk165 ?_; intro _))
        cases on1 <;> (
          (refine G tt_ok pk165 ?_; repeat (refine G1 tt_ok pk165 ?_; intro _))
          exact CW.ret (fin_ret rfl (A := []) (Ent.dropAll _) ⟨_, rfl, rfl⟩))
@[reducible] def pk164 : List (Nat × Plan) := [(4, [(0, 0, []), (1, 0, []), (2, 0, []), (3, 0, []), (4, 0, []), (5, 0, []), (6, 0, []), (7, 1, [1, 4, 5]), (8, 0, []), (9, 1, [1, 4, 5]), (10, 0, []), (11, 1, [])]), (5, [(0, 0, []), (1, 0, []), (2, 0, []), (3, 1, [2]), (4, 0, []), (5, 0, [])])]
@[reducible] def pk167 : List (Nat × Plan) := []
def rf0 : RF := ⟨0, 0, 0, false, false, false, fun _ => false⟩
set_option maxHeartbeats 8000000 in
theorem rftake164 (β : Base) (f : RF) (c : Cd) (k : Int) : Tri Tryz.prog β 164 [rfV f, .agg #[.int .i64 c.1, .int .i64 c.2.1, .int .i64 c.2.2.1, .bool c.2.2.2], .int .i64 k] [] (fun v L => ∃ f2 n b, v = .tuple #[rfV f2, .int .i64 n, .bool b] ∧ L = []) := by
  have hmay := rmay225 β f c
  obtain ⟨id, p, g, is⟩ := c
  refine Tri.intro tt_ok Tryz.func164 rfl rfl Tryz.ntmps164 rfl fun F => ?_
  (refine G tt_ok pk164 ?_; repeat (refine G1 tt_ok pk164 ?_; intro _))
  rename_i c3 c4 c6
  cases hgk : (g != k) with
  | true =>
    (refine G tt_ok pk164 ?_; repeat (refine G1 tt_ok pk164 ?_; intro _))
    exact CW.ret (fin_cells [_, _, _] ⟨cl_, rfl, rfl, trivial⟩ (A := []) (Ent.dropAll _) ⟨f, _, _, rfl, rfl⟩)
  | false =>
    (refine G tt_ok pk164 ?_; repeat (refine G1 tt_ok pk164 ?_; intro _))
    (refine ka rfl rfl (hmay) ?_; rintro _ _ ⟨b, rfl, rfl⟩; refine w_ ?_)
    cases b with
    | false =>
      (refine G tt_ok pk164 ?_; repeat (refine G1 tt_ok pk164 ?_; intro _))
      exact CW.ret (fin_cells [_, _, _] ⟨cl_, rfl, rfl, trivial⟩ (A := []) (Ent.dropAll _) ⟨f, _, _, rfl, rfl⟩)
    | true =>
      have hbits := rbits227 β f k
      (refine G tt_ok pk164 ?_; repeat (refine G1 tt_ok pk164 ?_; intro _))
      (refine ka rfl rfl (hbits) ?_; rintro _ _ ⟨n, rfl, rfl⟩; refine w_ ?_)
      (refine G tt_ok pk164 ?_; repeat (refine G1 tt_ok pk164 ?_; intro _))
      (refine ka rfl rfl (rset226 β f.r k _ true) ?_; rintro _ _ ⟨r2, rfl, rfl⟩; refine w_ ?_)
      (refine G tt_ok pk164 ?_; repeat (refine G1 tt_ok pk164 ?_; intro _))
      exact CW.ret (fin_cells [_, _, _] ⟨cl_, rfl, rfl, trivial⟩ (A := []) (Ent.dropAll _) ⟨{ f with r := r2 }, _, _, rfl, rfl⟩)
set_option maxHeartbeats 8000000 in
theorem rfdrop167 (β : Base) (f : RF) (k : Int) : Tri Tryz.prog β 167 [rfV f, .int .i64 k] [] (fun v L => ∃ f2 b, v = .tuple #[rfV f2, .bool b] ∧ L = []) := by
  refine Tri.intro tt_ok Tryz.func167 rfl rfl Tryz.ntmps167 rfl fun F => ?_
  have hrun := rrun228 β f.r
  have hdr := rdrop229 β f.r
  (refine G tt_ok pk167 ?_; repeat (refine G1 tt_ok pk167 ?_; intro _))
  rename_i c2 c4
  (refine ka rfl rfl (hrun) ?_; rintro _ _ ⟨a, b, rfl, rfl, _⟩; refine w_ ?_)
  (refine G tt_ok pk167 ?_; repeat (refine G1 tt_ok pk167 ?_; intro _))
  cases ha : (a == 255) with
  | true =>
    (refine G tt_ok pk167 ?_; repeat (refine G1 tt_ok pk167 ?_; intro _))
    exact CW.ret (fin_cells [_, _] ⟨cl_, rfl, trivial⟩ (A := []) (Ent.dropAll _) ⟨f, _, rfl, rfl⟩)
  | false =>
    (refine G tt_ok pk167 ?_; repeat (refine G1 tt_ok pk167 ?_; intro _))
    cases hb : (b != k) with
    | true =>
      (refine G tt_ok pk167 ?_; repeat (refine G1 tt_ok pk167 ?_; intro _))
      exact CW.ret (fin_cells [_, _] ⟨cl_, rfl, trivial⟩ (A := []) (Ent.dropAll _) ⟨f, _, rfl, rfl⟩)
    | false =>
      (refine G tt_ok pk167 ?_; repeat (refine G1 tt_ok pk167 ?_; intro _))
      (refine ka rfl rfl (hdr) ?_; rintro _ _ ⟨r2, t, rfl, rfl⟩; refine w_ ?_)
      (refine G tt_ok pk167 ?_; repeat (refine G1 tt_ok pk167 ?_; intro _))
      exact CW.ret (fin_cells [_, _] ⟨cl_, rfl, trivial⟩ (A := []) (Ent.dropAll _) ⟨{ f with r := r2 }, _, rfl, rfl⟩)
@[reducible] def pk170 : List (Nat × Plan) := []
@[reducible] def pk171 : List (Nat × Plan) := []
set_option maxHeartbeats 8000000 in
theorem rfwrite170 (β : Base) (f : RF) (r : Int) (x : Nat) : Tri Tryz.prog β 170 [rfV f, .int .i64 r, .int .u64 x] [] (fun v L => ∃ f2 b, v = .tuple #[rfV f2, .bool b] ∧ L = []) := by
  refine Tri.intro tt_ok Tryz.func170 rfl rfl Tryz.ntmps170 rfl fun F => ?_
  (refine G tt_ok pk170 ?_; repeat (refine G1 tt_ok pk170 ?_; intro _))
  by_cases h6 : r = 6
  · subst h6
    (refine G tt_ok pk170 ?_; repeat (refine G1 tt_ok pk170 ?_; intro _))
    (refine ka rfl rfl (rreal157 β _) ?_; rintro _ _ ⟨n, rfl, rfl, _⟩; refine w_ ?_)
    (refine G tt_ok pk170 ?_; repeat (refine G1 tt_ok pk170 ?_; intro _))
    refine CW.ret (fin_cells [_, _] ⟨cl_, rfl, trivial⟩ (A := []) (Ent.dropAll _) ?_)
    exact ⟨{ f with m := _ }, _, rfl, rfl⟩
  rw [show (r == 6) = false by simp [h6]]
  (refine G tt_ok pk170 ?_; repeat (refine G1 tt_ok pk170 ?_; intro _))
  by_cases h7 : r = 7
  · subst h7
    (refine G tt_ok pk170 ?_; repeat (refine G1 tt_ok pk170 ?_; intro _))
    refine SQ.idx tt_ok rfl rfl 0 rfl (by decide) (o' := 1) rfl ?_
    (refine G tt_ok pk170 ?_; repeat (refine G1 tt_ok pk170 ?_; intro _))
    refine CW.ret (fin_cells [_, _] ⟨cl_, rfl, trivial⟩ (A := []) (Ent.dropAll _) ?_)
    exact ⟨{ f with p0 := IntKind.i64.wrap ((x : Int).tmod 8) }, _, rfl, rfl⟩
  rw [show (r == 7) = false by simp [h7]]
  (refine G tt_ok pk170 ?_; repeat (refine G1 tt_ok pk170 ?_; intro _))
  by_cases h8 : r = 8
  · subst h8
    (refine G tt_ok pk170 ?_; repeat (refine G1 tt_ok pk170 ?_; intro _))
    refine SQ.idx tt_ok rfl rfl 1 rfl (by decide) (o' := 2) rfl ?_
    (refine G tt_ok pk170 ?_; repeat (refine G1 tt_ok pk170 ?_; intro _))
    cases ((x : Int).tmod 8 == 0) with
    | true =>
      (refine G tt_ok pk170 ?_; repeat (refine G1 tt_ok pk170 ?_; intro _))
      refine SQ.idx tt_ok rfl rfl 1 rfl (by decide) (o' := 2) rfl ?_
      (refine G tt_ok pk170 ?_; repeat (refine G1 tt_ok pk170 ?_; intro _))
      refine CW.ret (fin_cells [_, _] ⟨cl_, rfl, trivial⟩ (A := []) (Ent.dropAll _) ?_)
      exact ⟨{ f with p1 := 1 }, _, rfl, rfl⟩
    | false =>
      (refine G tt_ok pk170 ?_; repeat (refine G1 tt_ok pk170 ?_; intro _))
      refine CW.ret (fin_cells [_, _] ⟨cl_, rfl, trivial⟩ (A := []) (Ent.dropAll _) ?_)
      exact ⟨{ f with p1 := IntKind.i64.wrap ((x : Int).tmod 8) }, _, rfl, rfl⟩
  rw [show (r == 8) = false by simp [h8]]
  (refine G tt_ok pk170 ?_; repeat (refine G1 tt_ok pk170 ?_; intro _))
  by_cases h9 : r = 9
  · subst h9
    (refine G tt_ok pk170 ?_; repeat (refine G1 tt_ok pk170 ?_; intro _))
    refine CW.ret (fin_cells [_, _] ⟨cl_, rfl, trivial⟩ (A := []) (Ent.dropAll _) ?_)
    exact ⟨{ f with sp := ((IntKind.u64.wrap ((x : Int).tdiv 2)).tmod 2 == 1) }, _, rfl, rfl⟩
  rw [show (r == 9) = false by simp [h9]]
  (refine G tt_ok pk170 ?_; repeat (refine G1 tt_ok pk170 ?_; intro _))
  by_cases h10 : r = 10
  · subst h10
    (refine G tt_ok pk170 ?_; repeat (refine G1 tt_ok pk170 ?_; intro _))
    refine SQ.idx tt_ok rfl rfl 0 rfl (by decide) (o' := 3) rfl ?_
    (refine G tt_ok pk170 ?_; repeat (refine G1 tt_ok pk170 ?_; intro _))
    refine CW.ret (fin_cells [_, _] ⟨cl_, rfl, trivial⟩ (A := []) (Ent.dropAll _) ?_)
    exact ⟨{ f with on0 := ((x : Int).tmod 2 == 1) }, _, rfl, rfl⟩
  rw [show (r == 10) = false by simp [h10]]
  (refine G tt_ok pk170 ?_; repeat (refine G1 tt_ok pk170 ?_; intro _))
  by_cases h11 : r = 11
  · subst h11
    (refine G tt_ok pk170 ?_; repeat (refine G1 tt_ok pk170 ?_; intro _))
    refine SQ.idx tt_ok rfl rfl 1 rfl (by decide) (o' := 4) rfl ?_
    (refine G tt_ok pk170 ?_; repeat (refine G1 tt_ok pk170 ?_; intro _))
    refine CW.ret (fin_cells [_, _] ⟨cl_, rfl, trivial⟩ (A := []) (Ent.dropAll _) ?_)
    exact ⟨{ f with on1 := ((x : Int).tmod 2 == 1) }, _, rfl, rfl⟩
  rw [show (r == 11) = false by simp [h11]]
  (refine G tt_ok pk170 ?_; repeat (refine G1 tt_ok pk170 ?_; intro _))
  exact CW.ret (fin_cells [_, _] ⟨cl_, rfl, trivial⟩ (A := []) (Ent.dropAll _) ⟨f, _, rfl, rfl⟩)
set_option maxHeartbeats 8000000 in
theorem rfread171 (β : Base) (f : RF) (r : Int) : Tri Tryz.prog β 171 [rfV f, .int .i64 r] [] (fun v L => ∃ (n : Int) (b : Bool), v = .tuple #[.int .u64 n, .bool b] ∧ L = []) := by
  refine Tri.intro tt_ok Tryz.func171 rfl rfl Tryz.ntmps171 rfl fun F => ?_
  have hrun := rrun228 β f.r
  (refine G tt_ok pk171 ?_; repeat (refine G1 tt_ok pk171 ?_; intro _))
  by_cases h6 : r = 6
  · subst h6
    (refine G tt_ok pk171 ?_; repeat (refine G1 tt_ok pk171 ?_; intro _))
    exact CW.ret (fin_ret rfl (A := []) (Ent.dropAll _) ⟨_, _, rfl, rfl⟩)
  rw [show (r == 6) = false by simp [h6]]
  (refine G tt_ok pk171 ?_; repeat (refine G1 tt_ok pk171 ?_; intro _))
  by_cases h7 : r = 7
  · subst h7
    (refine G tt_ok pk171 ?_; repeat (refine G1 tt_ok pk171 ?_; intro _))
    refine SQ.idx tt_ok rfl rfl 0 rfl (by decide) (o' := 1) rfl ?_
    (refine G tt_ok pk171 ?_; repeat (refine G1 tt_ok pk171 ?_; intro _))
    exact CW.ret (fin_ret rfl (A := []) (Ent.dropAll _) ⟨_, _, rfl, rfl⟩)
  rw [show (r == 7) = false by simp [h7]]
  (refine G tt_ok pk171 ?_; repeat (refine G1 tt_ok pk171 ?_; intro _))
  by_cases h8 : r = 8
  · subst h8
    (refine G tt_ok pk171 ?_; repeat (refine G1 tt_ok pk171 ?_; intro _))
    refine SQ.idx tt_ok rfl rfl 1 rfl (by decide) (o' := 2) rfl ?_
    (refine G tt_ok pk171 ?_; repeat (refine G1 tt_ok pk171 ?_; intro _))
    cases decide (f.p1 < 1) with
    | true =>
      (refine G tt_ok pk171 ?_; repeat (refine G1 tt_ok pk171 ?_; intro _))
      exact CW.ret (fin_ret rfl (A := []) (Ent.dropAll _) ⟨_, _, rfl, rfl⟩)
    | false =>
      (refine G tt_ok pk171 ?_; repeat (refine G1 tt_ok pk171 ?_; intro _))
      refine SQ.idx tt_ok rfl rfl 1 rfl (by decide) (o' := 2) rfl ?_
      (refine G tt_ok pk171 ?_; repeat (refine G1 tt_ok pk171 ?_; intro _))
      exact CW.ret (fin_ret rfl (A := []) (Ent.dropAll _) ⟨_, _, rfl, rfl⟩)
  rw [show (r == 8) = false by simp [h8]]
  (refine G tt_ok pk171 ?_; repeat (refine G1 tt_ok pk171 ?_; intro _))
  by_cases h9 : r = 9
  · subst h9
    (refine G tt_ok pk171 ?_; repeat (refine G1 tt_ok pk171 ?_; intro _))
    (refine ka rfl rfl (rone233 β _ _) ?_; rintro _ _ ⟨n, rfl, rfl⟩; refine w_ ?_)
    (refine G tt_ok pk171 ?_; repeat (refine G1 tt_ok pk171 ?_; intro _))
    exact CW.ret (fin_ret rfl (A := []) (Ent.dropAll _) ⟨_, _, rfl, rfl⟩)
  rw [show (r == 9) = false by simp [h9]]
  (refine G tt_ok pk171 ?_; repeat (refine G1 tt_ok pk171 ?_; intro _))
  by_cases h10 : r = 10
  · subst h10
    (refine G tt_ok pk171 ?_; repeat (refine G1 tt_ok pk171 ?_; intro _))
    refine SQ.idx tt_ok rfl rfl 0 rfl (by decide) (o' := 3) rfl ?_
    (refine G tt_ok pk171 ?_; repeat (refine G1 tt_ok pk171 ?_; intro _))
    (refine ka rfl rfl (rone233 β _ _) ?_; rintro _ _ ⟨n, rfl, rfl⟩; refine w_ ?_)
    (refine G tt_ok pk171 ?_; repeat (refine G1 tt_ok pk171 ?_; intro _))
    exact CW.ret (fin_ret rfl (A := []) (Ent.dropAll _) ⟨_, _, rfl, rfl⟩)
  rw [show (r == 10) = false by simp [h10]]
  (refine G tt_ok pk171 ?_; repeat (refine G1 tt_ok pk171 ?_; intro _))
  by_cases h11 : r = 11
  · subst h11
    (refine G tt_ok pk171 ?_; repeat (refine G1 tt_ok pk171 ?_; intro _))
    refine SQ.idx tt_ok rfl rfl 1 rfl (by decide) (o' := 4) rfl ?_
    (refine G tt_ok pk171 ?_; repeat (refine G1 tt_ok pk171 ?_; intro _))
    (refine ka rfl rfl (rone233 β _ _) ?_; rintro _ _ ⟨n, rfl, rfl⟩; refine w_ ?_)
    (refine G tt_ok pk171 ?_; repeat (refine G1 tt_ok pk171 ?_; intro _))
    exact CW.ret (fin_ret rfl (A := []) (Ent.dropAll _) ⟨_, _, rfl, rfl⟩)
  rw [show (r == 11) = false by simp [h11]]
  (refine G tt_ok pk171 ?_; repeat (refine G1 tt_ok pk171 ?_; intro _))
  by_cases h12 : r = 12
  · subst h12
    (refine G tt_ok pk171 ?_; repeat (refine G1 tt_ok pk171 ?_; intro _))
    (refine ka rfl rfl (hrun) ?_; rintro _ _ ⟨a, b, rfl, rfl, _⟩; refine w_ ?_)
    (refine G tt_ok pk171 ?_; repeat (refine G1 tt_ok pk171 ?_; intro _))
    exact CW.ret (fin_ret rfl (A := []) (Ent.dropAll _) ⟨_, _, rfl, rfl⟩)
  rw [show (r == 12) = false by simp [h12]]
  (refine G tt_ok pk171 ?_; repeat (refine G1 tt_ok pk171 ?_; intro _))
  exact CW.ret (fin_ret rfl (A := []) (Ent.dropAll _) ⟨_, _, rfl, rfl⟩)
end Go.Proofs.YtebpodnbalfomaaGreatDoor.Sl
namespace Go.Proofs.YtebpodnbalfomaaGreatDoor.Sl
open Go Go.RowKit Go.Proofs
set_option linter.unusedVariables false
set_option linter.unusedSimpArgs false
attribute [local irreducible] CW Tri OW
attribute [local irreducible] lds
set_option maxRecDepth 10000
@[reducible] def pk97 : List (Nat × Plan) := []
@[reducible] def pk103 : List (Nat × Plan) := []
/-- A list of messages of the document's. -/
structure WL where
  q : Option Addr
  c : Nat
  l : List Int
@[reducible] def wlC (w : WL) : List Value := [.slice w.q w.l.length w.c]
def wlA (w : WL) : List Atom := [rowA w.q w.l.length (w.l.flatMap i1C)]
@[reducible] def boC (b : Bool) : List Value := [.bool b]
/-- The document's controller. -/
structure RG where
  rd : Nat
  R : RS
  E : DS
  qf : Option Addr
  kf : Nat
  qb : Option Addr
  kb : Nat
  qw : Option Addr
  kw : Nat
  qo : Option Addr
  ko : Nat
  qp : Option Addr
  kp : Nat
  qe : Option Addr
  ke : Nat
  fs : List RF
  bs : List Nat
  ws : List WL
  os : List Bool
  ps : List Nat
  es : List Nat
@[reducible] def rgC (rd : Nat) (qf : Option Addr) (nf kf : Nat) (qb : Option Addr) (nb kb : Nat) (qw : Option Addr) (nw kw : Nat) (qo : Option Addr) (no ko : Nat) (qp : Option Addr) (np kp : Nat) (qe : Option Addr) (ne ke : Nat) : List Value :=
  [.pointer (some ⟨rd, 0, none⟩), .slice qf nf kf, .slice qb nb kb, .slice qw nw kw, .slice qo no ko, .slice qp np kp, .slice qe ne ke]
def rgA (r : Nat) (X : RG) : List Atom := [pt r (rgC X.rd X.qf X.fs.length X.kf X.qb X.bs.length X.kb X.qw X.ws.length X.kw X.qo X.os.length X.ko X.qp X.ps.length X.kp X.qe X.es.length X.ke), rowA X.qf X.fs.length (X.fs.flatMap rfC), rowA X.qb X.bs.length (X.bs.flatMap byC), rowA X.qw X.ws.length (X.ws.flatMap wlC), pkA wlA X.ws, rowA X.qo X.os.length (X.os.flatMap boC), rowA X.qp X.ps.length (X.ps.flatMap wC), rowA X.qe X.es.length (X.es.flatMap wC)] ++ rD X.rd X.R X.E
/-- What the document's controller keeps to: n processors, l messages. -/
structure OkR (n l : Nat) (X : RG) : Prop where
  ok : OkD X.R X.E
  xs : X.E.xs.length = n
  fs : X.fs.length = n
  ws : X.ws.length = n
  os : X.os.length = n
  ps : X.ps.length = n
  es : X.es.length = n
  bs : X.bs.length = l
  n4 : n ≤ 4
  l64 : l ≤ 64
  by_ : ∀ b ∈ X.bs, b < 256
  wo : ∀ w ∈ X.ws, okW l w.l
theorem rthere156 (β : Base) (r rd : Nat) (qf qb qw qo qp qe : Option Addr) (nf kf nb kb nw kw no ko np kp ne ke : Nat) (k : Int) : Tri Tryz.prog β 156 [.pointer (some ⟨r, 0, none⟩), .int .i64 k] [pt r (rgC rd qf nf kf qb nb kb qw nw kw qo no ko qp np kp qe ne ke)] (fun v L => v = .bool (rightV nf k) ∧ L = [pt r (rgC rd qf nf kf qb nb kb qw nw kw qo no ko qp np kp qe ne ke)]) := by
  refine Tri.intro tt_ok Tryz.func156 rfl rfl Tryz.ntmps156 rfl fun F => ?_
  (repeat' (first | refine CW.seq ?_ | refine CW.region tt_ok rfl ?_ | refine CW.block ?_ | refine CW.skip ?_ | refine SQ.nil ?_ | refine SQ.pures1 tt_ok rfl ?_ | refine SQ.pure1 tt_ok rfl ?_ | refine SQ.new _ _ rfl rfl (fun _ => ?_) | refine SQ.ldA tt_ok rfl rfl (by repeat (first | exact .h | exact .q | apply At.t)) (by rfl) ?_ | refine SQ.stA tt_ok rfl rfl (by repeat (first | apply Up.h | apply Up.t)) (by rfl) (by rfl) (by repeat (first | exact trivial | refine ⟨trivial, ?_⟩ | refine ⟨wk (by repeat (first | exact .h | exact .q | apply At.t)) (by rfl), ?_⟩)) ?_ | refine CW.cond_tt rfl ?_ | refine CW.cond_ff rfl ?_ | ((first | refine CW.cond rfl (fun hc => ?_) (fun hc => ?_) | refine SQ.gsplit rfl (fun hc => ?_) (fun hc => ?_)) <;> try (exfalso; simp_all; done))))
  all_goals (refine CW.ret (fin_ret rfl (Ent.refl _) ⟨?_, rfl⟩); simp_all [packV, rightV]; try omega)
def rmsgV (n : Nat) (id : Int) : Bool := decide (id ≥ 8192) && decide (id < IntKind.i64.wrap (8192 + n))
theorem rmsg97 (β : Base) (r rd : Nat) (qf qb qw qo qp qe : Option Addr) (nf kf nb kb nw kw no ko np kp ne ke : Nat) (id : Int) : Tri Tryz.prog β 97 [.pointer (some ⟨r, 0, none⟩), .int .i64 id] [pt r (rgC rd qf nf kf qb nb kb qw nw kw qo no ko qp np kp qe ne ke)] (fun v L => v = .bool (rmsgV nb id) ∧ L = [pt r (rgC rd qf nf kf qb nb kb qw nw kw qo no ko qp np kp qe ne ke)]) := by
  refine Tri.intro tt_ok Tryz.func97 rfl rfl Tryz.ntmps97 rfl fun F => ?_
  unfold rmsgV
  by_cases h : id ≥ 8192
  · rw [decide_eq_true h]
    refine G tt_ok pk97 ?_
    rw [decide_eq_true h]
    refine G tt_ok pk97 ?_
    exact CW.ret (fin_ret rfl (Ent.refl _) ⟨rfl, rfl⟩)
  · rw [decide_eq_false h]
    refine G tt_ok pk97 ?_
    rw [decide_eq_false h]
    refine G tt_ok pk97 ?_
    exact CW.ret (fin_ret rfl (Ent.refl _) ⟨rfl, rfl⟩)
theorem rmsg_at {n : Nat} (hn : n ≤ 1000) {id : Int} (h : rmsgV n id = true) : ∃ j : Nat, j < n ∧ id = ((8192 + j : Nat) : Int) ∧ IntKind.i64.wrap (id - 8192) = (j : Int) := by
  unfold rmsgV at h
  simp only [Bool.and_eq_true, decide_eq_true_eq] at h
  rw [wrap_id (by omega) (by omega)] at h
  exact ⟨(id - 8192).toNat, by omega, by omega, by rw [wrap_id (by omega) (by omega)]; omega⟩
theorem rsetup103 (β : Base) (r : Nat) {n l : Nat} {X : RG} (ok : OkR n l X) (id : Int) {b : Nat} (hb : b < 256) : Tri Tryz.prog β 103 [.pointer (some ⟨r, 0, none⟩), .int .i64 id, .int .u8 b] (rgA r X) (fun v L => ∃ (z : Int) (Y : RG), v = .int .i64 z ∧ L = rgA r Y ∧ OkR n l Y) := by
  have hmsg := rmsg97 β r X.rd X.qf X.qb X.qw X.qo X.qp X.qe X.fs.length X.kf X.bs.length X.kb X.ws.length X.kw X.os.length X.ko X.ps.length X.kp X.es.length X.ke id
  refine Tri.intro tt_ok Tryz.func103 rfl rfl Tryz.ntmps103 rfl fun F => ?_
  refine G tt_ok pk103 ?_
  rw [show rgA r X = [pt r (rgC X.rd X.qf X.fs.length X.kf X.qb X.bs.length X.kb X.qw X.ws.length X.kw X.qo X.os.length X.ko X.qp X.ps.length X.kp X.qe X.es.length X.ke), rowA X.qf X.fs.length (X.fs.flatMap rfC), rowA X.qb X.bs.length (X.bs.flatMap byC), rowA X.qw X.ws.length (X.ws.flatMap wlC), pkA wlA X.ws, rowA X.qo X.os.length (X.os.flatMap boC), rowA X.qp X.ps.length (X.ps.flatMap wC), rowA X.qe X.es.length (X.es.flatMap wC)] ++ rD X.rd X.R X.E from rfl]
  refine ke rfl rfl (hmsg) ?_
  cases h : rmsgV X.bs.length id with
  | false =>
    refine G tt_ok pk103 ?_
    exact CW.ret (fin_ret rfl (A := rgA r X) pk_ ⟨_, X, rfl, rfl, ok⟩)
  | true =>
    obtain ⟨j, hj, e1, e2⟩ := rmsg_at (by rw [ok.bs]; have := ok.l64; omega) h
    refine G tt_ok pk103 ?_
    rw [e2]
    refine ir_ tt_ok rfl rfl (j) (rfl) rfl ?_ (hlt := hj)
    refine G tt_ok pk103 ?_
    refine sr_ tt_ok rfl rfl (by_wrX (List.getElem?_eq_getElem hj) b) ?_
    refine G tt_ok pk103 ?_
    refine CW.ret (fin_ret rfl (A := rgA r { X with bs := X.bs.set j b }) ?_ ⟨_, { X with bs := X.bs.set j b }, rfl, rfl, ⟨ok.ok, ok.xs, ok.fs, ok.ws, ok.os, ok.ps, ok.es, by simp only [List.length_set]; exact ok.bs, ok.n4, ok.l64, ?_, ok.wo⟩⟩)
    · unfold rgA
      simp only [List.length_set]
      exact pk_
    · intro x hx
      rcases List.mem_or_eq_of_mem_set hx with h | rfl
      · exact ok.by_ x h
      · exact hb
@[reducible] def pk102 : List (Nat × Plan) := [(6, [(0, 0, []), (1, 0, []), (2, 0, []), (3, 0, []), (4, 0, []), (5, 0, []), (6, 0, []), (7, 0, []), (8, 0, []), (9, 0, []), (10, 0, []), (11, 0, []), (12, 0, []), (13, 0, []), (14, 1, [3, 8, 11]), (15, 0, []), (16, 1, [])]), (8, [(0, 0, []), (1, 0, []), (2, 0, []), (3, 0, []), (4, 0, []), (5, 0, []), (6, 0, []), (7, 0, []), (8, 0, []), (9, 0, []), (10, 0, []), (11, 0, []), (12, 0, []), (13, 0, []), (14, 1, [3, 8, 11]), (15, 0, []), (16, 1, [])])]
theorem rd_wl {ws : List WL} {k : Nat} {w : WL} (h : ws[k]? = some w) (Y : List Value) : rdv ti82 (ws.flatMap wlC ++ Y) (0 + k * 1) = some (.slice w.q w.l.length w.c) :=
  rd_partR (enc := wlC) (sz := 1) (fun _ => rfl) h 0 (i := ti82) rfl (by decide) (by omega) (by decide) Y
theorem wr_wl {ws : List WL} {k : Nat} {w : WL} (h : ws[k]? = some w) (u : WL) (Y : List Value) : wrv ti82 (ws.flatMap wlC ++ Y) (0 + k * 1) (.slice u.q u.l.length u.c) = some ((ws.set k u).flatMap wlC ++ Y) :=
  wr_encR (enc := wlC) (sz := 1) (fun _ => rfl) h 0 (i := ti82) (by decide) rfl rfl (by omega) Y
theorem rg_of (r : Nat) (X : RG) : rgA r X = [pt r (rgC X.rd X.qf X.fs.length X.kf X.qb X.bs.length X.kb X.qw X.ws.length X.kw X.qo X.os.length X.ko X.qp X.ps.length X.kp X.qe X.es.length X.ke), rowA X.qf X.fs.length (X.fs.flatMap rfC), rowA X.qb X.bs.length (X.bs.flatMap byC), rowA X.qw X.ws.length (X.ws.flatMap wlC), pkA wlA X.ws, rowA X.qo X.os.length (X.os.flatMap boC), rowA X.qp X.ps.length (X.ps.flatMap wC), rowA X.qe X.es.length (X.es.flatMap wC)] ++ rD X.rd X.R X.E := rfl
theorem OkR.setW {n l : Nat} {X : RG} (ok : OkR n l X) (k : Nat) {w : WL} (hw : okW l w.l) : OkR n l { X with ws := X.ws.set k w } := by
  refine ⟨ok.ok, ok.xs, ok.fs, by simp only [List.length_set]; exact ok.ws, ok.os, ok.ps, ok.es, ok.bs, ok.n4, ok.l64, ok.by_, ?_⟩
  intro x hx
  rcases List.mem_or_eq_of_mem_set hx with h | rfl
  · exact ok.wo x h
  · exact hw
theorem rightsN {α : Type} {ss : List α} {n : Nat} (hn : ss.length = n) {k : Int} (h : rightV n k = true) : ∃ s, ss[k.toNat]? = some s ∧ k.toNat < ss.length ∧ k = (k.toNat : Int) := by
  subst hn
  simp [rightV] at h
  exact ⟨_, List.getElem?_eq_getElem (show k.toNat < ss.length by omega), by omega, by omega⟩
set_option maxHeartbeats 16000000 in
theorem rlet102 (β : Base) (r : Nat) {n l : Nat} {X : RG} (ok : OkR n l X) (k id : Int) (w : Bool) : Tri Tryz.prog β 102 [.pointer (some ⟨r, 0, none⟩), .int .i64 k, .int .i64 id, .bool w] (rgA r X) (fun v L => ∃ (b : Bool) (z : Int) (Y : RG), v = .tuple #[.bool b, .int .i64 z] ∧ L = rgA r Y ∧ OkR n l Y) := by
  have hth := rthere156 β r X.rd X.qf X.qb X.qw X.qo X.qp X.qe X.fs.length X.kf X.bs.length X.kb X.ws.length X.kw X.os.length X.ko X.ps.length X.kp X.es.length X.ke k
  have hmsg := rmsg97 β r X.rd X.qf X.qb X.qw X.qo X.qp X.qe X.fs.length X.kf X.bs.length X.kb X.ws.length X.kw X.os.length X.ko X.ps.length X.kp X.es.length X.ke id
  refine Tri.intro tt_ok Tryz.func102 rfl rfl Tryz.ntmps102 rfl fun F => ?_
  rw [rg_of]
  refine G tt_ok pk102 ?_
  refine ke rfl rfl (hth) ?_
  cases hr : rightV X.fs.length k with
  | false =>
    refine G tt_ok pk102 ?_
    exact CW.ret (fin_ret rfl (A := rgA r X) pk_ ⟨_, _, X, rfl, rfl, ok⟩)
  | true =>
    obtain ⟨u, hx, hlt, hk⟩ := rightsN (ss := X.ws) (n := X.fs.length) (by rw [ok.ws, ok.fs]) hr
    have hw0 : 0 < X.ws.length := by omega
    have hu := ok.wo u (List.mem_of_getElem? hx)
    have hul := okW_len hu
    have hl64 := ok.l64
    refine G tt_ok pk102 ?_
    refine ke rfl rfl (hmsg) ?_
    cases h : rmsgV X.bs.length id with
    | false =>
      refine G tt_ok pk102 ?_
      exact CW.ret (fin_ret rfl (A := rgA r X) pk_ ⟨_, _, X, rfl, rfl, ok⟩)
    | true =>
      obtain ⟨j, hj, e1, e2⟩ := rmsg_at (by rw [ok.bs]; omega) h
      rw [ok.bs] at hj
      have hop : Ent [pkA wlA X.ws] [rowA u.q u.l.length (u.l.flatMap i1C), pkA wlA (X.ws.eraseIdx k.toNat)] := pk_open hx
      have hh := has18 β (c := u.c) (slr_row (q := u.q) (n := u.l.length) (sz := 1) (cs := u.l.flatMap i1C) (by rw [flatE_len (sz := 1) (fun _ => rfl)])) rfl (by omega) (j : Int)
      have htk := rtake173 β (q := u.q) (c := u.c) (l := u.l) (by omega) (j : Int)
      refine G tt_ok pk102 ?_
      refine ir_ tt_ok rfl rfl (k.toNat) (hk) rfl ?_ (hlt := hlt)
      refine G tt_ok pk102 ?_
      refine lr_ tt_ok rfl rfl (rd_wl hx) ?_ (hn := hw0)
      refine G tt_ok pk102 ?_
      rw [e2]
      refine SQ.ent _ (Rm.to (A := pkA wlA X.ws) (by repeat (first | exact Rm.h | apply Rm.t)) hop) ?_
      refine ke rfl rfl (hh) ?_
      refine G tt_ok pk102 ?_
      refine ir_ tt_ok rfl rfl (k.toNat) (hk) rfl ?_ (hlt := hlt)
      refine G tt_ok pk102 ?_
      refine lr_ tt_ok rfl rfl (rd_wl hx) ?_ (hn := hw0)
      refine G tt_ok pk102 ?_
      rw [e2]
      (refine ka rfl rfl (htk) ?_; rintro _ _ ⟨q1, c1, rfl, rfl⟩; refine ⟨(by repeat (first | exact trivial | refine ⟨trivial, ?_⟩ | refine ⟨rr_ (rd_wl hx), ?_⟩ | refine ⟨wk (by repeat (first | exact .h | exact .q | apply At.t)) (by rfl), ?_⟩)), ?_⟩)
      refine G tt_ok pk102 ?_
      refine ir_ tt_ok rfl rfl (k.toNat) (hk) rfl ?_ (hlt := hlt)
      refine G tt_ok pk102 ?_
      refine sr_ tt_ok rfl rfl (wr_wl hx ⟨q1, c1, takeL u.l j⟩) ?_ (hn := hw0)
      refine G tt_ok pk102 ?_
      have hok1 : okW l (takeL u.l j) := takeL_ok hu j
      have hx1 : (X.ws.set k.toNat ⟨q1, c1, takeL u.l j⟩)[k.toNat]? = some ⟨q1, c1, takeL u.l j⟩ := List.getElem?_set_self hlt
      cases w with
      | false =>
        refine G tt_ok pk102 ?_
        have hcl : Ent [rowA q1 (takeL u.l j).length ((takeL u.l j).flatMap i1C), pkA wlA (X.ws.eraseIdx k.toNat)] [pkA wlA (X.ws.set k.toNat ⟨q1, c1, takeL u.l j⟩)] := pk_close (f := wlA) ⟨q1, c1, takeL u.l j⟩ hlt
        refine CW.ret (fin_ret rfl (A := rgA r { X with ws := X.ws.set k.toNat ⟨q1, c1, takeL u.l j⟩ }) ?_ ⟨_, _, { X with ws := X.ws.set k.toNat ⟨q1, c1, takeL u.l j⟩ }, rfl, rfl, ok.setW k.toNat hok1⟩)
        unfold rgA
        simp only [List.length_set]
        refine Ent.trans (M := [rowA q1 (takeL u.l j).length ((takeL u.l j).flatMap i1C), pkA wlA (X.ws.eraseIdx k.toNat)] ++ ([pt r (rgC X.rd X.qf X.fs.length X.kf X.qb X.bs.length X.kb X.qw X.ws.length X.kw X.qo X.os.length X.ko X.qp X.ps.length X.kp X.qe X.es.length X.ke), rowA X.qf X.fs.length (X.fs.flatMap rfC), rowA X.qb X.bs.length (X.bs.flatMap byC), rowA X.qw X.ws.length ((X.ws.set k.toNat ⟨q1, c1, takeL u.l j⟩).flatMap wlC), rowA X.qo X.os.length (X.os.flatMap boC), rowA X.qp X.ps.length (X.ps.flatMap wC), rowA X.qe X.es.length (X.es.flatMap wC)] ++ rD X.rd X.R X.E)) pk_ ((Ent.append hcl (Ent.refl _)).trans ?_)
        exact pk_
      | true =>
        have hpt := rput174 β (q := q1) (c := c1) (l := takeL u.l j) (by have := okW_len hok1; omega) (j : Int)
        have hok2 : okW l (putL (takeL u.l j) j) := putL_ok hok1 (by omega) (by omega)
        generalize putL (takeL u.l (j : Int)) (j : Int) = pl at hpt hok2
        refine G tt_ok pk102 ?_
        refine ir_ tt_ok rfl rfl (k.toNat) (hk) rfl ?_ (hlt := hlt)
        refine G tt_ok pk102 ?_
        refine lr_ tt_ok rfl rfl (rd_wl hx1) ?_ (hn := hw0)
        refine G tt_ok pk102 ?_
        rw [e2]
        (refine ka rfl rfl (hpt) ?_; rintro _ _ ⟨q2, c2, rfl, rfl⟩; refine ⟨(by repeat (first | exact trivial | refine ⟨trivial, ?_⟩ | refine ⟨rr_ (rd_wl hx1), ?_⟩ | refine ⟨wk (by repeat (first | exact .h | exact .q | apply At.t)) (by rfl), ?_⟩)), ?_⟩)
        refine G tt_ok pk102 ?_
        refine ir_ tt_ok rfl rfl (k.toNat) (hk) rfl ?_ (hlt := hlt)
        refine G tt_ok pk102 ?_
        refine sr_ tt_ok rfl rfl (wr_wl hx1 ⟨q2, c2, pl⟩) ?_ (hn := hw0)
        refine G tt_ok pk102 ?_
        rw [List.set_set]
        have hcl : Ent [rowA q2 pl.length (pl.flatMap i1C), pkA wlA (X.ws.eraseIdx k.toNat)] [pkA wlA (X.ws.set k.toNat ⟨q2, c2, pl⟩)] := pk_close (f := wlA) ⟨q2, c2, pl⟩ hlt
        refine CW.ret (fin_ret rfl (A := rgA r { X with ws := X.ws.set k.toNat ⟨q2, c2, pl⟩ }) ?_ ⟨_, _, { X with ws := X.ws.set k.toNat ⟨q2, c2, pl⟩ }, rfl, rfl, ok.setW k.toNat hok2⟩)
        unfold rgA
        simp only [List.length_set]
        refine Ent.trans (M := [rowA q2 pl.length (pl.flatMap i1C), pkA wlA (X.ws.eraseIdx k.toNat)] ++ ([pt r (rgC X.rd X.qf X.fs.length X.kf X.qb X.bs.length X.kb X.qw X.ws.length X.kw X.qo X.os.length X.ko X.qp X.ps.length X.kp X.qe X.es.length X.ke), rowA X.qf X.fs.length (X.fs.flatMap rfC), rowA X.qb X.bs.length (X.bs.flatMap byC), rowA X.qw X.ws.length ((X.ws.set k.toNat ⟨q2, c2, pl⟩).flatMap wlC), rowA X.qo X.os.length (X.os.flatMap boC), rowA X.qp X.ps.length (X.ps.flatMap wC), rowA X.qe X.es.length (X.es.flatMap wC)] ++ rD X.rd X.R X.E)) pk_ ((Ent.append hcl (Ent.refl _)).trans ?_)
        exact pk_
@[reducible] def pk88 : List (Nat × Plan) := []
def idL (l : List Int) : List Int := l.map fun x => 8192 + x
set_option maxHeartbeats 8000000 in
theorem rwaiting88 (β : Base) (r : Nat) {n l : Nat} {X : RG} (ok : OkR n l X) (k : Int) : Tri Tryz.prog β 88 [.pointer (some ⟨r, 0, none⟩), .int .i64 k] (rgA r X) (fun v L => ∃ (ids : List Int) (q : Option Addr) (c : Nat), v = .slice q ids.length c ∧ L = rowA q ids.length (ids.flatMap i1C) :: rgA r X ∧ ids.length ≤ 64 ∧ (∀ x ∈ ids, ∃ j : Nat, j < l ∧ x = ((8192 + j : Nat) : Int)) ∧ ((∀ w ∈ X.ws, w.l = []) → ids = [])) := by
  have hth := rthere156 β r X.rd X.qf X.qb X.qw X.qo X.qp X.qe X.fs.length X.kf X.bs.length X.kb X.ws.length X.kw X.os.length X.ko X.ps.length X.kp X.es.length X.ke k
  refine Tri.intro tt_ok Tryz.func88 rfl rfl Tryz.ntmps88 rfl fun F => ?_
  rw [rg_of]
  refine G tt_ok pk88 ?_
  refine ke rfl rfl (hth) ?_
  cases hr : rightV X.fs.length k with
  | false =>
    refine G tt_ok pk88 ?_
    refine CW.ret (fin_ret rfl (A := rowA none 0 [] :: rgA r X) ?_ ⟨[], none, 0, rfl, rfl, by simp, by simp, fun _ => rfl⟩)
    exact row_nil.trans (Ent.cons _ pk_)
  | true =>
    obtain ⟨u, hx, hlt, hk⟩ := rightsN (ss := X.ws) (n := X.fs.length) (by rw [ok.ws, ok.fs]) hr
    have hw0 : 0 < X.ws.length := by omega
    have hu := ok.wo u (List.mem_of_getElem? hx)
    have hul := okW_len hu
    have hl64 := ok.l64
    have hop : Ent [pkA wlA X.ws] [rowA u.q u.l.length (u.l.flatMap i1C), pkA wlA (X.ws.eraseIdx k.toNat)] := pk_open hx
    have hsh : Ent [rowA u.q u.l.length (u.l.flatMap i1C), pkA wlA (X.ws.eraseIdx k.toNat)] [pkA wlA X.ws] := pk_shut (f := wlA) hx
    refine G tt_ok pk88 ?_
    refine CW.ent (Rm.to (A := pkA wlA X.ws) (by repeat (first | exact Rm.h | apply Rm.t)) hop) ?_
    refine CW.loop (α := Nat × Option Addr × Nat) (fun x => x.1 ≤ u.l.length) (fun x => [(6, .int .i64 x.1), (5, .slice x.2.1 x.1 x.2.2), (0, .pointer (some ⟨r, 0, none⟩)), (1, .int .i64 k)])
      (fun x => [own 3 1 (.slice x.2.1 x.1 x.2.2) x.1 ((idL (u.l.take x.1)).flatMap i1C), rowA u.q u.l.length (u.l.flatMap i1C), pkA wlA (X.ws.eraseIdx k.toNat), pt r (rgC X.rd X.qf X.fs.length X.kf X.qb X.bs.length X.kb X.qw X.ws.length X.kw X.qo X.os.length X.ko X.qp X.ps.length X.kp X.qe X.es.length X.ke), rowA X.qf X.fs.length (X.fs.flatMap rfC), rowA X.qb X.bs.length (X.bs.flatMap byC), rowA X.qw X.ws.length (X.ws.flatMap wlC), rowA X.qo X.os.length (X.os.flatMap boC), rowA X.qp X.ps.length (X.ps.flatMap wC), rowA X.qe X.es.length (X.es.flatMap wC)] ++ rD X.rd X.R X.E) (fun x => u.l.length - x.1) (0, none, 0) (by simp) ?_ ?_ ?_
    · exact ⟨rfl, rfl, rfl, rfl, trivial⟩
    · exact (own_nil 3 1).trans pk_
    · rintro ⟨i, q1, c1⟩ hi
      simp only at hi ⊢
      refine G tt_ok pk88 ?_
      refine ir_ tt_ok rfl rfl (k.toNat) (hk) rfl ?_ (hlt := hlt)
      refine G tt_ok pk88 ?_
      refine lr_ tt_ok rfl rfl (rd_wl hx) ?_ (hn := hw0)
      refine G tt_ok pk88 ?_
      by_cases hil : i < u.l.length
      · rw [decide_eq_true (show (i : Int) < (u.l.length : Int) by omega)]
        obtain ⟨x, hxl⟩ : ∃ x, u.l[i]? = some x := ⟨_, List.getElem?_eq_getElem hil⟩
        have hxr := hu.2 x (List.mem_of_getElem? hxl)
        have hwr : IntKind.i64.wrap ((i : Int) + 1) = ((i + 1 : Nat) : Int) := by rw [wrap_id (by omega) (by omega)]; simp
        have hid : idL (u.l.take (i + 1)) = idL (u.l.take i) ++ [8192 + x] := by unfold idL; rw [List.take_add_one, hxl, List.map_append]; rfl
        refine G tt_ok pk88 ?_
        refine ir_ tt_ok rfl rfl (k.toNat) (hk) rfl ?_ (hlt := hlt)
        refine G tt_ok pk88 ?_
        refine lr_ tt_ok rfl rfl (rd_wl hx) ?_ (hn := hw0)
        refine G tt_ok pk88 ?_
        refine ir_ tt_ok rfl rfl (i) (rfl) rfl ?_ (hlt := hil)
        refine G tt_ok pk88 ?_
        refine lr_ tt_ok rfl rfl (rd_i1r hxl) ?_
        refine G tt_ok pk88 ?_
        rw [show IntKind.i64.wrap (8192 + x) = 8192 + x from wrap_id (by omega) (by omega)]
        (refine SQ.built tt_ok rfl rfl (fun _ => w_ ?_))
        refine G tt_ok pk88 ?_
        (refine SQ.appA tt_ok rfl rfl (by repeat (first | exact Rm.h | apply Rm.t)) (by repeat (first | exact .h | exact .q | apply At.t)) (i1C (8192 + x)) rfl rfl rfl (scal_eq rfl) (by omega) (by show (i + 1) * 8 ≤ _; omega) (fun q2 c2 => w_ ?_))
        refine G tt_ok pk88 ?_
        refine ⟨(i + 1, q2, c2), by simp; omega, by simp; omega, ⟨by rw [← hwr]; rfl, rfl, rfl, rfl, trivial⟩, ?_⟩
        simp only
        rw [hid, flat_snoc]
        exact pk_
      · rw [decide_eq_false (show ¬ (i : Int) < (u.l.length : Int) by omega)]
        refine G tt_ok pk88 ?_
        refine CW.exit ?_
        refine G tt_ok pk88 ?_
        obtain rfl : i = u.l.length := by omega
        rw [List.take_length]
        have hln : (idL u.l).length = u.l.length := by unfold idL; rw [List.length_map]
        refine CW.ret (fin_ret rfl (A := rowA q1 (idL u.l).length ((idL u.l).flatMap i1C) :: rgA r X) ?_ ⟨idL u.l, q1, c1, by rw [hln]; rfl, rfl, by omega, ?_, ?_⟩)
        · rw [hln]
          refine Ent.trans (M := [own 3 1 (.slice q1 u.l.length c1) u.l.length ((idL u.l).flatMap i1C)] ++ ([rowA u.q u.l.length (u.l.flatMap i1C), pkA wlA (X.ws.eraseIdx k.toNat)] ++ ([pt r (rgC X.rd X.qf X.fs.length X.kf X.qb X.bs.length X.kb X.qw X.ws.length X.kw X.qo X.os.length X.ko X.qp X.ps.length X.kp X.qe X.es.length X.ke), rowA X.qf X.fs.length (X.fs.flatMap rfC), rowA X.qb X.bs.length (X.bs.flatMap byC), rowA X.qw X.ws.length (X.ws.flatMap wlC), rowA X.qo X.os.length (X.os.flatMap boC), rowA X.qp X.ps.length (X.ps.flatMap wC), rowA X.qe X.es.length (X.es.flatMap wC)] ++ rD X.rd X.R X.E))) pk_ ((Ent.append own_row (Ent.append hsh (Ent.refl _))).trans ?_)
          exact Ent.cons _ pk_
        · intro x hx2
          obtain ⟨y, hy, rfl⟩ := List.mem_map.1 hx2
          have := hu.2 y hy
          exact ⟨y.toNat, by omega, by omega⟩
        · intro h
          unfold idL
          rw [h u (List.mem_of_getElem? hx)]; rfl
@[reducible] def pk91 : List (Nat × Plan) := []
theorem rd_bo {os : List Bool} {k : Nat} {b : Bool} (h : os[k]? = some b) (Y : List Value) : rdv ti4 (os.flatMap boC ++ Y) (0 + k * 1) = some (.bool b) :=
  rd_partR (enc := boC) (sz := 1) (fun _ => rfl) h 0 (i := ti4) rfl (by decide) (by omega) (by decide) Y
set_option maxHeartbeats 16000000 in
theorem rcands91 (β : Base) (r : Nat) {n l : Nat} {X : RG} (ok : OkR n l X) (k : Int) : Tri Tryz.prog β 91 [.pointer (some ⟨r, 0, none⟩), .int .i64 k] (rgA r X) (fun v L => ∃ (cs : List Cd) (q : Option Addr) (c : Nat), v = .slice q cs.length c ∧ L = rowA q cs.length (cs.flatMap encC) :: rgA r X ∧ cs.length ≤ 1000 ∧ (X.E.readyV k = [] ∧ (∀ w ∈ X.ws, w.l = []) → cs = [])) := by
  have hth := rthere156 β r X.rd X.qf X.qb X.qw X.qo X.qp X.qe X.fs.length X.kf X.bs.length X.kb X.ws.length X.kw X.os.length X.ko X.ps.length X.kp X.es.length X.ke k
  have hrdy := refReady43 β X.rd X.R X.E ok.ok k
  have hrl := ready_len ok.ok k
  have hget := fun id => refGet44 β X.rd X.R X.E ok.ok k id
  have hwait := rwaiting88 β r ok k
  refine Tri.intro tt_ok Tryz.func91 rfl rfl Tryz.ntmps91 rfl fun F => ?_
  rw [rg_of] at hwait ⊢
  (refine G tt_ok pk91 ?_; repeat (refine G1 tt_ok pk91 ?_; intro _))
  refine ke rfl rfl (hth) ?_
  cases hr : rightV X.fs.length k with
  | false =>
    (refine G tt_ok pk91 ?_; repeat (refine G1 tt_ok pk91 ?_; intro _))
    refine CW.ret (fin_ret rfl (A := rowA none 0 [] :: rgA r X) ?_ ⟨[], none, 0, rfl, rfl, by simp, fun _ => rfl⟩)
    exact row_nil.trans (Ent.cons _ pk_)
  | true =>
    obtain ⟨on, hon, honl, hk⟩ := rightsN (ss := X.os) (n := X.fs.length) (by rw [ok.os, ok.fs]) hr
    obtain ⟨x, hxx, hxl, _⟩ := rightsN (ss := X.E.xs) (n := X.fs.length) (by rw [ok.xs, ok.fs]) hr
    have hl64 := ok.l64
    (refine G tt_ok pk91 ?_; repeat (refine G1 tt_ok pk91 ?_; intro _))
    (refine ka rfl rfl (hrdy) ?_; rintro _ _ ⟨rq, rc, rfl, rfl⟩; refine w_ ?_)
    (refine G tt_ok pk91 ?_; repeat (refine G1 tt_ok pk91 ?_; intro _))
    generalize hRD : X.E.readyV k = rd at hrl
    refine CW.loop (α := List Cd × Option Addr × Nat) (fun y => y.1.length ≤ rd.length) (fun y => [(24, .int .i64 y.1.length), (23, .int .i64 rd.length), (22, .slice rq rd.length rc), (5, .slice y.2.1 y.1.length y.2.2), (0, .pointer (some ⟨r, 0, none⟩)), (1, .int .i64 k)])
      (fun y => [own 34 4 (.slice y.2.1 y.1.length y.2.2) y.1.length (y.1.flatMap encC), rowA rq rd.length ((rd.map (·.1)).flatMap i1C)] ++ rgA r X) (fun y => rd.length - y.1.length) ([], none, 0) (by simp) ⟨rfl, rfl, rfl, rfl, rfl, rfl, trivial⟩ ?_ ?_
    · exact (own_nil 34 4).trans pk_
    rintro ⟨cs, q1, c1⟩ hcl
    simp only at hcl ⊢
    rw [rg_of]
    (refine G tt_ok pk91 ?_; repeat (refine G1 tt_ok pk91 ?_; intro _))
    by_cases hlt : cs.length < rd.length
    · rw [decide_eq_true (show (cs.length : Int) < (rd.length : Int) by omega)]
      obtain ⟨p, hp⟩ : ∃ p, (rd.map (·.1))[cs.length]? = some p := ⟨_, List.getElem?_eq_getElem (by rw [List.length_map]; exact hlt)⟩
      have hwr : IntKind.i64.wrap ((cs.length : Int) + 1) = ((cs.length + 1 : Nat) : Int) := by rw [wrap_id (by omega) (by omega)]; simp
      have hg := hget p
      generalize X.E.getV k p = gv at hg
      obtain ⟨⟨⟨g1, g2, g3, g4⟩, g5, g6, g7⟩, g8⟩ := gv
      (refine G tt_ok pk91 ?_; repeat (refine G1 tt_ok pk91 ?_; intro _))
      refine ir_ tt_ok rfl rfl (cs.length) (rfl) rfl ?_ (hlt := hlt)
      (refine G tt_ok pk91 ?_; repeat (refine G1 tt_ok pk91 ?_; intro _))
      refine lr_ tt_ok rfl rfl (rd_i1r hp) ?_
      (refine G tt_ok pk91 ?_; repeat (refine G1 tt_ok pk91 ?_; intro _))
      refine ke rfl rfl (hg) ?_
      (refine G tt_ok pk91 ?_; repeat (refine G1 tt_ok pk91 ?_; intro _))
      (refine SQ.built tt_ok rfl rfl (fun _ => w_ ?_))
      (refine G tt_ok pk91 ?_; repeat (refine G1 tt_ok pk91 ?_; intro _))
      (refine SQ.appA tt_ok rfl rfl (by repeat (first | exact Rm.h | apply Rm.t)) (by repeat (first | exact .h | exact .q | apply At.t)) (encC (p, g7, g6, true)) rfl rfl rfl (scal_eq rfl) (by omega) (by show (cs.length + 1) * 32 ≤ _; omega) (fun q2 c2 => w_ ?_))
      (refine G tt_ok pk91 ?_; repeat (refine G1 tt_ok pk91 ?_; intro _))
      refine ⟨(cs ++ [(p, g7, g6, true)], q2, c2), by simp; omega, by simp; omega, ⟨by rw [show (cs ++ [(p, g7, g6, true)]).length = cs.length + 1 by simp, ← hwr]; rfl, rfl, rfl, by simp only; rw [List.length_append]; rfl, rfl, rfl, trivial⟩, ?_⟩
      simp only
      rw [List.length_append, show [(p, g7, g6, true)].length = 1 from rfl, flat_snoc]
      exact pk_
    · rw [decide_eq_false (show ¬ (cs.length : Int) < (rd.length : Int) by omega)]
      (refine G tt_ok pk91 ?_; repeat (refine G1 tt_ok pk91 ?_; intro _))
      refine CW.exit ?_
      (refine G tt_ok pk91 ?_; repeat (refine G1 tt_ok pk91 ?_; intro _))
      (refine ka rfl rfl (hwait) ?_; rintro _ _ ⟨ids, wq, wc, rfl, rfl, hil, hids, hz⟩; refine w_ ?_)
      (refine G tt_ok pk91 ?_; repeat (refine G1 tt_ok pk91 ?_; intro _))
      have hfin : rd = [] ∧ (∀ w ∈ X.ws, w.l = []) → cs = [] ∧ ids = [] := fun h => ⟨by
        have h1 := h.1
        subst h1
        exact List.eq_nil_of_length_eq_zero (by simpa using hcl), hz h.2⟩
      have hcl2 : cs.length ≤ 400 := by omega
      refine CW.loop (α := Nat × List Cd × Option Addr × Nat) (fun y => y.1 ≤ ids.length ∧ y.2.1.length ≤ 400 + y.1 ∧ (rd = [] ∧ (∀ w ∈ X.ws, w.l = []) → y.2.1 = [])) (fun y => [(52, .int .i64 y.1), (51, .int .i64 ids.length), (50, .slice wq ids.length wc), (5, .slice y.2.2.1 y.2.1.length y.2.2.2), (0, .pointer (some ⟨r, 0, none⟩)), (1, .int .i64 k)])
        (fun y => [own 34 4 (.slice y.2.2.1 y.2.1.length y.2.2.2) y.2.1.length (y.2.1.flatMap encC), rowA wq ids.length (ids.flatMap i1C)] ++ rgA r X) (fun y => ids.length - y.1) (0, cs, q1, c1) ⟨by simp, by simp only; omega, fun h => (hfin h).1⟩ ⟨rfl, rfl, rfl, rfl, rfl, rfl, trivial⟩ pk_ ?_
      rintro ⟨i, ds, q2, c2⟩ ⟨hi, hdl, hdz⟩
      simp only at hi hdl hdz ⊢
      rw [rg_of]
      (refine G tt_ok pk91 ?_; repeat (refine G1 tt_ok pk91 ?_; intro _))
      by_cases hlt2 : i < ids.length
      · rw [decide_eq_true (show (i : Int) < (ids.length : Int) by omega)]
        obtain ⟨id, hid⟩ : ∃ id, ids[i]? = some id := ⟨_, List.getElem?_eq_getElem hlt2⟩
        obtain ⟨j, hj, hje⟩ := hids id (List.mem_of_getElem? hid)
        obtain ⟨b, hb⟩ : ∃ b, X.bs[j]? = some b := ⟨_, List.getElem?_eq_getElem (by rw [ok.bs]; exact hj)⟩
        have hjl : j < X.bs.length := by rw [ok.bs]; exact hj
        have hb8 := ok.by_ b (List.mem_of_getElem? hb)
        have hwr : IntKind.i64.wrap ((i : Int) + 1) = ((i + 1 : Nat) : Int) := by rw [wrap_id (by omega) (by omega)]; simp
        have hnz : ¬ (rd = [] ∧ ∀ w ∈ X.ws, w.l = []) := fun h => by
          have := (hfin h).2
          rw [this] at hlt2; simp at hlt2
        (refine G tt_ok pk91 ?_; repeat (refine G1 tt_ok pk91 ?_; intro _))
        refine ir_ tt_ok rfl rfl (i) (rfl) rfl ?_ (hlt := hlt2)
        (refine G tt_ok pk91 ?_; repeat (refine G1 tt_ok pk91 ?_; intro _))
        refine lr_ tt_ok rfl rfl (rd_i1r hid) ?_
        (refine G tt_ok pk91 ?_; repeat (refine G1 tt_ok pk91 ?_; intro _))
        rw [show IntKind.i64.wrap (id - 8192) = (j : Int) by rw [wrap_id (by omega) (by omega)]; omega]
        refine ir_ tt_ok rfl rfl (j) (rfl) rfl ?_ (hlt := hjl)
        (refine G tt_ok pk91 ?_; repeat (refine G1 tt_ok pk91 ?_; intro _))
        refine lr_ tt_ok rfl rfl (by_rdX hb) ?_
        (refine G tt_ok pk91 ?_; repeat (refine G1 tt_ok pk91 ?_; intro _))
        refine ir_ tt_ok rfl rfl (k.toNat) (hk) rfl ?_ (hlt := honl)
        (refine G tt_ok pk91 ?_; repeat (refine G1 tt_ok pk91 ?_; intro _))
        refine lr_ tt_ok rfl rfl (rd_bo hon) ?_
        (refine G tt_ok pk91 ?_; repeat (refine G1 tt_ok pk91 ?_; intro _))
        cases hon2 : on with
        | false =>
          (refine G tt_ok pk91 ?_; repeat (refine G1 tt_ok pk91 ?_; intro _))
          exact ⟨(i + 1, ds, q2, c2), ⟨by simp only; omega, by simp only; omega, hdz⟩, by simp only; omega, ⟨by rw [← hwr]; rfl, rfl, rfl, rfl, rfl, rfl, trivial⟩, pk_⟩
        | true =>
          (refine G tt_ok pk91 ?_; repeat (refine G1 tt_ok pk91 ?_; intro _))
          refine SQ.idx tt_ok rfl rfl 1 rfl (by decide) (o' := 1) rfl ?_
          (refine G tt_ok pk91 ?_; repeat (refine G1 tt_ok pk91 ?_; intro _))
          cases ho1 : X.E.o1 with
          | false =>
            (refine G tt_ok pk91 ?_; repeat (refine G1 tt_ok pk91 ?_; intro _))
            exact ⟨(i + 1, ds, q2, c2), ⟨by simp only; omega, by simp only; omega, hdz⟩, by simp only; omega, ⟨by rw [← hwr]; rfl, rfl, rfl, rfl, rfl, rfl, trivial⟩, pk_⟩
          | true =>
            (refine G tt_ok pk91 ?_; repeat (refine G1 tt_ok pk91 ?_; intro _))
            refine ir_ tt_ok rfl rfl (k.toNat) (hk) rfl ?_ (hlt := hxl)
            (refine G tt_ok pk91 ?_; repeat (refine G1 tt_ok pk91 ?_; intro _))
            refine lr_ tt_ok rfl rfl (rd_slp hxx) ?_
            (refine G tt_ok pk91 ?_; repeat (refine G1 tt_ok pk91 ?_; intro _))
            cases hsl : x.sl with
            | true =>
              (refine G tt_ok pk91 ?_; repeat (refine G1 tt_ok pk91 ?_; intro _))
              exact ⟨(i + 1, ds, q2, c2), ⟨by simp only; omega, by simp only; omega, hdz⟩, by simp only; omega, ⟨by rw [← hwr]; rfl, rfl, rfl, rfl, rfl, rfl, trivial⟩, pk_⟩
            | false =>
              (refine G tt_ok pk91 ?_; repeat (refine G1 tt_ok pk91 ?_; intro _))
              generalize hq : ((IntKind.i64.wrap (b : Int)).tmod 2 == 1) = qb
              cases qb with
              | false =>
                (refine G tt_ok pk91 ?_; repeat (refine G1 tt_ok pk91 ?_; intro _))
                exact ⟨(i + 1, ds, q2, c2), ⟨by simp only; omega, by simp only; omega, hdz⟩, by simp only; omega, ⟨by rw [← hwr]; rfl, rfl, rfl, rfl, rfl, rfl, trivial⟩, pk_⟩
              | true =>
                (refine G tt_ok pk91 ?_; repeat (refine G1 tt_ok pk91 ?_; intro _))
                (refine ka rfl rfl (rreal157 β _) ?_; rintro _ _ ⟨rn, rfl, rfl, _⟩; refine w_ ?_)
                (refine G tt_ok pk91 ?_; repeat (refine G1 tt_ok pk91 ?_; intro _))
                (refine SQ.built tt_ok rfl rfl (fun _ => w_ ?_))
                (refine G tt_ok pk91 ?_; repeat (refine G1 tt_ok pk91 ?_; intro _))
                (refine SQ.appA tt_ok rfl rfl (by repeat (first | exact Rm.h | apply Rm.t)) (by repeat (first | exact .h | exact .q | apply At.t)) (encC (id, rn, 1, true)) rfl rfl rfl (scal_eq rfl) (by omega) (by show (ds.length + 1) * 32 ≤ _; omega) (fun q3 c3 => w_ ?_))
                (refine G tt_ok pk91 ?_; repeat (refine G1 tt_ok pk91 ?_; intro _))
                refine ⟨(i + 1, ds ++ [(id, rn, 1, true)], q3, c3), ⟨by simp only; omega, by simp; omega, fun h => absurd h hnz⟩, by simp only; omega, ⟨by rw [← hwr]; rfl, rfl, rfl, by simp only; rw [List.length_append]; rfl, rfl, rfl, trivial⟩, ?_⟩
                simp only
                rw [List.length_append, show [(id, rn, (1 : Int), true)].length = 1 from rfl, flat_snoc]
                exact pk_
      · rw [decide_eq_false (show ¬ (i : Int) < (ids.length : Int) by omega)]
        (refine G tt_ok pk91 ?_; repeat (refine G1 tt_ok pk91 ?_; intro _))
        refine CW.exit ?_
        (refine G tt_ok pk91 ?_; repeat (refine G1 tt_ok pk91 ?_; intro _))
        refine CW.ret (fin_ret rfl (A := rowA q2 ds.length (ds.flatMap encC) :: rgA r X) ?_ ⟨ds, q2, c2, rfl, rfl, by omega, hdz⟩)
        refine Ent.trans (M := [own 34 4 (.slice q2 ds.length c2) ds.length (ds.flatMap encC)] ++ rgA r X) (by rw [rg_of]; exact pk_) (Ent.append own_row (Ent.refl _))
@[reducible] def pk92 : List (Nat × Plan) := [(8, [(0, 0, []), (1, 0, []), (2, 0, []), (3, 0, []), (4, 0, []), (5, 0, []), (6, 0, []), (7, 0, []), (8, 0, []), (9, 0, []), (10, 0, []), (11, 0, []), (12, 0, []), (13, 0, []), (14, 0, []), (15, 0, []), (16, 0, []), (17, 0, []), (18, 0, []), (19, 0, []), (20, 1, [4, 9, 14, 19])])]
theorem rd_c1 {l : List Cd} {k : Nat} {x : Cd} (h : l[k]? = some x) (X : List Value) : rdv ti3 (l.flatMap encC ++ X) (bif Nat.beq (0 + k * 4) 0 then 1 else 0 + k * 4 + 1) = some (.int .i64 x.2.1) :=
  rd_partR (enc := encC) (sz := 4) (fun _ => rfl) h 1 (i := ti3) rfl (by decide) (by rw [off_add]; omega) (by decide) X
theorem rd_c0 {l : List Cd} {k : Nat} {x : Cd} (h : l[k]? = some x) (X : List Value) : rdv ti3 (l.flatMap encC ++ X) (0 + k * 4) = some (.int .i64 x.1) :=
  rd_partR (enc := encC) (sz := 4) (fun _ => rfl) h 0 (i := ti3) rfl (by decide) (by omega) (by decide) X
set_option maxHeartbeats 16000000 in
theorem rorder92 (β : Base) (r : Nat) {n l : Nat} {X : RG} (ok : OkR n l X) (k : Int) : Tri Tryz.prog β 92 [.pointer (some ⟨r, 0, none⟩), .int .i64 k] (rgA r X) (fun v L => ∃ (cs : List Cd) (q : Option Addr) (c : Nat), v = .slice q cs.length c ∧ L = rowA q cs.length (cs.flatMap encC) :: rgA r X ∧ cs.length ≤ 1000 ∧ (X.E.readyV k = [] ∧ (∀ w ∈ X.ws, w.l = []) → cs = [])) := by
  have hcands := rcands91 β r ok k
  generalize rgA r X = RA at hcands ⊢
  refine Tri.intro tt_ok Tryz.func92 rfl rfl Tryz.ntmps92 rfl fun F => ?_
  refine G tt_ok pk92 ?_
  refine SQ.ent (RA ++ []) (by rw [List.append_nil]; exact Ent.refl _) ?_
  refine SQ.call rfl rfl hcands _ (sel_front RA) ?_
  rintro _ _ ⟨left0, q0, c0, rfl, rfl, hl0, hz⟩
  refine w_ ?_
  refine G tt_ok pk92 ?_
  refine CW.ent (L' := [rowA q0 left0.length (left0.flatMap encC), own 34 4 (.slice none 0 0) 0 []] ++ RA) ?_ ?_
  · refine Ent.trans (own_nil 34 4) ?_
    rw [List.append_nil]
    exact Ent.append (L := [_, _]) (L' := [_, _]) (Ent.perm (List.Perm.swap _ _ _)) (Ent.refl RA)
  refine CW.loop (α := (List Cd × Option Addr × Nat) × (List Cd × Option Addr × Nat)) (fun y => y.1.1.length + y.2.1.length ≤ 1000 ∧ (X.E.readyV k = [] ∧ (∀ w ∈ X.ws, w.l = []) → y.1.1 = [] ∧ y.2.1 = [])) (fun y => [(6, .slice y.2.2.1 y.2.1.length y.2.2.2), (5, .slice y.1.2.1 y.1.1.length y.1.2.2)])
    (fun y => [rowA y.1.2.1 y.1.1.length (y.1.1.flatMap encC), own 34 4 (.slice y.2.2.1 y.2.1.length y.2.2.2) y.2.1.length (y.2.1.flatMap encC)] ++ RA) (fun y => y.1.1.length) ((left0, q0, c0), ([], none, 0)) ⟨by simp only [List.length_nil]; omega, fun h => ⟨hz h, rfl⟩⟩ ⟨rfl, rfl, trivial⟩ (Ent.refl _) ?_
  rintro ⟨⟨left, ql, cl⟩, ⟨out, qo, co⟩⟩ ⟨hlen, hzz⟩
  simp only at hlen hzz ⊢
  refine G tt_ok pk92 ?_
  by_cases h0 : left.length = 0
  · rw [decide_eq_false (show ¬ ((left.length : Nat) : Int) > 0 by omega)]
    refine G tt_ok pk92 ?_
    refine CW.exit ?_
    refine G tt_ok pk92 ?_
    refine CW.ret (fin_ret rfl (A := rowA qo out.length (out.flatMap encC) :: RA) ?_ ⟨out, qo, co, rfl, rfl, by omega, fun h => (hzz h).2⟩)
    exact Ent.append (L := [_, _]) (L' := [rowA qo out.length (out.flatMap encC)]) ((Ent.sel (is := [1]) rfl).trans own_row) (Ent.refl RA)
  · rw [decide_eq_true (show ((left.length : Nat) : Int) > 0 by omega)]
    have hn0 : 0 < left.length := by omega
    have hnz : ¬ (X.E.readyV k = [] ∧ ∀ w ∈ X.ws, w.l = []) := fun h => h0 (by rw [(hzz h).1]; rfl)
    refine G tt_ok pk92 ?_
    refine CW.loop (α := Nat × Nat) (fun x => 1 ≤ x.1 ∧ x.1 ≤ left.length ∧ x.2 < left.length) (fun x => [(8, .int .i64 x.1), (7, .int .i64 x.2), (6, .slice qo out.length co), (5, .slice ql left.length cl)])
      (fun x => [rowA ql left.length (left.flatMap encC), own 34 4 (.slice qo out.length co) out.length (out.flatMap encC)] ++ RA) (fun x => left.length - x.1) (1, 0) ⟨by decide, by simp only; omega, by simp only; omega⟩ ⟨rfl, rfl, rfl, rfl, trivial⟩ (Ent.refl _) ?_
    rintro ⟨i, b⟩ ⟨hi1, hi, hb⟩
    simp only at hi1 hi hb ⊢
    obtain ⟨cb, hcb⟩ : ∃ x, left[b]? = some x := ⟨_, List.getElem?_eq_getElem hb⟩
    refine G tt_ok pk92 ?_
    by_cases hlt : i < left.length
    · rw [decide_eq_true (show (i : Int) < ((left.length : Nat) : Int) by omega)]
      obtain ⟨ci, hci⟩ : ∃ x, left[i]? = some x := ⟨_, List.getElem?_eq_getElem hlt⟩
      have hwr : IntKind.i64.wrap ((i : Int) + 1) = ((i + 1 : Nat) : Int) := by rw [wrap_id (by omega) (by omega)]; simp
      have hbf := refBefore87 β ci.2.1 ci.1 cb.2.1 cb.1
      refine G tt_ok pk92 ?_
      refine ir_ tt_ok rfl rfl (i) (rfl) rfl ?_ (hlt := hlt)
      refine G tt_ok pk92 ?_
      refine lr_ tt_ok rfl rfl (rd_c1 hci) ?_ (hn := hn0)
      refine G tt_ok pk92 ?_
      refine ir_ tt_ok rfl rfl (i) (rfl) rfl ?_ (hlt := hlt)
      refine G tt_ok pk92 ?_
      refine lr_ tt_ok rfl rfl (rd_c0 hci) ?_ (hn := hn0)
      refine G tt_ok pk92 ?_
      refine ir_ tt_ok rfl rfl (b) (rfl) rfl ?_ (hlt := hb)
      refine G tt_ok pk92 ?_
      refine lr_ tt_ok rfl rfl (rd_c1 hcb) ?_ (hn := hn0)
      refine G tt_ok pk92 ?_
      refine ir_ tt_ok rfl rfl (b) (rfl) rfl ?_ (hlt := hb)
      refine G tt_ok pk92 ?_
      refine lr_ tt_ok rfl rfl (rd_c0 hcb) ?_ (hn := hn0)
      refine G tt_ok pk92 ?_
      (refine ka rfl rfl (hbf) ?_; rintro _ _ ⟨rfl, rfl⟩; refine ⟨(by repeat (first | exact trivial | refine ⟨trivial, ?_⟩ | refine ⟨rr_ (rd_c1 hci), ?_⟩ | refine ⟨rr_ (rd_c0 hci), ?_⟩ | refine ⟨rr_ (rd_c1 hcb), ?_⟩ | refine ⟨rr_ (rd_c0 hcb), ?_⟩ | refine ⟨wk (by repeat (first | exact .h | exact .q | apply At.t)) (by rfl), ?_⟩)), ?_⟩)
      refine G tt_ok pk92 ?_
      generalize beforeV ci.2.1 ci.1 cb.2.1 cb.1 = bv
      cases bv with
      | true =>
        refine G tt_ok pk92 ?_
        exact ⟨(i + 1, i), ⟨by simp only; omega, by simp only; omega, hlt⟩, by simp only; omega, ⟨by rw [← hwr]; rfl, rfl, rfl, rfl, trivial⟩, Ent.refl _⟩
      | false =>
        refine G tt_ok pk92 ?_
        exact ⟨(i + 1, b), ⟨by simp only; omega, by simp only; omega, hb⟩, by simp only; omega, ⟨by rw [← hwr]; rfl, rfl, rfl, rfl, trivial⟩, Ent.refl _⟩
    · rw [decide_eq_false (show ¬ (i : Int) < ((left.length : Nat) : Int) by omega)]
      refine G tt_ok pk92 ?_
      refine CW.exit ?_
      refine G tt_ok pk92 ?_
      refine ir_ tt_ok rfl rfl (b) (rfl) rfl ?_ (hlt := hb)
      refine G tt_ok pk92 ?_
      refine lr_ tt_ok rfl rfl (rd_cd hcb) ?_ (hn := hn0)
      refine G tt_ok pk92 ?_
      (refine SQ.built tt_ok rfl rfl (fun _ => w_ ?_))
      refine G tt_ok pk92 ?_
      (refine SQ.appA tt_ok rfl rfl (by repeat (first | exact Rm.h | apply Rm.t)) (by repeat (first | exact .h | exact .q | apply At.t)) (encC cb) rfl rfl rfl (scal_eq rfl) (by omega) (by show (out.length + 1) * 32 ≤ _; omega) (fun q2 c2 => w_ ?_))
      refine G tt_ok pk92 ?_
      refine CW.ent (L' := [rowA ql left.length (left.flatMap encC), own 34 4 (.slice q2 (out ++ [cb]).length c2) (out ++ [cb]).length ((out ++ [cb]).flatMap encC), own 34 4 (.slice none 0 0) 0 []] ++ RA) ?_ ?_
      · refine Ent.trans (own_nil 34 4) ?_
        rw [List.length_append, show [cb].length = 1 from rfl, flat_snoc]
        exact Ent.append (L := [_, _, _, _]) (L' := [_, _, _]) (Ent.sel (is := [3, 1, 0]) rfl) (Ent.refl RA)
      refine CW.loop (α := Nat × List Cd × Option Addr × Nat) (fun x => x.1 ≤ left.length ∧ x.2.1.length + (if b < x.1 then 1 else 0) = x.1) (fun x => [(10, .int .i64 x.1), (9, .slice x.2.2.1 x.2.1.length x.2.2.2), (7, .int .i64 b), (6, .slice q2 (out ++ [cb]).length c2), (5, .slice ql left.length cl)])
        (fun x => [rowA ql left.length (left.flatMap encC), own 34 4 (.slice q2 (out ++ [cb]).length c2) (out ++ [cb]).length ((out ++ [cb]).flatMap encC), own 34 4 (.slice x.2.2.1 x.2.1.length x.2.2.2) x.2.1.length (x.2.1.flatMap encC)] ++ RA) (fun x => left.length - x.1) (0, [], none, 0) ⟨by simp only; omega, by simp⟩ ⟨rfl, rfl, rfl, by simp only [List.length_append]; rfl, rfl, trivial⟩ (Ent.refl _) ?_
      rintro ⟨j, ds, q3, c3⟩ ⟨hj, hds⟩
      simp only at hj hds ⊢
      refine G tt_ok pk92 ?_
      by_cases hjl : j < left.length
      · rw [decide_eq_true (show (j : Int) < ((left.length : Nat) : Int) by omega)]
        obtain ⟨cj, hcj⟩ : ∃ x, left[j]? = some x := ⟨_, List.getElem?_eq_getElem hjl⟩
        have hwr : IntKind.i64.wrap ((j : Int) + 1) = ((j + 1 : Nat) : Int) := by rw [wrap_id (by omega) (by omega)]; simp
        refine G tt_ok pk92 ?_
        by_cases hjb : j = b
        · subst hjb
          rw [show (((j : Nat) : Int) != ((j : Nat) : Int)) = false by simp]
          refine G tt_ok pk92 ?_
          refine ⟨(j + 1, ds, q3, c3), ⟨by simp only; omega, ?_⟩, by simp only; omega, ⟨by rw [← hwr]; rfl, rfl, rfl, rfl, rfl, trivial⟩, Ent.refl _⟩
          simp only [Nat.lt_irrefl, if_false, Nat.lt_succ_self, if_true] at hds ⊢
          omega
        · rw [show (((j : Nat) : Int) != ((b : Nat) : Int)) = true by simp; omega]
          refine G tt_ok pk92 ?_
          refine ir_ tt_ok rfl rfl (j) (rfl) rfl ?_ (hlt := hjl)
          refine G tt_ok pk92 ?_
          refine lr_ tt_ok rfl rfl (rd_cd hcj) ?_ (hn := hn0)
          refine G tt_ok pk92 ?_
          (refine SQ.built tt_ok rfl rfl (fun _ => w_ ?_))
          refine G tt_ok pk92 ?_
          (refine SQ.appA tt_ok rfl rfl (by repeat (first | exact Rm.h | apply Rm.t)) (by repeat (first | exact .h | exact .q | apply At.t)) (encC cj) rfl rfl rfl (scal_eq rfl) (by omega) (by show (ds.length + 1) * 32 ≤ _; omega) (fun q4 c4 => w_ ?_))
          refine G tt_ok pk92 ?_
          refine ⟨(j + 1, ds ++ [cj], q4, c4), ⟨by simp only; omega, ?_⟩, by simp only; omega, ⟨by rw [← hwr]; rfl, by simp only; rw [show (ds ++ [cj]).length = ds.length + 1 by simp]; rfl, rfl, rfl, rfl, trivial⟩, ?_⟩
          · simp only [List.length_append, List.length_singleton]
            by_cases hbj : b < j
            · rw [if_pos hbj] at hds; rw [if_pos (by omega)]; omega
            · rw [if_neg hbj] at hds; rw [if_neg (by omega)]; omega
          · simp only
            rw [show (ds ++ [cj]).length = ds.length + 1 by simp, flat_snoc (l := ds)]
            exact Ent.append (L := [_, _, _, _]) (L' := [_, _, _]) (Ent.sel (is := [2, 2, 0]) rfl) (Ent.refl RA)
      · rw [decide_eq_false (show ¬ (j : Int) < ((left.length : Nat) : Int) by omega)]
        refine G tt_ok pk92 ?_
        refine CW.exit ?_
        refine G tt_ok pk92 ?_
        have hjj : j = left.length := by omega
        rw [if_pos (by omega)] at hds
        refine ⟨((ds, q3, c3), (out ++ [cb], q2, c2)), ⟨by simp only [List.length_append, List.length_singleton]; omega, fun h => absurd h hnz⟩, by simp only; omega, ⟨rfl, rfl, trivial⟩, ?_⟩
        exact Ent.append (L := [_, _, _]) (L' := [_, _]) ((Ent.sel (is := [2, 1]) rfl).trans (Ent.append (L := [_]) own_row (Ent.refl [_]))) (Ent.refl RA)
@[reducible] def pk93 : List (Nat × Plan) := []
@[reducible] def pk106 : List (Nat × Plan) := []
@[reducible] def pk108 : List (Nat × Plan) := []
@[reducible] def pk168 : List (Nat × Plan) := []
@[reducible] def pk105 : List (Nat × Plan) := []
set_option maxHeartbeats 4000000 in
theorem rtop93 (β : Base) (r : Nat) {n l : Nat} {X : RG} (ok : OkR n l X) (k : Int) : Tri Tryz.prog β 93 [.pointer (some ⟨r, 0, none⟩), .int .i64 k] (rgA r X) (fun v L => ∃ c : Cd, v = .agg #[.int .i64 c.1, .int .i64 c.2.1, .int .i64 c.2.2.1, .bool c.2.2.2] ∧ L = rgA r X ∧ (X.E.readyV k = [] ∧ (∀ w ∈ X.ws, w.l = []) → c = (0, 0, 0, false))) := by
  have hor := rorder92 β r ok k
  generalize rgA r X = RA at hor ⊢
  refine Tri.intro tt_ok Tryz.func93 rfl rfl Tryz.ntmps93 rfl fun F => ?_
  (refine G tt_ok pk93 ?_; repeat (refine G1 tt_ok pk93 ?_; intro _))
  refine SQ.ent (RA ++ [pt _ [.int .i64 0, .int .i64 0, .int .i64 0, .bool false]]) (Ent.perm (List.perm_append_comm (l₁ := [_]))) ?_
  refine SQ.call rfl rfl hor _ (sel_front RA) ?_
  rintro _ _ ⟨out, q, c, rfl, rfl, hl, hz⟩
  refine w_ ?_
  refine SQ.ent ([rowA q out.length (out.flatMap encC), pt _ [.int .i64 0, .int .i64 0, .int .i64 0, .bool false]] ++ RA) (Ent.perm (List.Perm.cons _ (List.perm_append_comm (l₂ := [_])))) ?_
  (refine G tt_ok pk93 ?_; repeat (refine G1 tt_ok pk93 ?_; intro _))
  match out with
  | [] =>
    rw [show (((([] : List Cd).length : Nat) : Int) == 0) = true from rfl]
    (refine G tt_ok pk93 ?_; repeat (refine G1 tt_ok pk93 ?_; intro _))
    exact CW.ret (fin_cells [_] ⟨cl_, trivial⟩ (A := RA) (Ent.append (L := [_, _]) (L' := []) (Ent.dropAll _) (Ent.refl RA)) ⟨(0, 0, 0, false), rfl, rfl, fun _ => rfl⟩)
  | x :: o =>
    rw [show ((((x :: o).length : Nat) : Int) == 0) = false by simp; omega]
    (refine G tt_ok pk93 ?_; repeat (refine G1 tt_ok pk93 ?_; intro _))
    refine ir_ tt_ok rfl rfl (0) (rfl) rfl ?_ (hlt := by simp)
    (refine G tt_ok pk93 ?_; repeat (refine G1 tt_ok pk93 ?_; intro _))
    refine lr_ tt_ok rfl rfl (rd_cd (l := x :: o) (k := 0) rfl) ?_ (hn := by simp)
    (refine G tt_ok pk93 ?_; repeat (refine G1 tt_ok pk93 ?_; intro _))
    exact CW.ret (fin_cells [_] ⟨cl_, trivial⟩ (A := RA) (Ent.append (L := [_, _]) (L' := []) (Ent.dropAll _) (Ent.refl RA)) ⟨x, rfl, rfl, fun h => absurd (hz h) (by simp)⟩)
theorem OkR.setE {n l : Nat} {X : RG} (ok : OkR n l X) {E : DS} (h : OkD X.R E) (hl : E.xs.length = X.E.xs.length) : OkR n l { X with E := E } :=
  ⟨h, by rw [← ok.xs]; exact hl, ok.fs, ok.ws, ok.os, ok.ps, ok.es, ok.bs, ok.n4, ok.l64, ok.by_, ok.wo⟩
theorem OkR.doV {n l : Nat} {X : RG} (ok : OkR n l X) (k id a : Int) : OkR n l { X with E := (X.E.doV k id a).1 } := ok.setE (ok.ok.doV k id a) (doV_len _ _ _ _)
theorem rtaken106 (β : Base) (r : Nat) {n l : Nat} {X : RG} (ok : OkR n l X) (k id : Int) : Tri Tryz.prog β 106 [.pointer (some ⟨r, 0, none⟩), .int .i64 k, .int .i64 id] (rgA r X) (fun v L => ∃ Y, v = .tuple #[] ∧ L = rgA r Y ∧ OkR n l Y) := by
  have hmsg := rmsg97 β r X.rd X.qf X.qb X.qw X.qo X.qp X.qe X.fs.length X.kf X.bs.length X.kb X.ws.length X.kw X.os.length X.ko X.ps.length X.kp X.es.length X.ke id
  have hlet := rlet102 β r ok k id false
  have hdo := refDo76 β X.rd X.R X.E ok.ok k id 5
  refine Tri.intro tt_ok Tryz.func106 rfl rfl Tryz.ntmps106 rfl fun F => ?_
  rw [rg_of] at hlet ⊢
  refine G tt_ok pk106 ?_
  refine ke rfl rfl (hmsg) ?_
  cases rmsgV X.bs.length id with
  | true =>
    refine G tt_ok pk106 ?_
    (refine ka rfl rfl (hlet) ?_; rintro _ _ ⟨b, z, Y, rfl, rfl, hY⟩; refine w_ ?_)
    refine G tt_ok pk106 ?_
    exact CW.ret (fin_ret (vs := []) rfl (A := rgA r Y) pk_ ⟨Y, rfl, rfl, hY⟩)
  | false =>
    refine G tt_ok pk106 ?_
    refine ke rfl rfl (hdo) ?_
    refine G tt_ok pk106 ?_
    exact fin_normal (vs := []) rfl (A := rgA r { X with E := (X.E.doV k id 5).1 }) pk_ ⟨_, rfl, rfl, ok.doV k id 5⟩
theorem rended108 (β : Base) (r : Nat) {n l : Nat} {X : RG} (ok : OkR n l X) (k id : Int) : Tri Tryz.prog β 108 [.pointer (some ⟨r, 0, none⟩), .int .i64 k, .int .i64 id] (rgA r X) (fun v L => ∃ b Y, v = .bool b ∧ L = rgA r Y ∧ OkR n l Y) := by
  have hget := refGet44 β X.rd X.R X.E ok.ok k id
  have hdo := refDo76 β X.rd X.R X.E ok.ok k id 6
  generalize X.E.getV k id = lv at hget
  obtain ⟨⟨⟨e0, l0, t0, a0⟩, en, gr, pr⟩, e⟩ := lv
  simp only at hget
  refine Tri.intro tt_ok Tryz.func108 rfl rfl Tryz.ntmps108 rfl fun F => ?_
  rw [rg_of]
  (refine G tt_ok pk108 ?_; repeat (refine G1 tt_ok pk108 ?_; intro _))
  refine ke rfl rfl (hget) ?_
  (refine G tt_ok pk108 ?_; repeat (refine G1 tt_ok pk108 ?_; intro _))
  by_cases he : e = 0
  · subst he
    rw [show ((0 : Int) != 0) = false from rfl]
    (refine G tt_ok pk108 ?_; repeat (refine G1 tt_ok pk108 ?_; intro _))
    cases a0 with
    | false =>
      (refine G tt_ok pk108 ?_; repeat (refine G1 tt_ok pk108 ?_; intro _))
      exact CW.ret (fin_ret rfl (A := rgA r X) pk_ ⟨_, X, rfl, rfl, ok⟩)
    | true =>
      (refine G tt_ok pk108 ?_; repeat (refine G1 tt_ok pk108 ?_; intro _))
      refine ke rfl rfl (hdo) ?_
      (refine G tt_ok pk108 ?_; repeat (refine G1 tt_ok pk108 ?_; intro _))
      exact CW.ret (fin_ret rfl (A := rgA r { X with E := (X.E.doV k id 6).1 }) pk_ ⟨_, _, rfl, rfl, ok.doV k id 6⟩)
  · rw [show (e != 0) = true by simpa using he]
    (refine G tt_ok pk108 ?_; repeat (refine G1 tt_ok pk108 ?_; intro _))
    exact CW.ret (fin_ret rfl (A := rgA r X) pk_ ⟨_, X, rfl, rfl, ok⟩)
theorem rend168 (β : Base) (r : Nat) {n l : Nat} {X : RG} (ok : OkR n l X) (k id : Int) : Tri Tryz.prog β 168 [.pointer (some ⟨r, 0, none⟩), .int .i64 k, .int .i64 id] (rgA r X) (fun v L => ∃ z Y, v = .int .i64 z ∧ L = rgA r Y ∧ OkR n l Y) := by
  have hend := rended108 β r ok k id
  refine Tri.intro tt_ok Tryz.func168 rfl rfl Tryz.ntmps168 rfl fun F => ?_
  refine G tt_ok pk168 ?_
  (refine ka rfl rfl (hend) ?_; rintro _ _ ⟨b, Y, rfl, rfl, hY⟩; refine w_ ?_)
  cases b with
  | true =>
    refine G tt_ok pk168 ?_
    exact CW.ret (fin_ret rfl (A := rgA r Y) pk_ ⟨_, Y, rfl, rfl, hY⟩)
  | false =>
    refine G tt_ok pk168 ?_
    exact CW.ret (fin_ret rfl (A := rgA r Y) pk_ ⟨_, Y, rfl, rfl, hY⟩)
theorem rmove105 (β : Base) (r : Nat) {n l : Nat} {X : RG} (ok : OkR n l X) (id fr to : Int) : Tri Tryz.prog β 105 [.pointer (some ⟨r, 0, none⟩), .int .i64 id, .int .i64 fr, .int .i64 to] (rgA r X) (fun v L => ∃ z Y, v = .int .i64 z ∧ L = rgA r Y ∧ OkR n l Y) := by
  have hth := rthere156 β r X.rd X.qf X.qb X.qw X.qo X.qp X.qe X.fs.length X.kf X.bs.length X.kb X.ws.length X.kw X.os.length X.ko X.ps.length X.kp X.es.length X.ke to
  have hwait := rwaiting88 β r ok fr
  refine Tri.intro tt_ok Tryz.func105 rfl rfl Tryz.ntmps105 rfl fun F => ?_
  rw [rg_of] at hwait ⊢
  refine G tt_ok pk105 ?_
  have hno : ∀ {β : Base}, True := fun {_} => trivial
  by_cases h0 : fr = to
  · rw [show (fr == to) = true by simpa using h0]
    refine G tt_ok pk105 ?_
    exact CW.ret (fin_ret rfl (A := rgA r X) pk_ ⟨_, X, rfl, rfl, ok⟩)
  · rw [show (fr == to) = false by simpa using h0]
    refine G tt_ok pk105 ?_
    refine ke rfl rfl (hth) ?_
    cases rightV X.fs.length to with
    | false =>
      refine G tt_ok pk105 ?_
      exact CW.ret (fin_ret rfl (A := rgA r X) pk_ ⟨_, X, rfl, rfl, ok⟩)
    | true =>
      refine G tt_ok pk105 ?_
      (refine ka rfl rfl (hwait) ?_; rintro _ _ ⟨ids, wq, wc, rfl, rfl, hil, hids, hz⟩; refine w_ ?_)
      refine G tt_ok pk105 ?_
      refine CW.loop (α := Nat × Int × RG) (fun y => y.1 ≤ ids.length ∧ OkR n l y.2.2) (fun y => [(25, .int .i64 y.1), (24, .int .i64 ids.length), (23, .slice wq ids.length wc), (9, .int .i64 y.2.1), (0, .pointer (some ⟨r, 0, none⟩)), (1, .int .i64 id), (2, .int .i64 fr), (3, .int .i64 to)])
        (fun y => [rowA wq ids.length (ids.flatMap i1C)] ++ rgA r y.2.2) (fun y => ids.length - y.1) (0, 0, X) ⟨by simp, ok⟩ ⟨rfl, rfl, rfl, rfl, rfl, rfl, rfl, rfl, trivial⟩ pk_ ?_
      rintro ⟨i, m, Y⟩ ⟨hi, hY⟩
      simp only at hi hY ⊢
      refine G tt_ok pk105 ?_
      by_cases hlt : i < ids.length
      · rw [decide_eq_true (show (i : Int) < (ids.length : Int) by omega)]
        obtain ⟨x, hx⟩ : ∃ x, ids[i]? = some x := ⟨_, List.getElem?_eq_getElem hlt⟩
        have hwr : IntKind.i64.wrap ((i : Int) + 1) = ((i + 1 : Nat) : Int) := by rw [wrap_id (by omega) (by omega)]; simp
        have hl1 := rlet102 β r hY fr x false
        refine G tt_ok pk105 ?_
        refine ir_ tt_ok rfl rfl (i) (rfl) rfl ?_ (hlt := hlt)
        refine G tt_ok pk105 ?_
        refine lr_ tt_ok rfl rfl (rd_i1r hx) ?_
        refine G tt_ok pk105 ?_
        by_cases hz0 : id = 0
        · rw [show (id == 0) = true by simpa using hz0]
          refine G tt_ok pk105 ?_
          (refine ka rfl rfl (hl1) ?_; rintro _ _ ⟨b1, z1, Y1, rfl, rfl, hY1⟩; refine w_ ?_)
          have hl2 := rlet102 β r hY1 to x true
          refine G tt_ok pk105 ?_
          (refine ka rfl rfl (hl2) ?_; rintro _ _ ⟨b2, z2, Y2, rfl, rfl, hY2⟩; refine w_ ?_)
          refine G tt_ok pk105 ?_
          exact ⟨(i + 1, _, Y2), ⟨by simp only; omega, hY2⟩, by simp only; omega, ⟨by rw [← hwr]; rfl, rfl, rfl, rfl, rfl, rfl, rfl, rfl, trivial⟩, pk_⟩
        · rw [show (id == 0) = false by simpa using hz0]
          refine G tt_ok pk105 ?_
          by_cases hx0 : x = id
          · rw [show (x == id) = true by simpa using hx0]
            refine G tt_ok pk105 ?_
            (refine ka rfl rfl (hl1) ?_; rintro _ _ ⟨b1, z1, Y1, rfl, rfl, hY1⟩; refine w_ ?_)
            have hl2 := rlet102 β r hY1 to x true
            refine G tt_ok pk105 ?_
            (refine ka rfl rfl (hl2) ?_; rintro _ _ ⟨b2, z2, Y2, rfl, rfl, hY2⟩; refine w_ ?_)
            refine G tt_ok pk105 ?_
            exact ⟨(i + 1, _, Y2), ⟨by simp only; omega, hY2⟩, by simp only; omega, ⟨by rw [← hwr]; rfl, rfl, rfl, rfl, rfl, rfl, rfl, rfl, trivial⟩, pk_⟩
          · rw [show (x == id) = false by simpa using hx0]
            refine G tt_ok pk105 ?_
            exact ⟨(i + 1, m, Y), ⟨by simp only; omega, hY⟩, by simp only; omega, ⟨by rw [← hwr]; rfl, rfl, rfl, rfl, rfl, rfl, rfl, rfl, trivial⟩, pk_⟩
      · rw [decide_eq_false (show ¬ (i : Int) < (ids.length : Int) by omega)]
        refine G tt_ok pk105 ?_
        refine CW.exit ?_
        refine G tt_ok pk105 ?_
        exact CW.ret (fin_ret rfl (A := rgA r Y) pk_ ⟨_, Y, rfl, rfl, hY⟩)
end Go.Proofs.YtebpodnbalfomaaGreatDoor.Sl
namespace Go.Proofs.YtebpodnbalfomaaGreatDoor.Sl
open Go Go.RowKit Go.Proofs
set_option linter.unusedVariables false
set_option linter.unusedSimpArgs false
attribute [local irreducible] CW Tri OW
set_option maxRecDepth 10000
@[reducible] def pk100 : List (Nat × Plan) := [(6, [(0, 0, []), (1, 0, []), (2, 0, []), (4, 0, []), (5, 0, []), (3, 1, [0]), (6, 1, [0]), (7, 0, []), (8, 0, []), (9, 0, []), (10, 0, []), (11, 2, []), (12, 1, []), (13, 0, []), (14, 0, [])]), (7, [(0, 0, []), (1, 0, []), (2, 0, []), (3, 0, []), (4, 0, []), (5, 0, []), (6, 0, []), (7, 1, [])]), (12, [(0, 0, []), (1, 0, []), (2, 0, []), (4, 0, []), (5, 0, []), (3, 1, [0]), (6, 1, [0]), (7, 0, []), (8, 0, []), (9, 0, []), (10, 0, [])]), (17, [(0, 0, []), (1, 0, []), (2, 0, []), (3, 0, []), (4, 0, []), (5, 0, []), (6, 0, []), (7, 1, [])]), (32, [(0, 0, []), (1, 0, []), (2, 0, []), (3, 0, []), (4, 0, []), (5, 0, []), (6, 0, []), (7, 1, [])])]
theorem rfC_len (f : RF) : (rfC f).length = 70 := by simp [lds_len]
theorem rd_rf {fs : List RF} {k : Nat} {f : RF} (h : fs[k]? = some f) (Y : List Value) : rdv ti172 (fs.flatMap rfC ++ Y) (0 + k * 70) = some (rfV f) :=
  rd_partR (enc := rfC) (sz := 70) rfC_len h 0 (i := ti172) rfl (by decide) (by omega) (by decide) Y
theorem wr_rf {fs : List RF} {k : Nat} {f : RF} (h : fs[k]? = some f) (f2 : RF) (Y : List Value) : wrv ti172 (fs.flatMap rfC ++ Y) (0 + k * 70) (rfV f2) = some ((fs.set k f2).flatMap rfC ++ Y) :=
  wr_encR (enc := rfC) (sz := 70) rfC_len h 0 (i := ti172) (by decide) rfl rfl (by omega) Y
theorem OkR.setF {n l : Nat} {X : RG} (ok : OkR n l X) (k : Nat) (f : RF) : OkR n l { X with fs := X.fs.set k f } :=
  ⟨ok.ok, ok.xs, by simp only [List.length_set]; exact ok.fs, ok.ws, ok.os, ok.ps, ok.es, ok.bs, ok.n4, ok.l64, ok.by_, ok.wo⟩
theorem rg_setF (r : Nat) (X : RG) (k : Nat) (f : RF) : rgA r { X with fs := X.fs.set k f } = [pt r (rgC X.rd X.qf X.fs.length X.kf X.qb X.bs.length X.kb X.qw X.ws.length X.kw X.qo X.os.length X.ko X.qp X.ps.length X.kp X.qe X.es.length X.ke), rowA X.qf X.fs.length ((X.fs.set k f).flatMap rfC), rowA X.qb X.bs.length (X.bs.flatMap byC), rowA X.qw X.ws.length (X.ws.flatMap wlC), pkA wlA X.ws, rowA X.qo X.os.length (X.os.flatMap boC), rowA X.qp X.ps.length (X.ps.flatMap wC), rowA X.qe X.es.length (X.es.flatMap wC)] ++ rD X.rd X.R X.E := by
  unfold rgA
  simp only [List.length_set]
set_option maxHeartbeats 16000000 in
theorem raccess100 (β : Base) (r : Nat) {n l : Nat} {X : RG} (ok : OkR n l X) (k q : Int) (w : Bool) {x : Nat} (hv : x < 2 ^ 64) : Tri Tryz.prog β 100 [.pointer (some ⟨r, 0, none⟩), .int .i64 k, .int .i64 q, .bool w, .int .u64 x] (rgA r X) (fun v L => ∃ (a b c : Int) (Y : RG), v = .tuple #[.int .u64 a, .int .i64 b, .int .i64 c] ∧ L = rgA r Y ∧ OkR n l Y) := by
  have hth := rthere156 β r X.rd X.qf X.qb X.qw X.qo X.qp X.qe X.fs.length X.kf X.bs.length X.kb X.ws.length X.kw X.os.length X.ko X.ps.length X.kp X.es.length X.ke k
  have htop := rtop93 β r ok k
  have hend := fun id => rend168 β r ok k id
  refine Tri.intro tt_ok Tryz.func100 rfl rfl Tryz.ntmps100 rfl fun F => ?_
  rw [rg_of] at htop hend ⊢
  (refine G tt_ok pk100 ?_; repeat (refine G1 tt_ok pk100 ?_; intro _))
  refine ke rfl rfl (hth) ?_
  cases hr : rightV X.fs.length k with
  | false =>
    (refine G tt_ok pk100 ?_; repeat (refine G1 tt_ok pk100 ?_; intro _))
    exact CW.ret (fin_ret rfl (A := rgA r X) pk_ ⟨_, _, _, X, rfl, rfl, ok⟩)
  | true =>
    obtain ⟨f, hx, hl, hk⟩ := rightsN (ss := X.fs) rfl hr
    have hn0 : 0 < X.fs.length := by omega
    (refine G tt_ok pk100 ?_; repeat (refine G1 tt_ok pk100 ?_; intro _))
    refine ir_ tt_ok rfl rfl (k.toNat) (hk) rfl ?_ (hlt := hl)
    (refine G tt_ok pk100 ?_; repeat (refine G1 tt_ok pk100 ?_; intro _))
    refine lr_ tt_ok rfl rfl (rd_rf hx) ?_ (hn := hn0)
    (refine G tt_ok pk100 ?_; repeat (refine G1 tt_ok pk100 ?_; intro _))
    generalize IntKind.i64.wrap ((x : Int).tmod 16777216) = id
    cases w with
    | false =>
      (refine G tt_ok pk100 ?_; repeat (refine G1 tt_ok pk100 ?_; intro _))
      by_cases h1 : q = 1
      · subst h1
        (refine G tt_ok pk100 ?_; repeat (refine G1 tt_ok pk100 ?_; intro _))
        (refine ka rfl rfl (htop) ?_; rintro _ _ ⟨c, rfl, rfl, _⟩; refine w_ ?_)
        (refine G tt_ok pk100 ?_; repeat (refine G1 tt_ok pk100 ?_; intro _))
        (refine ka rfl rfl (rftake164 β f c _) ?_; rintro _ _ ⟨f2, m, b, rfl, rfl⟩; refine w_ ?_)
        (refine G tt_ok pk100 ?_; repeat (refine G1 tt_ok pk100 ?_; intro _))
        refine ir_ tt_ok rfl rfl (k.toNat) (hk) rfl ?_ (hlt := hl)
        (refine G tt_ok pk100 ?_; repeat (refine G1 tt_ok pk100 ?_; intro _))
        refine sr_ tt_ok rfl rfl (wr_rf hx f2) ?_ (hn := hn0)
        (refine G tt_ok pk100 ?_; repeat (refine G1 tt_ok pk100 ?_; intro _))
        have hY := ok.setF k.toNat f2
        cases b with
        | true =>
          have htk := rtaken106 β r hY k m
          rw [rg_setF] at htk
          (refine G tt_ok pk100 ?_; repeat (refine G1 tt_ok pk100 ?_; intro _))
          (refine ka rfl rfl (htk) ?_; rintro _ _ ⟨Y, rfl, rfl, hY2⟩; refine w_ ?_)
          (refine G tt_ok pk100 ?_; repeat (refine G1 tt_ok pk100 ?_; intro _))
          exact CW.ret (fin_ret rfl (A := rgA r Y) pk_ ⟨_, _, _, Y, rfl, rfl, hY2⟩)
        | false =>
          (refine G tt_ok pk100 ?_; repeat (refine G1 tt_ok pk100 ?_; intro _))
          refine CW.ret (fin_ret rfl (A := rgA r { X with fs := X.fs.set k.toNat f2 }) ?_ ⟨_, _, _, _, rfl, rfl, hY⟩)
          rw [rg_setF]
          exact pk_
      rw [show (q == 1) = false by simp [h1]]
      (refine G tt_ok pk100 ?_; repeat (refine G1 tt_ok pk100 ?_; intro _))
      by_cases h2 : q = 2
      · subst h2
        (refine G tt_ok pk100 ?_; repeat (refine G1 tt_ok pk100 ?_; intro _))
        (refine ka rfl rfl (htop) ?_; rintro _ _ ⟨c, rfl, rfl, _⟩; refine w_ ?_)
        (refine G tt_ok pk100 ?_; repeat (refine G1 tt_ok pk100 ?_; intro _))
        (refine ka rfl rfl (rftake164 β f c _) ?_; rintro _ _ ⟨f2, m, b, rfl, rfl⟩; refine w_ ?_)
        (refine G tt_ok pk100 ?_; repeat (refine G1 tt_ok pk100 ?_; intro _))
        refine ir_ tt_ok rfl rfl (k.toNat) (hk) rfl ?_ (hlt := hl)
        (refine G tt_ok pk100 ?_; repeat (refine G1 tt_ok pk100 ?_; intro _))
        refine sr_ tt_ok rfl rfl (wr_rf hx f2) ?_ (hn := hn0)
        (refine G tt_ok pk100 ?_; repeat (refine G1 tt_ok pk100 ?_; intro _))
        have hY := ok.setF k.toNat f2
        cases b with
        | true =>
          have htk := rtaken106 β r hY k m
          rw [rg_setF] at htk
          (refine G tt_ok pk100 ?_; repeat (refine G1 tt_ok pk100 ?_; intro _))
          (refine ka rfl rfl (htk) ?_; rintro _ _ ⟨Y, rfl, rfl, hY2⟩; refine w_ ?_)
          (refine G tt_ok pk100 ?_; repeat (refine G1 tt_ok pk100 ?_; intro _))
          exact CW.ret (fin_ret rfl (A := rgA r Y) pk_ ⟨_, _, _, Y, rfl, rfl, hY2⟩)
        | false =>
          (refine G tt_ok pk100 ?_; repeat (refine G1 tt_ok pk100 ?_; intro _))
          refine CW.ret (fin_ret rfl (A := rgA r { X with fs := X.fs.set k.toNat f2 }) ?_ ⟨_, _, _, _, rfl, rfl, hY⟩)
          rw [rg_setF]
          exact pk_
      rw [show (q == 2) = false by simp [h2]]
      (refine G tt_ok pk100 ?_; repeat (refine G1 tt_ok pk100 ?_; intro _))
      by_cases h13 : q = 13
      · subst h13
        (refine G tt_ok pk100 ?_; repeat (refine G1 tt_ok pk100 ?_; intro _))
        (refine ka rfl rfl (htop) ?_; rintro _ _ ⟨c, rfl, rfl, _⟩; refine w_ ?_)
        (refine G tt_ok pk100 ?_; repeat (refine G1 tt_ok pk100 ?_; intro _))
        (refine ka rfl rfl (rshows165 β f c _) ?_; rintro _ _ ⟨m, rfl, rfl⟩; refine w_ ?_)
        (refine G tt_ok pk100 ?_; repeat (refine G1 tt_ok pk100 ?_; intro _))
        exact CW.ret (fin_ret rfl (A := rgA r X) pk_ ⟨_, _, _, X, rfl, rfl, ok⟩)
      rw [show (q == 13) = false by simp [h13]]
      (refine G tt_ok pk100 ?_; repeat (refine G1 tt_ok pk100 ?_; intro _))
      by_cases h14 : q = 14
      · subst h14
        (refine G tt_ok pk100 ?_; repeat (refine G1 tt_ok pk100 ?_; intro _))
        (refine ka rfl rfl (htop) ?_; rintro _ _ ⟨c, rfl, rfl, _⟩; refine w_ ?_)
        (refine G tt_ok pk100 ?_; repeat (refine G1 tt_ok pk100 ?_; intro _))
        (refine ka rfl rfl (rshows165 β f c _) ?_; rintro _ _ ⟨m, rfl, rfl⟩; refine w_ ?_)
        (refine G tt_ok pk100 ?_; repeat (refine G1 tt_ok pk100 ?_; intro _))
        exact CW.ret (fin_ret rfl (A := rgA r X) pk_ ⟨_, _, _, X, rfl, rfl, ok⟩)
      rw [show (q == 14) = false by simp [h14]]
      (refine G tt_ok pk100 ?_; repeat (refine G1 tt_ok pk100 ?_; intro _))
      (refine ka rfl rfl (rfread171 β f q) ?_; rintro _ _ ⟨m, b, rfl, rfl⟩; refine w_ ?_)
      (refine G tt_ok pk100 ?_; repeat (refine G1 tt_ok pk100 ?_; intro _))
      cases b with
      | true =>
        (refine G tt_ok pk100 ?_; repeat (refine G1 tt_ok pk100 ?_; intro _))
        exact CW.ret (fin_ret rfl (A := rgA r X) pk_ ⟨_, _, _, X, rfl, rfl, ok⟩)
      | false =>
        (refine G tt_ok pk100 ?_; repeat (refine G1 tt_ok pk100 ?_; intro _))
        exact CW.ret (fin_ret rfl (A := rgA r X) pk_ ⟨_, _, _, X, rfl, rfl, ok⟩)
    | true =>
      (refine G tt_ok pk100 ?_; repeat (refine G1 tt_ok pk100 ?_; intro _))
      by_cases h3 : q = 3
      · subst h3
        (refine G tt_ok pk100 ?_; repeat (refine G1 tt_ok pk100 ?_; intro _))
        (refine ka rfl rfl (rreal166 β id) ?_; rintro _ _ ⟨b, rfl, rfl⟩; refine w_ ?_)
        cases b with
        | false =>
          (refine G tt_ok pk100 ?_; repeat (refine G1 tt_ok pk100 ?_; intro _))
          exact CW.ret (fin_ret rfl (A := rgA r X) pk_ ⟨_, _, _, X, rfl, rfl, ok⟩)
        | true =>
          (refine G tt_ok pk100 ?_; repeat (refine G1 tt_ok pk100 ?_; intro _))
          (refine ka rfl rfl (rfdrop167 β f _) ?_; rintro _ _ ⟨f2, b, rfl, rfl⟩; refine w_ ?_)
          (refine G tt_ok pk100 ?_; repeat (refine G1 tt_ok pk100 ?_; intro _))
          refine ir_ tt_ok rfl rfl (k.toNat) (hk) rfl ?_ (hlt := hl)
          (refine G tt_ok pk100 ?_; repeat (refine G1 tt_ok pk100 ?_; intro _))
          refine sr_ tt_ok rfl rfl (wr_rf hx f2) ?_ (hn := hn0)
          (refine G tt_ok pk100 ?_; repeat (refine G1 tt_ok pk100 ?_; intro _))
          have hY := ok.setF k.toNat f2
          have hen := rend168 β r hY k id
          rw [rg_setF] at hen
          cases b with
          | false =>
            (refine G tt_ok pk100 ?_; repeat (refine G1 tt_ok pk100 ?_; intro _))
            refine CW.ret (fin_ret rfl (A := rgA r { X with fs := X.fs.set k.toNat f2 }) ?_ ⟨_, _, _, _, rfl, rfl, hY⟩)
            rw [rg_setF]
            exact pk_
          | true =>
            (refine G tt_ok pk100 ?_; repeat (refine G1 tt_ok pk100 ?_; intro _))
            cases f2.sp with
            | true =>
              (refine G tt_ok pk100 ?_; repeat (refine G1 tt_ok pk100 ?_; intro _))
              refine CW.ret (fin_ret rfl (A := rgA r { X with fs := X.fs.set k.toNat f2 }) ?_ ⟨_, _, _, _, rfl, rfl, hY⟩)
              rw [rg_setF]
              exact pk_
            | false =>
              (refine G tt_ok pk100 ?_; repeat (refine G1 tt_ok pk100 ?_; intro _))
              (refine ka rfl rfl (hen) ?_; rintro _ _ ⟨z, Y, rfl, rfl, hY2⟩; refine w_ ?_)
              (refine G tt_ok pk100 ?_; repeat (refine G1 tt_ok pk100 ?_; intro _))
              exact CW.ret (fin_ret rfl (A := rgA r Y) pk_ ⟨_, _, _, Y, rfl, rfl, hY2⟩)
      rw [show (q == 3) = false by simp [h3]]
      (refine G tt_ok pk100 ?_; repeat (refine G1 tt_ok pk100 ?_; intro _))
      by_cases h4 : q = 4
      · subst h4
        (refine G tt_ok pk100 ?_; repeat (refine G1 tt_ok pk100 ?_; intro _))
        (refine ka rfl rfl (rreal166 β id) ?_; rintro _ _ ⟨b, rfl, rfl⟩; refine w_ ?_)
        cases b with
        | false =>
          (refine G tt_ok pk100 ?_; repeat (refine G1 tt_ok pk100 ?_; intro _))
          exact CW.ret (fin_ret rfl (A := rgA r X) pk_ ⟨_, _, _, X, rfl, rfl, ok⟩)
        | true =>
          (refine G tt_ok pk100 ?_; repeat (refine G1 tt_ok pk100 ?_; intro _))
          (refine ka rfl rfl (rfdrop167 β f _) ?_; rintro _ _ ⟨f2, b, rfl, rfl⟩; refine w_ ?_)
          (refine G tt_ok pk100 ?_; repeat (refine G1 tt_ok pk100 ?_; intro _))
          refine ir_ tt_ok rfl rfl (k.toNat) (hk) rfl ?_ (hlt := hl)
          (refine G tt_ok pk100 ?_; repeat (refine G1 tt_ok pk100 ?_; intro _))
          refine sr_ tt_ok rfl rfl (wr_rf hx f2) ?_ (hn := hn0)
          (refine G tt_ok pk100 ?_; repeat (refine G1 tt_ok pk100 ?_; intro _))
          have hY := ok.setF k.toNat f2
          have hen := rend168 β r hY k id
          rw [rg_setF] at hen
          cases b with
          | false =>
            (refine G tt_ok pk100 ?_; repeat (refine G1 tt_ok pk100 ?_; intro _))
            refine CW.ret (fin_ret rfl (A := rgA r { X with fs := X.fs.set k.toNat f2 }) ?_ ⟨_, _, _, _, rfl, rfl, hY⟩)
            rw [rg_setF]
            exact pk_
          | true =>
            (refine G tt_ok pk100 ?_; repeat (refine G1 tt_ok pk100 ?_; intro _))
            cases f2.sp with
            | true =>
              (refine G tt_ok pk100 ?_; repeat (refine G1 tt_ok pk100 ?_; intro _))
              refine CW.ret (fin_ret rfl (A := rgA r { X with fs := X.fs.set k.toNat f2 }) ?_ ⟨_, _, _, _, rfl, rfl, hY⟩)
              rw [rg_setF]
              exact pk_
            | false =>
              (refine G tt_ok pk100 ?_; repeat (refine G1 tt_ok pk100 ?_; intro _))
              (refine ka rfl rfl (hen) ?_; rintro _ _ ⟨z, Y, rfl, rfl, hY2⟩; refine w_ ?_)
              (refine G tt_ok pk100 ?_; repeat (refine G1 tt_ok pk100 ?_; intro _))
              exact CW.ret (fin_ret rfl (A := rgA r Y) pk_ ⟨_, _, _, Y, rfl, rfl, hY2⟩)
      rw [show (q == 4) = false by simp [h4]]
      (refine G tt_ok pk100 ?_; repeat (refine G1 tt_ok pk100 ?_; intro _))
      by_cases h5 : q = 5
      · subst h5
        (refine G tt_ok pk100 ?_; repeat (refine G1 tt_ok pk100 ?_; intro _))
        (refine ka rfl rfl (rreal166 β id) ?_; rintro _ _ ⟨b, rfl, rfl⟩; refine w_ ?_)
        cases b with
        | false =>
          (refine G tt_ok pk100 ?_; repeat (refine G1 tt_ok pk100 ?_; intro _))
          exact CW.ret (fin_ret rfl (A := rgA r X) pk_ ⟨_, _, _, X, rfl, rfl, ok⟩)
        | true =>
          (refine G tt_ok pk100 ?_; repeat (refine G1 tt_ok pk100 ?_; intro _))
          cases f.sp with
          | false =>
            (refine G tt_ok pk100 ?_; repeat (refine G1 tt_ok pk100 ?_; intro _))
            exact CW.ret (fin_ret rfl (A := rgA r X) pk_ ⟨_, _, _, X, rfl, rfl, ok⟩)
          | true =>
            (refine G tt_ok pk100 ?_; repeat (refine G1 tt_ok pk100 ?_; intro _))
            (refine ka rfl rfl (hend id) ?_; rintro _ _ ⟨z, Y, rfl, rfl, hY2⟩; refine w_ ?_)
            (refine G tt_ok pk100 ?_; repeat (refine G1 tt_ok pk100 ?_; intro _))
            exact CW.ret (fin_ret rfl (A := rgA r Y) pk_ ⟨_, _, _, Y, rfl, rfl, hY2⟩)
      rw [show (q == 5) = false by simp [h5]]
      (refine G tt_ok pk100 ?_; repeat (refine G1 tt_ok pk100 ?_; intro _))
      by_cases h15 : q = 15
      · subst h15
        (refine G tt_ok pk100 ?_; repeat (refine G1 tt_ok pk100 ?_; intro _))
        refine ke rfl rfl (refCall79 β X.rd X.R X.E ok.ok k 0 x hv) ?_
        (refine G tt_ok pk100 ?_; repeat (refine G1 tt_ok pk100 ?_; intro _))
        exact CW.ret (fin_ret rfl (A := rgA r { X with E := (X.E.callV k 0 x).1 }) pk_ ⟨_, _, _, _, rfl, rfl, ok.setE (ok.ok.callV k 0 x) (callV_len _ _ _ _)⟩)
      rw [show (q == 15) = false by simp [h15]]
      (refine G tt_ok pk100 ?_; repeat (refine G1 tt_ok pk100 ?_; intro _))
      by_cases h16 : q = 16
      · subst h16
        (refine G tt_ok pk100 ?_; repeat (refine G1 tt_ok pk100 ?_; intro _))
        refine ke rfl rfl (refCall79 β X.rd X.R X.E ok.ok k 1 x hv) ?_
        (refine G tt_ok pk100 ?_; repeat (refine G1 tt_ok pk100 ?_; intro _))
        exact CW.ret (fin_ret rfl (A := rgA r { X with E := (X.E.callV k 1 x).1 }) pk_ ⟨_, _, _, _, rfl, rfl, ok.setE (ok.ok.callV k 1 x) (callV_len _ _ _ _)⟩)
      rw [show (q == 16) = false by simp [h16]]
      (refine G tt_ok pk100 ?_; repeat (refine G1 tt_ok pk100 ?_; intro _))
      (refine ka rfl rfl (rfwrite170 β f q x) ?_; rintro _ _ ⟨f2, b, rfl, rfl⟩; refine w_ ?_)
      (refine G tt_ok pk100 ?_; repeat (refine G1 tt_ok pk100 ?_; intro _))
      cases b with
      | false =>
        (refine G tt_ok pk100 ?_; repeat (refine G1 tt_ok pk100 ?_; intro _))
        exact CW.ret (fin_ret rfl (A := rgA r X) pk_ ⟨_, _, _, X, rfl, rfl, ok⟩)
      | true =>
        (refine G tt_ok pk100 ?_; repeat (refine G1 tt_ok pk100 ?_; intro _))
        refine ir_ tt_ok rfl rfl (k.toNat) (hk) rfl ?_ (hlt := hl)
        (refine G tt_ok pk100 ?_; repeat (refine G1 tt_ok pk100 ?_; intro _))
        refine sr_ tt_ok rfl rfl (wr_rf hx f2) ?_ (hn := hn0)
        (refine G tt_ok pk100 ?_; repeat (refine G1 tt_ok pk100 ?_; intro _))
        refine CW.ret (fin_ret rfl (A := rgA r { X with fs := X.fs.set k.toNat f2 }) ?_ ⟨_, _, _, _, rfl, rfl, ok.setF k.toNat f2⟩)
        rw [rg_setF]
        exact pk_
end Go.Proofs.YtebpodnbalfomaaGreatDoor.Sl
namespace Go.Proofs.YtebpodnbalfomaaGreatDoor.Sl
open Go Go.RowKit Go.Proofs
set_option linter.unusedVariables false
set_option linter.unusedSimpArgs false
attribute [local irreducible] CW Tri OW
attribute [local irreducible] lds
set_option maxRecDepth 10000
@[reducible] def pk101 : List (Nat × Plan) := [(7, [(0, 0, []), (1, 0, []), (2, 0, []), (3, 0, []), (4, 0, []), (5, 0, []), (6, 0, []), (7, 0, []), (8, 0, []), (9, 1, [1, 5, 7]), (10, 0, []), (11, 0, [])])]
theorem redist_8 (off : Int) : (redistV off 8).1.2.2 ≤ 16384 := by
  unfold redistV findV
  split
  · simp
  · split
    · simp
    · split
      · simp
      · split
        · rename_i h1 h2 h3 x r hr
          unfold outV
          split
          · have := List.all_eq_true.1 redistRw_all r (List.mem_of_find?_eq_some hr)
            simp only [Bool.and_eq_true, Bool.or_eq_true, decide_eq_true_eq, beq_iff_eq] at this
            obtain ⟨⟨⟨⟨⟨a1, a2⟩, a3⟩, a4⟩, a5⟩, a6⟩ := this
            simp only [plV]
            rw [a6, Int.tdiv_one]
            rcases a5 with ((g | g) | g) | g <;> rw [g] <;> decide
          · simp
        · simp
theorem redist_w (off : Int) (hi : Bool) : (redistV off (wideV hi)).1.2.2 ≤ 16384 := by
  cases hi
  · exact redist_le off
  · exact redist_8 off
theorem wr_bo {os : List Bool} {k : Nat} {b : Bool} (h : os[k]? = some b) (a : Bool) (Y : List Value) : wrv ti4 (os.flatMap boC ++ Y) (0 + k * 1) (.bool a) = some ((os.set k a).flatMap boC ++ Y) :=
  wr_encR (enc := boC) (sz := 1) (fun _ => rfl) h 0 (i := ti4) (by decide) rfl rfl (by omega) Y
theorem wr_wo {ps : List Nat} {k : Nat} {p : Nat} (h : ps[k]? = some p) (a : Nat) (Y : List Value) : wrv ti44 (ps.flatMap wC ++ Y) (0 + k * 1) (.int .u64 (a : Int)) = some ((ps.set k a).flatMap wC ++ Y) :=
  wr_encR (enc := wC) (sz := 1) (fun _ => rfl) h 0 (i := ti44) (by decide) rfl rfl (by omega) Y
theorem OkR.setO {n l : Nat} {X : RG} (ok : OkR n l X) (k : Nat) (b : Bool) : OkR n l { X with os := X.os.set k b } :=
  ⟨ok.ok, ok.xs, ok.fs, ok.ws, by simp only [List.length_set]; exact ok.os, ok.ps, ok.es, ok.bs, ok.n4, ok.l64, ok.by_, ok.wo⟩
theorem OkR.setP {n l : Nat} {X : RG} (ok : OkR n l X) (k : Nat) (b : Nat) : OkR n l { X with ps := X.ps.set k b } :=
  ⟨ok.ok, ok.xs, ok.fs, ok.ws, ok.os, by simp only [List.length_set]; exact ok.ps, ok.es, ok.bs, ok.n4, ok.l64, ok.by_, ok.wo⟩
theorem OkR.setEs {n l : Nat} {X : RG} (ok : OkR n l X) (k : Nat) (b : Nat) : OkR n l { X with es := X.es.set k b } :=
  ⟨ok.ok, ok.xs, ok.fs, ok.ws, ok.os, ok.ps, by simp only [List.length_set]; exact ok.es, ok.bs, ok.n4, ok.l64, ok.by_, ok.wo⟩
set_option maxHeartbeats 16000000 in
theorem rwriteOwn101 (β : Base) (r : Nat) {n l : Nat} {X : RG} (ok : OkR n l X) (k off : Int) (hi : Bool) {x : Nat} (hv : x < 2 ^ 64) : Tri Tryz.prog β 101 [.pointer (some ⟨r, 0, none⟩), .int .i64 k, .int .i64 off, .int .i64 (wideV hi), .int .u64 x] (rgA r X) (fun v L => ∃ (a b : Int) (Y : RG), v = .tuple #[.int .i64 a, .int .i64 b] ∧ L = rgA r Y ∧ OkR n l Y) := by
  have hth := rthere156 β r X.rd X.qf X.qb X.qw X.qo X.qp X.qe X.fs.length X.kf X.bs.length X.kb X.ws.length X.kw X.os.length X.ko X.ps.length X.kp X.es.length X.ke k
  have hle := redist_w off hi
  have hrd := refRedist49 β off (wideV hi)
  generalize redistV off (wideV hi) = z at hle hrd
  obtain ⟨⟨q, fi, co⟩, e⟩ := z
  simp only at hle hrd
  have hwo := refWrOwn74 β X.rd X.R X.E ok.ok k q fi co x hv hle
  obtain ⟨y, hy⟩ : ∃ y : Nat, (x : Int).tmod 281474976710656 = (y : Int) := ⟨_, (Int.toNat_of_nonneg (Int.tmod_nonneg _ (by omega))).symm⟩
  refine Tri.intro tt_ok Tryz.func101 rfl rfl Tryz.ntmps101 rfl fun F => ?_
  rw [rg_of]
  (refine G tt_ok pk101 ?_; repeat (refine G1 tt_ok pk101 ?_; intro _))
  refine ke rfl rfl (hrd) ?_
  (refine G tt_ok pk101 ?_; repeat (refine G1 tt_ok pk101 ?_; intro _))
  by_cases he : e = 0
  · subst he
    rw [show ((0 : Int) != 0) = false from rfl]
    (refine G tt_ok pk101 ?_; repeat (refine G1 tt_ok pk101 ?_; intro _))
    refine ke rfl rfl (hth) ?_
    cases hr : rightV X.fs.length k with
    | false =>
      (refine G tt_ok pk101 ?_; repeat (refine G1 tt_ok pk101 ?_; intro _))
      exact CW.ret (fin_ret rfl (A := rgA r X) pk_ ⟨_, _, X, rfl, rfl, ok⟩)
    | true =>
      obtain ⟨on, hon, honl, hk⟩ := rightsN (ss := X.os) (n := X.fs.length) (by rw [ok.os, ok.fs]) hr
      obtain ⟨p, hp, hpl, _⟩ := rightsN (ss := X.ps) (n := X.fs.length) (by rw [ok.ps, ok.fs]) hr
      obtain ⟨u, hu, hul, _⟩ := rightsN (ss := X.es) (n := X.fs.length) (by rw [ok.es, ok.fs]) hr
      (refine G tt_ok pk101 ?_; repeat (refine G1 tt_ok pk101 ?_; intro _))
      by_cases h1 : q = 1
      · subst h1
        (refine G tt_ok pk101 ?_; repeat (refine G1 tt_ok pk101 ?_; intro _))
        generalize ((x : Int).tmod 2 == 1) = qb
        refine ir_ tt_ok rfl rfl (k.toNat) (hk) rfl ?_ (hlt := honl)
        (refine G tt_ok pk101 ?_; repeat (refine G1 tt_ok pk101 ?_; intro _))
        refine sr_ tt_ok rfl rfl (wr_bo hon qb) ?_
        (refine G tt_ok pk101 ?_; repeat (refine G1 tt_ok pk101 ?_; intro _))
        refine CW.ret (fin_ret rfl (A := rgA r { X with os := X.os.set k.toNat qb }) ?_ ⟨_, _, _, rfl, rfl, ok.setO k.toNat qb⟩)
        unfold rgA
        simp only [List.length_set]
        exact pk_
      rw [show (q == 1) = false by simp [h1]]
      (refine G tt_ok pk101 ?_; repeat (refine G1 tt_ok pk101 ?_; intro _))
      by_cases h14 : q = 14
      · subst h14
        (refine G tt_ok pk101 ?_; repeat (refine G1 tt_ok pk101 ?_; intro _))
        refine ir_ tt_ok rfl rfl (k.toNat) (hk) rfl ?_ (hlt := honl)
        (refine G tt_ok pk101 ?_; repeat (refine G1 tt_ok pk101 ?_; intro _))
        refine lr_ tt_ok rfl rfl (rd_bo hon) ?_
        (refine G tt_ok pk101 ?_; repeat (refine G1 tt_ok pk101 ?_; intro _))
        cases on with
        | true =>
          (refine G tt_ok pk101 ?_; repeat (refine G1 tt_ok pk101 ?_; intro _))
          exact CW.ret (fin_ret rfl (A := rgA r X) pk_ ⟨_, _, X, rfl, rfl, ok⟩)
        | false =>
          (refine G tt_ok pk101 ?_; repeat (refine G1 tt_ok pk101 ?_; intro _))
          rw [hy]
          refine ir_ tt_ok rfl rfl (k.toNat) (hk) rfl ?_ (hlt := hpl)
          (refine G tt_ok pk101 ?_; repeat (refine G1 tt_ok pk101 ?_; intro _))
          refine sr_ tt_ok rfl rfl (wr_wo hp y) ?_
          (refine G tt_ok pk101 ?_; repeat (refine G1 tt_ok pk101 ?_; intro _))
          refine CW.ret (fin_ret rfl (A := rgA r { X with ps := X.ps.set k.toNat y }) ?_ ⟨_, _, _, rfl, rfl, ok.setP k.toNat y⟩)
          unfold rgA
          simp only [List.length_set]
          exact pk_
      rw [show (q == 14) = false by simp [h14]]
      (refine G tt_ok pk101 ?_; repeat (refine G1 tt_ok pk101 ?_; intro _))
      by_cases h15 : q = 15
      · subst h15
        (refine G tt_ok pk101 ?_; repeat (refine G1 tt_ok pk101 ?_; intro _))
        refine ir_ tt_ok rfl rfl (k.toNat) (hk) rfl ?_ (hlt := honl)
        (refine G tt_ok pk101 ?_; repeat (refine G1 tt_ok pk101 ?_; intro _))
        refine lr_ tt_ok rfl rfl (rd_bo hon) ?_
        (refine G tt_ok pk101 ?_; repeat (refine G1 tt_ok pk101 ?_; intro _))
        cases on with
        | true =>
          (refine G tt_ok pk101 ?_; repeat (refine G1 tt_ok pk101 ?_; intro _))
          exact CW.ret (fin_ret rfl (A := rgA r X) pk_ ⟨_, _, X, rfl, rfl, ok⟩)
        | false =>
          (refine G tt_ok pk101 ?_; repeat (refine G1 tt_ok pk101 ?_; intro _))
          rw [hy]
          refine ir_ tt_ok rfl rfl (k.toNat) (hk) rfl ?_ (hlt := hul)
          (refine G tt_ok pk101 ?_; repeat (refine G1 tt_ok pk101 ?_; intro _))
          refine sr_ tt_ok rfl rfl (wr_wo hu y) ?_
          (refine G tt_ok pk101 ?_; repeat (refine G1 tt_ok pk101 ?_; intro _))
          refine CW.ret (fin_ret rfl (A := rgA r { X with es := X.es.set k.toNat y }) ?_ ⟨_, _, _, rfl, rfl, ok.setEs k.toNat y⟩)
          unfold rgA
          simp only [List.length_set]
          exact pk_
      rw [show (q == 15) = false by simp [h15]]
      (refine G tt_ok pk101 ?_; repeat (refine G1 tt_ok pk101 ?_; intro _))
      by_cases h2 : q = 2
      · subst h2
        (refine G tt_ok pk101 ?_; repeat (refine G1 tt_ok pk101 ?_; intro _))
        exact CW.ret (fin_ret rfl (A := rgA r X) pk_ ⟨_, _, X, rfl, rfl, ok⟩)
      rw [show (q == 2) = false by simp [h2]]
      (refine G tt_ok pk101 ?_; repeat (refine G1 tt_ok pk101 ?_; intro _))
      by_cases h16 : q = 16
      · subst h16
        (refine G tt_ok pk101 ?_; repeat (refine G1 tt_ok pk101 ?_; intro _))
        exact CW.ret (fin_ret rfl (A := rgA r X) pk_ ⟨_, _, X, rfl, rfl, ok⟩)
      rw [show (q == 16) = false by simp [h16]]
      (refine G tt_ok pk101 ?_; repeat (refine G1 tt_ok pk101 ?_; intro _))
      by_cases h17 : q = 17
      · subst h17
        (refine G tt_ok pk101 ?_; repeat (refine G1 tt_ok pk101 ?_; intro _))
        exact CW.ret (fin_ret rfl (A := rgA r X) pk_ ⟨_, _, X, rfl, rfl, ok⟩)
      rw [show (q == 17) = false by simp [h17]]
      (refine G tt_ok pk101 ?_; repeat (refine G1 tt_ok pk101 ?_; intro _))
      by_cases h18 : q = 18
      · subst h18
        (refine G tt_ok pk101 ?_; repeat (refine G1 tt_ok pk101 ?_; intro _))
        exact CW.ret (fin_ret rfl (A := rgA r X) pk_ ⟨_, _, X, rfl, rfl, ok⟩)
      rw [show (q == 18) = false by simp [h18]]
      (refine G tt_ok pk101 ?_; repeat (refine G1 tt_ok pk101 ?_; intro _))
      by_cases h0 : q = 0
      · subst h0
        (refine G tt_ok pk101 ?_; repeat (refine G1 tt_ok pk101 ?_; intro _))
        exact CW.ret (fin_ret rfl (A := rgA r X) pk_ ⟨_, _, X, rfl, rfl, ok⟩)
      rw [show (q == 0) = false by simp [h0]]
      (refine G tt_ok pk101 ?_; repeat (refine G1 tt_ok pk101 ?_; intro _))
      refine ke rfl rfl (hwo) ?_
      (refine G tt_ok pk101 ?_; repeat (refine G1 tt_ok pk101 ?_; intro _))
      exact CW.ret (fin_ret rfl (A := rgA r { X with E := (X.E.wrOwnV k q fi co x).1 }) pk_ ⟨_, _, _, rfl, rfl, ok.setE (ok.ok.wrOwnV _ _ _ _ _) (wrOwnV_len _ _ _ _ _ _)⟩)
  · rw [show (e != 0) = true by simpa using he]
    (refine G tt_ok pk101 ?_; repeat (refine G1 tt_ok pk101 ?_; intro _))
    exact CW.ret (fin_ret rfl (A := rgA r X) pk_ ⟨_, _, X, rfl, rfl, ok⟩)
end Go.Proofs.YtebpodnbalfomaaGreatDoor.Sl
