/-
  Part 4 of the proof: contracts of the code's functions, and what is plain.
-/
import Derived.Test.YtebpodnbalfomaaGreatDoorM3
import Derived.Test.YtebpodnbalfomaaGreatDoorL9
import Derived.Test.YtebpodnbalfomaaGreatDoorM1
import Derived.Test.YtebpodnbalfomaaGreatDoorRows
import Derived.LaidLaws
import Derived.LaidMore
import Derived.LaidHandle
import Derived.MakeChecks
import Derived.OpenShut
namespace Go.Proofs.YtebpodnbalfomaaGreatDoor.Sl
open Go Go.RowKit Go.Proofs
set_option linter.unusedVariables false
set_option linter.unusedSimpArgs false
attribute [local irreducible] CW Tri OW
attribute [local irreducible] wlen
set_option maxRecDepth 10000
@[reducible] def pk23 : List (Nat × Plan) := [(11, [(0, 0, []), (1, 0, []), (2, 0, []), (3, 0, []), (4, 0, []), (6, 0, []), (7, 0, []), (5, 1, [2]), (8, 1, [2]), (9, 0, []), (10, 0, []), (11, 0, []), (12, 0, [])])]
theorem v24 {v : Nat} (hv : v < 2 ^ 64) : IntKind.i64.wrap (IntKind.u64.wrap ((BitVec.ofInt IntKind.u64.bits (v : Int) &&& BitVec.ofInt IntKind.u64.bits 16777215).toNat : Int)) = ((v % 2 ^ 24 : Nat) : Int) := by
  rw [show IntKind.u64.wrap ((BitVec.ofInt IntKind.u64.bits (v : Int) &&& BitVec.ofInt IntKind.u64.bits 16777215).toNat : Int) = ((v % 2 ^ 24 : Nat) : Int) from and_mod (k := 24) hv (by omega)]
  exact wrap_id (by omega) (by omega)
theorem shows_range (f : Fc) {c : Cd} (h : candOk c) (k : Nat) : 0 ≤ f.shows c k ∧ f.shows c k < 8256 := by
  unfold Fc.shows
  split
  · exact ⟨h.1, h.2.1⟩
  · omega
theorem dropF_sp (f : Fc) (k : Nat) : (f.dropF k).sp = f.sp := by unfold Fc.dropF; split <;> rfl
theorem rd_ssp {ss : List SdS} {k : Nat} {s : SdS} (h : ss[k]? = some s) (X : List Value) : rdv ti4 (ss.flatMap sdC ++ X) (bif Nat.beq (0 + k * 12) 0 then 5 else 0 + k * 12 + 5) = some (.bool s.f.sp) :=
  rd_partR (enc := sdC) (sz := 12) (fun _ => rfl) h 5 (i := ti4) rfl (by decide) (by rw [off_add]; omega) (by decide) X
set_option maxHeartbeats 16000000 in
theorem access23 (β : Base) (hG : TabOk β) (g : Nat) {R : RS} {Z : GS} (ok : OkG R Z) (k r : Int) (w : Bool) {x : Nat} (hv : x < 2 ^ 64) :
    Tri Tryz.prog β 23 [.pointer (some ⟨g, 0, none⟩), .int .i64 k, .int .i64 r, .bool w, .int .u64 x] (gA g Z)
    (fun u L => u = .tuple #[.int .u64 (Z.accV k r w x).2.1, .int .i64 (Z.accV k r w x).2.2.1, .int .i64 (Z.accV k r w x).2.2.2] ∧ L = gA g (Z.accV k r w x).1) := by
  have htop := top24 β hG g ok k
  have htok := top_ok ok k
  have hn4 := ok.n4
  have x8 := ok.ok.x8
  unfold GS.accV
  cases hr : rightV Z.ss.length k with
  | false =>
    rw [if_neg (by simp)]
    obtain ⟨d, D, qc, cc, cf, qs, cs, ss⟩ := Z
    refine Tri.intro tt_ok Tryz.func23 rfl rfl Tryz.ntmps23 rfl fun F => ?_
    rw [gL_of]
    simp only at hr ⊢
    refine G tt_ok pk23 ?_
    refine ke rfl rfl (ghas46 β g d qc qs cf.length cc ss.length cs k) ?_
    rw [hr]
    refine G tt_ok pk23 ?_
    exact CW.ret (fin_ret rfl pk_ ⟨rfl, rfl⟩)
  | true =>
    obtain ⟨s, hx, hl, hk⟩ := rights_at hr
    have hn0 : 0 < Z.ss.length := by omega
    have hsd := ok.sd s (List.mem_of_getElem? hx)
    rw [if_pos rfl, hx]
    simp only
    have hhas := ghas46 β g Z.d Z.qc Z.qs Z.cf.length Z.cc Z.ss.length Z.cs k
    refine Tri.intro tt_ok Tryz.func23 rfl rfl Tryz.ntmps23 rfl fun F => ?_
    rw [gL_of] at htop ⊢
    have hset : ∀ f' : Fc, gA g (Z.setS k { s with f := f' }) = [pt g (gC Z.d Z.qc Z.cf.length Z.cc Z.qs Z.ss.length Z.cs), rowA Z.qc Z.cf.length (Z.cf.flatMap byC), rowA Z.qs Z.ss.length ((Z.ss.set k.toNat { s with f := f' }).flatMap sdC), pkA sdA Z.ss] ++ dA Z.d Z.D := fun f' => gA_set (t := { s with f := f' }) hx rfl
    have hend := fun (Y : GS) (id : Int) (hi : id < 9223372036854775808) (may : Bool) => end67 β g Y k hi may
    unfold GS.accS
    refine G tt_ok pk23 ?_
    refine ke rfl rfl (hhas) ?_
    rw [hr]
    refine G tt_ok pk23 ?_
    refine ir_ tt_ok rfl rfl (k.toNat) (hk) rfl ?_ (hlt := hl)
    refine G tt_ok pk23 ?_
    rw [v24 hv]
    refine G tt_ok pk23 ?_
    cases w with
    | false =>
      simp only [Bool.false_eq_true, if_false]
      refine G tt_ok pk23 ?_
      by_cases h1 : r = 1
      · subst h1
        unfold GS.iarV
        refine G tt_ok pk23 ?_
        refine ke rfl rfl (htop) ?_
        generalize hc : topC (Z.candV k) = c at htok htop ⊢
        obtain ⟨id, pri, gr, is⟩ := c
        obtain ⟨t1, t2, t3, t4, t5, t6⟩ := htok
        simp only at t1 t2 t3 t4 t5 t6 ⊢
        obtain ⟨p, rfl⟩ : ∃ p : Nat, pri = (p : Int) := ⟨pri.toNat, by omega⟩
        obtain ⟨gn, rfl⟩ : ∃ n : Nat, gr = (n : Int) := ⟨gr.toNat, by omega⟩
        rw [Int.toNat_natCast, Int.toNat_natCast]
        have htk := take64 β (q := Z.qs) hx hsd.f id (p := p) (g := gn) (k := 0) (by omega) (by omega) is (by omega)
        have hok2 := ok.setF k hx (t := { s with f := s.f.takeF p gn is 0 }) (takeF_ok hsd.f (by omega) gn is 0) rfl hsd.pr hsd.pe
        have htn := taken65 β g hok2 k (id := id) (by omega)
        rw [hset] at htn
        refine G tt_ok pk23 ?_
        refine ke rfl rfl (htk) ?_
        refine G tt_ok pk23 ?_
        cases htak : s.f.takes p gn is 0 with
        | true =>
          simp only [if_true]
          refine G tt_ok pk23 ?_
          refine ke rfl rfl (htn) ?_
          refine G tt_ok pk23 ?_
          rw [show IntKind.u64.wrap id = id from wrap_u (by omega) (by omega)]
          exact CW.ret (fin_ret rfl (A := gA g ((Z.setS k { s with f := s.f.takeF p gn is 0 }).takenV k id)) pk_ ⟨rfl, rfl⟩)
        | false =>
          simp only [Bool.false_eq_true, if_false]
          refine G tt_ok pk23 ?_
          refine CW.ret (fin_ret rfl (A := gA g (Z.setS k { s with f := s.f.takeF p gn is 0 })) ?_ ⟨rfl, rfl⟩)
          rw [hset]
          exact pk_
      rw [if_neg h1, show (r == 1) = false by simp [h1]]
      refine G tt_ok pk23 ?_
      by_cases h2 : r = 2
      · subst h2
        unfold GS.iarV
        refine G tt_ok pk23 ?_
        refine ke rfl rfl (htop) ?_
        generalize hc : topC (Z.candV k) = c at htok htop ⊢
        obtain ⟨id, pri, gr, is⟩ := c
        obtain ⟨t1, t2, t3, t4, t5, t6⟩ := htok
        simp only at t1 t2 t3 t4 t5 t6 ⊢
        obtain ⟨p, rfl⟩ : ∃ p : Nat, pri = (p : Int) := ⟨pri.toNat, by omega⟩
        obtain ⟨gn, rfl⟩ : ∃ n : Nat, gr = (n : Int) := ⟨gr.toNat, by omega⟩
        rw [Int.toNat_natCast, Int.toNat_natCast]
        have htk := take64 β (q := Z.qs) hx hsd.f id (p := p) (g := gn) (k := 1) (by omega) (by omega) is (by omega)
        have hok2 := ok.setF k hx (t := { s with f := s.f.takeF p gn is 1 }) (takeF_ok hsd.f (by omega) gn is 1) rfl hsd.pr hsd.pe
        have htn := taken65 β g hok2 k (id := id) (by omega)
        rw [hset] at htn
        refine G tt_ok pk23 ?_
        refine ke rfl rfl (htk) ?_
        refine G tt_ok pk23 ?_
        cases htak : s.f.takes p gn is 1 with
        | true =>
          simp only [if_true]
          refine G tt_ok pk23 ?_
          refine ke rfl rfl (htn) ?_
          refine G tt_ok pk23 ?_
          rw [show IntKind.u64.wrap id = id from wrap_u (by omega) (by omega)]
          exact CW.ret (fin_ret rfl (A := gA g ((Z.setS k { s with f := s.f.takeF p gn is 1 }).takenV k id)) pk_ ⟨rfl, rfl⟩)
        | false =>
          simp only [Bool.false_eq_true, if_false]
          refine G tt_ok pk23 ?_
          refine CW.ret (fin_ret rfl (A := gA g (Z.setS k { s with f := s.f.takeF p gn is 1 })) ?_ ⟨rfl, rfl⟩)
          rw [hset]
          exact pk_
      rw [if_neg h2, show (r == 2) = false by simp [h2]]
      refine G tt_ok pk23 ?_
      by_cases h13 : r = 13
      · subst h13
        have hsh := shows66 β s.f (topC (Z.candV k)) (k := 0) (by omega)
        have hrg := shows_range s.f htok 0
        refine G tt_ok pk23 ?_
        refine lr_ tt_ok rfl rfl (rd_sdf hx) ?_ (hn := hn0)
        refine G tt_ok pk23 ?_
        (refine ka rfl rfl (htop) ?_; rintro _ _ ⟨rfl, rfl⟩; refine ⟨(by repeat (first | exact trivial | refine ⟨trivial, ?_⟩ | refine ⟨rr_ (rd_sdf hx), ?_⟩ | refine ⟨wk (by repeat (first | exact .h | exact .q | apply At.t)) (by rfl), ?_⟩)), ?_⟩)
        refine G tt_ok pk23 ?_
        (refine ka rfl rfl (hsh) ?_; rintro _ _ ⟨rfl, rfl⟩; refine ⟨(by repeat (first | exact trivial | refine ⟨trivial, ?_⟩ | refine ⟨rr_ (rd_sdf hx), ?_⟩ | refine ⟨wk (by repeat (first | exact .h | exact .q | apply At.t)) (by rfl), ?_⟩)), ?_⟩)
        refine G tt_ok pk23 ?_
        rw [show IntKind.u64.wrap (s.f.shows (topC (Z.candV k)) 0) = s.f.shows (topC (Z.candV k)) 0 from wrap_u (by omega) (by omega)]
        refine CW.ret (fin_ret rfl (A := gA g Z) ?_ ⟨rfl, rfl⟩)
        rw [gL_of]
        exact pk_
      rw [if_neg h13, show (r == 13) = false by simp [h13]]
      refine G tt_ok pk23 ?_
      by_cases h14 : r = 14
      · subst h14
        have hsh := shows66 β s.f (topC (Z.candV k)) (k := 1) (by omega)
        have hrg := shows_range s.f htok 1
        refine G tt_ok pk23 ?_
        refine lr_ tt_ok rfl rfl (rd_sdf hx) ?_ (hn := hn0)
        refine G tt_ok pk23 ?_
        (refine ka rfl rfl (htop) ?_; rintro _ _ ⟨rfl, rfl⟩; refine ⟨(by repeat (first | exact trivial | refine ⟨trivial, ?_⟩ | refine ⟨rr_ (rd_sdf hx), ?_⟩ | refine ⟨wk (by repeat (first | exact .h | exact .q | apply At.t)) (by rfl), ?_⟩)), ?_⟩)
        refine G tt_ok pk23 ?_
        (refine ka rfl rfl (hsh) ?_; rintro _ _ ⟨rfl, rfl⟩; refine ⟨(by repeat (first | exact trivial | refine ⟨trivial, ?_⟩ | refine ⟨rr_ (rd_sdf hx), ?_⟩ | refine ⟨wk (by repeat (first | exact .h | exact .q | apply At.t)) (by rfl), ?_⟩)), ?_⟩)
        refine G tt_ok pk23 ?_
        rw [show IntKind.u64.wrap (s.f.shows (topC (Z.candV k)) 1) = s.f.shows (topC (Z.candV k)) 1 from wrap_u (by omega) (by omega)]
        refine CW.ret (fin_ret rfl (A := gA g Z) ?_ ⟨rfl, rfl⟩)
        rw [gL_of]
        exact pk_
      rw [if_neg h14, show (r == 14) = false by simp [h14]]
      refine G tt_ok pk23 ?_
      refine lr_ tt_ok rfl rfl (rd_sdf hx) ?_ (hn := hn0)
      refine G tt_ok pk23 ?_
      refine ke rfl rfl (read72 β hsd.f r) ?_
      refine G tt_ok pk23 ?_
      cases hrd : (s.f.readF r).2 with
      | true =>
        rw [if_pos rfl]
        refine G tt_ok pk23 ?_
        refine CW.ret (fin_ret rfl (A := gA g Z) ?_ ⟨rfl, rfl⟩)
        rw [gL_of]
        exact pk_
      | false =>
        rw [if_neg (by simp)]
        refine G tt_ok pk23 ?_
        refine CW.ret (fin_ret rfl (A := gA g Z) ?_ ⟨rfl, rfl⟩)
        rw [gL_of]
        exact pk_
    | true =>
      simp only [if_true]
      refine G tt_ok pk23 ?_
      generalize hid : ((x % 2 ^ 24 : Nat) : Int) = id
      have hidr : 0 ≤ id ∧ id < 16777216 := by omega
      by_cases h3 : r = 3
      · subst h3
        unfold GS.eoiV
        have hcr := creal68 β id
        rw [show (decide (0 ≤ id ∧ id < 1020) || decide (8192 ≤ id ∧ id < 16384)) = realI id from rfl] at hcr
        refine G tt_ok pk23 ?_
        refine ke rfl rfl (hcr) ?_
        cases hre : realI id with
        | false =>
          have he := hend Z id (by omega) false
          rw [gL_of] at he
          simp only [Bool.false_eq_true, if_false]
          refine G tt_ok pk23 ?_
          refine ke rfl rfl (he) ?_
          refine G tt_ok pk23 ?_
          exact CW.ret (fin_ret rfl (A := gA g (Z.endV k id false).1) pk_ ⟨rfl, rfl⟩)
        | true =>
          have hdr := drop69 β (q := Z.qs) hx hsd.f (k := 0) (by omega)
          have hx2 : (Z.ss.set k.toNat { s with f := s.f.dropF 0 })[k.toNat]? = some { s with f := s.f.dropF 0 } := List.getElem?_set_self hl
          have hl2 : (Z.ss.set k.toNat { s with f := s.f.dropF 0 }).length = Z.ss.length := List.length_set
          simp only [if_true]
          refine G tt_ok pk23 ?_
          refine ke rfl rfl (hdr) ?_
          cases hd : s.f.drops 0 with
          | false =>
            have he := hend (Z.setS k { s with f := s.f.dropF 0 }) id (by omega) false
            rw [hset] at he
            simp only [Bool.false_and]
            refine G tt_ok pk23 ?_
            refine ke rfl rfl (he) ?_
            refine G tt_ok pk23 ?_
            exact CW.ret (fin_ret rfl (A := gA g ((Z.setS k { s with f := s.f.dropF 0 }).endV k id false).1) pk_ ⟨rfl, rfl⟩)
          | true =>
            have he := hend (Z.setS k { s with f := s.f.dropF 0 }) id (by omega) (!s.f.sp)
            rw [hset] at he
            simp only [Bool.true_and]
            refine G tt_ok pk23 ?_
            refine lr_ tt_ok rfl rfl (rd_ssp hx2) ?_ (hn := hn0)
            refine G tt_ok pk23 ?_
            rw [show (s.f.dropF 0).sp = s.f.sp from dropF_sp _ _]
            refine ke rfl rfl (he) ?_
            refine G tt_ok pk23 ?_
            exact CW.ret (fin_ret rfl (A := gA g ((Z.setS k { s with f := s.f.dropF 0 }).endV k id (!s.f.sp)).1) pk_ ⟨rfl, rfl⟩)
      rw [if_neg h3, show (r == 3) = false by simp [h3]]
      refine G tt_ok pk23 ?_
      by_cases h4 : r = 4
      · subst h4
        unfold GS.eoiV
        have hcr := creal68 β id
        rw [show (decide (0 ≤ id ∧ id < 1020) || decide (8192 ≤ id ∧ id < 16384)) = realI id from rfl] at hcr
        refine G tt_ok pk23 ?_
        refine ke rfl rfl (hcr) ?_
        cases hre : realI id with
        | false =>
          have he := hend Z id (by omega) false
          rw [gL_of] at he
          simp only [Bool.false_eq_true, if_false]
          refine G tt_ok pk23 ?_
          refine ke rfl rfl (he) ?_
          refine G tt_ok pk23 ?_
          exact CW.ret (fin_ret rfl (A := gA g (Z.endV k id false).1) pk_ ⟨rfl, rfl⟩)
        | true =>
          have hdr := drop69 β (q := Z.qs) hx hsd.f (k := 1) (by omega)
          have hx2 : (Z.ss.set k.toNat { s with f := s.f.dropF 1 })[k.toNat]? = some { s with f := s.f.dropF 1 } := List.getElem?_set_self hl
          have hl2 : (Z.ss.set k.toNat { s with f := s.f.dropF 1 }).length = Z.ss.length := List.length_set
          simp only [if_true]
          refine G tt_ok pk23 ?_
          refine ke rfl rfl (hdr) ?_
          cases hd : s.f.drops 1 with
          | false =>
            have he := hend (Z.setS k { s with f := s.f.dropF 1 }) id (by omega) false
            rw [hset] at he
            simp only [Bool.false_and]
            refine G tt_ok pk23 ?_
            refine ke rfl rfl (he) ?_
            refine G tt_ok pk23 ?_
            exact CW.ret (fin_ret rfl (A := gA g ((Z.setS k { s with f := s.f.dropF 1 }).endV k id false).1) pk_ ⟨rfl, rfl⟩)
          | true =>
            have he := hend (Z.setS k { s with f := s.f.dropF 1 }) id (by omega) (!s.f.sp)
            rw [hset] at he
            simp only [Bool.true_and]
            refine G tt_ok pk23 ?_
            refine lr_ tt_ok rfl rfl (rd_ssp hx2) ?_ (hn := hn0)
            refine G tt_ok pk23 ?_
            rw [show (s.f.dropF 1).sp = s.f.sp from dropF_sp _ _]
            refine ke rfl rfl (he) ?_
            refine G tt_ok pk23 ?_
            exact CW.ret (fin_ret rfl (A := gA g ((Z.setS k { s with f := s.f.dropF 1 }).endV k id (!s.f.sp)).1) pk_ ⟨rfl, rfl⟩)
      rw [if_neg h4, show (r == 4) = false by simp [h4]]
      refine G tt_ok pk23 ?_
      by_cases h5 : r = 5
      · subst h5
        have hcr := creal68 β id
        rw [show (decide (0 ≤ id ∧ id < 1020) || decide (8192 ≤ id ∧ id < 16384)) = realI id from rfl] at hcr
        refine G tt_ok pk23 ?_
        refine ke rfl rfl (hcr) ?_
        cases hre : realI id with
        | false =>
          have he := hend Z id (by omega) false
          rw [gL_of] at he
          simp only [Bool.false_and]
          refine G tt_ok pk23 ?_
          refine ke rfl rfl (he) ?_
          refine G tt_ok pk23 ?_
          exact CW.ret (fin_ret rfl (A := gA g (Z.endV k id false).1) pk_ ⟨rfl, rfl⟩)
        | true =>
          have he := hend Z id (by omega) s.f.sp
          rw [gL_of] at he
          simp only [Bool.true_and]
          refine G tt_ok pk23 ?_
          refine lr_ tt_ok rfl rfl (rd_ssp hx) ?_ (hn := hn0)
          refine G tt_ok pk23 ?_
          refine ke rfl rfl (he) ?_
          refine G tt_ok pk23 ?_
          exact CW.ret (fin_ret rfl (A := gA g (Z.endV k id s.f.sp).1) pk_ ⟨rfl, rfl⟩)
      rw [if_neg h5, show (r == 5) = false by simp [h5]]
      refine G tt_ok pk23 ?_
      by_cases h15 : r = 15
      · subst h15
        refine G tt_ok pk23 ?_
        refine ke rfl rfl (call25 β Z.d Z.D k 0 x hv x8) ?_
        refine G tt_ok pk23 ?_
        refine CW.ret (fin_ret rfl (A := gA g { Z with D := (Z.D.callV k 0 x).1 }) ?_ ⟨rfl, rfl⟩)
        rw [gL_of]
        exact pk_
      rw [if_neg h15, show (r == 15) = false by simp [h15]]
      refine G tt_ok pk23 ?_
      by_cases h16 : r = 16
      · subst h16
        refine G tt_ok pk23 ?_
        refine ke rfl rfl (call25 β Z.d Z.D k 1 x hv x8) ?_
        refine G tt_ok pk23 ?_
        refine CW.ret (fin_ret rfl (A := gA g { Z with D := (Z.D.callV k 1 x).1 }) ?_ ⟨rfl, rfl⟩)
        rw [gL_of]
        exact pk_
      rw [if_neg h16, show (r == 16) = false by simp [h16]]
      refine G tt_ok pk23 ?_
      have hwr := write71 β (q := Z.qs) hx r hv
      refine ke rfl rfl (hwr) ?_
      cases hw : (s.f.writeF r x).2 with
      | true =>
        simp only [if_true]
        refine G tt_ok pk23 ?_
        refine CW.ret (fin_ret rfl (A := gA g (Z.setS k { s with f := (s.f.writeF r x).1 })) ?_ ⟨rfl, rfl⟩)
        rw [hset]
        exact pk_
      | false =>
        have hx2 : (Z.ss.set k.toNat { s with f := (s.f.writeF r x).1 })[k.toNat]? = some { s with f := (s.f.writeF r x).1 } := List.getElem?_set_self hl
        have hok2 : FcOk (s.f.writeF r x).1 := writeF_ok hsd.f r x
        simp only [Bool.false_eq_true, if_false]
        refine G tt_ok pk23 ?_
        refine lr_ tt_ok rfl rfl (rd_sdf hx2) ?_ (hn := hn0)
        refine G tt_ok pk23 ?_
        refine ke rfl rfl (read72 β hok2 r) ?_
        refine G tt_ok pk23 ?_
        cases hrd : ((s.f.writeF r x).1.readF r).2 <;> (
          refine G tt_ok pk23 ?_
          refine CW.ret (fin_ret rfl (A := gA g (Z.setS k { s with f := (s.f.writeF r x).1 })) ?_ ⟨rfl, rfl⟩)
          rw [hset]
          exact pk_)
end Go.Proofs.YtebpodnbalfomaaGreatDoor.Sl
namespace Go.Proofs.YtebpodnbalfomaaGreatDoor.Sl
open Go Go.RowKit Go.Proofs
set_option linter.unusedVariables false
set_option linter.unusedSimpArgs false
theorem OkG.setD {R : RS} {G : GS} (ok : OkG R G) {D : DS} (h : OkD R D) (hl : D.xs.length = G.D.xs.length) : OkG R { G with D := D } :=
  ⟨h, by show G.ss.length = D.xs.length; rw [hl]; exact ok.len, ok.n4, ok.lp, ok.by_, ok.sd⟩
theorem OkG.setW {R : RS} {G : GS} (ok : OkG R G) {k : Nat} {s t : SdS} (hx : G.ss[k]? = some s) (ht : OkS G.cf.length t) : OkG R { G with ss := G.ss.set k t } := by
  refine ⟨ok.ok, by simp only [List.length_set]; exact ok.len, by simp only [List.length_set]; exact ok.n4, ok.lp, ok.by_, ?_⟩
  intro x hx2
  rcases List.mem_or_eq_of_mem_set hx2 with h | rfl
  · exact ok.sd x h
  · exact ht
theorem OkS.let_ {n : Nat} {s : SdS} (h : OkS n s) {j : Nat} (hj : j < n) (hj64 : j < 64) (w : Bool) : OkS n (s.letS j w) := by
  unfold SdS.letS
  refine ⟨h.f, ?_, ?_, h.pr, h.pe⟩
  · cases w with
    | true => exact putS_ok h.w hj64
    | false => exact takeS_ok h.w j
  · intro i hi hh
    cases w with
    | true =>
      simp only [if_true] at hh
      rw [has_putS, Bool.or_eq_true, decide_eq_true_eq] at hh
      rcases hh with rfl | hh
      · exact hj
      · exact h.lt i hi hh
    | false =>
      simp only [Bool.false_eq_true, if_false] at hh
      rw [has_takeS _ _ hi, Bool.and_eq_true] at hh
      exact h.lt i hi hh.2
theorem OkG.letV {R : RS} {G : GS} (ok : OkG R G) (k : Int) {id : Int} (hi : id ≤ 9223372036854775807) (w : Bool) : OkG R (G.letV k id w).1 := by
  unfold GS.letV
  split
  · split
    · rename_i hm
      split
      · rename_i s hs
        obtain ⟨j, hj, e1, e2⟩ := msg_at hi hm
        have e3 : (id - 8192).toNat = j := by omega
        have := ok.lp
        rw [e3]
        exact ok.setW hs ((ok.sd s (List.mem_of_getElem? hs)).let_ hj (by omega) w)
      · exact ok
    · exact ok
  · exact ok
theorem OkG.setupV {R : RS} {G : GS} (ok : OkG R G) (id : Int) {b : Nat} (hb : b < 256) : OkG R (G.setupV id b).1 := by
  unfold GS.setupV
  split
  · refine ⟨ok.ok, ok.len, ok.n4, by simp only [List.length_set]; exact ok.lp, ?_, ?_⟩
    · intro x hx
      rcases List.mem_or_eq_of_mem_set hx with h | rfl
      · exact ok.by_ x h
      · exact hb
    · simp only [List.length_set]
      exact ok.sd
  · exact ok
theorem doV_len (D : DS) (k id a : Int) : (D.doV k id a).1.xs.length = D.xs.length := by
  unfold DS.doV
  repeat' split
  all_goals simp
theorem wrOwnV_len (D : DS) (k r f c : Int) (v : Nat) : (D.wrOwnV k r f c v).1.xs.length = D.xs.length := by
  unfold DS.wrOwnV
  repeat' split
  all_goals simp
theorem wrV_len (D : DS) (off w : Int) (v : Nat) : (D.wrV off w v).1.xs.length = D.xs.length := by
  unfold DS.wrV
  repeat' split
  all_goals simp
theorem callV_len (D : DS) (fr gr : Int) (v : Nat) : (D.callV fr gr v).1.xs.length = D.xs.length := by
  unfold DS.callV
  split
  · simp only [callL]
    exact (callF_len _ _ _ (D.xs, 0)).1
  · rfl
theorem putV_len (D : DS) (k id : Int) (s : Iq) : (D.putV k id s).1.xs.length = D.xs.length := by
  unfold DS.putV
  repeat' split
  all_goals simp
theorem OkG.takenV {R : RS} {G : GS} (ok : OkG R G) (k : Int) {id : Int} (hi : id ≤ 9223372036854775807) : OkG R (G.takenV k id) := by
  unfold GS.takenV
  split
  · exact ok.letV k hi false
  · exact ok.setD (ok.ok.doV _ _ _) (doV_len _ _ _ _)
theorem OkG.endedV {R : RS} {G : GS} (ok : OkG R G) (k id : Int) : OkG R (G.endedV k id).1 := by
  unfold GS.endedV
  split
  · exact ok
  · exact ok.setD (ok.ok.doV _ _ _) (doV_len _ _ _ _)
theorem OkG.endV {R : RS} {G : GS} (ok : OkG R G) (k id : Int) (may : Bool) : OkG R (G.endV k id may).1 := by
  unfold GS.endV
  split
  · exact ok.endedV k id
  · split
    · exact ok.endedV k id
    · exact ok
theorem OkG.wrOwnV {R : RS} {G : GS} (ok : OkG R G) (k off w : Int) (v : Nat) : OkG R (G.wrOwnV k off w v).1 := by
  have h48 : v % 2 ^ 48 < 2 ^ 64 := by omega
  unfold GS.wrOwnV
  split
  · exact ok
  · split
    · unfold GS.wrRegV
      generalize v % 2 ^ 48 = z at h48 ⊢
      split
      · rename_i s hs
        have hsd := ok.sd s (List.mem_of_getElem? hs)
        repeat' split
        all_goals first | with_reducible exact ok | (refine ok.setF k hs ?_ ?_ ?_ ?_ <;> first | with_reducible exact hsd.f | with_reducible rfl | with_reducible exact hsd.pr | with_reducible exact hsd.pe | with_reducible exact h48) | exact ok.setD (ok.ok.wrOwnV _ _ _ _ _) (wrOwnV_len _ _ _ _ _ _)
      · exact ok
    · exact ok
theorem OkG.iarV {R : RS} {G : GS} (ok : OkG R G) (k : Int) {s : SdS} (hs : G.ss[k.toNat]? = some s) (kg : Nat) : OkG R (G.iarV k s kg).1 := by
  have hsd := ok.sd s (List.mem_of_getElem? hs)
  have ht := top_ok ok k
  unfold candOk at ht
  have hF := ok.setF k hs (t := { s with f := s.f.takeF (topC (G.candV k)).2.1.toNat (topC (G.candV k)).2.2.1.toNat (topC (G.candV k)).2.2.2 kg }) (takeF_ok hsd.f (by omega) _ _ _) rfl hsd.pr hsd.pe
  unfold GS.iarV
  split
  · exact hF.takenV k (by omega)
  · exact hF
theorem OkG.eoiV {R : RS} {G : GS} (ok : OkG R G) (k : Int) {s : SdS} (hs : G.ss[k.toNat]? = some s) (kg : Nat) (id : Int) : OkG R (G.eoiV k s kg id).1 := by
  have hsd := ok.sd s (List.mem_of_getElem? hs)
  unfold GS.eoiV
  split
  · exact (ok.setF k hs (t := { s with f := s.f.dropF kg }) (dropF_ok hsd.f kg) rfl hsd.pr hsd.pe).endV k id _
  · exact ok.endV k id _
theorem OkG.accV {R : RS} {G : GS} (ok : OkG R G) (k r : Int) (w : Bool) (x : Nat) : OkG R (G.accV k r w x).1 := by
  unfold GS.accV
  split
  · split
    · rename_i s hs
      have hsd := ok.sd s (List.mem_of_getElem? hs)
      unfold GS.accS
      generalize ((x % 2 ^ 24 : Nat) : Int) = id
      repeat' split
      all_goals first | exact ok | exact ok.eoiV k hs _ _ | exact ok.endV k _ _ | exact ok.setD (ok.ok.callV _ _ _) (callV_len _ _ _ _) | exact ok.iarV k hs _ | exact ok.setF k hs (writeF_ok hsd.f _ _) rfl hsd.pr hsd.pe
    · exact ok
  · exact ok
end Go.Proofs.YtebpodnbalfomaaGreatDoor.Sl
namespace Go.Proofs.YtebpodnbalfomaaGreatDoor.Sl
open Go Go.RowKit Go.Proofs
set_option linter.unusedVariables false
set_option linter.unusedSimpArgs false
attribute [local irreducible] CW Tri OW
attribute [local irreducible] wlen
set_option maxRecDepth 10000
@[reducible] def pk34 : List (Nat × Plan) := [(9, [(0, 0, []), (1, 0, []), (2, 0, []), (3, 0, []), (4, 0, []), (5, 1, [4]), (6, 1, [4]), (7, 0, []), (8, 1, [4]), (9, 1, []), (10, 0, []), (11, 0, []), (12, 1, [])])]
/-- A new processor's part. -/
def newS (s : SdS) : Prop := s.f = fc0 ∧ s.W = none ∧ s.on = false ∧ s.pr = 0 ∧ s.pe = 0
/-- A new controller. -/
structure NewG (Z : GS) (n s l : Nat) : Prop where
  d : newD Z.D n s
  cf : Z.cf = List.replicate l 0
  n : Z.ss.length = n
  ss : ∀ x ∈ Z.ss, newS x
theorem made_by (n : Nat) : (madeCells ti5.zero.cells (n * ti5.size)).toList = (List.replicate n 0).flatMap byC := Bn.made_flat_of (enc := byC) (a := 0) ti5.zero.cells rfl (by decide) n
set_option maxHeartbeats 8000000 in
theorem gnew34 (β : Base) {n s l : Nat} (hn0 : 1 ≤ n) (hn1 : n ≤ 4) (hs1 : s ≤ 64) (hl : l ≤ 512) : Tri Tryz.prog β 34 [.int .i64 n, .int .i64 s, .int .i64 l] []
    (fun v L => ∃ g Z, v = .tuple #[.pointer (some ⟨g, 0, none⟩), .int .i64 0] ∧ L = gA g Z ∧ NewG Z n s l) := by
  refine Tri.intro tt_ok Tryz.func34 rfl rfl Tryz.ntmps34 rfl fun F => ?_
  (refine G tt_ok pk34 ?_; repeat (refine G1 tt_ok pk34 ?_; intro _))
  rw [decide_eq_false (show ¬ (n : Int) < 1 by omega)]
  (refine G tt_ok pk34 ?_; repeat (refine G1 tt_ok pk34 ?_; intro _))
  rw [decide_eq_false (show ¬ (n : Int) > 4 by omega)]
  (refine G tt_ok pk34 ?_; repeat (refine G1 tt_ok pk34 ?_; intro _))
  rw [decide_eq_false (show ¬ (l : Int) < 0 by omega)]
  (refine G tt_ok pk34 ?_; repeat (refine G1 tt_ok pk34 ?_; intro _))
  rw [decide_eq_false (show ¬ (l : Int) > 512 by omega)]
  (refine G tt_ok pk34 ?_; repeat (refine G1 tt_ok pk34 ?_; intro _))
  (refine ka rfl rfl (new11' β (n := n) (s := s) hn0 (by omega) hs1) ?_; rintro _ _ ⟨d, D, rfl, rfl, hD⟩; refine w_ ?_)
  (refine G tt_ok pk34 ?_; repeat (refine G1 tt_ok pk34 ?_; intro _))
  refine SQ.make tt_ok rfl rfl l rfl rfl (show l * 1 ≤ 16777216 by omega) (show 1 * l ≤ 281474976710656 by omega) (by omega) (fun eb => ⟨(by repeat (first | exact trivial | refine ⟨trivial, ?_⟩ | refine ⟨wk (by repeat (first | exact .h | exact .q | apply At.t)) (by rfl), ?_⟩)), ?_⟩)
  rw [made_by]
  (refine G tt_ok pk34 ?_; repeat (refine G1 tt_ok pk34 ?_; intro _))
  rename_i g
  have hok0 : FcOk fc0 := ⟨by decide, by decide, by decide, by decide, by decide⟩
  refine CW.loop (α := List SdS × Option Addr × Nat) (fun x => x.1.length ≤ n ∧ ∀ s ∈ x.1, newS s) (fun x => [(40, .int .i64 x.1.length), (39, .int .i64 n), (10, .pointer (some ⟨g, 0, none⟩))])
    (fun x => [pt g (gC d (some ⟨eb, 0, none⟩) l l x.2.1 x.1.length x.2.2), own 113 12 (.slice x.2.1 x.1.length x.2.2) x.1.length (x.1.flatMap sdC), pkA sdA x.1, pt eb ((List.replicate l 0).flatMap byC)] ++ dA d D) (fun x => n - x.1.length) ([], none, 0) ⟨by simp, by simp⟩ ⟨rfl, rfl, rfl, trivial⟩ ?_ ?_
  · have hC : Ent ([pt g (gC d (some ⟨eb, 0, none⟩) l l none 0 0), pt eb ((List.replicate l 0).flatMap byC)] ++ dA d D) (pkA sdA [] :: own 113 12 (.slice none 0 0) 0 [] :: ([pt g (gC d (some ⟨eb, 0, none⟩) l l none 0 0), pt eb ((List.replicate l 0).flatMap byC)] ++ dA d D)) := (own_nil 113 12).trans pk_nil
    refine Ent.trans (M := [pt g (gC d (some ⟨eb, 0, none⟩) l l none 0 0), pt eb ((List.replicate l 0).flatMap byC)] ++ dA d D) pk_ (hC.trans ?_)
    show Ent _ ([pt g (gC d (some ⟨eb, 0, none⟩) l l none 0 0), own 113 12 (.slice none 0 0) 0 [], pkA sdA [], pt eb ((List.replicate l 0).flatMap byC)] ++ dA d D)
    exact pk_
  rintro ⟨ss, q, c⟩ ⟨hle, hnew⟩
  simp only at hle hnew ⊢
  (refine G tt_ok pk34 ?_; repeat (refine G1 tt_ok pk34 ?_; intro _))
  by_cases hlt : ss.length < n
  · rw [decide_eq_true (show (ss.length : Int) < (n : Int) by omega)]
    (refine G tt_ok pk34 ?_; repeat (refine G1 tt_ok pk34 ?_; intro _))
    refine ke rfl rfl (fnew73 β) ?_
    (refine G tt_ok pk34 ?_; repeat (refine G1 tt_ok pk34 ?_; intro _))
    (refine ka rfl rfl (of78 β) ?_; rintro _ _ ⟨S, rfl, rfl⟩; refine w_ ?_)
    (refine G tt_ok pk34 ?_; repeat (refine G1 tt_ok pk34 ?_; intro _))
    (refine SQ.built tt_ok rfl rfl (fun _ => w_ ?_))
    (refine G tt_ok pk34 ?_; repeat (refine G1 tt_ok pk34 ?_; intro _))
    (refine SQ.appA tt_ok rfl rfl (by repeat (first | exact Rm.h | apply Rm.t)) (by repeat (first | exact .h | exact .q | apply At.t)) (sdC ⟨fc0, S, none, false, 0, 0⟩) rfl rfl rfl (scal_eq rfl) (by omega) (by show (ss.length + 1) * 72 ≤ _; omega) (fun q2 c2 => w_ ?_))
    (refine G tt_ok pk34 ?_; repeat (refine G1 tt_ok pk34 ?_; intro _))
    have hsn : Ent (setL S none 0 none ++ [pkA sdA ss]) [pkA sdA (ss ++ [⟨fc0, S, none, false, 0, 0⟩])] :=
      (Ent.append (Ent.exA (f := fun y : Option Addr × Nat => setL S y.1 y.2 none) (none, 0)) (Ent.refl _)).trans (pk_snoc (f := sdA) (x := ⟨fc0, S, none, false, 0, 0⟩))
    have hwr : IntKind.i64.wrap ((ss.length : Int) + 1) = (((ss ++ [(⟨fc0, S, none, false, 0, 0⟩ : SdS)]).length : Nat) : Int) := by rw [wrap_id (by omega) (by omega)]; simp
    refine ⟨(ss ++ [⟨fc0, S, none, false, 0, 0⟩], q2, c2), ⟨by simp; omega, ?_⟩, by simp; omega, ⟨by rw [← hwr]; rfl, rfl, rfl, trivial⟩, ?_⟩
    · intro y hy
      simp only [List.mem_append, List.mem_singleton] at hy
      rcases hy with h | rfl
      · exact hnew y h
      · exact ⟨rfl, rfl, rfl, rfl, rfl⟩
    · refine Ent.trans (M := (setL S none 0 none ++ [pkA sdA ss]) ++ ([pt g (gC d (some ⟨eb, 0, none⟩) l l q2 (ss.length + 1) c2), own 113 12 (.slice q2 (ss.length + 1) c2) (ss.length + 1) (ss.flatMap sdC ++ sdC ⟨fc0, S, none, false, 0, 0⟩), pt eb ((List.replicate l 0).flatMap byC)] ++ dA d D)) (by unfold setL; exact pk_) ((Ent.append hsn (Ent.refl _)).trans ?_)
      simp only
      rw [show (ss ++ [(⟨fc0, S, none, false, 0, 0⟩ : SdS)]).length = ss.length + 1 by simp, flat_snoc]
      exact pk_
  · rw [decide_eq_false (show ¬ (ss.length : Int) < (n : Int) by omega)]
    (refine G tt_ok pk34 ?_; repeat (refine G1 tt_ok pk34 ?_; intro _))
    refine CW.exit ?_
    (refine G tt_ok pk34 ?_; repeat (refine G1 tt_ok pk34 ?_; intro _))
    have hn : ss.length = n := by omega
    refine CW.ret (fin_ret rfl (A := gA g ⟨d, D, some ⟨eb, 0, none⟩, l, List.replicate l 0, q, c, ss⟩) ?_ ⟨g, ⟨d, D, some ⟨eb, 0, none⟩, l, List.replicate l 0, q, c, ss⟩, rfl, rfl, hD, rfl, hn, hnew⟩)
    rw [gL_of]
    simp only [List.length_replicate]
    refine Ent.trans (M := [own 113 12 (.slice q ss.length c) ss.length (ss.flatMap sdC)] ++ ([pt eb ((List.replicate l 0).flatMap byC)] ++ ([pt g (gC d (some ⟨eb, 0, none⟩) l l q ss.length c), pkA sdA ss] ++ dA d D))) pk_ ((Ent.append own_row (Ent.append (row_close0 (n := l)) (Ent.refl _))).trans ?_)
    exact pk_
end Go.Proofs.YtebpodnbalfomaaGreatDoor.Sl
namespace Go.Proofs.YtebpodnbalfomaaGreatDoor.Sl
open Go Go.RowKit Go.Proofs
set_option linter.unusedVariables false
set_option linter.unusedSimpArgs false
attribute [local irreducible] CW Tri OW
set_option maxRecDepth 10000
/-- A list of different numbers below n. -/
def okW (n : Nat) (l : List Int) : Prop := l.Nodup ∧ ∀ x ∈ l, 0 ≤ x ∧ x < n
theorem okW_len {n : Nat} {l : List Int} (h : okW n l) : l.length ≤ n := by
  have h1 : (l.map Int.toNat).Nodup := by
    unfold List.Nodup
    rw [List.pairwise_map]
    refine List.Pairwise.imp_of_mem ?_ h.1
    intro a b ha hb hne
    have h1 := h.2 a ha
    have h2 := h.2 b hb
    omega
  have h2 := List.Nodup.length_le_of_subset h1 (l₂ := List.range n) (fun x hx => by
    obtain ⟨y, hy, rfl⟩ := List.mem_map.1 hx
    have := h.2 y hy
    rw [List.mem_range]; omega)
  simpa using h2
def lds (r : Nat → Bool) : List Value := (List.range 64).map fun i => .bool (r i)
theorem lds_len (r : Nat → Bool) : (lds r).length = 64 := by simp [lds]
theorem lds_at {r : Nat → Bool} {i : Nat} (h : i < 64) : (lds r)[i]? = some (.bool (r i)) := by simp [lds, h]
theorem rd_ld {r : Nat → Bool} {i : Nat} (h : i < 64) : rdv ti4 (lds r) (0 + i * 1) = some (.bool (r i)) := by
  have h3 : aggD ti4.desc = false := rfl
  simp only [rdv, h3, Nat.mul_one, Nat.zero_add, takeN_eq, dropN_eq]
  have := lds_at (r := r) h
  have hl : i < (lds r).length := by rw [lds_len]; exact h
  rw [List.drop_eq_getElem_cons hl]
  rw [List.getElem?_eq_getElem hl] at this
  simp at this
  simp [this]
@[reducible] def pk218 : List (Nat × Plan) := []
@[reducible] def pk157 : List (Nat × Plan) := []
theorem rbit218 (β : Base) (n : Int) (k : Nat) : Tri Tryz.prog β 218 [.int .i64 n, .int .i64 k] [] (fun v L => ∃ b, v = .bool b ∧ L = [] ∧ (n = 0 → b = false)) := by
  refine Tri.intro tt_ok Tryz.func218 rfl rfl Tryz.ntmps218 rfl fun F => ?_
  refine G tt_ok pk218 ?_
  refine CW.ret (fin_ret rfl (Ent.refl _) ⟨_, rfl, rfl, fun h => ?_⟩)
  subst h
  rw [show (0 : Int).fdiv (2 ^ min k IntKind.i64.bits) = 0 from Int.zero_fdiv _]
  rfl
set_option maxHeartbeats 4000000 in
theorem rreal157 (β : Base) (p : Int) : Tri Tryz.prog β 157 [.int .i64 p] [] (fun v L => ∃ n : Int, v = .int .i64 n ∧ L = [] ∧ (p = 0 → n = 0)) := by
  refine Tri.intro tt_ok Tryz.func157 rfl rfl Tryz.ntmps157 rfl fun F => ?_
  refine G tt_ok pk157 ?_
  refine CW.loop (α := Nat × Int) (fun x => x.1 ≤ 8 ∧ (p = 0 → x.2 = 0)) (fun x => [(4, .int .i64 x.1), (3, .int .i64 x.2), (0, .int .i64 p)]) (fun x => []) (fun x => 8 - x.1) (3, 0) ⟨by decide, fun _ => rfl⟩ ⟨rfl, rfl, rfl, trivial⟩ pk_ ?_
  rintro ⟨i, n⟩ ⟨h8, hz⟩
  simp only at h8 hz ⊢
  refine G tt_ok pk157 ?_
  by_cases hlt : i ≤ 7
  · have hwr : IntKind.i64.wrap ((i : Int) + 1) = ((i + 1 : Nat) : Int) := by rw [wrap_id (by omega) (by omega)]; simp
    rw [decide_eq_true (show (i : Int) ≤ 7 by omega)]
    refine G tt_ok pk157 ?_
    (refine ka rfl rfl (rbit218 β p i) ?_; rintro _ _ ⟨b, rfl, rfl, hb⟩; refine w_ ?_)
    refine G tt_ok pk157 ?_
    cases b with
    | true =>
      refine G tt_ok pk157 ?_
      exact ⟨(i + 1, _), ⟨by simp only; omega, fun h => absurd (hb h) (by simp)⟩, by simp only; omega, ⟨by rw [← hwr]; rfl, rfl, rfl, trivial⟩, pk_⟩
    | false =>
      refine G tt_ok pk157 ?_
      exact ⟨(i + 1, n), ⟨by simp only; omega, hz⟩, by simp only; omega, ⟨by rw [← hwr]; rfl, rfl, rfl, trivial⟩, pk_⟩
  · rw [decide_eq_false (show ¬ (i : Int) ≤ 7 by omega)]
    refine G tt_ok pk157 ?_
    refine CW.exit ?_
    refine G tt_ok pk157 ?_
    exact CW.ret (fin_ret rfl (Ent.refl _) ⟨n, rfl, rfl, hz⟩)
/-- The document's interface. -/
structure RF where
  m : Int
  p0 : Int
  p1 : Int
  on0 : Bool
  on1 : Bool
  sp : Bool
  r : Nat → Bool
@[reducible] def rfC (f : RF) : List Value := .int .i64 f.m :: .int .i64 f.p0 :: .int .i64 f.p1 :: .bool f.on0 :: .bool f.on1 :: .bool f.sp :: lds f.r
@[reducible] def rfV (f : RF) : Value := .agg (rfC f).toArray
def rf0 : RF := ⟨0, 0, 0, false, false, false, fun _ => false⟩
end Go.Proofs.YtebpodnbalfomaaGreatDoor.Sl
namespace Go.Proofs.YtebpodnbalfomaaGreatDoor.Sl
open Go Go.RowKit Go.Proofs
set_option linter.unusedVariables false
set_option linter.unusedSimpArgs false
attribute [local irreducible] CW Tri OW
attribute [local irreducible] lds
set_option maxRecDepth 10000
@[reducible] def pk97 : List (Nat × Plan) := []
/-- A list of messages of the document's. -/
structure WL where
  q : Option Addr
  c : Nat
  l : List Int
@[reducible] def wlC (w : WL) : List Value := [.slice w.q w.l.length w.c]
def wlA (w : WL) : List Atom := [rowA w.q w.l.length (w.l.flatMap i1C)]
@[reducible] def boC (b : Bool) : List Value := [.bool b]
/-- The document's controller. -/
structure RG where
  rd : Nat
  R : RS
  E : DS
  qf : Option Addr
  kf : Nat
  qb : Option Addr
  kb : Nat
  qw : Option Addr
  kw : Nat
  qo : Option Addr
  ko : Nat
  qp : Option Addr
  kp : Nat
  qe : Option Addr
  ke : Nat
  fs : List RF
  bs : List Nat
  ws : List WL
  os : List Bool
  ps : List Nat
  es : List Nat
@[reducible] def rgC (rd : Nat) (qf : Option Addr) (nf kf : Nat) (qb : Option Addr) (nb kb : Nat) (qw : Option Addr) (nw kw : Nat) (qo : Option Addr) (no ko : Nat) (qp : Option Addr) (np kp : Nat) (qe : Option Addr) (ne ke : Nat) : List Value :=
  [.pointer (some ⟨rd, 0, none⟩), .slice qf nf kf, .slice qb nb kb, .slice qw nw kw, .slice qo no ko, .slice qp np kp, .slice qe ne ke]
def rgA (r : Nat) (X : RG) : List Atom := [pt r (rgC X.rd X.qf X.fs.length X.kf X.qb X.bs.length X.kb X.qw X.ws.length X.kw X.qo X.os.length X.ko X.qp X.ps.length X.kp X.qe X.es.length X.ke), rowA X.qf X.fs.length (X.fs.flatMap rfC), rowA X.qb X.bs.length (X.bs.flatMap byC), rowA X.qw X.ws.length (X.ws.flatMap wlC), pkA wlA X.ws, rowA X.qo X.os.length (X.os.flatMap boC), rowA X.qp X.ps.length (X.ps.flatMap wC), rowA X.qe X.es.length (X.es.flatMap wC)] ++ rD X.rd X.R X.E
/-- What the document's controller keeps to: n processors, l messages. -/
structure OkR (n l : Nat) (X : RG) : Prop where
  ok : OkD X.R X.E
  xs : X.E.xs.length = n
  fs : X.fs.length = n
  ws : X.ws.length = n
  os : X.os.length = n
  ps : X.ps.length = n
  es : X.es.length = n
  bs : X.bs.length = l
  n4 : n ≤ 4
  l64 : l ≤ 512
  by_ : ∀ b ∈ X.bs, b < 256
  wo : ∀ w ∈ X.ws, okW l w.l
theorem rthere156 (β : Base) (r rd : Nat) (qf qb qw qo qp qe : Option Addr) (nf kf nb kb nw kw no ko np kp ne ke : Nat) (k : Int) : Tri Tryz.prog β 156 [.pointer (some ⟨r, 0, none⟩), .int .i64 k] [pt r (rgC rd qf nf kf qb nb kb qw nw kw qo no ko qp np kp qe ne ke)] (fun v L => v = .bool (rightV nf k) ∧ L = [pt r (rgC rd qf nf kf qb nb kb qw nw kw qo no ko qp np kp qe ne ke)]) := by
  refine Tri.intro tt_ok Tryz.func156 rfl rfl Tryz.ntmps156 rfl fun F => ?_
  (repeat' (first | refine CW.seq ?_ | refine CW.region tt_ok rfl ?_ | refine CW.block ?_ | refine CW.skip ?_ | refine SQ.nil ?_ | refine SQ.pures1 tt_ok rfl ?_ | refine SQ.pure1 tt_ok rfl ?_ | refine SQ.new _ _ rfl rfl (fun _ => ?_) | refine SQ.ldA tt_ok rfl rfl (by repeat (first | exact .h | exact .q | apply At.t)) (by rfl) ?_ | refine SQ.stA tt_ok rfl rfl (by repeat (first | apply Up.h | apply Up.t)) (by rfl) (by rfl) (by repeat (first | exact trivial | refine ⟨trivial, ?_⟩ | refine ⟨wk (by repeat (first | exact .h | exact .q | apply At.t)) (by rfl), ?_⟩)) ?_ | refine CW.cond_tt rfl ?_ | refine CW.cond_ff rfl ?_ | ((first | refine CW.cond rfl (fun hc => ?_) (fun hc => ?_) | refine SQ.gsplit rfl (fun hc => ?_) (fun hc => ?_)) <;> try (exfalso; simp_all; done))))
  all_goals (refine CW.ret (fin_ret rfl (Ent.refl _) ⟨?_, rfl⟩); simp_all [packV, rightV]; try omega)
def rmsgV (n : Nat) (id : Int) : Bool := decide (id ≥ 8192) && decide (id < IntKind.i64.wrap (8192 + n))
theorem rmsg97 (β : Base) (r rd : Nat) (qf qb qw qo qp qe : Option Addr) (nf kf nb kb nw kw no ko np kp ne ke : Nat) (id : Int) : Tri Tryz.prog β 97 [.pointer (some ⟨r, 0, none⟩), .int .i64 id] [pt r (rgC rd qf nf kf qb nb kb qw nw kw qo no ko qp np kp qe ne ke)] (fun v L => v = .bool (rmsgV nb id) ∧ L = [pt r (rgC rd qf nf kf qb nb kb qw nw kw qo no ko qp np kp qe ne ke)]) := by
  refine Tri.intro tt_ok Tryz.func97 rfl rfl Tryz.ntmps97 rfl fun F => ?_
  unfold rmsgV
  by_cases h : id ≥ 8192
  · rw [decide_eq_true h]
    refine G tt_ok pk97 ?_
    rw [decide_eq_true h]
    refine G tt_ok pk97 ?_
    exact CW.ret (fin_ret rfl (Ent.refl _) ⟨rfl, rfl⟩)
  · rw [decide_eq_false h]
    refine G tt_ok pk97 ?_
    rw [decide_eq_false h]
    refine G tt_ok pk97 ?_
    exact CW.ret (fin_ret rfl (Ent.refl _) ⟨rfl, rfl⟩)
theorem rd_wl {ws : List WL} {k : Nat} {w : WL} (h : ws[k]? = some w) (Y : List Value) : rdv ti82 (ws.flatMap wlC ++ Y) (0 + k * 1) = some (.slice w.q w.l.length w.c) :=
  rd_partR (enc := wlC) (sz := 1) (fun _ => rfl) h 0 (i := ti82) rfl (by decide) (by omega) (by decide) Y
theorem rg_of (r : Nat) (X : RG) : rgA r X = [pt r (rgC X.rd X.qf X.fs.length X.kf X.qb X.bs.length X.kb X.qw X.ws.length X.kw X.qo X.os.length X.ko X.qp X.ps.length X.kp X.qe X.es.length X.ke), rowA X.qf X.fs.length (X.fs.flatMap rfC), rowA X.qb X.bs.length (X.bs.flatMap byC), rowA X.qw X.ws.length (X.ws.flatMap wlC), pkA wlA X.ws, rowA X.qo X.os.length (X.os.flatMap boC), rowA X.qp X.ps.length (X.ps.flatMap wC), rowA X.qe X.es.length (X.es.flatMap wC)] ++ rD X.rd X.R X.E := rfl
theorem OkR.setW {n l : Nat} {X : RG} (ok : OkR n l X) (k : Nat) {w : WL} (hw : okW l w.l) : OkR n l { X with ws := X.ws.set k w } := by
  refine ⟨ok.ok, ok.xs, ok.fs, by simp only [List.length_set]; exact ok.ws, ok.os, ok.ps, ok.es, ok.bs, ok.n4, ok.l64, ok.by_, ?_⟩
  intro x hx
  rcases List.mem_or_eq_of_mem_set hx with h | rfl
  · exact ok.wo x h
  · exact hw
theorem rightsN {α : Type} {ss : List α} {n : Nat} (hn : ss.length = n) {k : Int} (h : rightV n k = true) : ∃ s, ss[k.toNat]? = some s ∧ k.toNat < ss.length ∧ k = (k.toNat : Int) := by
  subst hn
  simp [rightV] at h
  exact ⟨_, List.getElem?_eq_getElem (show k.toNat < ss.length by omega), by omega, by omega⟩
@[reducible] def pk88 : List (Nat × Plan) := []
def idL (l : List Int) : List Int := l.map fun x => 8192 + x
set_option maxHeartbeats 8000000 in
theorem rwaiting88 (β : Base) (r : Nat) {n l : Nat} {X : RG} (ok : OkR n l X) (k : Int) : Tri Tryz.prog β 88 [.pointer (some ⟨r, 0, none⟩), .int .i64 k] (rgA r X) (fun v L => ∃ (ids : List Int) (q : Option Addr) (c : Nat), v = .slice q ids.length c ∧ L = rowA q ids.length (ids.flatMap i1C) :: rgA r X ∧ ids.length ≤ 512 ∧ (∀ x ∈ ids, ∃ j : Nat, j < l ∧ x = ((8192 + j : Nat) : Int)) ∧ ((∀ w ∈ X.ws, w.l = []) → ids = [])) := by
  have hth := rthere156 β r X.rd X.qf X.qb X.qw X.qo X.qp X.qe X.fs.length X.kf X.bs.length X.kb X.ws.length X.kw X.os.length X.ko X.ps.length X.kp X.es.length X.ke k
  refine Tri.intro tt_ok Tryz.func88 rfl rfl Tryz.ntmps88 rfl fun F => ?_
  rw [rg_of]
  refine G tt_ok pk88 ?_
  refine ke rfl rfl (hth) ?_
  cases hr : rightV X.fs.length k with
  | false =>
    refine G tt_ok pk88 ?_
    refine CW.ret (fin_ret rfl (A := rowA none 0 [] :: rgA r X) ?_ ⟨[], none, 0, rfl, rfl, by simp, by simp, fun _ => rfl⟩)
    exact row_nil.trans (Ent.cons _ pk_)
  | true =>
    obtain ⟨u, hx, hlt, hk⟩ := rightsN (ss := X.ws) (n := X.fs.length) (by rw [ok.ws, ok.fs]) hr
    have hw0 : 0 < X.ws.length := by omega
    have hu := ok.wo u (List.mem_of_getElem? hx)
    have hul := okW_len hu
    have hl64 := ok.l64
    have hop : Ent [pkA wlA X.ws] [rowA u.q u.l.length (u.l.flatMap i1C), pkA wlA (X.ws.eraseIdx k.toNat)] := pk_open hx
    have hsh : Ent [rowA u.q u.l.length (u.l.flatMap i1C), pkA wlA (X.ws.eraseIdx k.toNat)] [pkA wlA X.ws] := pk_shut (f := wlA) hx
    refine G tt_ok pk88 ?_
    refine CW.ent (Rm.to (A := pkA wlA X.ws) (by repeat (first | exact Rm.h | apply Rm.t)) hop) ?_
    refine CW.loop (α := Nat × Option Addr × Nat) (fun x => x.1 ≤ u.l.length) (fun x => [(6, .int .i64 x.1), (5, .slice x.2.1 x.1 x.2.2), (0, .pointer (some ⟨r, 0, none⟩)), (1, .int .i64 k)])
      (fun x => [own 3 1 (.slice x.2.1 x.1 x.2.2) x.1 ((idL (u.l.take x.1)).flatMap i1C), rowA u.q u.l.length (u.l.flatMap i1C), pkA wlA (X.ws.eraseIdx k.toNat), pt r (rgC X.rd X.qf X.fs.length X.kf X.qb X.bs.length X.kb X.qw X.ws.length X.kw X.qo X.os.length X.ko X.qp X.ps.length X.kp X.qe X.es.length X.ke), rowA X.qf X.fs.length (X.fs.flatMap rfC), rowA X.qb X.bs.length (X.bs.flatMap byC), rowA X.qw X.ws.length (X.ws.flatMap wlC), rowA X.qo X.os.length (X.os.flatMap boC), rowA X.qp X.ps.length (X.ps.flatMap wC), rowA X.qe X.es.length (X.es.flatMap wC)] ++ rD X.rd X.R X.E) (fun x => u.l.length - x.1) (0, none, 0) (by simp) ?_ ?_ ?_
    · exact ⟨rfl, rfl, rfl, rfl, trivial⟩
    · exact (own_nil 3 1).trans pk_
    · rintro ⟨i, q1, c1⟩ hi
      simp only at hi ⊢
      refine G tt_ok pk88 ?_
      refine ir_ tt_ok rfl rfl (k.toNat) (hk) rfl ?_ (hlt := hlt)
      refine G tt_ok pk88 ?_
      refine lr_ tt_ok rfl rfl (rd_wl hx) ?_ (hn := hw0)
      refine G tt_ok pk88 ?_
      by_cases hil : i < u.l.length
      · rw [decide_eq_true (show (i : Int) < (u.l.length : Int) by omega)]
        obtain ⟨x, hxl⟩ : ∃ x, u.l[i]? = some x := ⟨_, List.getElem?_eq_getElem hil⟩
        have hxr := hu.2 x (List.mem_of_getElem? hxl)
        have hwr : IntKind.i64.wrap ((i : Int) + 1) = ((i + 1 : Nat) : Int) := by rw [wrap_id (by omega) (by omega)]; simp
        have hid : idL (u.l.take (i + 1)) = idL (u.l.take i) ++ [8192 + x] := by unfold idL; rw [List.take_add_one, hxl, List.map_append]; rfl
        refine G tt_ok pk88 ?_
        refine ir_ tt_ok rfl rfl (k.toNat) (hk) rfl ?_ (hlt := hlt)
        refine G tt_ok pk88 ?_
        refine lr_ tt_ok rfl rfl (rd_wl hx) ?_ (hn := hw0)
        refine G tt_ok pk88 ?_
        refine ir_ tt_ok rfl rfl (i) (rfl) rfl ?_ (hlt := hil)
        refine G tt_ok pk88 ?_
        refine lr_ tt_ok rfl rfl (rd_i1r hxl) ?_
        refine G tt_ok pk88 ?_
        rw [show IntKind.i64.wrap (8192 + x) = 8192 + x from wrap_id (by omega) (by omega)]
        (refine SQ.built tt_ok rfl rfl (fun _ => w_ ?_))
        refine G tt_ok pk88 ?_
        (refine SQ.appA tt_ok rfl rfl (by repeat (first | exact Rm.h | apply Rm.t)) (by repeat (first | exact .h | exact .q | apply At.t)) (i1C (8192 + x)) rfl rfl rfl (scal_eq rfl) (by omega) (by show (i + 1) * 8 ≤ _; omega) (fun q2 c2 => w_ ?_))
        refine G tt_ok pk88 ?_
        refine ⟨(i + 1, q2, c2), by simp; omega, by simp; omega, ⟨by rw [← hwr]; rfl, rfl, rfl, rfl, trivial⟩, ?_⟩
        simp only
        rw [hid, flat_snoc]
        exact pk_
      · rw [decide_eq_false (show ¬ (i : Int) < (u.l.length : Int) by omega)]
        refine G tt_ok pk88 ?_
        refine CW.exit ?_
        refine G tt_ok pk88 ?_
        obtain rfl : i = u.l.length := by omega
        rw [List.take_length]
        have hln : (idL u.l).length = u.l.length := by unfold idL; rw [List.length_map]
        refine CW.ret (fin_ret rfl (A := rowA q1 (idL u.l).length ((idL u.l).flatMap i1C) :: rgA r X) ?_ ⟨idL u.l, q1, c1, by rw [hln]; rfl, rfl, by omega, ?_, ?_⟩)
        · rw [hln]
          refine Ent.trans (M := [own 3 1 (.slice q1 u.l.length c1) u.l.length ((idL u.l).flatMap i1C)] ++ ([rowA u.q u.l.length (u.l.flatMap i1C), pkA wlA (X.ws.eraseIdx k.toNat)] ++ ([pt r (rgC X.rd X.qf X.fs.length X.kf X.qb X.bs.length X.kb X.qw X.ws.length X.kw X.qo X.os.length X.ko X.qp X.ps.length X.kp X.qe X.es.length X.ke), rowA X.qf X.fs.length (X.fs.flatMap rfC), rowA X.qb X.bs.length (X.bs.flatMap byC), rowA X.qw X.ws.length (X.ws.flatMap wlC), rowA X.qo X.os.length (X.os.flatMap boC), rowA X.qp X.ps.length (X.ps.flatMap wC), rowA X.qe X.es.length (X.es.flatMap wC)] ++ rD X.rd X.R X.E))) pk_ ((Ent.append own_row (Ent.append hsh (Ent.refl _))).trans ?_)
          exact Ent.cons _ pk_
        · intro x hx2
          obtain ⟨y, hy, rfl⟩ := List.mem_map.1 hx2
          have := hu.2 y hy
          exact ⟨y.toNat, by omega, by omega⟩
        · intro h
          unfold idL
          rw [h u (List.mem_of_getElem? hx)]; rfl
@[reducible] def pk91 : List (Nat × Plan) := []
theorem rd_bo {os : List Bool} {k : Nat} {b : Bool} (h : os[k]? = some b) (Y : List Value) : rdv ti4 (os.flatMap boC ++ Y) (0 + k * 1) = some (.bool b) :=
  rd_partR (enc := boC) (sz := 1) (fun _ => rfl) h 0 (i := ti4) rfl (by decide) (by omega) (by decide) Y
set_option maxHeartbeats 16000000 in
theorem rcands91 (β : Base) (r : Nat) {n l : Nat} {X : RG} (ok : OkR n l X) (k : Int) : Tri Tryz.prog β 91 [.pointer (some ⟨r, 0, none⟩), .int .i64 k] (rgA r X) (fun v L => ∃ (cs : List Cd) (q : Option Addr) (c : Nat), v = .slice q cs.length c ∧ L = rowA q cs.length (cs.flatMap encC) :: rgA r X ∧ cs.length ≤ 1000 ∧ (X.E.readyV k = [] ∧ (∀ w ∈ X.ws, w.l = []) → cs = [])) := by
  have hth := rthere156 β r X.rd X.qf X.qb X.qw X.qo X.qp X.qe X.fs.length X.kf X.bs.length X.kb X.ws.length X.kw X.os.length X.ko X.ps.length X.kp X.es.length X.ke k
  have hrdy := refReady43 β X.rd X.R X.E ok.ok k
  have hrl := ready_len ok.ok k
  have hget := fun id => refGet44 β X.rd X.R X.E ok.ok k id
  have hwait := rwaiting88 β r ok k
  refine Tri.intro tt_ok Tryz.func91 rfl rfl Tryz.ntmps91 rfl fun F => ?_
  rw [rg_of] at hwait ⊢
  (refine G tt_ok pk91 ?_; repeat (refine G1 tt_ok pk91 ?_; intro _))
  refine ke rfl rfl (hth) ?_
  cases hr : rightV X.fs.length k with
  | false =>
    (refine G tt_ok pk91 ?_; repeat (refine G1 tt_ok pk91 ?_; intro _))
    refine CW.ret (fin_ret rfl (A := rowA none 0 [] :: rgA r X) ?_ ⟨[], none, 0, rfl, rfl, by simp, fun _ => rfl⟩)
    exact row_nil.trans (Ent.cons _ pk_)
  | true =>
    obtain ⟨on, hon, honl, hk⟩ := rightsN (ss := X.os) (n := X.fs.length) (by rw [ok.os, ok.fs]) hr
    obtain ⟨x, hxx, hxl, _⟩ := rightsN (ss := X.E.xs) (n := X.fs.length) (by rw [ok.xs, ok.fs]) hr
    have hl64 := ok.l64
    (refine G tt_ok pk91 ?_; repeat (refine G1 tt_ok pk91 ?_; intro _))
    (refine ka rfl rfl (hrdy) ?_; rintro _ _ ⟨rq, rc, rfl, rfl⟩; refine w_ ?_)
    (refine G tt_ok pk91 ?_; repeat (refine G1 tt_ok pk91 ?_; intro _))
    generalize hRD : X.E.readyV k = rd at hrl
    refine CW.loop (α := List Cd × Option Addr × Nat) (fun y => y.1.length ≤ rd.length) (fun y => [(24, .int .i64 y.1.length), (23, .int .i64 rd.length), (22, .slice rq rd.length rc), (5, .slice y.2.1 y.1.length y.2.2), (0, .pointer (some ⟨r, 0, none⟩)), (1, .int .i64 k)])
      (fun y => [own 34 4 (.slice y.2.1 y.1.length y.2.2) y.1.length (y.1.flatMap encC), rowA rq rd.length ((rd.map (·.1)).flatMap i1C)] ++ rgA r X) (fun y => rd.length - y.1.length) ([], none, 0) (by simp) ⟨rfl, rfl, rfl, rfl, rfl, rfl, trivial⟩ ?_ ?_
    · exact (own_nil 34 4).trans pk_
    rintro ⟨cs, q1, c1⟩ hcl
    simp only at hcl ⊢
    rw [rg_of]
    (refine G tt_ok pk91 ?_; repeat (refine G1 tt_ok pk91 ?_; intro _))
    by_cases hlt : cs.length < rd.length
    · rw [decide_eq_true (show (cs.length : Int) < (rd.length : Int) by omega)]
      obtain ⟨p, hp⟩ : ∃ p, (rd.map (·.1))[cs.length]? = some p := ⟨_, List.getElem?_eq_getElem (by rw [List.length_map]; exact hlt)⟩
      have hwr : IntKind.i64.wrap ((cs.length : Int) + 1) = ((cs.length + 1 : Nat) : Int) := by rw [wrap_id (by omega) (by omega)]; simp
      have hg := hget p
      generalize X.E.getV k p = gv at hg
      obtain ⟨⟨⟨g1, g2, g3, g4⟩, g5, g6, g7⟩, g8⟩ := gv
      (refine G tt_ok pk91 ?_; repeat (refine G1 tt_ok pk91 ?_; intro _))
      refine ir_ tt_ok rfl rfl (cs.length) (rfl) rfl ?_ (hlt := hlt)
      (refine G tt_ok pk91 ?_; repeat (refine G1 tt_ok pk91 ?_; intro _))
      refine lr_ tt_ok rfl rfl (rd_i1r hp) ?_
      (refine G tt_ok pk91 ?_; repeat (refine G1 tt_ok pk91 ?_; intro _))
      refine ke rfl rfl (hg) ?_
      (refine G tt_ok pk91 ?_; repeat (refine G1 tt_ok pk91 ?_; intro _))
      (refine SQ.built tt_ok rfl rfl (fun _ => w_ ?_))
      (refine G tt_ok pk91 ?_; repeat (refine G1 tt_ok pk91 ?_; intro _))
      (refine SQ.appA tt_ok rfl rfl (by repeat (first | exact Rm.h | apply Rm.t)) (by repeat (first | exact .h | exact .q | apply At.t)) (encC (p, g7, g6, true)) rfl rfl rfl (scal_eq rfl) (by omega) (by show (cs.length + 1) * 32 ≤ _; omega) (fun q2 c2 => w_ ?_))
      (refine G tt_ok pk91 ?_; repeat (refine G1 tt_ok pk91 ?_; intro _))
      refine ⟨(cs ++ [(p, g7, g6, true)], q2, c2), by simp; omega, by simp; omega, ⟨by rw [show (cs ++ [(p, g7, g6, true)]).length = cs.length + 1 by simp, ← hwr]; rfl, rfl, rfl, by simp only; rw [List.length_append]; rfl, rfl, rfl, trivial⟩, ?_⟩
      simp only
      rw [List.length_append, show [(p, g7, g6, true)].length = 1 from rfl, flat_snoc]
      exact pk_
    · rw [decide_eq_false (show ¬ (cs.length : Int) < (rd.length : Int) by omega)]
      (refine G tt_ok pk91 ?_; repeat (refine G1 tt_ok pk91 ?_; intro _))
      refine CW.exit ?_
      (refine G tt_ok pk91 ?_; repeat (refine G1 tt_ok pk91 ?_; intro _))
      (refine ka rfl rfl (hwait) ?_; rintro _ _ ⟨ids, wq, wc, rfl, rfl, hil, hids, hz⟩; refine w_ ?_)
      (refine G tt_ok pk91 ?_; repeat (refine G1 tt_ok pk91 ?_; intro _))
      have hfin : rd = [] ∧ (∀ w ∈ X.ws, w.l = []) → cs = [] ∧ ids = [] := fun h => ⟨by
        have h1 := h.1
        subst h1
        exact List.eq_nil_of_length_eq_zero (by simpa using hcl), hz h.2⟩
      have hcl2 : cs.length ≤ 400 := by omega
      refine CW.loop (α := Nat × List Cd × Option Addr × Nat) (fun y => y.1 ≤ ids.length ∧ y.2.1.length ≤ 400 + y.1 ∧ (rd = [] ∧ (∀ w ∈ X.ws, w.l = []) → y.2.1 = [])) (fun y => [(52, .int .i64 y.1), (51, .int .i64 ids.length), (50, .slice wq ids.length wc), (5, .slice y.2.2.1 y.2.1.length y.2.2.2), (0, .pointer (some ⟨r, 0, none⟩)), (1, .int .i64 k)])
        (fun y => [own 34 4 (.slice y.2.2.1 y.2.1.length y.2.2.2) y.2.1.length (y.2.1.flatMap encC), rowA wq ids.length (ids.flatMap i1C)] ++ rgA r X) (fun y => ids.length - y.1) (0, cs, q1, c1) ⟨by simp, by simp only; omega, fun h => (hfin h).1⟩ ⟨rfl, rfl, rfl, rfl, rfl, rfl, trivial⟩ pk_ ?_
      rintro ⟨i, ds, q2, c2⟩ ⟨hi, hdl, hdz⟩
      simp only at hi hdl hdz ⊢
      rw [rg_of]
      (refine G tt_ok pk91 ?_; repeat (refine G1 tt_ok pk91 ?_; intro _))
      by_cases hlt2 : i < ids.length
      · rw [decide_eq_true (show (i : Int) < (ids.length : Int) by omega)]
        obtain ⟨id, hid⟩ : ∃ id, ids[i]? = some id := ⟨_, List.getElem?_eq_getElem hlt2⟩
        obtain ⟨j, hj, hje⟩ := hids id (List.mem_of_getElem? hid)
        obtain ⟨b, hb⟩ : ∃ b, X.bs[j]? = some b := ⟨_, List.getElem?_eq_getElem (by rw [ok.bs]; exact hj)⟩
        have hjl : j < X.bs.length := by rw [ok.bs]; exact hj
        have hb8 := ok.by_ b (List.mem_of_getElem? hb)
        have hwr : IntKind.i64.wrap ((i : Int) + 1) = ((i + 1 : Nat) : Int) := by rw [wrap_id (by omega) (by omega)]; simp
        have hnz : ¬ (rd = [] ∧ ∀ w ∈ X.ws, w.l = []) := fun h => by
          have := (hfin h).2
          rw [this] at hlt2; simp at hlt2
        (refine G tt_ok pk91 ?_; repeat (refine G1 tt_ok pk91 ?_; intro _))
        refine ir_ tt_ok rfl rfl (i) (rfl) rfl ?_ (hlt := hlt2)
        (refine G tt_ok pk91 ?_; repeat (refine G1 tt_ok pk91 ?_; intro _))
        refine lr_ tt_ok rfl rfl (rd_i1r hid) ?_
        (refine G tt_ok pk91 ?_; repeat (refine G1 tt_ok pk91 ?_; intro _))
        rw [show IntKind.i64.wrap (id - 8192) = (j : Int) by rw [wrap_id (by omega) (by omega)]; omega]
        refine ir_ tt_ok rfl rfl (j) (rfl) rfl ?_ (hlt := hjl)
        (refine G tt_ok pk91 ?_; repeat (refine G1 tt_ok pk91 ?_; intro _))
        refine lr_ tt_ok rfl rfl (by_rdX hb) ?_
        (refine G tt_ok pk91 ?_; repeat (refine G1 tt_ok pk91 ?_; intro _))
        refine ir_ tt_ok rfl rfl (k.toNat) (hk) rfl ?_ (hlt := honl)
        (refine G tt_ok pk91 ?_; repeat (refine G1 tt_ok pk91 ?_; intro _))
        refine lr_ tt_ok rfl rfl (rd_bo hon) ?_
        (refine G tt_ok pk91 ?_; repeat (refine G1 tt_ok pk91 ?_; intro _))
        cases hon2 : on with
        | false =>
          (refine G tt_ok pk91 ?_; repeat (refine G1 tt_ok pk91 ?_; intro _))
          exact ⟨(i + 1, ds, q2, c2), ⟨by simp only; omega, by simp only; omega, hdz⟩, by simp only; omega, ⟨by rw [← hwr]; rfl, rfl, rfl, rfl, rfl, rfl, trivial⟩, pk_⟩
        | true =>
          (refine G tt_ok pk91 ?_; repeat (refine G1 tt_ok pk91 ?_; intro _))
          refine SQ.idx tt_ok rfl rfl 1 rfl (by decide) (o' := 1) rfl ?_
          (refine G tt_ok pk91 ?_; repeat (refine G1 tt_ok pk91 ?_; intro _))
          cases ho1 : X.E.o1 with
          | false =>
            (refine G tt_ok pk91 ?_; repeat (refine G1 tt_ok pk91 ?_; intro _))
            exact ⟨(i + 1, ds, q2, c2), ⟨by simp only; omega, by simp only; omega, hdz⟩, by simp only; omega, ⟨by rw [← hwr]; rfl, rfl, rfl, rfl, rfl, rfl, trivial⟩, pk_⟩
          | true =>
            (refine G tt_ok pk91 ?_; repeat (refine G1 tt_ok pk91 ?_; intro _))
            refine ir_ tt_ok rfl rfl (k.toNat) (hk) rfl ?_ (hlt := hxl)
            (refine G tt_ok pk91 ?_; repeat (refine G1 tt_ok pk91 ?_; intro _))
            refine lr_ tt_ok rfl rfl (rd_slp hxx) ?_
            (refine G tt_ok pk91 ?_; repeat (refine G1 tt_ok pk91 ?_; intro _))
            cases hsl : x.sl with
            | true =>
              (refine G tt_ok pk91 ?_; repeat (refine G1 tt_ok pk91 ?_; intro _))
              exact ⟨(i + 1, ds, q2, c2), ⟨by simp only; omega, by simp only; omega, hdz⟩, by simp only; omega, ⟨by rw [← hwr]; rfl, rfl, rfl, rfl, rfl, rfl, trivial⟩, pk_⟩
            | false =>
              (refine G tt_ok pk91 ?_; repeat (refine G1 tt_ok pk91 ?_; intro _))
              generalize hq : ((IntKind.i64.wrap (b : Int)).tmod 2 == 1) = qb
              cases qb with
              | false =>
                (refine G tt_ok pk91 ?_; repeat (refine G1 tt_ok pk91 ?_; intro _))
                exact ⟨(i + 1, ds, q2, c2), ⟨by simp only; omega, by simp only; omega, hdz⟩, by simp only; omega, ⟨by rw [← hwr]; rfl, rfl, rfl, rfl, rfl, rfl, trivial⟩, pk_⟩
              | true =>
                (refine G tt_ok pk91 ?_; repeat (refine G1 tt_ok pk91 ?_; intro _))
                (refine ka rfl rfl (rreal157 β _) ?_; rintro _ _ ⟨rn, rfl, rfl, _⟩; refine w_ ?_)
                (refine G tt_ok pk91 ?_; repeat (refine G1 tt_ok pk91 ?_; intro _))
                (refine SQ.built tt_ok rfl rfl (fun _ => w_ ?_))
                (refine G tt_ok pk91 ?_; repeat (refine G1 tt_ok pk91 ?_; intro _))
                (refine SQ.appA tt_ok rfl rfl (by repeat (first | exact Rm.h | apply Rm.t)) (by repeat (first | exact .h | exact .q | apply At.t)) (encC (id, rn, 1, true)) rfl rfl rfl (scal_eq rfl) (by omega) (by show (ds.length + 1) * 32 ≤ _; omega) (fun q3 c3 => w_ ?_))
                (refine G tt_ok pk91 ?_; repeat (refine G1 tt_ok pk91 ?_; intro _))
                refine ⟨(i + 1, ds ++ [(id, rn, 1, true)], q3, c3), ⟨by simp only; omega, by simp; omega, fun h => absurd h hnz⟩, by simp only; omega, ⟨by rw [← hwr]; rfl, rfl, rfl, by simp only; rw [List.length_append]; rfl, rfl, rfl, trivial⟩, ?_⟩
                simp only
                rw [List.length_append, show [(id, rn, (1 : Int), true)].length = 1 from rfl, flat_snoc]
                exact pk_
      · rw [decide_eq_false (show ¬ (i : Int) < (ids.length : Int) by omega)]
        (refine G tt_ok pk91 ?_; repeat (refine G1 tt_ok pk91 ?_; intro _))
        refine CW.exit ?_
        (refine G tt_ok pk91 ?_; repeat (refine G1 tt_ok pk91 ?_; intro _))
        refine CW.ret (fin_ret rfl (A := rowA q2 ds.length (ds.flatMap encC) :: rgA r X) ?_ ⟨ds, q2, c2, rfl, rfl, by omega, hdz⟩)
        refine Ent.trans (M := [own 34 4 (.slice q2 ds.length c2) ds.length (ds.flatMap encC)] ++ rgA r X) (by rw [rg_of]; exact pk_) (Ent.append own_row (Ent.refl _))
@[reducible] def pk92 : List (Nat × Plan) := [(8, [(0, 0, []), (1, 0, []), (2, 0, []), (3, 0, []), (4, 0, []), (5, 0, []), (6, 0, []), (7, 0, []), (8, 0, []), (9, 0, []), (10, 0, []), (11, 0, []), (12, 0, []), (13, 0, []), (14, 0, []), (15, 0, []), (16, 0, []), (17, 0, []), (18, 0, []), (19, 0, []), (20, 1, [4, 9, 14, 19])])]
theorem rd_c1 {l : List Cd} {k : Nat} {x : Cd} (h : l[k]? = some x) (X : List Value) : rdv ti3 (l.flatMap encC ++ X) (bif Nat.beq (0 + k * 4) 0 then 1 else 0 + k * 4 + 1) = some (.int .i64 x.2.1) :=
  rd_partR (enc := encC) (sz := 4) (fun _ => rfl) h 1 (i := ti3) rfl (by decide) (by rw [off_add]; omega) (by decide) X
theorem rd_c0 {l : List Cd} {k : Nat} {x : Cd} (h : l[k]? = some x) (X : List Value) : rdv ti3 (l.flatMap encC ++ X) (0 + k * 4) = some (.int .i64 x.1) :=
  rd_partR (enc := encC) (sz := 4) (fun _ => rfl) h 0 (i := ti3) rfl (by decide) (by omega) (by decide) X
set_option maxHeartbeats 16000000 in
theorem rorder92 (β : Base) (r : Nat) {n l : Nat} {X : RG} (ok : OkR n l X) (k : Int) : Tri Tryz.prog β 92 [.pointer (some ⟨r, 0, none⟩), .int .i64 k] (rgA r X) (fun v L => ∃ (cs : List Cd) (q : Option Addr) (c : Nat), v = .slice q cs.length c ∧ L = rowA q cs.length (cs.flatMap encC) :: rgA r X ∧ cs.length ≤ 1000 ∧ (X.E.readyV k = [] ∧ (∀ w ∈ X.ws, w.l = []) → cs = [])) := by
  have hcands := rcands91 β r ok k
  generalize rgA r X = RA at hcands ⊢
  refine Tri.intro tt_ok Tryz.func92 rfl rfl Tryz.ntmps92 rfl fun F => ?_
  refine G tt_ok pk92 ?_
  refine SQ.ent (RA ++ []) (by rw [List.append_nil]; exact Ent.refl _) ?_
  refine SQ.call rfl rfl hcands _ (sel_front RA) ?_
  rintro _ _ ⟨left0, q0, c0, rfl, rfl, hl0, hz⟩
  refine w_ ?_
  refine G tt_ok pk92 ?_
  refine CW.ent (L' := [rowA q0 left0.length (left0.flatMap encC), own 34 4 (.slice none 0 0) 0 []] ++ RA) ?_ ?_
  · refine Ent.trans (own_nil 34 4) ?_
    rw [List.append_nil]
    exact Ent.append (L := [_, _]) (L' := [_, _]) (Ent.perm (List.Perm.swap _ _ _)) (Ent.refl RA)
  refine CW.loop (α := (List Cd × Option Addr × Nat) × (List Cd × Option Addr × Nat)) (fun y => y.1.1.length + y.2.1.length ≤ 1000 ∧ (X.E.readyV k = [] ∧ (∀ w ∈ X.ws, w.l = []) → y.1.1 = [] ∧ y.2.1 = [])) (fun y => [(6, .slice y.2.2.1 y.2.1.length y.2.2.2), (5, .slice y.1.2.1 y.1.1.length y.1.2.2)])
    (fun y => [rowA y.1.2.1 y.1.1.length (y.1.1.flatMap encC), own 34 4 (.slice y.2.2.1 y.2.1.length y.2.2.2) y.2.1.length (y.2.1.flatMap encC)] ++ RA) (fun y => y.1.1.length) ((left0, q0, c0), ([], none, 0)) ⟨by simp only [List.length_nil]; omega, fun h => ⟨hz h, rfl⟩⟩ ⟨rfl, rfl, trivial⟩ (Ent.refl _) ?_
  rintro ⟨⟨left, ql, cl⟩, ⟨out, qo, co⟩⟩ ⟨hlen, hzz⟩
  simp only at hlen hzz ⊢
  refine G tt_ok pk92 ?_
  by_cases h0 : left.length = 0
  · rw [decide_eq_false (show ¬ ((left.length : Nat) : Int) > 0 by omega)]
    refine G tt_ok pk92 ?_
    refine CW.exit ?_
    refine G tt_ok pk92 ?_
    refine CW.ret (fin_ret rfl (A := rowA qo out.length (out.flatMap encC) :: RA) ?_ ⟨out, qo, co, rfl, rfl, by omega, fun h => (hzz h).2⟩)
    exact Ent.append (L := [_, _]) (L' := [rowA qo out.length (out.flatMap encC)]) ((Ent.sel (is := [1]) rfl).trans own_row) (Ent.refl RA)
  · rw [decide_eq_true (show ((left.length : Nat) : Int) > 0 by omega)]
    have hn0 : 0 < left.length := by omega
    have hnz : ¬ (X.E.readyV k = [] ∧ ∀ w ∈ X.ws, w.l = []) := fun h => h0 (by rw [(hzz h).1]; rfl)
    refine G tt_ok pk92 ?_
    refine CW.loop (α := Nat × Nat) (fun x => 1 ≤ x.1 ∧ x.1 ≤ left.length ∧ x.2 < left.length) (fun x => [(8, .int .i64 x.1), (7, .int .i64 x.2), (6, .slice qo out.length co), (5, .slice ql left.length cl)])
      (fun x => [rowA ql left.length (left.flatMap encC), own 34 4 (.slice qo out.length co) out.length (out.flatMap encC)] ++ RA) (fun x => left.length - x.1) (1, 0) ⟨by decide, by simp only; omega, by simp only; omega⟩ ⟨rfl, rfl, rfl, rfl, trivial⟩ (Ent.refl _) ?_
    rintro ⟨i, b⟩ ⟨hi1, hi, hb⟩
    simp only at hi1 hi hb ⊢
    obtain ⟨cb, hcb⟩ : ∃ x, left[b]? = some x := ⟨_, List.getElem?_eq_getElem hb⟩
    refine G tt_ok pk92 ?_
    by_cases hlt : i < left.length
    · rw [decide_eq_true (show (i : Int) < ((left.length : Nat) : Int) by omega)]
      obtain ⟨ci, hci⟩ : ∃ x, left[i]? = some x := ⟨_, List.getElem?_eq_getElem hlt⟩
      have hwr : IntKind.i64.wrap ((i : Int) + 1) = ((i + 1 : Nat) : Int) := by rw [wrap_id (by omega) (by omega)]; simp
      have hbf := refBefore87 β ci.2.1 ci.1 cb.2.1 cb.1
      refine G tt_ok pk92 ?_
      refine ir_ tt_ok rfl rfl (i) (rfl) rfl ?_ (hlt := hlt)
      refine G tt_ok pk92 ?_
      refine lr_ tt_ok rfl rfl (rd_c1 hci) ?_ (hn := hn0)
      refine G tt_ok pk92 ?_
      refine ir_ tt_ok rfl rfl (i) (rfl) rfl ?_ (hlt := hlt)
      refine G tt_ok pk92 ?_
      refine lr_ tt_ok rfl rfl (rd_c0 hci) ?_ (hn := hn0)
      refine G tt_ok pk92 ?_
      refine ir_ tt_ok rfl rfl (b) (rfl) rfl ?_ (hlt := hb)
      refine G tt_ok pk92 ?_
      refine lr_ tt_ok rfl rfl (rd_c1 hcb) ?_ (hn := hn0)
      refine G tt_ok pk92 ?_
      refine ir_ tt_ok rfl rfl (b) (rfl) rfl ?_ (hlt := hb)
      refine G tt_ok pk92 ?_
      refine lr_ tt_ok rfl rfl (rd_c0 hcb) ?_ (hn := hn0)
      refine G tt_ok pk92 ?_
      (refine ka rfl rfl (hbf) ?_; rintro _ _ ⟨rfl, rfl⟩; refine ⟨(by repeat (first | exact trivial | refine ⟨trivial, ?_⟩ | refine ⟨rr_ (rd_c1 hci), ?_⟩ | refine ⟨rr_ (rd_c0 hci), ?_⟩ | refine ⟨rr_ (rd_c1 hcb), ?_⟩ | refine ⟨rr_ (rd_c0 hcb), ?_⟩ | refine ⟨wk (by repeat (first | exact .h | exact .q | apply At.t)) (by rfl), ?_⟩)), ?_⟩)
      refine G tt_ok pk92 ?_
      generalize beforeV ci.2.1 ci.1 cb.2.1 cb.1 = bv
      cases bv with
      | true =>
        refine G tt_ok pk92 ?_
        exact ⟨(i + 1, i), ⟨by simp only; omega, by simp only; omega, hlt⟩, by simp only; omega, ⟨by rw [← hwr]; rfl, rfl, rfl, rfl, trivial⟩, Ent.refl _⟩
      | false =>
        refine G tt_ok pk92 ?_
        exact ⟨(i + 1, b), ⟨by simp only; omega, by simp only; omega, hb⟩, by simp only; omega, ⟨by rw [← hwr]; rfl, rfl, rfl, rfl, trivial⟩, Ent.refl _⟩
    · rw [decide_eq_false (show ¬ (i : Int) < ((left.length : Nat) : Int) by omega)]
      refine G tt_ok pk92 ?_
      refine CW.exit ?_
      refine G tt_ok pk92 ?_
      refine ir_ tt_ok rfl rfl (b) (rfl) rfl ?_ (hlt := hb)
      refine G tt_ok pk92 ?_
      refine lr_ tt_ok rfl rfl (rd_cd hcb) ?_ (hn := hn0)
      refine G tt_ok pk92 ?_
      (refine SQ.built tt_ok rfl rfl (fun _ => w_ ?_))
      refine G tt_ok pk92 ?_
      (refine SQ.appA tt_ok rfl rfl (by repeat (first | exact Rm.h | apply Rm.t)) (by repeat (first | exact .h | exact .q | apply At.t)) (encC cb) rfl rfl rfl (scal_eq rfl) (by omega) (by show (out.length + 1) * 32 ≤ _; omega) (fun q2 c2 => w_ ?_))
      refine G tt_ok pk92 ?_
      refine CW.ent (L' := [rowA ql left.length (left.flatMap encC), own 34 4 (.slice q2 (out ++ [cb]).length c2) (out ++ [cb]).length ((out ++ [cb]).flatMap encC), own 34 4 (.slice none 0 0) 0 []] ++ RA) ?_ ?_
      · refine Ent.trans (own_nil 34 4) ?_
        rw [List.length_append, show [cb].length = 1 from rfl, flat_snoc]
        exact Ent.append (L := [_, _, _, _]) (L' := [_, _, _]) (Ent.sel (is := [3, 1, 0]) rfl) (Ent.refl RA)
      refine CW.loop (α := Nat × List Cd × Option Addr × Nat) (fun x => x.1 ≤ left.length ∧ x.2.1.length + (if b < x.1 then 1 else 0) = x.1) (fun x => [(10, .int .i64 x.1), (9, .slice x.2.2.1 x.2.1.length x.2.2.2), (7, .int .i64 b), (6, .slice q2 (out ++ [cb]).length c2), (5, .slice ql left.length cl)])
        (fun x => [rowA ql left.length (left.flatMap encC), own 34 4 (.slice q2 (out ++ [cb]).length c2) (out ++ [cb]).length ((out ++ [cb]).flatMap encC), own 34 4 (.slice x.2.2.1 x.2.1.length x.2.2.2) x.2.1.length (x.2.1.flatMap encC)] ++ RA) (fun x => left.length - x.1) (0, [], none, 0) ⟨by simp only; omega, by simp⟩ ⟨rfl, rfl, rfl, by simp only [List.length_append]; rfl, rfl, trivial⟩ (Ent.refl _) ?_
      rintro ⟨j, ds, q3, c3⟩ ⟨hj, hds⟩
      simp only at hj hds ⊢
      refine G tt_ok pk92 ?_
      by_cases hjl : j < left.length
      · rw [decide_eq_true (show (j : Int) < ((left.length : Nat) : Int) by omega)]
        obtain ⟨cj, hcj⟩ : ∃ x, left[j]? = some x := ⟨_, List.getElem?_eq_getElem hjl⟩
        have hwr : IntKind.i64.wrap ((j : Int) + 1) = ((j + 1 : Nat) : Int) := by rw [wrap_id (by omega) (by omega)]; simp
        refine G tt_ok pk92 ?_
        by_cases hjb : j = b
        · subst hjb
          rw [show (((j : Nat) : Int) != ((j : Nat) : Int)) = false by simp]
          refine G tt_ok pk92 ?_
          refine ⟨(j + 1, ds, q3, c3), ⟨by simp only; omega, ?_⟩, by simp only; omega, ⟨by rw [← hwr]; rfl, rfl, rfl, rfl, rfl, trivial⟩, Ent.refl _⟩
          simp only [Nat.lt_irrefl, if_false, Nat.lt_succ_self, if_true] at hds ⊢
          omega
        · rw [show (((j : Nat) : Int) != ((b : Nat) : Int)) = true by simp; omega]
          refine G tt_ok pk92 ?_
          refine ir_ tt_ok rfl rfl (j) (rfl) rfl ?_ (hlt := hjl)
          refine G tt_ok pk92 ?_
          refine lr_ tt_ok rfl rfl (rd_cd hcj) ?_ (hn := hn0)
          refine G tt_ok pk92 ?_
          (refine SQ.built tt_ok rfl rfl (fun _ => w_ ?_))
          refine G tt_ok pk92 ?_
          (refine SQ.appA tt_ok rfl rfl (by repeat (first | exact Rm.h | apply Rm.t)) (by repeat (first | exact .h | exact .q | apply At.t)) (encC cj) rfl rfl rfl (scal_eq rfl) (by omega) (by show (ds.length + 1) * 32 ≤ _; omega) (fun q4 c4 => w_ ?_))
          refine G tt_ok pk92 ?_
          refine ⟨(j + 1, ds ++ [cj], q4, c4), ⟨by simp only; omega, ?_⟩, by simp only; omega, ⟨by rw [← hwr]; rfl, by simp only; rw [show (ds ++ [cj]).length = ds.length + 1 by simp]; rfl, rfl, rfl, rfl, trivial⟩, ?_⟩
          · simp only [List.length_append, List.length_singleton]
            by_cases hbj : b < j
            · rw [if_pos hbj] at hds; rw [if_pos (by omega)]; omega
            · rw [if_neg hbj] at hds; rw [if_neg (by omega)]; omega
          · simp only
            rw [show (ds ++ [cj]).length = ds.length + 1 by simp, flat_snoc (l := ds)]
            exact Ent.append (L := [_, _, _, _]) (L' := [_, _, _]) (Ent.sel (is := [2, 2, 0]) rfl) (Ent.refl RA)
      · rw [decide_eq_false (show ¬ (j : Int) < ((left.length : Nat) : Int) by omega)]
        refine G tt_ok pk92 ?_
        refine CW.exit ?_
        refine G tt_ok pk92 ?_
        have hjj : j = left.length := by omega
        rw [if_pos (by omega)] at hds
        refine ⟨((ds, q3, c3), (out ++ [cb], q2, c2)), ⟨by simp only [List.length_append, List.length_singleton]; omega, fun h => absurd h hnz⟩, by simp only; omega, ⟨rfl, rfl, trivial⟩, ?_⟩
        exact Ent.append (L := [_, _, _]) (L' := [_, _]) ((Ent.sel (is := [2, 1]) rfl).trans (Ent.append (L := [_]) own_row (Ent.refl [_]))) (Ent.refl RA)
@[reducible] def pk93 : List (Nat × Plan) := []
set_option maxHeartbeats 4000000 in
theorem rtop93 (β : Base) (r : Nat) {n l : Nat} {X : RG} (ok : OkR n l X) (k : Int) : Tri Tryz.prog β 93 [.pointer (some ⟨r, 0, none⟩), .int .i64 k] (rgA r X) (fun v L => ∃ c : Cd, v = .agg #[.int .i64 c.1, .int .i64 c.2.1, .int .i64 c.2.2.1, .bool c.2.2.2] ∧ L = rgA r X ∧ (X.E.readyV k = [] ∧ (∀ w ∈ X.ws, w.l = []) → c = (0, 0, 0, false))) := by
  have hor := rorder92 β r ok k
  generalize rgA r X = RA at hor ⊢
  refine Tri.intro tt_ok Tryz.func93 rfl rfl Tryz.ntmps93 rfl fun F => ?_
  (refine G tt_ok pk93 ?_; repeat (refine G1 tt_ok pk93 ?_; intro _))
  refine SQ.ent (RA ++ [pt _ [.int .i64 0, .int .i64 0, .int .i64 0, .bool false]]) (Ent.perm (List.perm_append_comm (l₁ := [_]))) ?_
  refine SQ.call rfl rfl hor _ (sel_front RA) ?_
  rintro _ _ ⟨out, q, c, rfl, rfl, hl, hz⟩
  refine w_ ?_
  refine SQ.ent ([rowA q out.length (out.flatMap encC), pt _ [.int .i64 0, .int .i64 0, .int .i64 0, .bool false]] ++ RA) (Ent.perm (List.Perm.cons _ (List.perm_append_comm (l₂ := [_])))) ?_
  (refine G tt_ok pk93 ?_; repeat (refine G1 tt_ok pk93 ?_; intro _))
  match out with
  | [] =>
    rw [show (((([] : List Cd).length : Nat) : Int) == 0) = true from rfl]
    (refine G tt_ok pk93 ?_; repeat (refine G1 tt_ok pk93 ?_; intro _))
    exact CW.ret (fin_cells [_] ⟨cl_, trivial⟩ (A := RA) (Ent.append (L := [_, _]) (L' := []) (Ent.dropAll _) (Ent.refl RA)) ⟨(0, 0, 0, false), rfl, rfl, fun _ => rfl⟩)
  | x :: o =>
    rw [show ((((x :: o).length : Nat) : Int) == 0) = false by simp; omega]
    (refine G tt_ok pk93 ?_; repeat (refine G1 tt_ok pk93 ?_; intro _))
    refine ir_ tt_ok rfl rfl (0) (rfl) rfl ?_ (hlt := by simp)
    (refine G tt_ok pk93 ?_; repeat (refine G1 tt_ok pk93 ?_; intro _))
    refine lr_ tt_ok rfl rfl (rd_cd (l := x :: o) (k := 0) rfl) ?_ (hn := by simp)
    (refine G tt_ok pk93 ?_; repeat (refine G1 tt_ok pk93 ?_; intro _))
    exact CW.ret (fin_cells [_] ⟨cl_, trivial⟩ (A := RA) (Ent.append (L := [_, _]) (L' := []) (Ent.dropAll _) (Ent.refl RA)) ⟨x, rfl, rfl, fun h => absurd (hz h) (by simp)⟩)
theorem OkR.setE {n l : Nat} {X : RG} (ok : OkR n l X) {E : DS} (h : OkD X.R E) (hl : E.xs.length = X.E.xs.length) : OkR n l { X with E := E } :=
  ⟨h, by rw [← ok.xs]; exact hl, ok.fs, ok.ws, ok.os, ok.ps, ok.es, ok.bs, ok.n4, ok.l64, ok.by_, ok.wo⟩
theorem OkR.doV {n l : Nat} {X : RG} (ok : OkR n l X) (k id a : Int) : OkR n l { X with E := (X.E.doV k id a).1 } := ok.setE (ok.ok.doV k id a) (doV_len _ _ _ _)
end Go.Proofs.YtebpodnbalfomaaGreatDoor.Sl
namespace Go.Proofs.YtebpodnbalfomaaGreatDoor.Sl
open Go Go.RowKit Go.Proofs
set_option linter.unusedVariables false
set_option linter.unusedSimpArgs false
attribute [local irreducible] CW Tri OW
set_option maxRecDepth 10000
theorem rfC_len (f : RF) : (rfC f).length = 70 := by simp [lds_len]
theorem rd_rf {fs : List RF} {k : Nat} {f : RF} (h : fs[k]? = some f) (Y : List Value) : rdv ti172 (fs.flatMap rfC ++ Y) (0 + k * 70) = some (rfV f) :=
  rd_partR (enc := rfC) (sz := 70) rfC_len h 0 (i := ti172) rfl (by decide) (by omega) (by decide) Y
theorem OkR.setF {n l : Nat} {X : RG} (ok : OkR n l X) (k : Nat) (f : RF) : OkR n l { X with fs := X.fs.set k f } :=
  ⟨ok.ok, ok.xs, by simp only [List.length_set]; exact ok.fs, ok.ws, ok.os, ok.ps, ok.es, ok.bs, ok.n4, ok.l64, ok.by_, ok.wo⟩
end Go.Proofs.YtebpodnbalfomaaGreatDoor.Sl
namespace Go.Proofs.YtebpodnbalfomaaGreatDoor.Sl
open Go Go.RowKit Go.Proofs
set_option linter.unusedVariables false
set_option linter.unusedSimpArgs false
attribute [local irreducible] CW Tri OW
attribute [local irreducible] lds
set_option maxRecDepth 10000
theorem redist_8 (off : Int) : (redistV off 8).1.2.2 ≤ 16384 := by
  unfold redistV findV
  split
  · simp
  · split
    · simp
    · split
      · simp
      · split
        · rename_i h1 h2 h3 x r hr
          unfold outV
          split
          · have := List.all_eq_true.1 redistRw_all r (List.mem_of_find?_eq_some hr)
            simp only [Bool.and_eq_true, Bool.or_eq_true, decide_eq_true_eq, beq_iff_eq] at this
            obtain ⟨⟨⟨⟨⟨a1, a2⟩, a3⟩, a4⟩, a5⟩, a6⟩ := this
            simp only [plV]
            rw [a6, Int.tdiv_one]
            rcases a5 with ((g | g) | g) | g <;> rw [g] <;> decide
          · simp
        · simp
theorem redist_w (off : Int) (hi : Bool) : (redistV off (wideV hi)).1.2.2 ≤ 16384 := by
  cases hi
  · exact redist_le off
  · exact redist_8 off
end Go.Proofs.YtebpodnbalfomaaGreatDoor.Sl
namespace Go.Proofs.YtebpodnbalfomaaGreatDoor.Sl
open Go Go.RowKit Go.Proofs
set_option linter.unusedVariables false
set_option linter.unusedSimpArgs false
attribute [local irreducible] CW Tri OW
set_option maxRecDepth 10000
def w0 : WL := ⟨none, 0, []⟩
theorem pk_w0 (L : List Atom) : ∀ n, Ent L (pkA wlA (List.replicate n w0) :: L)
  | 0 => pk_nil
  | n + 1 => by
    have h : Ent (pkA wlA (List.replicate n w0) :: L) (rowA none 0 [] :: pkA wlA (List.replicate n w0) :: L) := row_nil
    have h2 : Ent ([rowA none 0 []] ++ [pkA wlA (List.replicate n w0)]) [pkA wlA (List.replicate n w0 ++ [w0])] := pk_snoc (f := wlA) (x := w0)
    rw [← List.replicate_succ'] at h2
    exact ((pk_w0 L n).trans h).trans (Ent.append (M := L) h2 (Ent.refl L))
/-- The document's controller, new. -/
structure NewR (X : RG) (n s l : Nat) : Prop where
  d : newD X.E n s
  ro : X.R.os.length = n
  fs : X.fs = List.replicate n rf0
  bs : X.bs = List.replicate l 0
  ws : X.ws = List.replicate n w0
  os : X.os = List.replicate n false
  ps : X.ps = List.replicate n 0
  es : X.es = List.replicate n 0
theorem NewR.ok {X : RG} {n s l : Nat} (h : NewR X n s l) (hn0 : 1 ≤ n) (hn1 : n ≤ 4) (hs : s ≤ 64) (hl : l ≤ 512) : OkR n l X := by
  have hok : OkD X.R X.E := newD_ok h.d hn0 (by omega) hs h.ro
  refine ⟨hok, h.d.2.2.2.1, by rw [h.fs]; simp, by rw [h.ws]; simp, by rw [h.os]; simp, by rw [h.ps]; simp, by rw [h.es]; simp, by rw [h.bs]; simp, hn1, hl, ?_, ?_⟩
  · intro b hb; rw [h.bs] at hb; rw [List.eq_of_mem_replicate hb]; decide
  · intro w hw; rw [h.ws] at hw; rw [List.eq_of_mem_replicate hw]; exact ⟨List.nodup_nil, fun x hx => by cases hx⟩
@[reducible] def lsR (l : List Nat) : Array Bool := ((List.range 17).map fun i => l.contains i || [0, 1, 3, 5, 7, 9, 11].contains i).toArray
@[reducible] def vR (b n : Nat) : Value := .slice (some ⟨b, 0, none⟩) n n
@[reducible] def mR (t : TI) (b n : Nat) : Atom := pt b (madeCells t.zero.cells (n * t.size)).toList
@[reducible] def beR (d n l : Nat) : Env := [(32, .pointer (some ⟨d, 0, none⟩)), (33, .int .i64 n), (35, .int .i64 l), (37, .int .i64 n), (39, .int .i64 n), (41, .int .i64 n), (43, .int .i64 n)]
set_option maxHeartbeats 16000000 in
theorem rnew35 (β : Base) {n s l : Nat} (hn0 : 1 ≤ n) (hn1 : n ≤ 4) (hs1 : s ≤ 64) (hl1 : l ≤ 512) : Tri Tryz.prog β 35 [.int .i64 n, .int .i64 s, .int .i64 l] []
    (fun v L => ∃ r X, v = .tuple #[.pointer (some ⟨r, 0, none⟩), .bool true] ∧ L = rgA r X ∧ NewR X n s l) := by
  refine Tri.intro tt_ok Tryz.func35 rfl rfl Tryz.ntmps35 rfl fun F => ?_
  (refine G tt_ok [] ?_; repeat (refine G1 tt_ok [] ?_; intro _))
  rw [decide_eq_false (show ¬ (n : Int) < 1 by omega)]
  (refine G tt_ok [] ?_; repeat (refine G1 tt_ok [] ?_; intro _))
  rw [decide_eq_false (show ¬ (n : Int) > 4 by omega)]
  (refine G tt_ok [] ?_; repeat (refine G1 tt_ok [] ?_; intro _))
  rw [decide_eq_false (show ¬ (l : Int) < 0 by omega)]
  (refine G tt_ok [] ?_; repeat (refine G1 tt_ok [] ?_; intro _))
  rw [decide_eq_false (show ¬ (l : Int) > 512 by omega)]
  (refine G tt_ok [] ?_; repeat (refine G1 tt_ok [] ?_; intro _))
  (refine ka rfl rfl (refNew12 β (n := n) (s := s) hn0 (by omega) hs1) ?_; rintro _ _ ⟨d, R, rfl, hRo, hD⟩; refine w_ ?_)
  rw [hD ⟨false, false, 0, none, 0, List.replicate s (Br.zeroE.1, (0, false)), none, 0, List.replicate n x0⟩ rfl rfl rfl (by simp) (fun x hx => by rw [List.eq_of_mem_replicate hx]; exact ⟨rfl, rfl⟩)]
  have hnew : newD (⟨false, false, 0, none, 0, List.replicate s (Br.zeroE.1, (0, false)), none, 0, List.replicate n x0⟩ : DS) n s := ⟨rfl, rfl, rfl, by simp, fun x hx => by rw [List.eq_of_mem_replicate hx]; exact ⟨rfl, rfl⟩⟩
  generalize (⟨false, false, 0, none, 0, List.replicate s (Br.zeroE.1, (0, false)), none, 0, List.replicate n x0⟩ : DS) = D at hnew
  (refine G tt_ok [] ?_; repeat (refine G1 tt_ok [] ?_; intro _))
  have hn63 : n ≤ 9223372036854775807 := by omega
  have hl63 : l ≤ 9223372036854775807 := by omega
  have h2a : n * 70 ≤ 16777216 := by omega
  have h2b : 96 * n ≤ 281474976710656 := by omega
  have h4a : l * 1 ≤ 16777216 := by omega
  have h4b : 1 * l ≤ 281474976710656 := by omega
  have h6a : n * 1 ≤ 16777216 := by omega
  have h6b : 24 * n ≤ 281474976710656 := by omega
  have h8a : n * 1 ≤ 16777216 := by omega
  have h8b : 1 * n ≤ 281474976710656 := by omega
  have h10a : n * 1 ≤ 16777216 := by omega
  have h10b : 8 * n ≤ 281474976710656 := by omega
  have h12a : n * 1 ≤ 16777216 := by omega
  have h12b : 8 * n ≤ 281474976710656 := by omega
  generalize hRD : rD d R D = RD
  refine CW.ent (L' := RD) (by rw [List.append_nil]; exact Ent.refl RD) ?_
  refine CW.regionF tt_ok (by kernel_rfl) [0, 1, 3, 5, 7, 9, 11] (by decide +kernel) (fun x : Nat × Nat × Nat × Nat × Nat × Nat × Nat => [(6, .pointer (some ⟨x.2.2.2.2.2.2, 0, none⟩)), (7, .bool true)])
    (fun x => pt x.2.2.2.2.2.2 (rgC d (some ⟨x.1, 0, none⟩) n n (some ⟨x.2.1, 0, none⟩) l l (some ⟨x.2.2.1, 0, none⟩) n n (some ⟨x.2.2.2.1, 0, none⟩) n n (some ⟨x.2.2.2.2.1, 0, none⟩) n n (some ⟨x.2.2.2.2.2.1, 0, none⟩) n n) :: ([pt x.1 (madeCells ti172.zero.cells (n * ti172.size)).toList, pt x.2.1 (madeCells ti5.zero.cells (l * ti5.size)).toList, pt x.2.2.1 (madeCells ti82.zero.cells (n * ti82.size)).toList, pt x.2.2.2.1 (madeCells ti4.zero.cells (n * ti4.size)).toList, pt x.2.2.2.2.1 (madeCells ti44.zero.cells (n * ti44.size)).toList, pt x.2.2.2.2.2.1 (madeCells ti44.zero.cells (n * ti44.size)).toList] ++ RD)) ?_ ?_
  · refine ⟨_, _, rfl, rfl, rfl, rfl, _, _, rfl, rfl, rfl, rfl, _, _, rfl, rfl, rfl, rfl, _, _, rfl, rfl, rfl, rfl, _, _, rfl, rfl, rfl, rfl, _, _, rfl, rfl, rfl, rfl, _, _, rfl, rfl, rfl, rfl, ?_⟩
    show BQ _ _ _ _ _ _ _ 10 (lsR []) _ _
    refine BQ.abs fun B1 hs hz => ?_
    have b2_4_6_8_10_12 : ∀ x : Nat × Nat × Nat × Nat × Nat × Nat, B1 4 (lsR [2, 4, 6, 8, 10, 12]) ([(34, vR x.1 n), (36, vR x.2.1 l), (38, vR x.2.2.1 n), (40, vR x.2.2.2.1 n), (42, vR x.2.2.2.2.1 n), (44, vR x.2.2.2.2.2 n)] ++ beR d n l) ([mR ti172 x.1 n, mR ti5 x.2.1 l, mR ti82 x.2.2.1 n, mR ti4 x.2.2.2.1 n, mR ti44 x.2.2.2.2.1 n, mR ti44 x.2.2.2.2.2 n] ++ RD) := fun x => by
      refine hs _ _ _ _ [13] (by decide +kernel) ⟨⟨_, rfl, rfl, ?_⟩, trivial⟩
      refine SQ.pures1 tt_ok rfl ?_
      refine SQ.nil ?_
      refine hs _ _ _ _ [14] (by decide +kernel) ⟨⟨_, rfl, rfl, ?_⟩, trivial⟩
      refine SQ.new _ _ rfl rfl fun p => ?_
      refine SQ.nil ?_
      refine hs _ _ _ _ [15] (by decide +kernel) ⟨⟨_, rfl, rfl, ?_⟩, trivial⟩
      refine SQ.pures1 tt_ok rfl ?_
      refine SQ.nil ?_
      refine hs _ _ _ _ [16] (by decide +kernel) ⟨⟨_, rfl, rfl, ?_⟩, trivial⟩
      refine SQ.pures1 tt_ok rfl ?_
      refine SQ.nil ?_
      exact hz _ _ _ ⟨by decide +kernel, (x.1, x.2.1, x.2.2.1, x.2.2.2.1, x.2.2.2.2.1, x.2.2.2.2.2, p), ⟨rfl, rfl, trivial⟩, Ent.refl _⟩
    have b2_4_6_8_10 : ∀ x : Nat × Nat × Nat × Nat × Nat × Nat, B1 5 (lsR [2, 4, 6, 8, 10]) ([(34, vR x.1 n), (36, vR x.2.1 l), (38, vR x.2.2.1 n), (40, vR x.2.2.2.1 n), (42, vR x.2.2.2.2.1 n)] ++ beR d n l) ([mR ti172 x.1 n, mR ti5 x.2.1 l, mR ti82 x.2.2.1 n, mR ti4 x.2.2.2.1 n, mR ti44 x.2.2.2.2.1 n] ++ RD) := fun x => by
      refine hs _ _ _ _ [12] (by decide +kernel) ⟨⟨_, rfl, rfl, ?_⟩, trivial⟩
      · exact SQ.make tt_ok rfl rfl n rfl rfl h12a h12b hn63 fun g => ⟨trivial, dp_ (b2_4_6_8_10_12 (x.1, x.2.1, x.2.2.1, x.2.2.2.1, x.2.2.2.2.1, g)) (hA := mv_ 5 rfl)⟩
    have b2_4_6_8_12 : ∀ x : Nat × Nat × Nat × Nat × Nat × Nat, B1 5 (lsR [2, 4, 6, 8, 12]) ([(34, vR x.1 n), (36, vR x.2.1 l), (38, vR x.2.2.1 n), (40, vR x.2.2.2.1 n), (44, vR x.2.2.2.2.2 n)] ++ beR d n l) ([mR ti172 x.1 n, mR ti5 x.2.1 l, mR ti82 x.2.2.1 n, mR ti4 x.2.2.2.1 n, mR ti44 x.2.2.2.2.2 n] ++ RD) := fun x => by
      refine hs _ _ _ _ [10] (by decide +kernel) ⟨⟨_, rfl, rfl, ?_⟩, trivial⟩
      · exact SQ.make tt_ok rfl rfl n rfl rfl h10a h10b hn63 fun g => ⟨trivial, dp_ (b2_4_6_8_10_12 (x.1, x.2.1, x.2.2.1, x.2.2.2.1, g, x.2.2.2.2.2)) (hA := mv_ 4 rfl)⟩
    have b2_4_6_10_12 : ∀ x : Nat × Nat × Nat × Nat × Nat × Nat, B1 5 (lsR [2, 4, 6, 10, 12]) ([(34, vR x.1 n), (36, vR x.2.1 l), (38, vR x.2.2.1 n), (42, vR x.2.2.2.2.1 n), (44, vR x.2.2.2.2.2 n)] ++ beR d n l) ([mR ti172 x.1 n, mR ti5 x.2.1 l, mR ti82 x.2.2.1 n, mR ti44 x.2.2.2.2.1 n, mR ti44 x.2.2.2.2.2 n] ++ RD) := fun x => by
      refine hs _ _ _ _ [8] (by decide +kernel) ⟨⟨_, rfl, rfl, ?_⟩, trivial⟩
      · exact SQ.make tt_ok rfl rfl n rfl rfl h8a h8b hn63 fun g => ⟨trivial, dp_ (b2_4_6_8_10_12 (x.1, x.2.1, x.2.2.1, g, x.2.2.2.2)) (hA := mv_ 3 rfl)⟩
    have b2_4_8_10_12 : ∀ x : Nat × Nat × Nat × Nat × Nat × Nat, B1 5 (lsR [2, 4, 8, 10, 12]) ([(34, vR x.1 n), (36, vR x.2.1 l), (40, vR x.2.2.2.1 n), (42, vR x.2.2.2.2.1 n), (44, vR x.2.2.2.2.2 n)] ++ beR d n l) ([mR ti172 x.1 n, mR ti5 x.2.1 l, mR ti4 x.2.2.2.1 n, mR ti44 x.2.2.2.2.1 n, mR ti44 x.2.2.2.2.2 n] ++ RD) := fun x => by
      refine hs _ _ _ _ [6] (by decide +kernel) ⟨⟨_, rfl, rfl, ?_⟩, trivial⟩
      · exact SQ.make tt_ok rfl rfl n rfl rfl h6a h6b hn63 fun g => ⟨trivial, dp_ (b2_4_6_8_10_12 (x.1, x.2.1, g, x.2.2.2)) (hA := mv_ 2 rfl)⟩
    have b2_6_8_10_12 : ∀ x : Nat × Nat × Nat × Nat × Nat × Nat, B1 5 (lsR [2, 6, 8, 10, 12]) ([(34, vR x.1 n), (38, vR x.2.2.1 n), (40, vR x.2.2.2.1 n), (42, vR x.2.2.2.2.1 n), (44, vR x.2.2.2.2.2 n)] ++ beR d n l) ([mR ti172 x.1 n, mR ti82 x.2.2.1 n, mR ti4 x.2.2.2.1 n, mR ti44 x.2.2.2.2.1 n, mR ti44 x.2.2.2.2.2 n] ++ RD) := fun x => by
      refine hs _ _ _ _ [4] (by decide +kernel) ⟨⟨_, rfl, rfl, ?_⟩, trivial⟩
      · exact SQ.make tt_ok rfl rfl l rfl rfl h4a h4b hl63 fun g => ⟨trivial, dp_ (b2_4_6_8_10_12 (x.1, g, x.2.2)) (hA := mv_ 1 rfl)⟩
    have b4_6_8_10_12 : ∀ x : Nat × Nat × Nat × Nat × Nat × Nat, B1 5 (lsR [4, 6, 8, 10, 12]) ([(36, vR x.2.1 l), (38, vR x.2.2.1 n), (40, vR x.2.2.2.1 n), (42, vR x.2.2.2.2.1 n), (44, vR x.2.2.2.2.2 n)] ++ beR d n l) ([mR ti5 x.2.1 l, mR ti82 x.2.2.1 n, mR ti4 x.2.2.2.1 n, mR ti44 x.2.2.2.2.1 n, mR ti44 x.2.2.2.2.2 n] ++ RD) := fun x => by
      refine hs _ _ _ _ [2] (by decide +kernel) ⟨⟨_, rfl, rfl, ?_⟩, trivial⟩
      · exact SQ.make tt_ok rfl rfl n rfl rfl h2a h2b hn63 fun g => ⟨trivial, dp_ (b2_4_6_8_10_12 (g, x.2)) (hA := mv_ 0 rfl)⟩
    have b2_4_6_8 : ∀ x : Nat × Nat × Nat × Nat × Nat × Nat, B1 6 (lsR [2, 4, 6, 8]) ([(34, vR x.1 n), (36, vR x.2.1 l), (38, vR x.2.2.1 n), (40, vR x.2.2.2.1 n)] ++ beR d n l) ([mR ti172 x.1 n, mR ti5 x.2.1 l, mR ti82 x.2.2.1 n, mR ti4 x.2.2.2.1 n] ++ RD) := fun x => by
      refine hs _ _ _ _ [10, 12] (by decide +kernel) ⟨⟨_, rfl, rfl, ?_⟩, ⟨_, rfl, rfl, ?_⟩, trivial⟩
      · exact SQ.make tt_ok rfl rfl n rfl rfl h10a h10b hn63 fun g => ⟨trivial, dp_ (b2_4_6_8_10 (x.1, x.2.1, x.2.2.1, x.2.2.2.1, g, x.2.2.2.2.2)) (hA := mv_ 4 rfl)⟩
      · exact SQ.make tt_ok rfl rfl n rfl rfl h12a h12b hn63 fun g => ⟨trivial, dp_ (b2_4_6_8_12 (x.1, x.2.1, x.2.2.1, x.2.2.2.1, x.2.2.2.2.1, g)) (hA := mv_ 4 rfl)⟩
    have b2_4_6_10 : ∀ x : Nat × Nat × Nat × Nat × Nat × Nat, B1 6 (lsR [2, 4, 6, 10]) ([(34, vR x.1 n), (36, vR x.2.1 l), (38, vR x.2.2.1 n), (42, vR x.2.2.2.2.1 n)] ++ beR d n l) ([mR ti172 x.1 n, mR ti5 x.2.1 l, mR ti82 x.2.2.1 n, mR ti44 x.2.2.2.2.1 n] ++ RD) := fun x => by
      refine hs _ _ _ _ [8, 12] (by decide +kernel) ⟨⟨_, rfl, rfl, ?_⟩, ⟨_, rfl, rfl, ?_⟩, trivial⟩
      · exact SQ.make tt_ok rfl rfl n rfl rfl h8a h8b hn63 fun g => ⟨trivial, dp_ (b2_4_6_8_10 (x.1, x.2.1, x.2.2.1, g, x.2.2.2.2)) (hA := mv_ 3 rfl)⟩
      · exact SQ.make tt_ok rfl rfl n rfl rfl h12a h12b hn63 fun g => ⟨trivial, dp_ (b2_4_6_10_12 (x.1, x.2.1, x.2.2.1, x.2.2.2.1, x.2.2.2.2.1, g)) (hA := mv_ 4 rfl)⟩
    have b2_4_6_12 : ∀ x : Nat × Nat × Nat × Nat × Nat × Nat, B1 6 (lsR [2, 4, 6, 12]) ([(34, vR x.1 n), (36, vR x.2.1 l), (38, vR x.2.2.1 n), (44, vR x.2.2.2.2.2 n)] ++ beR d n l) ([mR ti172 x.1 n, mR ti5 x.2.1 l, mR ti82 x.2.2.1 n, mR ti44 x.2.2.2.2.2 n] ++ RD) := fun x => by
      refine hs _ _ _ _ [8, 10] (by decide +kernel) ⟨⟨_, rfl, rfl, ?_⟩, ⟨_, rfl, rfl, ?_⟩, trivial⟩
      · exact SQ.make tt_ok rfl rfl n rfl rfl h8a h8b hn63 fun g => ⟨trivial, dp_ (b2_4_6_8_12 (x.1, x.2.1, x.2.2.1, g, x.2.2.2.2)) (hA := mv_ 3 rfl)⟩
      · exact SQ.make tt_ok rfl rfl n rfl rfl h10a h10b hn63 fun g => ⟨trivial, dp_ (b2_4_6_10_12 (x.1, x.2.1, x.2.2.1, x.2.2.2.1, g, x.2.2.2.2.2)) (hA := mv_ 3 rfl)⟩
    have b2_4_8_10 : ∀ x : Nat × Nat × Nat × Nat × Nat × Nat, B1 6 (lsR [2, 4, 8, 10]) ([(34, vR x.1 n), (36, vR x.2.1 l), (40, vR x.2.2.2.1 n), (42, vR x.2.2.2.2.1 n)] ++ beR d n l) ([mR ti172 x.1 n, mR ti5 x.2.1 l, mR ti4 x.2.2.2.1 n, mR ti44 x.2.2.2.2.1 n] ++ RD) := fun x => by
      refine hs _ _ _ _ [6, 12] (by decide +kernel) ⟨⟨_, rfl, rfl, ?_⟩, ⟨_, rfl, rfl, ?_⟩, trivial⟩
      · exact SQ.make tt_ok rfl rfl n rfl rfl h6a h6b hn63 fun g => ⟨trivial, dp_ (b2_4_6_8_10 (x.1, x.2.1, g, x.2.2.2)) (hA := mv_ 2 rfl)⟩
      · exact SQ.make tt_ok rfl rfl n rfl rfl h12a h12b hn63 fun g => ⟨trivial, dp_ (b2_4_8_10_12 (x.1, x.2.1, x.2.2.1, x.2.2.2.1, x.2.2.2.2.1, g)) (hA := mv_ 4 rfl)⟩
    have b2_4_8_12 : ∀ x : Nat × Nat × Nat × Nat × Nat × Nat, B1 6 (lsR [2, 4, 8, 12]) ([(34, vR x.1 n), (36, vR x.2.1 l), (40, vR x.2.2.2.1 n), (44, vR x.2.2.2.2.2 n)] ++ beR d n l) ([mR ti172 x.1 n, mR ti5 x.2.1 l, mR ti4 x.2.2.2.1 n, mR ti44 x.2.2.2.2.2 n] ++ RD) := fun x => by
      refine hs _ _ _ _ [6, 10] (by decide +kernel) ⟨⟨_, rfl, rfl, ?_⟩, ⟨_, rfl, rfl, ?_⟩, trivial⟩
      · exact SQ.make tt_ok rfl rfl n rfl rfl h6a h6b hn63 fun g => ⟨trivial, dp_ (b2_4_6_8_12 (x.1, x.2.1, g, x.2.2.2)) (hA := mv_ 2 rfl)⟩
      · exact SQ.make tt_ok rfl rfl n rfl rfl h10a h10b hn63 fun g => ⟨trivial, dp_ (b2_4_8_10_12 (x.1, x.2.1, x.2.2.1, x.2.2.2.1, g, x.2.2.2.2.2)) (hA := mv_ 3 rfl)⟩
    have b2_4_10_12 : ∀ x : Nat × Nat × Nat × Nat × Nat × Nat, B1 6 (lsR [2, 4, 10, 12]) ([(34, vR x.1 n), (36, vR x.2.1 l), (42, vR x.2.2.2.2.1 n), (44, vR x.2.2.2.2.2 n)] ++ beR d n l) ([mR ti172 x.1 n, mR ti5 x.2.1 l, mR ti44 x.2.2.2.2.1 n, mR ti44 x.2.2.2.2.2 n] ++ RD) := fun x => by
      refine hs _ _ _ _ [6, 8] (by decide +kernel) ⟨⟨_, rfl, rfl, ?_⟩, ⟨_, rfl, rfl, ?_⟩, trivial⟩
      · exact SQ.make tt_ok rfl rfl n rfl rfl h6a h6b hn63 fun g => ⟨trivial, dp_ (b2_4_6_10_12 (x.1, x.2.1, g, x.2.2.2)) (hA := mv_ 2 rfl)⟩
      · exact SQ.make tt_ok rfl rfl n rfl rfl h8a h8b hn63 fun g => ⟨trivial, dp_ (b2_4_8_10_12 (x.1, x.2.1, x.2.2.1, g, x.2.2.2.2)) (hA := mv_ 2 rfl)⟩
    have b2_6_8_10 : ∀ x : Nat × Nat × Nat × Nat × Nat × Nat, B1 6 (lsR [2, 6, 8, 10]) ([(34, vR x.1 n), (38, vR x.2.2.1 n), (40, vR x.2.2.2.1 n), (42, vR x.2.2.2.2.1 n)] ++ beR d n l) ([mR ti172 x.1 n, mR ti82 x.2.2.1 n, mR ti4 x.2.2.2.1 n, mR ti44 x.2.2.2.2.1 n] ++ RD) := fun x => by
      refine hs _ _ _ _ [4, 12] (by decide +kernel) ⟨⟨_, rfl, rfl, ?_⟩, ⟨_, rfl, rfl, ?_⟩, trivial⟩
      · exact SQ.make tt_ok rfl rfl l rfl rfl h4a h4b hl63 fun g => ⟨trivial, dp_ (b2_4_6_8_10 (x.1, g, x.2.2)) (hA := mv_ 1 rfl)⟩
      · exact SQ.make tt_ok rfl rfl n rfl rfl h12a h12b hn63 fun g => ⟨trivial, dp_ (b2_6_8_10_12 (x.1, x.2.1, x.2.2.1, x.2.2.2.1, x.2.2.2.2.1, g)) (hA := mv_ 4 rfl)⟩
    have b2_6_8_12 : ∀ x : Nat × Nat × Nat × Nat × Nat × Nat, B1 6 (lsR [2, 6, 8, 12]) ([(34, vR x.1 n), (38, vR x.2.2.1 n), (40, vR x.2.2.2.1 n), (44, vR x.2.2.2.2.2 n)] ++ beR d n l) ([mR ti172 x.1 n, mR ti82 x.2.2.1 n, mR ti4 x.2.2.2.1 n, mR ti44 x.2.2.2.2.2 n] ++ RD) := fun x => by
      refine hs _ _ _ _ [4, 10] (by decide +kernel) ⟨⟨_, rfl, rfl, ?_⟩, ⟨_, rfl, rfl, ?_⟩, trivial⟩
      · exact SQ.make tt_ok rfl rfl l rfl rfl h4a h4b hl63 fun g => ⟨trivial, dp_ (b2_4_6_8_12 (x.1, g, x.2.2)) (hA := mv_ 1 rfl)⟩
      · exact SQ.make tt_ok rfl rfl n rfl rfl h10a h10b hn63 fun g => ⟨trivial, dp_ (b2_6_8_10_12 (x.1, x.2.1, x.2.2.1, x.2.2.2.1, g, x.2.2.2.2.2)) (hA := mv_ 3 rfl)⟩
    have b2_6_10_12 : ∀ x : Nat × Nat × Nat × Nat × Nat × Nat, B1 6 (lsR [2, 6, 10, 12]) ([(34, vR x.1 n), (38, vR x.2.2.1 n), (42, vR x.2.2.2.2.1 n), (44, vR x.2.2.2.2.2 n)] ++ beR d n l) ([mR ti172 x.1 n, mR ti82 x.2.2.1 n, mR ti44 x.2.2.2.2.1 n, mR ti44 x.2.2.2.2.2 n] ++ RD) := fun x => by
      refine hs _ _ _ _ [4, 8] (by decide +kernel) ⟨⟨_, rfl, rfl, ?_⟩, ⟨_, rfl, rfl, ?_⟩, trivial⟩
      · exact SQ.make tt_ok rfl rfl l rfl rfl h4a h4b hl63 fun g => ⟨trivial, dp_ (b2_4_6_10_12 (x.1, g, x.2.2)) (hA := mv_ 1 rfl)⟩
      · exact SQ.make tt_ok rfl rfl n rfl rfl h8a h8b hn63 fun g => ⟨trivial, dp_ (b2_6_8_10_12 (x.1, x.2.1, x.2.2.1, g, x.2.2.2.2)) (hA := mv_ 2 rfl)⟩
    have b2_8_10_12 : ∀ x : Nat × Nat × Nat × Nat × Nat × Nat, B1 6 (lsR [2, 8, 10, 12]) ([(34, vR x.1 n), (40, vR x.2.2.2.1 n), (42, vR x.2.2.2.2.1 n), (44, vR x.2.2.2.2.2 n)] ++ beR d n l) ([mR ti172 x.1 n, mR ti4 x.2.2.2.1 n, mR ti44 x.2.2.2.2.1 n, mR ti44 x.2.2.2.2.2 n] ++ RD) := fun x => by
      refine hs _ _ _ _ [4, 6] (by decide +kernel) ⟨⟨_, rfl, rfl, ?_⟩, ⟨_, rfl, rfl, ?_⟩, trivial⟩
      · exact SQ.make tt_ok rfl rfl l rfl rfl h4a h4b hl63 fun g => ⟨trivial, dp_ (b2_4_8_10_12 (x.1, g, x.2.2)) (hA := mv_ 1 rfl)⟩
      · exact SQ.make tt_ok rfl rfl n rfl rfl h6a h6b hn63 fun g => ⟨trivial, dp_ (b2_6_8_10_12 (x.1, x.2.1, g, x.2.2.2)) (hA := mv_ 1 rfl)⟩
    have b4_6_8_10 : ∀ x : Nat × Nat × Nat × Nat × Nat × Nat, B1 6 (lsR [4, 6, 8, 10]) ([(36, vR x.2.1 l), (38, vR x.2.2.1 n), (40, vR x.2.2.2.1 n), (42, vR x.2.2.2.2.1 n)] ++ beR d n l) ([mR ti5 x.2.1 l, mR ti82 x.2.2.1 n, mR ti4 x.2.2.2.1 n, mR ti44 x.2.2.2.2.1 n] ++ RD) := fun x => by
      refine hs _ _ _ _ [2, 12] (by decide +kernel) ⟨⟨_, rfl, rfl, ?_⟩, ⟨_, rfl, rfl, ?_⟩, trivial⟩
      · exact SQ.make tt_ok rfl rfl n rfl rfl h2a h2b hn63 fun g => ⟨trivial, dp_ (b2_4_6_8_10 (g, x.2)) (hA := mv_ 0 rfl)⟩
      · exact SQ.make tt_ok rfl rfl n rfl rfl h12a h12b hn63 fun g => ⟨trivial, dp_ (b4_6_8_10_12 (x.1, x.2.1, x.2.2.1, x.2.2.2.1, x.2.2.2.2.1, g)) (hA := mv_ 4 rfl)⟩
    have b4_6_8_12 : ∀ x : Nat × Nat × Nat × Nat × Nat × Nat, B1 6 (lsR [4, 6, 8, 12]) ([(36, vR x.2.1 l), (38, vR x.2.2.1 n), (40, vR x.2.2.2.1 n), (44, vR x.2.2.2.2.2 n)] ++ beR d n l) ([mR ti5 x.2.1 l, mR ti82 x.2.2.1 n, mR ti4 x.2.2.2.1 n, mR ti44 x.2.2.2.2.2 n] ++ RD) := fun x => by
      refine hs _ _ _ _ [2, 10] (by decide +kernel) ⟨⟨_, rfl, rfl, ?_⟩, ⟨_, rfl, rfl, ?_⟩, trivial⟩
      · exact SQ.make tt_ok rfl rfl n rfl rfl h2a h2b hn63 fun g => ⟨trivial, dp_ (b2_4_6_8_12 (g, x.2)) (hA := mv_ 0 rfl)⟩
      · exact SQ.make tt_ok rfl rfl n rfl rfl h10a h10b hn63 fun g => ⟨trivial, dp_ (b4_6_8_10_12 (x.1, x.2.1, x.2.2.1, x.2.2.2.1, g, x.2.2.2.2.2)) (hA := mv_ 3 rfl)⟩
    have b4_6_10_12 : ∀ x : Nat × Nat × Nat × Nat × Nat × Nat, B1 6 (lsR [4, 6, 10, 12]) ([(36, vR x.2.1 l), (38, vR x.2.2.1 n), (42, vR x.2.2.2.2.1 n), (44, vR x.2.2.2.2.2 n)] ++ beR d n l) ([mR ti5 x.2.1 l, mR ti82 x.2.2.1 n, mR ti44 x.2.2.2.2.1 n, mR ti44 x.2.2.2.2.2 n] ++ RD) := fun x => by
      refine hs _ _ _ _ [2, 8] (by decide +kernel) ⟨⟨_, rfl, rfl, ?_⟩, ⟨_, rfl, rfl, ?_⟩, trivial⟩
      · exact SQ.make tt_ok rfl rfl n rfl rfl h2a h2b hn63 fun g => ⟨trivial, dp_ (b2_4_6_10_12 (g, x.2)) (hA := mv_ 0 rfl)⟩
      · exact SQ.make tt_ok rfl rfl n rfl rfl h8a h8b hn63 fun g => ⟨trivial, dp_ (b4_6_8_10_12 (x.1, x.2.1, x.2.2.1, g, x.2.2.2.2)) (hA := mv_ 2 rfl)⟩
    have b4_8_10_12 : ∀ x : Nat × Nat × Nat × Nat × Nat × Nat, B1 6 (lsR [4, 8, 10, 12]) ([(36, vR x.2.1 l), (40, vR x.2.2.2.1 n), (42, vR x.2.2.2.2.1 n), (44, vR x.2.2.2.2.2 n)] ++ beR d n l) ([mR ti5 x.2.1 l, mR ti4 x.2.2.2.1 n, mR ti44 x.2.2.2.2.1 n, mR ti44 x.2.2.2.2.2 n] ++ RD) := fun x => by
      refine hs _ _ _ _ [2, 6] (by decide +kernel) ⟨⟨_, rfl, rfl, ?_⟩, ⟨_, rfl, rfl, ?_⟩, trivial⟩
      · exact SQ.make tt_ok rfl rfl n rfl rfl h2a h2b hn63 fun g => ⟨trivial, dp_ (b2_4_8_10_12 (g, x.2)) (hA := mv_ 0 rfl)⟩
      · exact SQ.make tt_ok rfl rfl n rfl rfl h6a h6b hn63 fun g => ⟨trivial, dp_ (b4_6_8_10_12 (x.1, x.2.1, g, x.2.2.2)) (hA := mv_ 1 rfl)⟩
    have b6_8_10_12 : ∀ x : Nat × Nat × Nat × Nat × Nat × Nat, B1 6 (lsR [6, 8, 10, 12]) ([(38, vR x.2.2.1 n), (40, vR x.2.2.2.1 n), (42, vR x.2.2.2.2.1 n), (44, vR x.2.2.2.2.2 n)] ++ beR d n l) ([mR ti82 x.2.2.1 n, mR ti4 x.2.2.2.1 n, mR ti44 x.2.2.2.2.1 n, mR ti44 x.2.2.2.2.2 n] ++ RD) := fun x => by
      refine hs _ _ _ _ [2, 4] (by decide +kernel) ⟨⟨_, rfl, rfl, ?_⟩, ⟨_, rfl, rfl, ?_⟩, trivial⟩
      · exact SQ.make tt_ok rfl rfl n rfl rfl h2a h2b hn63 fun g => ⟨trivial, dp_ (b2_6_8_10_12 (g, x.2)) (hA := mv_ 0 rfl)⟩
      · exact SQ.make tt_ok rfl rfl l rfl rfl h4a h4b hl63 fun g => ⟨trivial, dp_ (b4_6_8_10_12 (x.1, g, x.2.2)) (hA := mv_ 0 rfl)⟩
    have b2_4_6 : ∀ x : Nat × Nat × Nat × Nat × Nat × Nat, B1 7 (lsR [2, 4, 6]) ([(34, vR x.1 n), (36, vR x.2.1 l), (38, vR x.2.2.1 n)] ++ beR d n l) ([mR ti172 x.1 n, mR ti5 x.2.1 l, mR ti82 x.2.2.1 n] ++ RD) := fun x => by
      refine hs _ _ _ _ [8, 10, 12] (by decide +kernel) ⟨⟨_, rfl, rfl, ?_⟩, ⟨_, rfl, rfl, ?_⟩, ⟨_, rfl, rfl, ?_⟩, trivial⟩
      · exact SQ.make tt_ok rfl rfl n rfl rfl h8a h8b hn63 fun g => ⟨trivial, dp_ (b2_4_6_8 (x.1, x.2.1, x.2.2.1, g, x.2.2.2.2)) (hA := mv_ 3 rfl)⟩
      · exact SQ.make tt_ok rfl rfl n rfl rfl h10a h10b hn63 fun g => ⟨trivial, dp_ (b2_4_6_10 (x.1, x.2.1, x.2.2.1, x.2.2.2.1, g, x.2.2.2.2.2)) (hA := mv_ 3 rfl)⟩
      · exact SQ.make tt_ok rfl rfl n rfl rfl h12a h12b hn63 fun g => ⟨trivial, dp_ (b2_4_6_12 (x.1, x.2.1, x.2.2.1, x.2.2.2.1, x.2.2.2.2.1, g)) (hA := mv_ 3 rfl)⟩
    have b2_4_8 : ∀ x : Nat × Nat × Nat × Nat × Nat × Nat, B1 7 (lsR [2, 4, 8]) ([(34, vR x.1 n), (36, vR x.2.1 l), (40, vR x.2.2.2.1 n)] ++ beR d n l) ([mR ti172 x.1 n, mR ti5 x.2.1 l, mR ti4 x.2.2.2.1 n] ++ RD) := fun x => by
      refine hs _ _ _ _ [6, 10, 12] (by decide +kernel) ⟨⟨_, rfl, rfl, ?_⟩, ⟨_, rfl, rfl, ?_⟩, ⟨_, rfl, rfl, ?_⟩, trivial⟩
      · exact SQ.make tt_ok rfl rfl n rfl rfl h6a h6b hn63 fun g => ⟨trivial, dp_ (b2_4_6_8 (x.1, x.2.1, g, x.2.2.2)) (hA := mv_ 2 rfl)⟩
      · exact SQ.make tt_ok rfl rfl n rfl rfl h10a h10b hn63 fun g => ⟨trivial, dp_ (b2_4_8_10 (x.1, x.2.1, x.2.2.1, x.2.2.2.1, g, x.2.2.2.2.2)) (hA := mv_ 3 rfl)⟩
      · exact SQ.make tt_ok rfl rfl n rfl rfl h12a h12b hn63 fun g => ⟨trivial, dp_ (b2_4_8_12 (x.1, x.2.1, x.2.2.1, x.2.2.2.1, x.2.2.2.2.1, g)) (hA := mv_ 3 rfl)⟩
    have b2_4_10 : ∀ x : Nat × Nat × Nat × Nat × Nat × Nat, B1 7 (lsR [2, 4, 10]) ([(34, vR x.1 n), (36, vR x.2.1 l), (42, vR x.2.2.2.2.1 n)] ++ beR d n l) ([mR ti172 x.1 n, mR ti5 x.2.1 l, mR ti44 x.2.2.2.2.1 n] ++ RD) := fun x => by
      refine hs _ _ _ _ [6, 8, 12] (by decide +kernel) ⟨⟨_, rfl, rfl, ?_⟩, ⟨_, rfl, rfl, ?_⟩, ⟨_, rfl, rfl, ?_⟩, trivial⟩
      · exact SQ.make tt_ok rfl rfl n rfl rfl h6a h6b hn63 fun g => ⟨trivial, dp_ (b2_4_6_10 (x.1, x.2.1, g, x.2.2.2)) (hA := mv_ 2 rfl)⟩
      · exact SQ.make tt_ok rfl rfl n rfl rfl h8a h8b hn63 fun g => ⟨trivial, dp_ (b2_4_8_10 (x.1, x.2.1, x.2.2.1, g, x.2.2.2.2)) (hA := mv_ 2 rfl)⟩
      · exact SQ.make tt_ok rfl rfl n rfl rfl h12a h12b hn63 fun g => ⟨trivial, dp_ (b2_4_10_12 (x.1, x.2.1, x.2.2.1, x.2.2.2.1, x.2.2.2.2.1, g)) (hA := mv_ 3 rfl)⟩
    have b2_4_12 : ∀ x : Nat × Nat × Nat × Nat × Nat × Nat, B1 7 (lsR [2, 4, 12]) ([(34, vR x.1 n), (36, vR x.2.1 l), (44, vR x.2.2.2.2.2 n)] ++ beR d n l) ([mR ti172 x.1 n, mR ti5 x.2.1 l, mR ti44 x.2.2.2.2.2 n] ++ RD) := fun x => by
      refine hs _ _ _ _ [6, 8, 10] (by decide +kernel) ⟨⟨_, rfl, rfl, ?_⟩, ⟨_, rfl, rfl, ?_⟩, ⟨_, rfl, rfl, ?_⟩, trivial⟩
      · exact SQ.make tt_ok rfl rfl n rfl rfl h6a h6b hn63 fun g => ⟨trivial, dp_ (b2_4_6_12 (x.1, x.2.1, g, x.2.2.2)) (hA := mv_ 2 rfl)⟩
      · exact SQ.make tt_ok rfl rfl n rfl rfl h8a h8b hn63 fun g => ⟨trivial, dp_ (b2_4_8_12 (x.1, x.2.1, x.2.2.1, g, x.2.2.2.2)) (hA := mv_ 2 rfl)⟩
      · exact SQ.make tt_ok rfl rfl n rfl rfl h10a h10b hn63 fun g => ⟨trivial, dp_ (b2_4_10_12 (x.1, x.2.1, x.2.2.1, x.2.2.2.1, g, x.2.2.2.2.2)) (hA := mv_ 2 rfl)⟩
    have b2_6_8 : ∀ x : Nat × Nat × Nat × Nat × Nat × Nat, B1 7 (lsR [2, 6, 8]) ([(34, vR x.1 n), (38, vR x.2.2.1 n), (40, vR x.2.2.2.1 n)] ++ beR d n l) ([mR ti172 x.1 n, mR ti82 x.2.2.1 n, mR ti4 x.2.2.2.1 n] ++ RD) := fun x => by
      refine hs _ _ _ _ [4, 10, 12] (by decide +kernel) ⟨⟨_, rfl, rfl, ?_⟩, ⟨_, rfl, rfl, ?_⟩, ⟨_, rfl, rfl, ?_⟩, trivial⟩
      · exact SQ.make tt_ok rfl rfl l rfl rfl h4a h4b hl63 fun g => ⟨trivial, dp_ (b2_4_6_8 (x.1, g, x.2.2)) (hA := mv_ 1 rfl)⟩
      · exact SQ.make tt_ok rfl rfl n rfl rfl h10a h10b hn63 fun g => ⟨trivial, dp_ (b2_6_8_10 (x.1, x.2.1, x.2.2.1, x.2.2.2.1, g, x.2.2.2.2.2)) (hA := mv_ 3 rfl)⟩
      · exact SQ.make tt_ok rfl rfl n rfl rfl h12a h12b hn63 fun g => ⟨trivial, dp_ (b2_6_8_12 (x.1, x.2.1, x.2.2.1, x.2.2.2.1, x.2.2.2.2.1, g)) (hA := mv_ 3 rfl)⟩
    have b2_6_10 : ∀ x : Nat × Nat × Nat × Nat × Nat × Nat, B1 7 (lsR [2, 6, 10]) ([(34, vR x.1 n), (38, vR x.2.2.1 n), (42, vR x.2.2.2.2.1 n)] ++ beR d n l) ([mR ti172 x.1 n, mR ti82 x.2.2.1 n, mR ti44 x.2.2.2.2.1 n] ++ RD) := fun x => by
      refine hs _ _ _ _ [4, 8, 12] (by decide +kernel) ⟨⟨_, rfl, rfl, ?_⟩, ⟨_, rfl, rfl, ?_⟩, ⟨_, rfl, rfl, ?_⟩, trivial⟩
      · exact SQ.make tt_ok rfl rfl l rfl rfl h4a h4b hl63 fun g => ⟨trivial, dp_ (b2_4_6_10 (x.1, g, x.2.2)) (hA := mv_ 1 rfl)⟩
      · exact SQ.make tt_ok rfl rfl n rfl rfl h8a h8b hn63 fun g => ⟨trivial, dp_ (b2_6_8_10 (x.1, x.2.1, x.2.2.1, g, x.2.2.2.2)) (hA := mv_ 2 rfl)⟩
      · exact SQ.make tt_ok rfl rfl n rfl rfl h12a h12b hn63 fun g => ⟨trivial, dp_ (b2_6_10_12 (x.1, x.2.1, x.2.2.1, x.2.2.2.1, x.2.2.2.2.1, g)) (hA := mv_ 3 rfl)⟩
    have b2_6_12 : ∀ x : Nat × Nat × Nat × Nat × Nat × Nat, B1 7 (lsR [2, 6, 12]) ([(34, vR x.1 n), (38, vR x.2.2.1 n), (44, vR x.2.2.2.2.2 n)] ++ beR d n l) ([mR ti172 x.1 n, mR ti82 x.2.2.1 n, mR ti44 x.2.2.2.2.2 n] ++ RD) := fun x => by
      refine hs _ _ _ _ [4, 8, 10] (by decide +kernel) ⟨⟨_, rfl, rfl, ?_⟩, ⟨_, rfl, rfl, ?_⟩, ⟨_, rfl, rfl, ?_⟩, trivial⟩
      · exact SQ.make tt_ok rfl rfl l rfl rfl h4a h4b hl63 fun g => ⟨trivial, dp_ (b2_4_6_12 (x.1, g, x.2.2)) (hA := mv_ 1 rfl)⟩
      · exact SQ.make tt_ok rfl rfl n rfl rfl h8a h8b hn63 fun g => ⟨trivial, dp_ (b2_6_8_12 (x.1, x.2.1, x.2.2.1, g, x.2.2.2.2)) (hA := mv_ 2 rfl)⟩
      · exact SQ.make tt_ok rfl rfl n rfl rfl h10a h10b hn63 fun g => ⟨trivial, dp_ (b2_6_10_12 (x.1, x.2.1, x.2.2.1, x.2.2.2.1, g, x.2.2.2.2.2)) (hA := mv_ 2 rfl)⟩
    have b2_8_10 : ∀ x : Nat × Nat × Nat × Nat × Nat × Nat, B1 7 (lsR [2, 8, 10]) ([(34, vR x.1 n), (40, vR x.2.2.2.1 n), (42, vR x.2.2.2.2.1 n)] ++ beR d n l) ([mR ti172 x.1 n, mR ti4 x.2.2.2.1 n, mR ti44 x.2.2.2.2.1 n] ++ RD) := fun x => by
      refine hs _ _ _ _ [4, 6, 12] (by decide +kernel) ⟨⟨_, rfl, rfl, ?_⟩, ⟨_, rfl, rfl, ?_⟩, ⟨_, rfl, rfl, ?_⟩, trivial⟩
      · exact SQ.make tt_ok rfl rfl l rfl rfl h4a h4b hl63 fun g => ⟨trivial, dp_ (b2_4_8_10 (x.1, g, x.2.2)) (hA := mv_ 1 rfl)⟩
      · exact SQ.make tt_ok rfl rfl n rfl rfl h6a h6b hn63 fun g => ⟨trivial, dp_ (b2_6_8_10 (x.1, x.2.1, g, x.2.2.2)) (hA := mv_ 1 rfl)⟩
      · exact SQ.make tt_ok rfl rfl n rfl rfl h12a h12b hn63 fun g => ⟨trivial, dp_ (b2_8_10_12 (x.1, x.2.1, x.2.2.1, x.2.2.2.1, x.2.2.2.2.1, g)) (hA := mv_ 3 rfl)⟩
    have b2_8_12 : ∀ x : Nat × Nat × Nat × Nat × Nat × Nat, B1 7 (lsR [2, 8, 12]) ([(34, vR x.1 n), (40, vR x.2.2.2.1 n), (44, vR x.2.2.2.2.2 n)] ++ beR d n l) ([mR ti172 x.1 n, mR ti4 x.2.2.2.1 n, mR ti44 x.2.2.2.2.2 n] ++ RD) := fun x => by
      refine hs _ _ _ _ [4, 6, 10] (by decide +kernel) ⟨⟨_, rfl, rfl, ?_⟩, ⟨_, rfl, rfl, ?_⟩, ⟨_, rfl, rfl, ?_⟩, trivial⟩
      · exact SQ.make tt_ok rfl rfl l rfl rfl h4a h4b hl63 fun g => ⟨trivial, dp_ (b2_4_8_12 (x.1, g, x.2.2)) (hA := mv_ 1 rfl)⟩
      · exact SQ.make tt_ok rfl rfl n rfl rfl h6a h6b hn63 fun g => ⟨trivial, dp_ (b2_6_8_12 (x.1, x.2.1, g, x.2.2.2)) (hA := mv_ 1 rfl)⟩
      · exact SQ.make tt_ok rfl rfl n rfl rfl h10a h10b hn63 fun g => ⟨trivial, dp_ (b2_8_10_12 (x.1, x.2.1, x.2.2.1, x.2.2.2.1, g, x.2.2.2.2.2)) (hA := mv_ 2 rfl)⟩
    have b2_10_12 : ∀ x : Nat × Nat × Nat × Nat × Nat × Nat, B1 7 (lsR [2, 10, 12]) ([(34, vR x.1 n), (42, vR x.2.2.2.2.1 n), (44, vR x.2.2.2.2.2 n)] ++ beR d n l) ([mR ti172 x.1 n, mR ti44 x.2.2.2.2.1 n, mR ti44 x.2.2.2.2.2 n] ++ RD) := fun x => by
      refine hs _ _ _ _ [4, 6, 8] (by decide +kernel) ⟨⟨_, rfl, rfl, ?_⟩, ⟨_, rfl, rfl, ?_⟩, ⟨_, rfl, rfl, ?_⟩, trivial⟩
      · exact SQ.make tt_ok rfl rfl l rfl rfl h4a h4b hl63 fun g => ⟨trivial, dp_ (b2_4_10_12 (x.1, g, x.2.2)) (hA := mv_ 1 rfl)⟩
      · exact SQ.make tt_ok rfl rfl n rfl rfl h6a h6b hn63 fun g => ⟨trivial, dp_ (b2_6_10_12 (x.1, x.2.1, g, x.2.2.2)) (hA := mv_ 1 rfl)⟩
      · exact SQ.make tt_ok rfl rfl n rfl rfl h8a h8b hn63 fun g => ⟨trivial, dp_ (b2_8_10_12 (x.1, x.2.1, x.2.2.1, g, x.2.2.2.2)) (hA := mv_ 1 rfl)⟩
    have b4_6_8 : ∀ x : Nat × Nat × Nat × Nat × Nat × Nat, B1 7 (lsR [4, 6, 8]) ([(36, vR x.2.1 l), (38, vR x.2.2.1 n), (40, vR x.2.2.2.1 n)] ++ beR d n l) ([mR ti5 x.2.1 l, mR ti82 x.2.2.1 n, mR ti4 x.2.2.2.1 n] ++ RD) := fun x => by
      refine hs _ _ _ _ [2, 10, 12] (by decide +kernel) ⟨⟨_, rfl, rfl, ?_⟩, ⟨_, rfl, rfl, ?_⟩, ⟨_, rfl, rfl, ?_⟩, trivial⟩
      · exact SQ.make tt_ok rfl rfl n rfl rfl h2a h2b hn63 fun g => ⟨trivial, dp_ (b2_4_6_8 (g, x.2)) (hA := mv_ 0 rfl)⟩
      · exact SQ.make tt_ok rfl rfl n rfl rfl h10a h10b hn63 fun g => ⟨trivial, dp_ (b4_6_8_10 (x.1, x.2.1, x.2.2.1, x.2.2.2.1, g, x.2.2.2.2.2)) (hA := mv_ 3 rfl)⟩
      · exact SQ.make tt_ok rfl rfl n rfl rfl h12a h12b hn63 fun g => ⟨trivial, dp_ (b4_6_8_12 (x.1, x.2.1, x.2.2.1, x.2.2.2.1, x.2.2.2.2.1, g)) (hA := mv_ 3 rfl)⟩
    have b4_6_10 : ∀ x : Nat × Nat × Nat × Nat × Nat × Nat, B1 7 (lsR [4, 6, 10]) ([(36, vR x.2.1 l), (38, vR x.2.2.1 n), (42, vR x.2.2.2.2.1 n)] ++ beR d n l) ([mR ti5 x.2.1 l, mR ti82 x.2.2.1 n, mR ti44 x.2.2.2.2.1 n] ++ RD) := fun x => by
      refine hs _ _ _ _ [2, 8, 12] (by decide +kernel) ⟨⟨_, rfl, rfl, ?_⟩, ⟨_, rfl, rfl, ?_⟩, ⟨_, rfl, rfl, ?_⟩, trivial⟩
      · exact SQ.make tt_ok rfl rfl n rfl rfl h2a h2b hn63 fun g => ⟨trivial, dp_ (b2_4_6_10 (g, x.2)) (hA := mv_ 0 rfl)⟩
      · exact SQ.make tt_ok rfl rfl n rfl rfl h8a h8b hn63 fun g => ⟨trivial, dp_ (b4_6_8_10 (x.1, x.2.1, x.2.2.1, g, x.2.2.2.2)) (hA := mv_ 2 rfl)⟩
      · exact SQ.make tt_ok rfl rfl n rfl rfl h12a h12b hn63 fun g => ⟨trivial, dp_ (b4_6_10_12 (x.1, x.2.1, x.2.2.1, x.2.2.2.1, x.2.2.2.2.1, g)) (hA := mv_ 3 rfl)⟩
    have b4_6_12 : ∀ x : Nat × Nat × Nat × Nat × Nat × Nat, B1 7 (lsR [4, 6, 12]) ([(36, vR x.2.1 l), (38, vR x.2.2.1 n), (44, vR x.2.2.2.2.2 n)] ++ beR d n l) ([mR ti5 x.2.1 l, mR ti82 x.2.2.1 n, mR ti44 x.2.2.2.2.2 n] ++ RD) := fun x => by
      refine hs _ _ _ _ [2, 8, 10] (by decide +kernel) ⟨⟨_, rfl, rfl, ?_⟩, ⟨_, rfl, rfl, ?_⟩, ⟨_, rfl, rfl, ?_⟩, trivial⟩
      · exact SQ.make tt_ok rfl rfl n rfl rfl h2a h2b hn63 fun g => ⟨trivial, dp_ (b2_4_6_12 (g, x.2)) (hA := mv_ 0 rfl)⟩
      · exact SQ.make tt_ok rfl rfl n rfl rfl h8a h8b hn63 fun g => ⟨trivial, dp_ (b4_6_8_12 (x.1, x.2.1, x.2.2.1, g, x.2.2.2.2)) (hA := mv_ 2 rfl)⟩
      · exact SQ.make tt_ok rfl rfl n rfl rfl h10a h10b hn63 fun g => ⟨trivial, dp_ (b4_6_10_12 (x.1, x.2.1, x.2.2.1, x.2.2.2.1, g, x.2.2.2.2.2)) (hA := mv_ 2 rfl)⟩
    have b4_8_10 : ∀ x : Nat × Nat × Nat × Nat × Nat × Nat, B1 7 (lsR [4, 8, 10]) ([(36, vR x.2.1 l), (40, vR x.2.2.2.1 n), (42, vR x.2.2.2.2.1 n)] ++ beR d n l) ([mR ti5 x.2.1 l, mR ti4 x.2.2.2.1 n, mR ti44 x.2.2.2.2.1 n] ++ RD) := fun x => by
      refine hs _ _ _ _ [2, 6, 12] (by decide +kernel) ⟨⟨_, rfl, rfl, ?_⟩, ⟨_, rfl, rfl, ?_⟩, ⟨_, rfl, rfl, ?_⟩, trivial⟩
      · exact SQ.make tt_ok rfl rfl n rfl rfl h2a h2b hn63 fun g => ⟨trivial, dp_ (b2_4_8_10 (g, x.2)) (hA := mv_ 0 rfl)⟩
      · exact SQ.make tt_ok rfl rfl n rfl rfl h6a h6b hn63 fun g => ⟨trivial, dp_ (b4_6_8_10 (x.1, x.2.1, g, x.2.2.2)) (hA := mv_ 1 rfl)⟩
      · exact SQ.make tt_ok rfl rfl n rfl rfl h12a h12b hn63 fun g => ⟨trivial, dp_ (b4_8_10_12 (x.1, x.2.1, x.2.2.1, x.2.2.2.1, x.2.2.2.2.1, g)) (hA := mv_ 3 rfl)⟩
    have b4_8_12 : ∀ x : Nat × Nat × Nat × Nat × Nat × Nat, B1 7 (lsR [4, 8, 12]) ([(36, vR x.2.1 l), (40, vR x.2.2.2.1 n), (44, vR x.2.2.2.2.2 n)] ++ beR d n l) ([mR ti5 x.2.1 l, mR ti4 x.2.2.2.1 n, mR ti44 x.2.2.2.2.2 n] ++ RD) := fun x => by
      refine hs _ _ _ _ [2, 6, 10] (by decide +kernel) ⟨⟨_, rfl, rfl, ?_⟩, ⟨_, rfl, rfl, ?_⟩, ⟨_, rfl, rfl, ?_⟩, trivial⟩
      · exact SQ.make tt_ok rfl rfl n rfl rfl h2a h2b hn63 fun g => ⟨trivial, dp_ (b2_4_8_12 (g, x.2)) (hA := mv_ 0 rfl)⟩
      · exact SQ.make tt_ok rfl rfl n rfl rfl h6a h6b hn63 fun g => ⟨trivial, dp_ (b4_6_8_12 (x.1, x.2.1, g, x.2.2.2)) (hA := mv_ 1 rfl)⟩
      · exact SQ.make tt_ok rfl rfl n rfl rfl h10a h10b hn63 fun g => ⟨trivial, dp_ (b4_8_10_12 (x.1, x.2.1, x.2.2.1, x.2.2.2.1, g, x.2.2.2.2.2)) (hA := mv_ 2 rfl)⟩
    have b4_10_12 : ∀ x : Nat × Nat × Nat × Nat × Nat × Nat, B1 7 (lsR [4, 10, 12]) ([(36, vR x.2.1 l), (42, vR x.2.2.2.2.1 n), (44, vR x.2.2.2.2.2 n)] ++ beR d n l) ([mR ti5 x.2.1 l, mR ti44 x.2.2.2.2.1 n, mR ti44 x.2.2.2.2.2 n] ++ RD) := fun x => by
      refine hs _ _ _ _ [2, 6, 8] (by decide +kernel) ⟨⟨_, rfl, rfl, ?_⟩, ⟨_, rfl, rfl, ?_⟩, ⟨_, rfl, rfl, ?_⟩, trivial⟩
      · exact SQ.make tt_ok rfl rfl n rfl rfl h2a h2b hn63 fun g => ⟨trivial, dp_ (b2_4_10_12 (g, x.2)) (hA := mv_ 0 rfl)⟩
      · exact SQ.make tt_ok rfl rfl n rfl rfl h6a h6b hn63 fun g => ⟨trivial, dp_ (b4_6_10_12 (x.1, x.2.1, g, x.2.2.2)) (hA := mv_ 1 rfl)⟩
      · exact SQ.make tt_ok rfl rfl n rfl rfl h8a h8b hn63 fun g => ⟨trivial, dp_ (b4_8_10_12 (x.1, x.2.1, x.2.2.1, g, x.2.2.2.2)) (hA := mv_ 1 rfl)⟩
    have b6_8_10 : ∀ x : Nat × Nat × Nat × Nat × Nat × Nat, B1 7 (lsR [6, 8, 10]) ([(38, vR x.2.2.1 n), (40, vR x.2.2.2.1 n), (42, vR x.2.2.2.2.1 n)] ++ beR d n l) ([mR ti82 x.2.2.1 n, mR ti4 x.2.2.2.1 n, mR ti44 x.2.2.2.2.1 n] ++ RD) := fun x => by
      refine hs _ _ _ _ [2, 4, 12] (by decide +kernel) ⟨⟨_, rfl, rfl, ?_⟩, ⟨_, rfl, rfl, ?_⟩, ⟨_, rfl, rfl, ?_⟩, trivial⟩
      · exact SQ.make tt_ok rfl rfl n rfl rfl h2a h2b hn63 fun g => ⟨trivial, dp_ (b2_6_8_10 (g, x.2)) (hA := mv_ 0 rfl)⟩
      · exact SQ.make tt_ok rfl rfl l rfl rfl h4a h4b hl63 fun g => ⟨trivial, dp_ (b4_6_8_10 (x.1, g, x.2.2)) (hA := mv_ 0 rfl)⟩
      · exact SQ.make tt_ok rfl rfl n rfl rfl h12a h12b hn63 fun g => ⟨trivial, dp_ (b6_8_10_12 (x.1, x.2.1, x.2.2.1, x.2.2.2.1, x.2.2.2.2.1, g)) (hA := mv_ 3 rfl)⟩
    have b6_8_12 : ∀ x : Nat × Nat × Nat × Nat × Nat × Nat, B1 7 (lsR [6, 8, 12]) ([(38, vR x.2.2.1 n), (40, vR x.2.2.2.1 n), (44, vR x.2.2.2.2.2 n)] ++ beR d n l) ([mR ti82 x.2.2.1 n, mR ti4 x.2.2.2.1 n, mR ti44 x.2.2.2.2.2 n] ++ RD) := fun x => by
      refine hs _ _ _ _ [2, 4, 10] (by decide +kernel) ⟨⟨_, rfl, rfl, ?_⟩, ⟨_, rfl, rfl, ?_⟩, ⟨_, rfl, rfl, ?_⟩, trivial⟩
      · exact SQ.make tt_ok rfl rfl n rfl rfl h2a h2b hn63 fun g => ⟨trivial, dp_ (b2_6_8_12 (g, x.2)) (hA := mv_ 0 rfl)⟩
      · exact SQ.make tt_ok rfl rfl l rfl rfl h4a h4b hl63 fun g => ⟨trivial, dp_ (b4_6_8_12 (x.1, g, x.2.2)) (hA := mv_ 0 rfl)⟩
      · exact SQ.make tt_ok rfl rfl n rfl rfl h10a h10b hn63 fun g => ⟨trivial, dp_ (b6_8_10_12 (x.1, x.2.1, x.2.2.1, x.2.2.2.1, g, x.2.2.2.2.2)) (hA := mv_ 2 rfl)⟩
    have b6_10_12 : ∀ x : Nat × Nat × Nat × Nat × Nat × Nat, B1 7 (lsR [6, 10, 12]) ([(38, vR x.2.2.1 n), (42, vR x.2.2.2.2.1 n), (44, vR x.2.2.2.2.2 n)] ++ beR d n l) ([mR ti82 x.2.2.1 n, mR ti44 x.2.2.2.2.1 n, mR ti44 x.2.2.2.2.2 n] ++ RD) := fun x => by
      refine hs _ _ _ _ [2, 4, 8] (by decide +kernel) ⟨⟨_, rfl, rfl, ?_⟩, ⟨_, rfl, rfl, ?_⟩, ⟨_, rfl, rfl, ?_⟩, trivial⟩
      · exact SQ.make tt_ok rfl rfl n rfl rfl h2a h2b hn63 fun g => ⟨trivial, dp_ (b2_6_10_12 (g, x.2)) (hA := mv_ 0 rfl)⟩
      · exact SQ.make tt_ok rfl rfl l rfl rfl h4a h4b hl63 fun g => ⟨trivial, dp_ (b4_6_10_12 (x.1, g, x.2.2)) (hA := mv_ 0 rfl)⟩
      · exact SQ.make tt_ok rfl rfl n rfl rfl h8a h8b hn63 fun g => ⟨trivial, dp_ (b6_8_10_12 (x.1, x.2.1, x.2.2.1, g, x.2.2.2.2)) (hA := mv_ 1 rfl)⟩
    have b8_10_12 : ∀ x : Nat × Nat × Nat × Nat × Nat × Nat, B1 7 (lsR [8, 10, 12]) ([(40, vR x.2.2.2.1 n), (42, vR x.2.2.2.2.1 n), (44, vR x.2.2.2.2.2 n)] ++ beR d n l) ([mR ti4 x.2.2.2.1 n, mR ti44 x.2.2.2.2.1 n, mR ti44 x.2.2.2.2.2 n] ++ RD) := fun x => by
      refine hs _ _ _ _ [2, 4, 6] (by decide +kernel) ⟨⟨_, rfl, rfl, ?_⟩, ⟨_, rfl, rfl, ?_⟩, ⟨_, rfl, rfl, ?_⟩, trivial⟩
      · exact SQ.make tt_ok rfl rfl n rfl rfl h2a h2b hn63 fun g => ⟨trivial, dp_ (b2_8_10_12 (g, x.2)) (hA := mv_ 0 rfl)⟩
      · exact SQ.make tt_ok rfl rfl l rfl rfl h4a h4b hl63 fun g => ⟨trivial, dp_ (b4_8_10_12 (x.1, g, x.2.2)) (hA := mv_ 0 rfl)⟩
      · exact SQ.make tt_ok rfl rfl n rfl rfl h6a h6b hn63 fun g => ⟨trivial, dp_ (b6_8_10_12 (x.1, x.2.1, g, x.2.2.2)) (hA := mv_ 0 rfl)⟩
    have b2_4 : ∀ x : Nat × Nat × Nat × Nat × Nat × Nat, B1 8 (lsR [2, 4]) ([(34, vR x.1 n), (36, vR x.2.1 l)] ++ beR d n l) ([mR ti172 x.1 n, mR ti5 x.2.1 l] ++ RD) := fun x => by
      refine hs _ _ _ _ [6, 8, 10, 12] (by decide +kernel) ⟨⟨_, rfl, rfl, ?_⟩, ⟨_, rfl, rfl, ?_⟩, ⟨_, rfl, rfl, ?_⟩, ⟨_, rfl, rfl, ?_⟩, trivial⟩
      · exact SQ.make tt_ok rfl rfl n rfl rfl h6a h6b hn63 fun g => ⟨trivial, dp_ (b2_4_6 (x.1, x.2.1, g, x.2.2.2)) (hA := mv_ 2 rfl)⟩
      · exact SQ.make tt_ok rfl rfl n rfl rfl h8a h8b hn63 fun g => ⟨trivial, dp_ (b2_4_8 (x.1, x.2.1, x.2.2.1, g, x.2.2.2.2)) (hA := mv_ 2 rfl)⟩
      · exact SQ.make tt_ok rfl rfl n rfl rfl h10a h10b hn63 fun g => ⟨trivial, dp_ (b2_4_10 (x.1, x.2.1, x.2.2.1, x.2.2.2.1, g, x.2.2.2.2.2)) (hA := mv_ 2 rfl)⟩
      · exact SQ.make tt_ok rfl rfl n rfl rfl h12a h12b hn63 fun g => ⟨trivial, dp_ (b2_4_12 (x.1, x.2.1, x.2.2.1, x.2.2.2.1, x.2.2.2.2.1, g)) (hA := mv_ 2 rfl)⟩
    have b2_6 : ∀ x : Nat × Nat × Nat × Nat × Nat × Nat, B1 8 (lsR [2, 6]) ([(34, vR x.1 n), (38, vR x.2.2.1 n)] ++ beR d n l) ([mR ti172 x.1 n, mR ti82 x.2.2.1 n] ++ RD) := fun x => by
      refine hs _ _ _ _ [4, 8, 10, 12] (by decide +kernel) ⟨⟨_, rfl, rfl, ?_⟩, ⟨_, rfl, rfl, ?_⟩, ⟨_, rfl, rfl, ?_⟩, ⟨_, rfl, rfl, ?_⟩, trivial⟩
      · exact SQ.make tt_ok rfl rfl l rfl rfl h4a h4b hl63 fun g => ⟨trivial, dp_ (b2_4_6 (x.1, g, x.2.2)) (hA := mv_ 1 rfl)⟩
      · exact SQ.make tt_ok rfl rfl n rfl rfl h8a h8b hn63 fun g => ⟨trivial, dp_ (b2_6_8 (x.1, x.2.1, x.2.2.1, g, x.2.2.2.2)) (hA := mv_ 2 rfl)⟩
      · exact SQ.make tt_ok rfl rfl n rfl rfl h10a h10b hn63 fun g => ⟨trivial, dp_ (b2_6_10 (x.1, x.2.1, x.2.2.1, x.2.2.2.1, g, x.2.2.2.2.2)) (hA := mv_ 2 rfl)⟩
      · exact SQ.make tt_ok rfl rfl n rfl rfl h12a h12b hn63 fun g => ⟨trivial, dp_ (b2_6_12 (x.1, x.2.1, x.2.2.1, x.2.2.2.1, x.2.2.2.2.1, g)) (hA := mv_ 2 rfl)⟩
    have b2_8 : ∀ x : Nat × Nat × Nat × Nat × Nat × Nat, B1 8 (lsR [2, 8]) ([(34, vR x.1 n), (40, vR x.2.2.2.1 n)] ++ beR d n l) ([mR ti172 x.1 n, mR ti4 x.2.2.2.1 n] ++ RD) := fun x => by
      refine hs _ _ _ _ [4, 6, 10, 12] (by decide +kernel) ⟨⟨_, rfl, rfl, ?_⟩, ⟨_, rfl, rfl, ?_⟩, ⟨_, rfl, rfl, ?_⟩, ⟨_, rfl, rfl, ?_⟩, trivial⟩
      · exact SQ.make tt_ok rfl rfl l rfl rfl h4a h4b hl63 fun g => ⟨trivial, dp_ (b2_4_8 (x.1, g, x.2.2)) (hA := mv_ 1 rfl)⟩
      · exact SQ.make tt_ok rfl rfl n rfl rfl h6a h6b hn63 fun g => ⟨trivial, dp_ (b2_6_8 (x.1, x.2.1, g, x.2.2.2)) (hA := mv_ 1 rfl)⟩
      · exact SQ.make tt_ok rfl rfl n rfl rfl h10a h10b hn63 fun g => ⟨trivial, dp_ (b2_8_10 (x.1, x.2.1, x.2.2.1, x.2.2.2.1, g, x.2.2.2.2.2)) (hA := mv_ 2 rfl)⟩
      · exact SQ.make tt_ok rfl rfl n rfl rfl h12a h12b hn63 fun g => ⟨trivial, dp_ (b2_8_12 (x.1, x.2.1, x.2.2.1, x.2.2.2.1, x.2.2.2.2.1, g)) (hA := mv_ 2 rfl)⟩
    have b2_10 : ∀ x : Nat × Nat × Nat × Nat × Nat × Nat, B1 8 (lsR [2, 10]) ([(34, vR x.1 n), (42, vR x.2.2.2.2.1 n)] ++ beR d n l) ([mR ti172 x.1 n, mR ti44 x.2.2.2.2.1 n] ++ RD) := fun x => by
      refine hs _ _ _ _ [4, 6, 8, 12] (by decide +kernel) ⟨⟨_, rfl, rfl, ?_⟩, ⟨_, rfl, rfl, ?_⟩, ⟨_, rfl, rfl, ?_⟩, ⟨_, rfl, rfl, ?_⟩, trivial⟩
      · exact SQ.make tt_ok rfl rfl l rfl rfl h4a h4b hl63 fun g => ⟨trivial, dp_ (b2_4_10 (x.1, g, x.2.2)) (hA := mv_ 1 rfl)⟩
      · exact SQ.make tt_ok rfl rfl n rfl rfl h6a h6b hn63 fun g => ⟨trivial, dp_ (b2_6_10 (x.1, x.2.1, g, x.2.2.2)) (hA := mv_ 1 rfl)⟩
      · exact SQ.make tt_ok rfl rfl n rfl rfl h8a h8b hn63 fun g => ⟨trivial, dp_ (b2_8_10 (x.1, x.2.1, x.2.2.1, g, x.2.2.2.2)) (hA := mv_ 1 rfl)⟩
      · exact SQ.make tt_ok rfl rfl n rfl rfl h12a h12b hn63 fun g => ⟨trivial, dp_ (b2_10_12 (x.1, x.2.1, x.2.2.1, x.2.2.2.1, x.2.2.2.2.1, g)) (hA := mv_ 2 rfl)⟩
    have b2_12 : ∀ x : Nat × Nat × Nat × Nat × Nat × Nat, B1 8 (lsR [2, 12]) ([(34, vR x.1 n), (44, vR x.2.2.2.2.2 n)] ++ beR d n l) ([mR ti172 x.1 n, mR ti44 x.2.2.2.2.2 n] ++ RD) := fun x => by
      refine hs _ _ _ _ [4, 6, 8, 10] (by decide +kernel) ⟨⟨_, rfl, rfl, ?_⟩, ⟨_, rfl, rfl, ?_⟩, ⟨_, rfl, rfl, ?_⟩, ⟨_, rfl, rfl, ?_⟩, trivial⟩
      · exact SQ.make tt_ok rfl rfl l rfl rfl h4a h4b hl63 fun g => ⟨trivial, dp_ (b2_4_12 (x.1, g, x.2.2)) (hA := mv_ 1 rfl)⟩
      · exact SQ.make tt_ok rfl rfl n rfl rfl h6a h6b hn63 fun g => ⟨trivial, dp_ (b2_6_12 (x.1, x.2.1, g, x.2.2.2)) (hA := mv_ 1 rfl)⟩
      · exact SQ.make tt_ok rfl rfl n rfl rfl h8a h8b hn63 fun g => ⟨trivial, dp_ (b2_8_12 (x.1, x.2.1, x.2.2.1, g, x.2.2.2.2)) (hA := mv_ 1 rfl)⟩
      · exact SQ.make tt_ok rfl rfl n rfl rfl h10a h10b hn63 fun g => ⟨trivial, dp_ (b2_10_12 (x.1, x.2.1, x.2.2.1, x.2.2.2.1, g, x.2.2.2.2.2)) (hA := mv_ 1 rfl)⟩
    have b4_6 : ∀ x : Nat × Nat × Nat × Nat × Nat × Nat, B1 8 (lsR [4, 6]) ([(36, vR x.2.1 l), (38, vR x.2.2.1 n)] ++ beR d n l) ([mR ti5 x.2.1 l, mR ti82 x.2.2.1 n] ++ RD) := fun x => by
      refine hs _ _ _ _ [2, 8, 10, 12] (by decide +kernel) ⟨⟨_, rfl, rfl, ?_⟩, ⟨_, rfl, rfl, ?_⟩, ⟨_, rfl, rfl, ?_⟩, ⟨_, rfl, rfl, ?_⟩, trivial⟩
      · exact SQ.make tt_ok rfl rfl n rfl rfl h2a h2b hn63 fun g => ⟨trivial, dp_ (b2_4_6 (g, x.2)) (hA := mv_ 0 rfl)⟩
      · exact SQ.make tt_ok rfl rfl n rfl rfl h8a h8b hn63 fun g => ⟨trivial, dp_ (b4_6_8 (x.1, x.2.1, x.2.2.1, g, x.2.2.2.2)) (hA := mv_ 2 rfl)⟩
      · exact SQ.make tt_ok rfl rfl n rfl rfl h10a h10b hn63 fun g => ⟨trivial, dp_ (b4_6_10 (x.1, x.2.1, x.2.2.1, x.2.2.2.1, g, x.2.2.2.2.2)) (hA := mv_ 2 rfl)⟩
      · exact SQ.make tt_ok rfl rfl n rfl rfl h12a h12b hn63 fun g => ⟨trivial, dp_ (b4_6_12 (x.1, x.2.1, x.2.2.1, x.2.2.2.1, x.2.2.2.2.1, g)) (hA := mv_ 2 rfl)⟩
    have b4_8 : ∀ x : Nat × Nat × Nat × Nat × Nat × Nat, B1 8 (lsR [4, 8]) ([(36, vR x.2.1 l), (40, vR x.2.2.2.1 n)] ++ beR d n l) ([mR ti5 x.2.1 l, mR ti4 x.2.2.2.1 n] ++ RD) := fun x => by
      refine hs _ _ _ _ [2, 6, 10, 12] (by decide +kernel) ⟨⟨_, rfl, rfl, ?_⟩, ⟨_, rfl, rfl, ?_⟩, ⟨_, rfl, rfl, ?_⟩, ⟨_, rfl, rfl, ?_⟩, trivial⟩
      · exact SQ.make tt_ok rfl rfl n rfl rfl h2a h2b hn63 fun g => ⟨trivial, dp_ (b2_4_8 (g, x.2)) (hA := mv_ 0 rfl)⟩
      · exact SQ.make tt_ok rfl rfl n rfl rfl h6a h6b hn63 fun g => ⟨trivial, dp_ (b4_6_8 (x.1, x.2.1, g, x.2.2.2)) (hA := mv_ 1 rfl)⟩
      · exact SQ.make tt_ok rfl rfl n rfl rfl h10a h10b hn63 fun g => ⟨trivial, dp_ (b4_8_10 (x.1, x.2.1, x.2.2.1, x.2.2.2.1, g, x.2.2.2.2.2)) (hA := mv_ 2 rfl)⟩
      · exact SQ.make tt_ok rfl rfl n rfl rfl h12a h12b hn63 fun g => ⟨trivial, dp_ (b4_8_12 (x.1, x.2.1, x.2.2.1, x.2.2.2.1, x.2.2.2.2.1, g)) (hA := mv_ 2 rfl)⟩
    have b4_10 : ∀ x : Nat × Nat × Nat × Nat × Nat × Nat, B1 8 (lsR [4, 10]) ([(36, vR x.2.1 l), (42, vR x.2.2.2.2.1 n)] ++ beR d n l) ([mR ti5 x.2.1 l, mR ti44 x.2.2.2.2.1 n] ++ RD) := fun x => by
      refine hs _ _ _ _ [2, 6, 8, 12] (by decide +kernel) ⟨⟨_, rfl, rfl, ?_⟩, ⟨_, rfl, rfl, ?_⟩, ⟨_, rfl, rfl, ?_⟩, ⟨_, rfl, rfl, ?_⟩, trivial⟩
      · exact SQ.make tt_ok rfl rfl n rfl rfl h2a h2b hn63 fun g => ⟨trivial, dp_ (b2_4_10 (g, x.2)) (hA := mv_ 0 rfl)⟩
      · exact SQ.make tt_ok rfl rfl n rfl rfl h6a h6b hn63 fun g => ⟨trivial, dp_ (b4_6_10 (x.1, x.2.1, g, x.2.2.2)) (hA := mv_ 1 rfl)⟩
      · exact SQ.make tt_ok rfl rfl n rfl rfl h8a h8b hn63 fun g => ⟨trivial, dp_ (b4_8_10 (x.1, x.2.1, x.2.2.1, g, x.2.2.2.2)) (hA := mv_ 1 rfl)⟩
      · exact SQ.make tt_ok rfl rfl n rfl rfl h12a h12b hn63 fun g => ⟨trivial, dp_ (b4_10_12 (x.1, x.2.1, x.2.2.1, x.2.2.2.1, x.2.2.2.2.1, g)) (hA := mv_ 2 rfl)⟩
    have b4_12 : ∀ x : Nat × Nat × Nat × Nat × Nat × Nat, B1 8 (lsR [4, 12]) ([(36, vR x.2.1 l), (44, vR x.2.2.2.2.2 n)] ++ beR d n l) ([mR ti5 x.2.1 l, mR ti44 x.2.2.2.2.2 n] ++ RD) := fun x => by
      refine hs _ _ _ _ [2, 6, 8, 10] (by decide +kernel) ⟨⟨_, rfl, rfl, ?_⟩, ⟨_, rfl, rfl, ?_⟩, ⟨_, rfl, rfl, ?_⟩, ⟨_, rfl, rfl, ?_⟩, trivial⟩
      · exact SQ.make tt_ok rfl rfl n rfl rfl h2a h2b hn63 fun g => ⟨trivial, dp_ (b2_4_12 (g, x.2)) (hA := mv_ 0 rfl)⟩
      · exact SQ.make tt_ok rfl rfl n rfl rfl h6a h6b hn63 fun g => ⟨trivial, dp_ (b4_6_12 (x.1, x.2.1, g, x.2.2.2)) (hA := mv_ 1 rfl)⟩
      · exact SQ.make tt_ok rfl rfl n rfl rfl h8a h8b hn63 fun g => ⟨trivial, dp_ (b4_8_12 (x.1, x.2.1, x.2.2.1, g, x.2.2.2.2)) (hA := mv_ 1 rfl)⟩
      · exact SQ.make tt_ok rfl rfl n rfl rfl h10a h10b hn63 fun g => ⟨trivial, dp_ (b4_10_12 (x.1, x.2.1, x.2.2.1, x.2.2.2.1, g, x.2.2.2.2.2)) (hA := mv_ 1 rfl)⟩
    have b6_8 : ∀ x : Nat × Nat × Nat × Nat × Nat × Nat, B1 8 (lsR [6, 8]) ([(38, vR x.2.2.1 n), (40, vR x.2.2.2.1 n)] ++ beR d n l) ([mR ti82 x.2.2.1 n, mR ti4 x.2.2.2.1 n] ++ RD) := fun x => by
      refine hs _ _ _ _ [2, 4, 10, 12] (by decide +kernel) ⟨⟨_, rfl, rfl, ?_⟩, ⟨_, rfl, rfl, ?_⟩, ⟨_, rfl, rfl, ?_⟩, ⟨_, rfl, rfl, ?_⟩, trivial⟩
      · exact SQ.make tt_ok rfl rfl n rfl rfl h2a h2b hn63 fun g => ⟨trivial, dp_ (b2_6_8 (g, x.2)) (hA := mv_ 0 rfl)⟩
      · exact SQ.make tt_ok rfl rfl l rfl rfl h4a h4b hl63 fun g => ⟨trivial, dp_ (b4_6_8 (x.1, g, x.2.2)) (hA := mv_ 0 rfl)⟩
      · exact SQ.make tt_ok rfl rfl n rfl rfl h10a h10b hn63 fun g => ⟨trivial, dp_ (b6_8_10 (x.1, x.2.1, x.2.2.1, x.2.2.2.1, g, x.2.2.2.2.2)) (hA := mv_ 2 rfl)⟩
      · exact SQ.make tt_ok rfl rfl n rfl rfl h12a h12b hn63 fun g => ⟨trivial, dp_ (b6_8_12 (x.1, x.2.1, x.2.2.1, x.2.2.2.1, x.2.2.2.2.1, g)) (hA := mv_ 2 rfl)⟩
    have b6_10 : ∀ x : Nat × Nat × Nat × Nat × Nat × Nat, B1 8 (lsR [6, 10]) ([(38, vR x.2.2.1 n), (42, vR x.2.2.2.2.1 n)] ++ beR d n l) ([mR ti82 x.2.2.1 n, mR ti44 x.2.2.2.2.1 n] ++ RD) := fun x => by
      refine hs _ _ _ _ [2, 4, 8, 12] (by decide +kernel) ⟨⟨_, rfl, rfl, ?_⟩, ⟨_, rfl, rfl, ?_⟩, ⟨_, rfl, rfl, ?_⟩, ⟨_, rfl, rfl, ?_⟩, trivial⟩
      · exact SQ.make tt_ok rfl rfl n rfl rfl h2a h2b hn63 fun g => ⟨trivial, dp_ (b2_6_10 (g, x.2)) (hA := mv_ 0 rfl)⟩
      · exact SQ.make tt_ok rfl rfl l rfl rfl h4a h4b hl63 fun g => ⟨trivial, dp_ (b4_6_10 (x.1, g, x.2.2)) (hA := mv_ 0 rfl)⟩
      · exact SQ.make tt_ok rfl rfl n rfl rfl h8a h8b hn63 fun g => ⟨trivial, dp_ (b6_8_10 (x.1, x.2.1, x.2.2.1, g, x.2.2.2.2)) (hA := mv_ 1 rfl)⟩
      · exact SQ.make tt_ok rfl rfl n rfl rfl h12a h12b hn63 fun g => ⟨trivial, dp_ (b6_10_12 (x.1, x.2.1, x.2.2.1, x.2.2.2.1, x.2.2.2.2.1, g)) (hA := mv_ 2 rfl)⟩
    have b6_12 : ∀ x : Nat × Nat × Nat × Nat × Nat × Nat, B1 8 (lsR [6, 12]) ([(38, vR x.2.2.1 n), (44, vR x.2.2.2.2.2 n)] ++ beR d n l) ([mR ti82 x.2.2.1 n, mR ti44 x.2.2.2.2.2 n] ++ RD) := fun x => by
      refine hs _ _ _ _ [2, 4, 8, 10] (by decide +kernel) ⟨⟨_, rfl, rfl, ?_⟩, ⟨_, rfl, rfl, ?_⟩, ⟨_, rfl, rfl, ?_⟩, ⟨_, rfl, rfl, ?_⟩, trivial⟩
      · exact SQ.make tt_ok rfl rfl n rfl rfl h2a h2b hn63 fun g => ⟨trivial, dp_ (b2_6_12 (g, x.2)) (hA := mv_ 0 rfl)⟩
      · exact SQ.make tt_ok rfl rfl l rfl rfl h4a h4b hl63 fun g => ⟨trivial, dp_ (b4_6_12 (x.1, g, x.2.2)) (hA := mv_ 0 rfl)⟩
      · exact SQ.make tt_ok rfl rfl n rfl rfl h8a h8b hn63 fun g => ⟨trivial, dp_ (b6_8_12 (x.1, x.2.1, x.2.2.1, g, x.2.2.2.2)) (hA := mv_ 1 rfl)⟩
      · exact SQ.make tt_ok rfl rfl n rfl rfl h10a h10b hn63 fun g => ⟨trivial, dp_ (b6_10_12 (x.1, x.2.1, x.2.2.1, x.2.2.2.1, g, x.2.2.2.2.2)) (hA := mv_ 1 rfl)⟩
    have b8_10 : ∀ x : Nat × Nat × Nat × Nat × Nat × Nat, B1 8 (lsR [8, 10]) ([(40, vR x.2.2.2.1 n), (42, vR x.2.2.2.2.1 n)] ++ beR d n l) ([mR ti4 x.2.2.2.1 n, mR ti44 x.2.2.2.2.1 n] ++ RD) := fun x => by
      refine hs _ _ _ _ [2, 4, 6, 12] (by decide +kernel) ⟨⟨_, rfl, rfl, ?_⟩, ⟨_, rfl, rfl, ?_⟩, ⟨_, rfl, rfl, ?_⟩, ⟨_, rfl, rfl, ?_⟩, trivial⟩
      · exact SQ.make tt_ok rfl rfl n rfl rfl h2a h2b hn63 fun g => ⟨trivial, dp_ (b2_8_10 (g, x.2)) (hA := mv_ 0 rfl)⟩
      · exact SQ.make tt_ok rfl rfl l rfl rfl h4a h4b hl63 fun g => ⟨trivial, dp_ (b4_8_10 (x.1, g, x.2.2)) (hA := mv_ 0 rfl)⟩
      · exact SQ.make tt_ok rfl rfl n rfl rfl h6a h6b hn63 fun g => ⟨trivial, dp_ (b6_8_10 (x.1, x.2.1, g, x.2.2.2)) (hA := mv_ 0 rfl)⟩
      · exact SQ.make tt_ok rfl rfl n rfl rfl h12a h12b hn63 fun g => ⟨trivial, dp_ (b8_10_12 (x.1, x.2.1, x.2.2.1, x.2.2.2.1, x.2.2.2.2.1, g)) (hA := mv_ 2 rfl)⟩
    have b8_12 : ∀ x : Nat × Nat × Nat × Nat × Nat × Nat, B1 8 (lsR [8, 12]) ([(40, vR x.2.2.2.1 n), (44, vR x.2.2.2.2.2 n)] ++ beR d n l) ([mR ti4 x.2.2.2.1 n, mR ti44 x.2.2.2.2.2 n] ++ RD) := fun x => by
      refine hs _ _ _ _ [2, 4, 6, 10] (by decide +kernel) ⟨⟨_, rfl, rfl, ?_⟩, ⟨_, rfl, rfl, ?_⟩, ⟨_, rfl, rfl, ?_⟩, ⟨_, rfl, rfl, ?_⟩, trivial⟩
      · exact SQ.make tt_ok rfl rfl n rfl rfl h2a h2b hn63 fun g => ⟨trivial, dp_ (b2_8_12 (g, x.2)) (hA := mv_ 0 rfl)⟩
      · exact SQ.make tt_ok rfl rfl l rfl rfl h4a h4b hl63 fun g => ⟨trivial, dp_ (b4_8_12 (x.1, g, x.2.2)) (hA := mv_ 0 rfl)⟩
      · exact SQ.make tt_ok rfl rfl n rfl rfl h6a h6b hn63 fun g => ⟨trivial, dp_ (b6_8_12 (x.1, x.2.1, g, x.2.2.2)) (hA := mv_ 0 rfl)⟩
      · exact SQ.make tt_ok rfl rfl n rfl rfl h10a h10b hn63 fun g => ⟨trivial, dp_ (b8_10_12 (x.1, x.2.1, x.2.2.1, x.2.2.2.1, g, x.2.2.2.2.2)) (hA := mv_ 1 rfl)⟩
    have b10_12 : ∀ x : Nat × Nat × Nat × Nat × Nat × Nat, B1 8 (lsR [10, 12]) ([(42, vR x.2.2.2.2.1 n), (44, vR x.2.2.2.2.2 n)] ++ beR d n l) ([mR ti44 x.2.2.2.2.1 n, mR ti44 x.2.2.2.2.2 n] ++ RD) := fun x => by
      refine hs _ _ _ _ [2, 4, 6, 8] (by decide +kernel) ⟨⟨_, rfl, rfl, ?_⟩, ⟨_, rfl, rfl, ?_⟩, ⟨_, rfl, rfl, ?_⟩, ⟨_, rfl, rfl, ?_⟩, trivial⟩
      · exact SQ.make tt_ok rfl rfl n rfl rfl h2a h2b hn63 fun g => ⟨trivial, dp_ (b2_10_12 (g, x.2)) (hA := mv_ 0 rfl)⟩
      · exact SQ.make tt_ok rfl rfl l rfl rfl h4a h4b hl63 fun g => ⟨trivial, dp_ (b4_10_12 (x.1, g, x.2.2)) (hA := mv_ 0 rfl)⟩
      · exact SQ.make tt_ok rfl rfl n rfl rfl h6a h6b hn63 fun g => ⟨trivial, dp_ (b6_10_12 (x.1, x.2.1, g, x.2.2.2)) (hA := mv_ 0 rfl)⟩
      · exact SQ.make tt_ok rfl rfl n rfl rfl h8a h8b hn63 fun g => ⟨trivial, dp_ (b8_10_12 (x.1, x.2.1, x.2.2.1, g, x.2.2.2.2)) (hA := mv_ 0 rfl)⟩
    have b2 : ∀ x : Nat × Nat × Nat × Nat × Nat × Nat, B1 9 (lsR [2]) ([(34, vR x.1 n)] ++ beR d n l) ([mR ti172 x.1 n] ++ RD) := fun x => by
      refine hs _ _ _ _ [4, 6, 8, 10, 12] (by decide +kernel) ⟨⟨_, rfl, rfl, ?_⟩, ⟨_, rfl, rfl, ?_⟩, ⟨_, rfl, rfl, ?_⟩, ⟨_, rfl, rfl, ?_⟩, ⟨_, rfl, rfl, ?_⟩, trivial⟩
      · exact SQ.make tt_ok rfl rfl l rfl rfl h4a h4b hl63 fun g => ⟨trivial, dp_ (b2_4 (x.1, g, x.2.2)) (hA := mv_ 1 rfl)⟩
      · exact SQ.make tt_ok rfl rfl n rfl rfl h6a h6b hn63 fun g => ⟨trivial, dp_ (b2_6 (x.1, x.2.1, g, x.2.2.2)) (hA := mv_ 1 rfl)⟩
      · exact SQ.make tt_ok rfl rfl n rfl rfl h8a h8b hn63 fun g => ⟨trivial, dp_ (b2_8 (x.1, x.2.1, x.2.2.1, g, x.2.2.2.2)) (hA := mv_ 1 rfl)⟩
      · exact SQ.make tt_ok rfl rfl n rfl rfl h10a h10b hn63 fun g => ⟨trivial, dp_ (b2_10 (x.1, x.2.1, x.2.2.1, x.2.2.2.1, g, x.2.2.2.2.2)) (hA := mv_ 1 rfl)⟩
      · exact SQ.make tt_ok rfl rfl n rfl rfl h12a h12b hn63 fun g => ⟨trivial, dp_ (b2_12 (x.1, x.2.1, x.2.2.1, x.2.2.2.1, x.2.2.2.2.1, g)) (hA := mv_ 1 rfl)⟩
    have b4 : ∀ x : Nat × Nat × Nat × Nat × Nat × Nat, B1 9 (lsR [4]) ([(36, vR x.2.1 l)] ++ beR d n l) ([mR ti5 x.2.1 l] ++ RD) := fun x => by
      refine hs _ _ _ _ [2, 6, 8, 10, 12] (by decide +kernel) ⟨⟨_, rfl, rfl, ?_⟩, ⟨_, rfl, rfl, ?_⟩, ⟨_, rfl, rfl, ?_⟩, ⟨_, rfl, rfl, ?_⟩, ⟨_, rfl, rfl, ?_⟩, trivial⟩
      · exact SQ.make tt_ok rfl rfl n rfl rfl h2a h2b hn63 fun g => ⟨trivial, dp_ (b2_4 (g, x.2)) (hA := mv_ 0 rfl)⟩
      · exact SQ.make tt_ok rfl rfl n rfl rfl h6a h6b hn63 fun g => ⟨trivial, dp_ (b4_6 (x.1, x.2.1, g, x.2.2.2)) (hA := mv_ 1 rfl)⟩
      · exact SQ.make tt_ok rfl rfl n rfl rfl h8a h8b hn63 fun g => ⟨trivial, dp_ (b4_8 (x.1, x.2.1, x.2.2.1, g, x.2.2.2.2)) (hA := mv_ 1 rfl)⟩
      · exact SQ.make tt_ok rfl rfl n rfl rfl h10a h10b hn63 fun g => ⟨trivial, dp_ (b4_10 (x.1, x.2.1, x.2.2.1, x.2.2.2.1, g, x.2.2.2.2.2)) (hA := mv_ 1 rfl)⟩
      · exact SQ.make tt_ok rfl rfl n rfl rfl h12a h12b hn63 fun g => ⟨trivial, dp_ (b4_12 (x.1, x.2.1, x.2.2.1, x.2.2.2.1, x.2.2.2.2.1, g)) (hA := mv_ 1 rfl)⟩
    have b6 : ∀ x : Nat × Nat × Nat × Nat × Nat × Nat, B1 9 (lsR [6]) ([(38, vR x.2.2.1 n)] ++ beR d n l) ([mR ti82 x.2.2.1 n] ++ RD) := fun x => by
      refine hs _ _ _ _ [2, 4, 8, 10, 12] (by decide +kernel) ⟨⟨_, rfl, rfl, ?_⟩, ⟨_, rfl, rfl, ?_⟩, ⟨_, rfl, rfl, ?_⟩, ⟨_, rfl, rfl, ?_⟩, ⟨_, rfl, rfl, ?_⟩, trivial⟩
      · exact SQ.make tt_ok rfl rfl n rfl rfl h2a h2b hn63 fun g => ⟨trivial, dp_ (b2_6 (g, x.2)) (hA := mv_ 0 rfl)⟩
      · exact SQ.make tt_ok rfl rfl l rfl rfl h4a h4b hl63 fun g => ⟨trivial, dp_ (b4_6 (x.1, g, x.2.2)) (hA := mv_ 0 rfl)⟩
      · exact SQ.make tt_ok rfl rfl n rfl rfl h8a h8b hn63 fun g => ⟨trivial, dp_ (b6_8 (x.1, x.2.1, x.2.2.1, g, x.2.2.2.2)) (hA := mv_ 1 rfl)⟩
      · exact SQ.make tt_ok rfl rfl n rfl rfl h10a h10b hn63 fun g => ⟨trivial, dp_ (b6_10 (x.1, x.2.1, x.2.2.1, x.2.2.2.1, g, x.2.2.2.2.2)) (hA := mv_ 1 rfl)⟩
      · exact SQ.make tt_ok rfl rfl n rfl rfl h12a h12b hn63 fun g => ⟨trivial, dp_ (b6_12 (x.1, x.2.1, x.2.2.1, x.2.2.2.1, x.2.2.2.2.1, g)) (hA := mv_ 1 rfl)⟩
    have b8 : ∀ x : Nat × Nat × Nat × Nat × Nat × Nat, B1 9 (lsR [8]) ([(40, vR x.2.2.2.1 n)] ++ beR d n l) ([mR ti4 x.2.2.2.1 n] ++ RD) := fun x => by
      refine hs _ _ _ _ [2, 4, 6, 10, 12] (by decide +kernel) ⟨⟨_, rfl, rfl, ?_⟩, ⟨_, rfl, rfl, ?_⟩, ⟨_, rfl, rfl, ?_⟩, ⟨_, rfl, rfl, ?_⟩, ⟨_, rfl, rfl, ?_⟩, trivial⟩
      · exact SQ.make tt_ok rfl rfl n rfl rfl h2a h2b hn63 fun g => ⟨trivial, dp_ (b2_8 (g, x.2)) (hA := mv_ 0 rfl)⟩
      · exact SQ.make tt_ok rfl rfl l rfl rfl h4a h4b hl63 fun g => ⟨trivial, dp_ (b4_8 (x.1, g, x.2.2)) (hA := mv_ 0 rfl)⟩
      · exact SQ.make tt_ok rfl rfl n rfl rfl h6a h6b hn63 fun g => ⟨trivial, dp_ (b6_8 (x.1, x.2.1, g, x.2.2.2)) (hA := mv_ 0 rfl)⟩
      · exact SQ.make tt_ok rfl rfl n rfl rfl h10a h10b hn63 fun g => ⟨trivial, dp_ (b8_10 (x.1, x.2.1, x.2.2.1, x.2.2.2.1, g, x.2.2.2.2.2)) (hA := mv_ 1 rfl)⟩
      · exact SQ.make tt_ok rfl rfl n rfl rfl h12a h12b hn63 fun g => ⟨trivial, dp_ (b8_12 (x.1, x.2.1, x.2.2.1, x.2.2.2.1, x.2.2.2.2.1, g)) (hA := mv_ 1 rfl)⟩
    have b10 : ∀ x : Nat × Nat × Nat × Nat × Nat × Nat, B1 9 (lsR [10]) ([(42, vR x.2.2.2.2.1 n)] ++ beR d n l) ([mR ti44 x.2.2.2.2.1 n] ++ RD) := fun x => by
      refine hs _ _ _ _ [2, 4, 6, 8, 12] (by decide +kernel) ⟨⟨_, rfl, rfl, ?_⟩, ⟨_, rfl, rfl, ?_⟩, ⟨_, rfl, rfl, ?_⟩, ⟨_, rfl, rfl, ?_⟩, ⟨_, rfl, rfl, ?_⟩, trivial⟩
      · exact SQ.make tt_ok rfl rfl n rfl rfl h2a h2b hn63 fun g => ⟨trivial, dp_ (b2_10 (g, x.2)) (hA := mv_ 0 rfl)⟩
      · exact SQ.make tt_ok rfl rfl l rfl rfl h4a h4b hl63 fun g => ⟨trivial, dp_ (b4_10 (x.1, g, x.2.2)) (hA := mv_ 0 rfl)⟩
      · exact SQ.make tt_ok rfl rfl n rfl rfl h6a h6b hn63 fun g => ⟨trivial, dp_ (b6_10 (x.1, x.2.1, g, x.2.2.2)) (hA := mv_ 0 rfl)⟩
      · exact SQ.make tt_ok rfl rfl n rfl rfl h8a h8b hn63 fun g => ⟨trivial, dp_ (b8_10 (x.1, x.2.1, x.2.2.1, g, x.2.2.2.2)) (hA := mv_ 0 rfl)⟩
      · exact SQ.make tt_ok rfl rfl n rfl rfl h12a h12b hn63 fun g => ⟨trivial, dp_ (b10_12 (x.1, x.2.1, x.2.2.1, x.2.2.2.1, x.2.2.2.2.1, g)) (hA := mv_ 1 rfl)⟩
    have b12 : ∀ x : Nat × Nat × Nat × Nat × Nat × Nat, B1 9 (lsR [12]) ([(44, vR x.2.2.2.2.2 n)] ++ beR d n l) ([mR ti44 x.2.2.2.2.2 n] ++ RD) := fun x => by
      refine hs _ _ _ _ [2, 4, 6, 8, 10] (by decide +kernel) ⟨⟨_, rfl, rfl, ?_⟩, ⟨_, rfl, rfl, ?_⟩, ⟨_, rfl, rfl, ?_⟩, ⟨_, rfl, rfl, ?_⟩, ⟨_, rfl, rfl, ?_⟩, trivial⟩
      · exact SQ.make tt_ok rfl rfl n rfl rfl h2a h2b hn63 fun g => ⟨trivial, dp_ (b2_12 (g, x.2)) (hA := mv_ 0 rfl)⟩
      · exact SQ.make tt_ok rfl rfl l rfl rfl h4a h4b hl63 fun g => ⟨trivial, dp_ (b4_12 (x.1, g, x.2.2)) (hA := mv_ 0 rfl)⟩
      · exact SQ.make tt_ok rfl rfl n rfl rfl h6a h6b hn63 fun g => ⟨trivial, dp_ (b6_12 (x.1, x.2.1, g, x.2.2.2)) (hA := mv_ 0 rfl)⟩
      · exact SQ.make tt_ok rfl rfl n rfl rfl h8a h8b hn63 fun g => ⟨trivial, dp_ (b8_12 (x.1, x.2.1, x.2.2.1, g, x.2.2.2.2)) (hA := mv_ 0 rfl)⟩
      · exact SQ.make tt_ok rfl rfl n rfl rfl h10a h10b hn63 fun g => ⟨trivial, dp_ (b10_12 (x.1, x.2.1, x.2.2.1, x.2.2.2.1, g, x.2.2.2.2.2)) (hA := mv_ 0 rfl)⟩
    have x : Nat × Nat × Nat × Nat × Nat × Nat := (0, 0, 0, 0, 0, 0)
    refine hs _ _ _ _ [2, 4, 6, 8, 10, 12] (by decide +kernel) ⟨⟨_, rfl, rfl, ?_⟩, ⟨_, rfl, rfl, ?_⟩, ⟨_, rfl, rfl, ?_⟩, ⟨_, rfl, rfl, ?_⟩, ⟨_, rfl, rfl, ?_⟩, ⟨_, rfl, rfl, ?_⟩, trivial⟩
    · exact SQ.make tt_ok rfl rfl n rfl rfl h2a h2b hn63 fun g => ⟨trivial, dp_ (b2 (g, x.2)) (hA := mv_ 0 rfl)⟩
    · exact SQ.make tt_ok rfl rfl l rfl rfl h4a h4b hl63 fun g => ⟨trivial, dp_ (b4 (x.1, g, x.2.2)) (hA := mv_ 0 rfl)⟩
    · exact SQ.make tt_ok rfl rfl n rfl rfl h6a h6b hn63 fun g => ⟨trivial, dp_ (b6 (x.1, x.2.1, g, x.2.2.2)) (hA := mv_ 0 rfl)⟩
    · exact SQ.make tt_ok rfl rfl n rfl rfl h8a h8b hn63 fun g => ⟨trivial, dp_ (b8 (x.1, x.2.1, x.2.2.1, g, x.2.2.2.2)) (hA := mv_ 0 rfl)⟩
    · exact SQ.make tt_ok rfl rfl n rfl rfl h10a h10b hn63 fun g => ⟨trivial, dp_ (b10 (x.1, x.2.1, x.2.2.1, x.2.2.2.1, g, x.2.2.2.2.2)) (hA := mv_ 0 rfl)⟩
    · exact SQ.make tt_ok rfl rfl n rfl rfl h12a h12b hn63 fun g => ⟨trivial, dp_ (b12 (x.1, x.2.1, x.2.2.1, x.2.2.2.1, x.2.2.2.2.1, g)) (hA := mv_ 0 rfl)⟩
  · rintro ⟨ga, gb, gc, gd, ge, gf, p⟩
    simp only
    (refine G tt_ok [] ?_; repeat (refine G1 tt_ok [] ?_; intro _))
    refine CW.ret (fin_ret rfl (A := rgA p ⟨d, R, D, some ⟨ga, 0, none⟩, n, some ⟨gb, 0, none⟩, l, some ⟨gc, 0, none⟩, n, some ⟨gd, 0, none⟩, n, some ⟨ge, 0, none⟩, n, some ⟨gf, 0, none⟩, n, List.replicate n rf0, List.replicate l 0, List.replicate n w0, List.replicate n false, List.replicate n 0, List.replicate n 0⟩) ?_ ⟨p, _, rfl, rfl, hnew, hRo, rfl, rfl, rfl, rfl, rfl, rfl⟩)
    have f1 : (madeCells ti172.zero.cells (n * ti172.size)).toList = (List.replicate n rf0).flatMap rfC := Bn.made_flat_of (enc := rfC) (a := rf0) ti172.zero.cells rfl (by decide) _
    have f2 : (madeCells ti5.zero.cells (l * ti5.size)).toList = (List.replicate l 0).flatMap byC := made_by l
    have f3 : (madeCells ti82.zero.cells (n * ti82.size)).toList = (List.replicate n w0).flatMap wlC := Bn.made_flat_of (enc := wlC) (a := w0) ti82.zero.cells rfl (by decide) _
    have f4 : (madeCells ti4.zero.cells (n * ti4.size)).toList = (List.replicate n false).flatMap boC := Bn.made_flat_of (enc := boC) (a := false) ti4.zero.cells rfl (by decide) _
    have f5 : (madeCells ti44.zero.cells (n * ti44.size)).toList = (List.replicate n 0).flatMap wC := Bn.made_flat_of (enc := wC) (a := 0) ti44.zero.cells rfl (by decide) _
    rw [f1, f2, f3, f4, f5]
    unfold rgA
    simp only [List.length_replicate]
    rw [hRD]
    have hall : Ent [pt ga ((List.replicate n rf0).flatMap rfC), pt gb ((List.replicate l 0).flatMap byC), pt gc ((List.replicate n w0).flatMap wlC), pt gd ((List.replicate n false).flatMap boC), pt ge ((List.replicate n 0).flatMap wC), pt gf ((List.replicate n 0).flatMap wC)]
        [rowA (some ⟨ga, 0, none⟩) n ((List.replicate n rf0).flatMap rfC), rowA (some ⟨gb, 0, none⟩) l ((List.replicate l 0).flatMap byC), rowA (some ⟨gc, 0, none⟩) n ((List.replicate n w0).flatMap wlC), rowA (some ⟨gd, 0, none⟩) n ((List.replicate n false).flatMap boC), rowA (some ⟨ge, 0, none⟩) n ((List.replicate n 0).flatMap wC), rowA (some ⟨gf, 0, none⟩) n ((List.replicate n 0).flatMap wC)] :=
      Ent.append (L := [_]) row_close0 (Ent.append (L := [_]) row_close0 (Ent.append (L := [_]) row_close0 (Ent.append (L := [_]) row_close0 (Ent.append (L := [_]) row_close0 row_close0))))
    refine (pk_w0 _ n).trans ?_
    refine Ent.trans (Ent.append (L := [_, _]) (Ent.refl _) (Ent.append hall (Ent.refl RD))) ?_
    exact Ent.append (L := [_, _, _, _, _, _, _, _]) (L' := [_, _, _, _, _, _, _, _]) (Ent.sel (is := [1, 1, 1, 1, 0, 0, 0, 0]) rfl) (Ent.refl RD)
end Go.Proofs.YtebpodnbalfomaaGreatDoor.Sl
namespace Go.Proofs.YtebpodnbalfomaaGreatDoor.Sl.W2
open Go Go.RowKit Go.Proofs
set_option linter.unusedVariables false
set_option linter.unusedSimpArgs false
attribute [local irreducible] CW Tri OW
set_option maxRecDepth 10000
end Go.Proofs.YtebpodnbalfomaaGreatDoor.Sl.W2
namespace Go.Proofs.YtebpodnbalfomaaGreatDoor.Sl
open Go Go.RowKit Go.Proofs
set_option linter.unusedVariables false
set_option linter.unusedSimpArgs false
attribute [local irreducible] CW Tri OW
attribute [local irreducible] lds wlen
set_option maxRecDepth 10000
@[reducible] def pk30 : List (Nat × Plan) := []
/-- An act. -/
structure VA where
  o : Int
  v : Int
  w : Int
  id : Int
  off : Int
  reg : Int
  x : Nat
  hi : Bool
  d : Ac
@[reducible] def vaV (a : VA) : Value := .agg #[.int .i64 a.o, .int .i64 a.v, .int .i64 a.w, .int .i64 a.id, .int .i64 a.off, .int .i64 a.reg, .int .u64 (a.x : Int), .bool a.hi, .int .i64 a.d.1, .int .i64 a.d.2.1, .int .i64 a.d.2.2.1, .int .i64 a.d.2.2.2.1, .int .u64 (a.d.2.2.2.2.1 : Int), .int .i64 a.d.2.2.2.2.2.1, .bool a.d.2.2.2.2.2.2.1.1, .bool a.d.2.2.2.2.2.2.1.2.1, .bool a.d.2.2.2.2.2.2.1.2.2.1, .bool a.d.2.2.2.2.2.2.1.2.2.2, .bool a.d.2.2.2.2.2.2.2]
@[reducible] def vaC (a : VA) : List Value := .int .i64 a.o :: .int .i64 a.v :: .int .i64 a.w :: .int .i64 a.id :: .int .i64 a.off :: .int .i64 a.reg :: .int .u64 (a.x : Int) :: .bool a.hi :: acC a.d
def vaOk (a : VA) : Prop := a.id < 9223372036854775808 ∧ a.x < 2 ^ 64 ∧ acOk a.d
theorem wide30 (β : Base) (a : VA) : Tri Tryz.prog β 30 [vaV a] [] (fun v L => v = .int .i64 (wideV a.hi) ∧ L = []) := by
  obtain ⟨o, v, w, id, off, reg, x, hi, d⟩ := a
  refine Tri.intro tt_ok Tryz.func30 rfl rfl Tryz.ntmps30 rfl fun F => ?_
  (refine G tt_ok pk30 ?_; repeat (refine G1 tt_ok pk30 ?_; intro _))
  cases hi with
  | true =>
    (refine G tt_ok pk30 ?_; repeat (refine G1 tt_ok pk30 ?_; intro _))
    exact CW.ret (fin_ret rfl (Ent.dropAll _) ⟨rfl, rfl⟩)
  | false =>
    (refine G tt_ok pk30 ?_; repeat (refine G1 tt_ok pk30 ?_; intro _))
    exact CW.ret (fin_ret rfl (Ent.dropAll _) ⟨rfl, rfl⟩)
theorem gsetup17 (β : Base) (g : Nat) (Z : GS) {id : Int} (hi : id ≤ 9223372036854775807) (b : Nat) : Tri Tryz.prog β 17 [.pointer (some ⟨g, 0, none⟩), .int .i64 id, .int .u8 b] (gA g Z)
    (fun v L => v = .int .i64 (Z.setupV id b).2 ∧ L = gA g (Z.setupV id b).1) := by
  have h := (setup17 β g Z.d Z.qc Z.qs Z.cc Z.ss.length Z.cs (cf := Z.cf) hi b).frame ([rowA Z.qs Z.ss.length (Z.ss.flatMap sdC), pkA sdA Z.ss] ++ dA Z.d Z.D)
  refine (Tri.ent ?_ h).monoE ?_
  · rw [gL_of]; exact pk_
  · rintro v L ⟨A', rfl, hv, rfl⟩
    refine ⟨gA g (Z.setupV id b).1, ?_, ?_, rfl⟩
    · unfold GS.setupV
      split
      · rw [gL_of]; simp only [List.length_set]; exact pk_
      · rw [gL_of]; exact pk_
    · rw [hv]; unfold GS.setupV; split <;> rfl
theorem fc0_ok : FcOk fc0 := ⟨by decide, by decide, by decide, by decide, by decide⟩
theorem NewG.ok {R : RS} {Z : GS} {n s l : Nat} (h : NewG Z n s l) (hn0 : 1 ≤ n) (hn1 : n ≤ 4) (hs : s ≤ 64) (hl : l ≤ 64) (hR : R.os.length = n) : OkG R Z := by
  refine ⟨newD_ok h.d hn0 (by omega) hs hR, by rw [h.n, h.d.2.2.2.1], by rw [h.n]; exact hn1, by rw [h.cf]; simpa using hl, ?_, ?_⟩
  · intro b hb; rw [h.cf] at hb; rw [List.eq_of_mem_replicate hb]; decide
  · intro x hx
    obtain ⟨a, b, c, d, e⟩ := h.ss x hx
    refine ⟨by rw [a]; exact fc0_ok, by rw [b]; exact fun y hy => by (cases hy), fun j hj hh => ?_, by rw [d]; decide, by rw [e]; decide⟩
    rw [b] at hh; cases hh
end Go.Proofs.YtebpodnbalfomaaGreatDoor.Sl
namespace Go.Proofs.YtebpodnbalfomaaGreatDoor.Sl
open Go Go.RowKit Go.Proofs
set_option linter.unusedVariables false
set_option linter.unusedSimpArgs false
attribute [local irreducible] CW Tri OW
set_option maxRecDepth 10000
@[reducible] def pk12 : List (Nat × Plan) := []
@[reducible] def pk28 : List (Nat × Plan) := []
set_option maxHeartbeats 4000000 in
/-- The candidates that a loop goes through. -/
theorem cands12 (β : Base) {gf : Nat} {cap : Array Value} {A : List Atom} {cs : List Cd} (hI : Iter Tryz.prog β gf cap.toList A cdC cs) (hl : cs.length ≤ 1000) :
    Tri Tryz.prog β 12 [.func (.func gf) #[] cap] A (fun v L => ∃ q c, v = .slice q cs.length c ∧ L = rowA q cs.length (cs.flatMap encC) :: A) := by
  refine Tri.intro tt_ok Tryz.func12 rfl rfl Tryz.ntmps12 rfl fun F => ?_
  (refine G tt_ok pk12 ?_; repeat (refine G1 tt_ok pk12 ?_; intro _))
  rename_i b3
  refine CW.ent (L' := A ++ [exA fun x : Option Addr × Nat => [pt b3 [.slice x.1 0 x.2], own 34 4 (.slice x.1 0 x.2) 0 []]]) ?_ ?_
  · refine Ent.trans ?_ (Ent.perm List.perm_append_comm)
    refine Ent.trans (own_nil 34 4) ?_
    exact Ent.append (L := [own 34 4 (.slice none 0 0) 0 [], pt b3 [.slice none 0 0]]) (L' := [exA fun x : Option Addr × Nat => [pt b3 [.slice x.1 0 x.2], own 34 4 (.slice x.1 0 x.2) 0 []]]) (M := A) (M' := A)
      ((Ent.perm (List.Perm.swap _ _ _)).trans (Ent.exA (f := fun x : Option Addr × Nat => [pt b3 [.slice x.1 0 x.2], own 34 4 (.slice x.1 0 x.2) 0 []]) (none, 0))) (Ent.refl _)
  refine CW.rangeFunc rfl hI (List.replicate A.length 0) (sel_front A)
    (fun pre => [exA fun x : Option Addr × Nat => [pt b3 [.slice x.1 pre.length x.2], own 34 4 (.slice x.1 pre.length x.2) pre.length (pre.flatMap encC)]])
    (fun _ _ => False) (Ent.refl _) (fun _ => rfl) (by decide) ?_ ?_ (fun _ _ h => h.elim)
  · intro pre p hpre lp fm rec1
    have hpl : pre.length < 1000 := by have := hpre.length_le; simp at this; omega
    refine CW.open_ fun x => ?_
    obtain ⟨q, c⟩ := x
    (refine G tt_ok pk12 ?_; repeat (refine G1 tt_ok pk12 ?_; intro _))
    intro fm2 rec2
    (refine G tt_ok pk12 ?_; repeat (refine G1 tt_ok pk12 ?_; intro _))
    (refine SQ.built tt_ok rfl rfl (fun _ => w_ ?_))
    (refine G tt_ok pk12 ?_; repeat (refine G1 tt_ok pk12 ?_; intro _))
    (refine SQ.appA tt_ok rfl rfl (by repeat (first | exact Rm.h | apply Rm.t)) (by repeat (first | exact .h | exact .q | apply At.t)) (encC p) rfl rfl rfl (scal_eq rfl) (by omega) (by show (pre.length + 1) * 32 ≤ _; omega) (fun q2 c2 => w_ ?_))
    (refine G tt_ok pk12 ?_; repeat (refine G1 tt_ok pk12 ?_; intro _))
    rw [decide_eq_false (show ¬ (((pre.length + 1 : Nat) : Int) > 2000) by omega)]
    (refine G tt_ok pk12 ?_; repeat (refine G1 tt_ok pk12 ?_; intro _))
    refine Ent.trans ?_ (Ent.append (L' := [exA fun x : Option Addr × Nat => [pt b3 [.slice x.1 (pre ++ [p]).length x.2], own 34 4 (.slice x.1 (pre ++ [p]).length x.2) (pre ++ [p]).length ((pre ++ [p]).flatMap encC)]]) (M := A) (M' := A) (Ent.exA (f := fun x : Option Addr × Nat => [pt b3 [.slice x.1 (pre ++ [p]).length x.2], own 34 4 (.slice x.1 (pre ++ [p]).length x.2) (pre ++ [p]).length ((pre ++ [p]).flatMap encC)]) (q2, c2)) (Ent.refl _))
    rw [show (pre ++ [p]).length = pre.length + 1 by simp, flat_snoc]
    exact Ent.append (L := [_, _, _, _]) (L' := [pt b3 [.slice q2 (pre.length + 1) c2], own 34 4 (.slice q2 (pre.length + 1) c2) (pre.length + 1) (pre.flatMap encC ++ encC p)]) (M := A) (Ent.sel (is := [3, 0]) rfl) (Ent.refl A)
  · refine CW.open_ fun x => ?_
    obtain ⟨q, c⟩ := x
    (refine G tt_ok pk12 ?_; repeat (refine G1 tt_ok pk12 ?_; intro _))
    refine CW.ret (fin_ret rfl (A := rowA q cs.length (cs.flatMap encC) :: A) (Ent.append (L := [pt b3 [.slice q cs.length c], own 34 4 (.slice q cs.length c) cs.length (cs.flatMap encC)]) (L' := [rowA q cs.length (cs.flatMap encC)]) (M := A) (Ent.trans (Ent.sel (is := [1]) rfl) own_row) (Ent.refl A)) ?_)
    exact ⟨q, c, rfl, rfl⟩
set_option maxHeartbeats 4000000 in
/-- The numbers that a loop goes through. -/
theorem nums28 (β : Base) {gf : Nat} {cap : Array Value} {A : List Atom} {cs : List Int} (hI : Iter Tryz.prog β gf cap.toList A iC1 cs) (hl : cs.length ≤ 1000) :
    Tri Tryz.prog β 28 [.func (.func gf) #[] cap] A (fun v L => ∃ q c, v = .slice q cs.length c ∧ L = rowA q cs.length (cs.flatMap iC1) :: A) := by
  refine Tri.intro tt_ok Tryz.func28 rfl rfl Tryz.ntmps28 rfl fun F => ?_
  (refine G tt_ok pk28 ?_; repeat (refine G1 tt_ok pk28 ?_; intro _))
  rename_i b3
  refine CW.ent (L' := A ++ [exA fun x : Option Addr × Nat => [pt b3 [.slice x.1 0 x.2], own 3 1 (.slice x.1 0 x.2) 0 []]]) ?_ ?_
  · refine Ent.trans ?_ (Ent.perm List.perm_append_comm)
    refine Ent.trans (own_nil 3 1) ?_
    exact Ent.append (L := [own 3 1 (.slice none 0 0) 0 [], pt b3 [.slice none 0 0]]) (L' := [exA fun x : Option Addr × Nat => [pt b3 [.slice x.1 0 x.2], own 3 1 (.slice x.1 0 x.2) 0 []]]) (M := A) (M' := A)
      ((Ent.perm (List.Perm.swap _ _ _)).trans (Ent.exA (f := fun x : Option Addr × Nat => [pt b3 [.slice x.1 0 x.2], own 3 1 (.slice x.1 0 x.2) 0 []]) (none, 0))) (Ent.refl _)
  refine CW.rangeFunc rfl hI (List.replicate A.length 0) (sel_front A)
    (fun pre => [exA fun x : Option Addr × Nat => [pt b3 [.slice x.1 pre.length x.2], own 3 1 (.slice x.1 pre.length x.2) pre.length (pre.flatMap iC1)]])
    (fun _ _ => False) (Ent.refl _) (fun _ => rfl) (by decide) ?_ ?_ (fun _ _ h => h.elim)
  · intro pre p hpre lp fm rec1
    have hpl : pre.length < 1000 := by have := hpre.length_le; simp at this; omega
    refine CW.open_ fun x => ?_
    obtain ⟨q, c⟩ := x
    (refine G tt_ok pk28 ?_; repeat (refine G1 tt_ok pk28 ?_; intro _))
    intro fm2 rec2
    (refine G tt_ok pk28 ?_; repeat (refine G1 tt_ok pk28 ?_; intro _))
    (refine SQ.built tt_ok rfl rfl (fun _ => w_ ?_))
    (refine G tt_ok pk28 ?_; repeat (refine G1 tt_ok pk28 ?_; intro _))
    (refine SQ.appA tt_ok rfl rfl (by repeat (first | exact Rm.h | apply Rm.t)) (by repeat (first | exact .h | exact .q | apply At.t)) (iC1 p) rfl rfl rfl (scal_eq rfl) (by omega) (by show (pre.length + 1) * 8 ≤ _; omega) (fun q2 c2 => w_ ?_))
    (refine G tt_ok pk28 ?_; repeat (refine G1 tt_ok pk28 ?_; intro _))
    rw [decide_eq_false (show ¬ (((pre.length + 1 : Nat) : Int) > 2000) by omega)]
    (refine G tt_ok pk28 ?_; repeat (refine G1 tt_ok pk28 ?_; intro _))
    refine Ent.trans ?_ (Ent.append (L' := [exA fun x : Option Addr × Nat => [pt b3 [.slice x.1 (pre ++ [p]).length x.2], own 3 1 (.slice x.1 (pre ++ [p]).length x.2) (pre ++ [p]).length ((pre ++ [p]).flatMap iC1)]]) (M := A) (M' := A) (Ent.exA (f := fun x : Option Addr × Nat => [pt b3 [.slice x.1 (pre ++ [p]).length x.2], own 3 1 (.slice x.1 (pre ++ [p]).length x.2) (pre ++ [p]).length ((pre ++ [p]).flatMap iC1)]) (q2, c2)) (Ent.refl _))
    rw [show (pre ++ [p]).length = pre.length + 1 by simp, flat_snoc]
    exact Ent.append (L := [_, _, _]) (L' := [pt b3 [.slice q2 (pre.length + 1) c2], own 3 1 (.slice q2 (pre.length + 1) c2) (pre.length + 1) (pre.flatMap iC1 ++ iC1 p)]) (M := A) (Ent.sel (is := [2, 0]) rfl) (Ent.refl A)
  · refine CW.open_ fun x => ?_
    obtain ⟨q, c⟩ := x
    (refine G tt_ok pk28 ?_; repeat (refine G1 tt_ok pk28 ?_; intro _))
    refine CW.ret (fin_ret rfl (A := rowA q cs.length (cs.flatMap iC1) :: A) (Ent.append (L := [pt b3 [.slice q cs.length c], own 3 1 (.slice q cs.length c) cs.length (cs.flatMap iC1)]) (L' := [rowA q cs.length (cs.flatMap iC1)]) (M := A) (Ent.trans (Ent.sel (is := [1]) rfl) own_row) (Ent.refl A)) ?_)
    exact ⟨q, c, rfl, rfl⟩
end Go.Proofs.YtebpodnbalfomaaGreatDoor.Sl
namespace Go.Proofs.YtebpodnbalfomaaGreatDoor.Sl
open Go Go.RowKit Go.Proofs
set_option linter.unusedVariables false
set_option linter.unusedSimpArgs false
attribute [local irreducible] CW Tri OW
attribute [local irreducible] wlen
set_option maxRecDepth 10000
@[reducible] def pk9 : List (Nat × Plan) := []
/-- Where the example's controller lies. -/
structure Hv where
  d : Nat
  sb : Nat
  sq : Option Addr
  sc : Nat
  qd : Option Addr
  cd : Nat
  b1 : Nat
  q1 : Option Addr
  c1 : Nat
  b2 : Nat
  q2 : Option Addr
  c2 : Nat
  qc : Option Addr
  cc : Nat
  qs : Option Addr
  cs : Nat
  S1 : Nat
  S2 : Nat
def aw0 (h : Hv) : GS := ⟨h.d, ⟨false, false, h.sb, h.sq, h.sc, List.replicate 32 (Br.zeroE.1, (0, false)), h.qd, h.cd, [⟨h.b1, h.q1, h.c1, ownK 16, false⟩, ⟨h.b2, h.q2, h.c2, ownK 16, false⟩]⟩, h.qc, h.cc, List.replicate 8 0, h.qs, h.cs, [⟨fc0, h.S1, none, false, 0, 0⟩, ⟨fc0, h.S2, none, false, 0, 0⟩]⟩
def aw1 (h : Hv) : GS := { aw0 h with D := ((aw0 h).D.wrV 0 4 2).1 }
def aw2 (h : Hv) : GS := ((aw1 h).wrOwnV 0 0 4 1).1
def aw3 (h : Hv) : GS := ((aw2 h).setupV 8195 161).1
def aw4 (h : Hv) : GS := ((aw3 h).letV 0 8195 true).1
def aw5 (h : Hv) : GS := ((aw4 h).accV 0 6 true 248).1
def aw6 (h : Hv) : GS := ((aw5 h).accV 0 11 true 1).1
def aw7 (h : Hv) : GS := ((aw6 h).accV 0 2 false 0).1
def aw8 (h : Hv) : GS := ((aw7 h).accV 0 12 false 0).1
def aw9 (h : Hv) : GS := ((aw8 h).accV 0 4 true 8195).1
theorem aw_b (h : Hv) : ((aw1 h).wrOwnV 0 0 4 1).2 = (1, 0) := by kernel_rfl
theorem aw_c (h : Hv) : ((aw3 h).letV 0 8195 true).2.1 = false := by kernel_rfl
theorem aw_d (h : Hv) : topC ((aw4 h).candV 0) = (8195, 160, 1, true) := by kernel_rfl
theorem aw_e (h : Hv) : ((aw6 h).accV 0 2 false 0).2.1 = 8195 := by kernel_rfl
theorem aw_f (h : Hv) : ((aw7 h).accV 0 12 false 0).2.1 = 160 := by kernel_rfl
theorem aw_g (h : Hv) : ((aw8 h).accV 0 4 true 8195).2.2 = (-1, 0) := by kernel_rfl
theorem aw_h (h : Hv) : (aw9 h).waitsV 0 = [] := by kernel_rfl
def aR : RS := ⟨⟨0, none, 0, none, 0⟩, none, 0, none, 0, none, 0, none, 0, [⟨0, none, 0, none, 0⟩, ⟨0, none, 0, none, 0⟩]⟩
theorem newG_2 {Z : GS} (h : NewG Z 2 32 8) : ∃ x, Z = aw0 x := by
  obtain ⟨d, D, qc, cc, cf, qs, cs, ss⟩ := Z
  obtain ⟨hd, hcf, hn, hss⟩ := h
  simp only at hd hcf hn hss
  obtain ⟨o0, o1, sb, sq, sc, sh, qd, cd, xs⟩ := D
  obtain ⟨a, b, c, d, e⟩ := hd
  simp only at a b c d e
  subst a; subst b; subst c; subst hcf
  match xs, d, ss, hn with
  | [⟨b1, q1, c1, es1, sl1⟩, ⟨b2, q2, c2, es2, sl2⟩], _, [⟨f1, S1, W1, on1, p1, e1⟩, ⟨f2, S2, W2, on2, p2, e2⟩], _ =>
    obtain ⟨i1, i2⟩ := e _ (by simp : (⟨b1, q1, c1, es1, sl1⟩ : CR) ∈ _)
    obtain ⟨g1, g2⟩ := e ⟨b2, q2, c2, es2, sl2⟩ (by simp)
    obtain ⟨u1, u2, u3, u4, u5⟩ := hss ⟨f1, S1, W1, on1, p1, e1⟩ (by simp)
    obtain ⟨v1, v2, v3, v4, v5⟩ := hss ⟨f2, S2, W2, on2, p2, e2⟩ (by simp)
    simp only at i1 i2 g1 g2 u1 u2 u3 u4 u5 v1 v2 v3 v4 v5
    subst i1; subst i2; subst g1; subst g2; subst u1; subst u2; subst u3; subst u4; subst u5; subst v1; subst v2; subst v3; subst v4; subst v5
    exact ⟨⟨_, sb, sq, sc, qd, cd, b1, q1, c1, b2, q2, c2, qc, cc, qs, cs, S1, S2⟩, rfl⟩
theorem aw2_is (h : Hv) : ((aw1 h).wrOwnV 0 0 4 1).1 = aw2 h := rfl
theorem aw3_is (h : Hv) : ((aw2 h).setupV 8195 161).1 = aw3 h := rfl
theorem aw4_is (h : Hv) : ((aw3 h).letV 0 8195 true).1 = aw4 h := rfl
theorem aw5_is (h : Hv) : ((aw4 h).accV 0 6 true 248).1 = aw5 h := rfl
theorem aw6_is (h : Hv) : ((aw5 h).accV 0 11 true 1).1 = aw6 h := rfl
theorem aw7_is (h : Hv) : ((aw6 h).accV 0 2 false 0).1 = aw7 h := rfl
theorem aw8_is (h : Hv) : ((aw7 h).accV 0 12 false 0).1 = aw8 h := rfl
theorem aw9_is (h : Hv) : ((aw8 h).accV 0 4 true 8195).1 = aw9 h := rfl
theorem awg0 (g : Nat) (h : Hv) : gA g (aw0 h) = [pt g (gC h.d h.qc (aw0 h).cf.length h.cc h.qs (aw0 h).ss.length h.cs), rowA h.qc (aw0 h).cf.length ((aw0 h).cf.flatMap byC), rowA h.qs (aw0 h).ss.length ((aw0 h).ss.flatMap sdC), pkA sdA (aw0 h).ss] ++ dA h.d (aw0 h).D := rfl
theorem awg1 (g : Nat) (h : Hv) : gA g (aw1 h) = [pt g (gC h.d h.qc (aw0 h).cf.length h.cc h.qs (aw0 h).ss.length h.cs), rowA h.qc (aw0 h).cf.length ((aw0 h).cf.flatMap byC), rowA h.qs (aw0 h).ss.length ((aw0 h).ss.flatMap sdC), pkA sdA (aw0 h).ss] ++ dA h.d ((aw0 h).D.wrV 0 4 2).1 := rfl
theorem aw_ok (h : Hv) : OkG aR (aw1 h) → OkG aR (aw2 h) ∧ OkG aR (aw3 h) ∧ OkG aR (aw4 h) ∧ OkG aR (aw5 h) ∧ OkG aR (aw6 h) ∧ OkG aR (aw7 h) ∧ OkG aR (aw8 h) ∧ OkG aR (aw9 h) := fun ok1 => by
  have ok2 : OkG aR (aw2 h) := ok1.wrOwnV _ _ _ _
  have ok3 : OkG aR (aw3 h) := ok2.setupV _ (by omega)
  have ok4 : OkG aR (aw4 h) := ok3.letV _ (by omega) _
  have ok5 : OkG aR (aw5 h) := ok4.accV _ _ _ _
  have ok6 : OkG aR (aw6 h) := ok5.accV _ _ _ _
  have ok7 : OkG aR (aw7 h) := ok6.accV _ _ _ _
  have ok8 : OkG aR (aw8 h) := ok7.accV _ _ _ _
  have ok9 : OkG aR (aw9 h) := ok8.accV _ _ _ _
  exact ⟨ok2, ok3, ok4, ok5, ok6, ok7, ok8, ok9⟩
theorem aw_ok1 (h : Hv) (ok0 : OkG aR (aw0 h)) : OkG aR (aw1 h) := ok0.setD (ok0.ok.wrV _ _ _) (wrV_len _ _ _ _)
attribute [local irreducible] aw0 aw1 aw2 aw3 aw4 aw5 aw6 aw7 aw8 aw9
theorem gwaits29N (β : Base) (g : Nat) {R : RS} {Z : GS} (ok : OkN R Z) (k : Int) : Tri Tryz.prog β 29 [.pointer (some ⟨g, 0, none⟩), .int .i64 k] (gA g Z)
    (fun v L => ∃ b1 b2 q1 c1 W, v = .func (.func 207) #[] #[.pointer (some ⟨b1, 0, none⟩), .pointer (some ⟨b2, 0, none⟩)] ∧
      L = [pt b1 [.slice q1 (wds W).length c1], rowA q1 (wds W).length ((wds W).flatMap wC), pt b2 [.int .i64 0]] ++ gA g Z ∧ memS W = Z.waitsV k ∧ setOk W) := by
  have h := (waits29 β g Z k).frame (rowA Z.qc Z.cf.length (Z.cf.flatMap byC) :: dA Z.d Z.D)
  refine (Tri.ent ?_ h).monoE ?_
  · rw [gL_of]; unfold gL; exact pk_
  · rintro v L ⟨A', rfl, b1, b2, q1, c1, W, hW, hm, hv, rfl⟩
    have hok : setOk W := by
      rcases hW with h | ⟨s, hs, rfl⟩
      · exact h
      · exact ok.w s hs
    refine ⟨[pt b1 [.slice q1 (wds W).length c1], rowA q1 (wds W).length ((wds W).flatMap wC), pt b2 [.int .i64 0]] ++ gA g Z, ?_, b1, b2, q1, c1, W, hv, rfl, hm, hok⟩
    rw [gL_of]; unfold gL
    exact pk_
theorem gwaits29 (β : Base) (g : Nat) {R : RS} {Z : GS} (ok : OkG R Z) (k : Int) : Tri Tryz.prog β 29 [.pointer (some ⟨g, 0, none⟩), .int .i64 k] (gA g Z)
    (fun v L => ∃ b1 b2 q1 c1 W, v = .func (.func 207) #[] #[.pointer (some ⟨b1, 0, none⟩), .pointer (some ⟨b2, 0, none⟩)] ∧
      L = [pt b1 [.slice q1 (wds W).length c1], rowA q1 (wds W).length ((wds W).flatMap wC), pt b2 [.int .i64 0]] ++ gA g Z ∧ memS W = Z.waitsV k ∧ setOk W) := gwaits29N β g ok.n k
set_option maxHeartbeats 8000000 in
theorem awake9 (β : Base) (hG : TabOk β) : Tri Tryz.prog β 9 [] [] (fun v L => v = .bool true ∧ L = []) := by
  refine Tri.intro tt_ok Tryz.func9 rfl rfl Tryz.ntmps9 rfl fun F => ?_
  (refine G tt_ok pk9 ?_; repeat (refine G1 tt_ok pk9 ?_; intro _))
  (refine ka rfl rfl (gnew34 β (n := 2) (s := 32) (l := 8) (by omega) (by omega) (by omega) (by omega)) ?_; rintro _ _ ⟨g, Z, rfl, rfl, hZ⟩; refine w_ ?_)
  obtain ⟨h, rfl⟩ := newG_2 hZ
  have ok0 : OkG aR (aw0 h) := hZ.ok (by omega) (by omega) (by omega) (by omega) rfl
  have ok1 := aw_ok1 h ok0
  obtain ⟨ok2, ok3, ok4, ok5, ok6, ok7, ok8, ok9⟩ := aw_ok h ok1
  have c1 := write32 β h.d (aw0 h).D 0 4 2 (by omega)
  have c2 := gwriteOwn18 β g (aw1 h) 0 0 4 (v := 1) (by omega)
  have c3 := gsetup17 β g (aw2 h) (id := 8195) (by omega) 161
  have c4 := glet21 β g ok3 0 (id := 8195) (by omega) true
  have c5 := top24 β hG g ok4 0
  have c6 := access23 β hG g ok4 0 6 true (x := 248) (by omega)
  have c7 := access23 β hG g ok5 0 11 true (x := 1) (by omega)
  have c8 := access23 β hG g ok6 0 2 false (x := 0) (by omega)
  have c9 := access23 β hG g ok7 0 12 false (x := 0) (by omega)
  have c10 := access23 β hG g ok8 0 4 true (x := 8195) (by omega)
  have c11 := gwaits29 β g ok9 0
  rw [aw_b] at c2
  rw [aw_c] at c4
  rw [aw_d] at c5
  rw [aw_e] at c8
  rw [aw_f] at c9
  rw [aw_g] at c10
  rw [aw_h] at c11
  rw [aw2_is] at c2
  rw [aw3_is] at c3
  rw [aw4_is] at c4
  rw [aw5_is] at c6
  rw [aw6_is] at c7
  rw [aw7_is] at c8
  rw [aw8_is] at c9
  rw [aw9_is] at c10
  have e1 := awg1 g h
  have e0 := awg0 g h
  rw [e1] at c2
  rw [e0]
  generalize hc0 : (aw0 h).cf.length = n0 at c2 ⊢
  generalize (aw0 h).cf.flatMap byC = r0 at c2 ⊢
  generalize (aw0 h).ss.length = n1 at c2 ⊢
  generalize (aw0 h).ss.flatMap sdC = r1 at c2 ⊢
  generalize (aw0 h).ss = r2 at c2 ⊢
  (refine G tt_ok pk9 ?_; repeat (refine G1 tt_ok pk9 ?_; intro _))
  refine ke rfl rfl (c1) ?_
  (refine G tt_ok pk9 ?_; repeat (refine G1 tt_ok pk9 ?_; intro _))
  refine ke rfl rfl (c2) ?_
  (refine G tt_ok pk9 ?_; repeat (refine G1 tt_ok pk9 ?_; intro _))
  refine ke rfl rfl (c3) ?_
  (refine G tt_ok pk9 ?_; repeat (refine G1 tt_ok pk9 ?_; intro _))
  refine ke rfl rfl (c4) ?_
  (refine G tt_ok pk9 ?_; repeat (refine G1 tt_ok pk9 ?_; intro _))
  refine ke rfl rfl (c5) ?_
  (refine G tt_ok pk9 ?_; repeat (refine G1 tt_ok pk9 ?_; intro _))
  refine ke rfl rfl (c6) ?_
  (refine G tt_ok pk9 ?_; repeat (refine G1 tt_ok pk9 ?_; intro _))
  refine ke rfl rfl (c7) ?_
  (refine G tt_ok pk9 ?_; repeat (refine G1 tt_ok pk9 ?_; intro _))
  refine ke rfl rfl (c8) ?_
  (refine G tt_ok pk9 ?_; repeat (refine G1 tt_ok pk9 ?_; intro _))
  refine ke rfl rfl (c9) ?_
  (refine G tt_ok pk9 ?_; repeat (refine G1 tt_ok pk9 ?_; intro _))
  refine ke rfl rfl (c10) ?_
  (refine G tt_ok pk9 ?_; repeat (refine G1 tt_ok pk9 ?_; intro _))
  (refine SQ.eqs tt_ok rfl rfl rfl (by kernel_rfl) (by kernel_rfl) ?_)
  (refine G tt_ok pk9 ?_; repeat (refine G1 tt_ok pk9 ?_; intro _))
  (refine ka rfl rfl (c11) ?_; rintro _ _ ⟨b1, b2, q1, d1, W, rfl, rfl, hm, hW⟩; refine w_ ?_)
  (refine G tt_ok pk9 ?_; repeat (refine G1 tt_ok pk9 ?_; intro _))
  (refine ka rfl rfl (nums28 β (iterW β hG b1 b2 q1 d1 hW) (by rw [hm]; simp)) ?_; rintro _ _ ⟨q, c, rfl, rfl⟩; refine w_ ?_)
  (refine G tt_ok pk9 ?_; repeat (refine G1 tt_ok pk9 ?_; intro _))
  rw [hm]
  (refine G tt_ok pk9 ?_; repeat (refine G1 tt_ok pk9 ?_; intro _))
  exact CW.ret (fin_ret rfl (A := []) (Ent.dropAll _) ⟨rfl, rfl⟩)
@[reducible] def pk80 : List (Nat × Plan) := [(1, [(0, 0, []), (1, 0, []), (2, 0, []), (3, 0, []), (4, 0, []), (5, 1, [0, 3, 4])])]
@[reducible] def pk32 : List (Nat × Plan) := []
def actP (p : Int × Ln) : Bool := p.2.1.2.2.2
def GS.activeV (G : GS) (k : Int) : List Int := ((G.D.seenV k).filter actP).map (·.1)
theorem active33 (β : Base) (g : Nat) (k : Int) : Tri Tryz.prog β 33 [.pointer (some ⟨g, 0, none⟩), .int .i64 k] [] (fun v L => ∃ b2 b3, v = .func (.func 80) #[] #[.pointer (some ⟨b2, 0, none⟩), .pointer (some ⟨b3, 0, none⟩)] ∧ L = [pt b2 [.pointer (some ⟨g, 0, none⟩)], pt b3 [.int .i64 k]]) := by
  refine Tri.intro tt_ok Tryz.func33 rfl rfl Tryz.ntmps33 rfl fun F => ?_
  (refine G tt_ok [] ?_; repeat (refine G1 tt_ok [] ?_; intro _))
  rename_i b2 b3
  refine CW.ret (fin_ret rfl (A := [pt b2 [.pointer (some ⟨g, 0, none⟩)], pt b3 [.int .i64 k]]) pk_ ?_)
  exact ⟨b2, b3, rfl, rfl⟩
set_option maxHeartbeats 8000000 in
theorem iterAcN (β : Base) (g b2 b3 : Nat) {R : RS} {G : GS} (ok : OkN R G) (k : Int) :
    Iter Tryz.prog β 80 [.pointer (some ⟨b2, 0, none⟩), .pointer (some ⟨b3, 0, none⟩)] ([pt b2 [.pointer (some ⟨g, 0, none⟩)], pt b3 [.int .i64 k]] ++ gA g G) iC1 (G.activeV k) := by
  intro l J Jx hY
  have hit := fun s2 s3 => iterS β G.d s2 s3 ok.ok k
  unfold GS.activeV at hY ⊢
  obtain ⟨d, D, qc, cc, cf, qs, cs, ss⟩ := G
  unfold gA at hY ⊢
  simp only at hit hY ⊢
  refine Tri.intro tt_ok Tryz.func80 rfl rfl Tryz.ntmps80 rfl fun F => ?_
  (refine G tt_ok pk80 ?_; repeat (refine G1 tt_ok pk80 ?_; intro _))
  rename_i by_
  (refine ka rfl rfl (seen26 β d k) ?_; rintro _ _ ⟨s2, s3, rfl, rfl⟩; refine w_ ?_)
  (refine G tt_ok pk80 ?_; repeat (refine G1 tt_ok pk80 ?_; intro _))
  refine CW.rangeA rfl (hit s2 s3) (by repeat (first | exact .n | exact Rm.h | apply Tk.c | apply Rm.t))
    (fun pre => [J ((pre.filter actP).map (·.1)), pt by_ [.func (.yield l) #[] #[]], pt b2 [.pointer (some ⟨g, 0, none⟩)], pt b3 [.int .i64 k], pt g (gC d qc cf.length cc qs ss.length cs), rowA qc cf.length (cf.flatMap byC), rowA qs ss.length (ss.flatMap sdC), pkA sdA ss])
    (fun c M => c = .ret ∧ ∃ pre, M = [Jx pre, pt b2 [.pointer (some ⟨g, 0, none⟩)], pt b3 [.int .i64 k], pt g (gC d qc cf.length cc qs ss.length cs), rowA qc cf.length (cf.flatMap byC), rowA qs ss.length (ss.flatMap sdC), pkA sdA ss]) pk_ (fun _ => rfl) (by decide) ?_ ?_ ?_
  · intro pre p hpre lp fm rec1
    have hfl : ((pre ++ [p]).filter actP).map (·.1) = (pre.filter actP).map (·.1) ++ (if actP p = true then [p] else []).map (·.1) := by
      rw [List.filter_append, List.map_append]
      congr 2
      rw [List.filter_cons, List.filter_nil]
    have hp2 := map_pre (·.1) (filter_pre actP hpre)
    rw [hfl] at hp2 ⊢
    obtain ⟨id, ⟨i1, i2, i3, i4⟩, en, gr, pr⟩ := p
    rw [show actP (id, (i1, i2, i3, i4), en, gr, pr) = i4 from rfl] at hp2 ⊢
    (refine G tt_ok pk80 ?_; repeat (refine G1 tt_ok pk80 ?_; intro _))
    intro fm2 rec2
    (refine G tt_ok pk80 ?_; repeat (refine G1 tt_ok pk80 ?_; intro _))
    cases i4 with
    | false =>
      simp only [Bool.false_eq_true, if_false, List.map_nil, List.append_nil] at hp2 ⊢
      (refine G tt_ok pk80 ?_; repeat (refine G1 tt_ok pk80 ?_; intro _))
      exact pk_
    | true =>
      simp only [if_true, List.map_cons, List.map_nil] at hp2 ⊢
      (refine G tt_ok pk80 ?_; repeat (refine G1 tt_ok pk80 ?_; intro _))
      (refine SQ.yieldA rfl rfl (hY ((pre.filter actP).map (·.1)) id hp2) (by repeat (first | exact .n | exact Rm.h | exact Rm.of own_row | exact Rm.of row_close0 | apply Tk.c | apply Rm.t)) ?_; rintro _ _ (⟨rfl, rfl⟩ | ⟨rfl, rfl⟩) <;> refine w_ ?_)
      · (refine G tt_ok pk80 ?_; repeat (refine G1 tt_ok pk80 ?_; intro _))
        exact pk_
      · (refine G tt_ok pk80 ?_; repeat (refine G1 tt_ok pk80 ?_; intro _))
        exact CW.ret ⟨_, ⟨rfl, _, rfl⟩, pk_⟩
  · exact fin_normal (vs := []) rfl (A := J (((D.seenV k).filter actP).map (·.1)) :: ([pt b2 [.pointer (some ⟨g, 0, none⟩)], pt b3 [.int .i64 k]] ++ ([pt g (gC d qc cf.length cc qs ss.length cs), rowA qc cf.length (cf.flatMap byC), rowA qs ss.length (ss.flatMap sdC), pkA sdA ss] ++ dA d D))) pk_ (.inl rfl)
  · rintro c M ⟨rfl, pre, rfl⟩
    refine CW.ret ?_
    exact fin_ret rfl (A := Jx pre :: ([pt b2 [.pointer (some ⟨g, 0, none⟩)], pt b3 [.int .i64 k]] ++ ([pt g (gC d qc cf.length cc qs ss.length cs), rowA qc cf.length (cf.flatMap byC), rowA qs ss.length (ss.flatMap sdC), pkA sdA ss] ++ dA d D))) pk_ (.inr ⟨pre, rfl⟩)
theorem active_leN {R : RS} {G : GS} (ok : OkN R G) (k : Int) : (G.activeV k).length ≤ 1000 := by
  have h1 : (G.activeV k).length ≤ (G.D.seenV k).length := by unfold GS.activeV; rw [List.length_map]; exact List.length_filter_le _ _
  have h2 := seenV_len (k := k) ok.ok.es
  have h3 := ok.ok.sh
  omega
/-- Is a number in a list? -/
theorem has32 (β : Base) {q : Option Addr} {n c : Nat} {l : List Int} (hl : l.length = n) (hn : n ≤ 1000) (id : Int) : Tri Tryz.prog β 32 [.slice q n c, .int .i64 id] [rowA q n (l.flatMap iC1)]
    (fun v L => v = .bool (decide (id ∈ l)) ∧ L = [rowA q n (l.flatMap iC1)]) := by
  refine Tri.intro tt_ok Tryz.func32 rfl rfl Tryz.ntmps32 rfl fun F => ?_
  refine G tt_ok pk32 ?_
  refine CW.loop (α := Nat) (fun i => i ≤ n ∧ id ∉ l.take i) (fun i => [(5, .int .i64 i), (1, .int .i64 id), (0, .slice q n c)]) (fun i => [rowA q n (l.flatMap iC1)]) (fun i => n - i) 0 ⟨by omega, by simp⟩ ⟨rfl, rfl, rfl, trivial⟩ pk_ ?_
  rintro i ⟨hi, hni⟩
  refine G tt_ok pk32 ?_
  by_cases hlt : i < n
  · rw [decide_eq_true (show (i : Int) < (n : Int) by omega)]
    have hw : IntKind.i64.wrap ((i : Int) + 1) = ((i + 1 : Nat) : Int) := by rw [wrap_i64]; split <;> omega
    obtain ⟨x, hx⟩ : ∃ x, l[i]? = some x := ⟨_, List.getElem?_eq_getElem (by omega)⟩
    have hn0 : 0 < n := by omega
    have htk : l.take (i + 1) = l.take i ++ [x] := by rw [List.take_add_one, hx]; rfl
    refine G tt_ok pk32 ?_
    refine ir_ tt_ok rfl rfl (i) (rfl) rfl ?_ (hlt := hlt)
    refine G tt_ok pk32 ?_
    refine lr_ tt_ok rfl rfl (rd_i1r hx) ?_
    refine G tt_ok pk32 ?_
    by_cases he : x = id
    · subst he
      rw [show (x == x) = true by simp]
      refine G tt_ok pk32 ?_
      refine CW.ret (fin_ret rfl (A := [rowA q n (l.flatMap iC1)]) pk_ ⟨?_, rfl⟩)
      rw [decide_eq_true (List.mem_of_getElem? hx)]; rfl
    · rw [show (x == id) = false by simpa using he]
      refine G tt_ok pk32 ?_
      exact ⟨i + 1, ⟨by omega, by rw [htk]; simp only [List.mem_append, List.mem_singleton, not_or]; exact ⟨hni, fun e => he e.symm⟩⟩, by omega, ⟨by rw [← hw]; rfl, rfl, rfl, trivial⟩, pk_⟩
  · rw [decide_eq_false (show ¬ (i : Int) < (n : Int) by omega)]
    refine G tt_ok pk32 ?_
    refine CW.exit ?_
    refine G tt_ok pk32 ?_
    rw [List.take_of_length_le (show l.length ≤ i by omega)] at hni
    refine CW.ret (fin_ret rfl (A := [rowA q n (l.flatMap iC1)]) pk_ ⟨?_, rfl⟩)
    rw [decide_eq_false hni]; rfl
@[reducible] def pk155 : List (Nat × Plan) := []
@[reducible] def pk90 : List (Nat × Plan) := [(6, [(0, 0, []), (1, 0, []), (2, 0, []), (3, 0, []), (4, 0, []), (5, 0, []), (6, 0, []), (7, 0, []), (8, 0, [])])]
@[reducible] def pk160 : List (Nat × Plan) := []
theorem new11_bad (β : Base) {n s : Int} (h : ¬ (1 ≤ n ∧ n ≤ 8 ∧ 0 ≤ s ∧ s ≤ 64)) : Tri Tryz.prog β 82 [.int .i64 n, .int .i64 s] [] (fun v L => v = .tuple #[.pointer none, .int .i64 1] ∧ L = []) := by
  refine Tri.intro tt_ok Tryz.func82 rfl rfl Tryz.ntmps82 rfl fun F => ?_
  (refine G tt_ok [] ?_; repeat (refine G1 tt_ok [] ?_; intro _))
  by_cases h1 : n < 1
  · rw [decide_eq_true h1]
    (refine G tt_ok [] ?_; repeat (refine G1 tt_ok [] ?_; intro _))
    exact CW.ret (fin_ret rfl (Ent.dropAll _) ⟨rfl, rfl⟩)
  rw [decide_eq_false h1]
  (refine G tt_ok [] ?_; repeat (refine G1 tt_ok [] ?_; intro _))
  by_cases h2 : n > 8
  · rw [decide_eq_true h2]
    (refine G tt_ok [] ?_; repeat (refine G1 tt_ok [] ?_; intro _))
    exact CW.ret (fin_ret rfl (Ent.dropAll _) ⟨rfl, rfl⟩)
  rw [decide_eq_false h2]
  (refine G tt_ok [] ?_; repeat (refine G1 tt_ok [] ?_; intro _))
  by_cases h3 : s < 0
  · rw [decide_eq_true h3]
    (refine G tt_ok [] ?_; repeat (refine G1 tt_ok [] ?_; intro _))
    exact CW.ret (fin_ret rfl (Ent.dropAll _) ⟨rfl, rfl⟩)
  rw [decide_eq_false h3]
  (refine G tt_ok [] ?_; repeat (refine G1 tt_ok [] ?_; intro _))
  rw [decide_eq_true (show s > 64 by omega)]
  (refine G tt_ok [] ?_; repeat (refine G1 tt_ok [] ?_; intro _))
  exact CW.ret (fin_ret rfl (Ent.dropAll _) ⟨rfl, rfl⟩)
theorem new12_bad (β : Base) {n s : Int} (h : ¬ (1 ≤ n ∧ n ≤ 8 ∧ 0 ≤ s ∧ s ≤ 64)) : Tri Tryz.prog β 83 [.int .i64 n, .int .i64 s] [] (fun v L => v = .tuple #[.pointer none, .bool false] ∧ L = []) := by
  refine Tri.intro tt_ok Tryz.func83 rfl rfl Tryz.ntmps83 rfl fun F => ?_
  (refine G tt_ok [] ?_; repeat (refine G1 tt_ok [] ?_; intro _))
  by_cases h1 : n < 1
  · rw [decide_eq_true h1]
    (refine G tt_ok [] ?_; repeat (refine G1 tt_ok [] ?_; intro _))
    exact CW.ret (fin_ret rfl (Ent.dropAll _) ⟨rfl, rfl⟩)
  rw [decide_eq_false h1]
  (refine G tt_ok [] ?_; repeat (refine G1 tt_ok [] ?_; intro _))
  by_cases h2 : n > 8
  · rw [decide_eq_true h2]
    (refine G tt_ok [] ?_; repeat (refine G1 tt_ok [] ?_; intro _))
    exact CW.ret (fin_ret rfl (Ent.dropAll _) ⟨rfl, rfl⟩)
  rw [decide_eq_false h2]
  (refine G tt_ok [] ?_; repeat (refine G1 tt_ok [] ?_; intro _))
  by_cases h3 : s < 0
  · rw [decide_eq_true h3]
    (refine G tt_ok [] ?_; repeat (refine G1 tt_ok [] ?_; intro _))
    exact CW.ret (fin_ret rfl (Ent.dropAll _) ⟨rfl, rfl⟩)
  rw [decide_eq_false h3]
  (refine G tt_ok [] ?_; repeat (refine G1 tt_ok [] ?_; intro _))
  rw [decide_eq_true (show s > 64 by omega)]
  (refine G tt_ok [] ?_; repeat (refine G1 tt_ok [] ?_; intro _))
  exact CW.ret (fin_ret rfl (Ent.dropAll _) ⟨rfl, rfl⟩)
/-- Which controllers there may be. -/
def newOk (n s l : Int) : Prop := 1 ≤ n ∧ n ≤ 4 ∧ 0 ≤ s ∧ s ≤ 64 ∧ 0 ≤ l ∧ l ≤ 512
theorem gnew34_bad (β : Base) {n s l : Int} (h : ¬ newOk n s l) : Tri Tryz.prog β 34 [.int .i64 n, .int .i64 s, .int .i64 l] [] (fun v L => v = .tuple #[.pointer none, .int .i64 1] ∧ L = []) := by
  unfold newOk at h
  refine Tri.intro tt_ok Tryz.func34 rfl rfl Tryz.ntmps34 rfl fun F => ?_
  (refine G tt_ok [] ?_; repeat (refine G1 tt_ok [] ?_; intro _))
  by_cases h1 : n < 1
  · rw [decide_eq_true h1]
    (refine G tt_ok [] ?_; repeat (refine G1 tt_ok [] ?_; intro _))
    exact CW.ret (fin_ret rfl (Ent.dropAll _) ⟨rfl, rfl⟩)
  rw [decide_eq_false h1]
  (refine G tt_ok [] ?_; repeat (refine G1 tt_ok [] ?_; intro _))
  by_cases h2 : n > 4
  · rw [decide_eq_true h2]
    (refine G tt_ok [] ?_; repeat (refine G1 tt_ok [] ?_; intro _))
    exact CW.ret (fin_ret rfl (Ent.dropAll _) ⟨rfl, rfl⟩)
  rw [decide_eq_false h2]
  (refine G tt_ok [] ?_; repeat (refine G1 tt_ok [] ?_; intro _))
  by_cases h3 : l < 0
  · rw [decide_eq_true h3]
    (refine G tt_ok [] ?_; repeat (refine G1 tt_ok [] ?_; intro _))
    exact CW.ret (fin_ret rfl (Ent.dropAll _) ⟨rfl, rfl⟩)
  rw [decide_eq_false h3]
  (refine G tt_ok [] ?_; repeat (refine G1 tt_ok [] ?_; intro _))
  by_cases h4 : l > 512
  · rw [decide_eq_true h4]
    (refine G tt_ok [] ?_; repeat (refine G1 tt_ok [] ?_; intro _))
    exact CW.ret (fin_ret rfl (Ent.dropAll _) ⟨rfl, rfl⟩)
  rw [decide_eq_false h4]
  (refine G tt_ok [] ?_; repeat (refine G1 tt_ok [] ?_; intro _))
  refine ke rfl rfl (new11_bad β (n := n) (s := s) (by omega)) ?_
  (refine G tt_ok [] ?_; repeat (refine G1 tt_ok [] ?_; intro _))
  exact CW.ret (fin_ret rfl (Ent.dropAll _) ⟨rfl, rfl⟩)
theorem rnew35_bad (β : Base) {n s l : Int} (h : ¬ newOk n s l) : Tri Tryz.prog β 35 [.int .i64 n, .int .i64 s, .int .i64 l] [] (fun v L => v = .tuple #[.pointer none, .bool false] ∧ L = []) := by
  unfold newOk at h
  refine Tri.intro tt_ok Tryz.func35 rfl rfl Tryz.ntmps35 rfl fun F => ?_
  (refine G tt_ok [] ?_; repeat (refine G1 tt_ok [] ?_; intro _))
  by_cases h1 : n < 1
  · rw [decide_eq_true h1]
    (refine G tt_ok [] ?_; repeat (refine G1 tt_ok [] ?_; intro _))
    exact CW.ret (fin_ret rfl (Ent.dropAll _) ⟨rfl, rfl⟩)
  rw [decide_eq_false h1]
  (refine G tt_ok [] ?_; repeat (refine G1 tt_ok [] ?_; intro _))
  by_cases h2 : n > 4
  · rw [decide_eq_true h2]
    (refine G tt_ok [] ?_; repeat (refine G1 tt_ok [] ?_; intro _))
    exact CW.ret (fin_ret rfl (Ent.dropAll _) ⟨rfl, rfl⟩)
  rw [decide_eq_false h2]
  (refine G tt_ok [] ?_; repeat (refine G1 tt_ok [] ?_; intro _))
  by_cases h3 : l < 0
  · rw [decide_eq_true h3]
    (refine G tt_ok [] ?_; repeat (refine G1 tt_ok [] ?_; intro _))
    exact CW.ret (fin_ret rfl (Ent.dropAll _) ⟨rfl, rfl⟩)
  rw [decide_eq_false h3]
  (refine G tt_ok [] ?_; repeat (refine G1 tt_ok [] ?_; intro _))
  by_cases h4 : l > 512
  · rw [decide_eq_true h4]
    (refine G tt_ok [] ?_; repeat (refine G1 tt_ok [] ?_; intro _))
    exact CW.ret (fin_ret rfl (Ent.dropAll _) ⟨rfl, rfl⟩)
  rw [decide_eq_false h4]
  (refine G tt_ok [] ?_; repeat (refine G1 tt_ok [] ?_; intro _))
  refine ke rfl rfl (new12_bad β (n := n) (s := s) (by omega)) ?_
  (refine G tt_ok [] ?_; repeat (refine G1 tt_ok [] ?_; intro _))
  exact CW.ret (fin_ret rfl (Ent.dropAll _) ⟨rfl, rfl⟩)
/-- Nothing runs on an empty ladder. -/
theorem bits155 (β : Base) {g : Nat} (hg : g ≤ 1) : Tri Tryz.prog β 155 [.agg (lds fun _ => false).toArray, .int .i64 g] [] (fun v L => v = .int .u32 0 ∧ L = []) := by
  refine Tri.intro tt_ok Tryz.func155 rfl rfl Tryz.ntmps155 rfl fun F => ?_
  (refine G tt_ok pk155 ?_; repeat (refine G1 tt_ok pk155 ?_; intro _))
  rename_i c1
  refine CW.ent (L' := [pt c1 (lds fun _ => false)]) pk_ ?_
  refine CW.loop (α := Nat) (fun x => x ≤ 32) (fun x => [(6, .int .i64 ((x : Int) - 1)), (5, .int .u32 0), (2, .pointer (some ⟨c1, 0, none⟩)), (1, .int .i64 g)])
    (fun x => [pt c1 (lds fun _ => false)]) (fun x => x) 32 (by omega) ⟨rfl, rfl, rfl, rfl, trivial⟩ pk_ ?_
  intro x hx
  (refine G tt_ok pk155 ?_; repeat (refine G1 tt_ok pk155 ?_; intro _))
  by_cases hlt : 0 < x
  · obtain ⟨i, rfl⟩ : ∃ i, x = i + 1 := ⟨x - 1, by omega⟩
    rw [decide_eq_true (show ((i + 1 : Nat) : Int) - 1 ≥ 0 by omega)]
    have e1 : IntKind.i64.wrap (IntKind.i64.wrap (2 * (((i + 1 : Nat) : Int) - 1)) + (g : Int)) = ((2 * i + g : Nat) : Int) := by
      rw [wrap_id (x := 2 * (((i + 1 : Nat) : Int) - 1)) (by omega) (by omega), wrap_id (by omega) (by omega)]; omega
    have e2 : IntKind.i64.wrap (((i + 1 : Nat) : Int) - 1 - 1) = (i : Int) - 1 := by rw [wrap_id (by omega) (by omega)]; omega
    have hk : 2 * i + g < 64 := by omega
    have hrd := rd_ld (r := fun _ => false) hk
    (refine G tt_ok pk155 ?_; repeat (refine G1 tt_ok pk155 ?_; intro _))
    refine SQ.idx tt_ok rfl rfl (2 * i + g) e1 hk (o' := 0 + (2 * i + g) * 1) rfl ?_
    (refine SQ.ldA tt_ok rfl rfl (by repeat (first | exact .h | exact .q | apply At.t)) (hrd) ?_)
    (refine G tt_ok pk155 ?_; repeat (refine G1 tt_ok pk155 ?_; intro _))
    exact ⟨i, by omega, by omega, ⟨by rw [← e2]; rfl, rfl, rfl, rfl, trivial⟩, pk_⟩
  · rw [decide_eq_false (show ¬ ((x : Int) - 1 ≥ 0) by omega)]
    (refine G tt_ok pk155 ?_; repeat (refine G1 tt_ok pk155 ?_; intro _))
    refine CW.exit ?_
    (refine G tt_ok pk155 ?_; repeat (refine G1 tt_ok pk155 ?_; intro _))
    exact CW.ret (fin_ret rfl (A := []) (Ent.dropAll _) ⟨rfl, rfl⟩)
/-- The same candidates. -/
theorem same90 (β : Base) {q1 q2 : Option Addr} {n c1 c2 : Nat} {l : List Cd} (hl : l.length = n) (hn : n ≤ 1000000) :
    Tri Tryz.prog β 90 [.slice q1 n c1, .slice q2 n c2] [rowA q1 n (l.flatMap encC), rowA q2 n (l.flatMap encC)] (fun v L => v = .bool true ∧ L = [rowA q1 n (l.flatMap encC), rowA q2 n (l.flatMap encC)]) := by
  refine Tri.intro tt_ok Tryz.func90 rfl rfl Tryz.ntmps90 rfl fun F => ?_
  refine G tt_ok pk90 ?_
  rw [show ((n : Int) != n) = false by simp]
  refine G tt_ok pk90 ?_
  refine CW.loop (α := Nat) (fun k => k ≤ n) (fun k => [(5, .int .i64 k), (0, .slice q1 n c1), (1, .slice q2 n c2)]) (fun k => [rowA q1 n (l.flatMap encC), rowA q2 n (l.flatMap encC)]) (fun k => n - k) 0 (by omega) ⟨rfl, rfl, rfl, trivial⟩ pk_ ?_
  intro k hk
  refine G tt_ok pk90 ?_
  by_cases hlt : k < n
  · rw [decide_eq_true (show (k : Int) < n by omega)]
    have hw : IntKind.i64.wrap ((k : Int) + 1) = ((k + 1 : Nat) : Int) := by rw [wrap_i64]; split <;> omega
    obtain ⟨x, hx⟩ : ∃ x, l[k]? = some x := ⟨_, List.getElem?_eq_getElem (by omega)⟩
    have hn0 : 0 < n := by omega
    refine G tt_ok pk90 ?_
    refine ir_ tt_ok rfl rfl (k) (rfl) rfl ?_ (hlt := hlt)
    refine G tt_ok pk90 ?_
    refine lr_ tt_ok rfl rfl (rd_cd hx) ?_ (hn := hn0)
    refine G tt_ok pk90 ?_
    refine ir_ tt_ok rfl rfl (k) (rfl) rfl ?_ (hlt := hlt)
    refine G tt_ok pk90 ?_
    refine lr_ tt_ok rfl rfl (rd_cd hx) ?_ (hn := hn0)
    refine G tt_ok pk90 ?_
    refine SQ.eqs' tt_ok rfl rfl rfl (by kernel_rfl) (by kernel_rfl) false (by simp) ?_
    refine G tt_ok pk90 ?_
    exact ⟨k + 1, by omega, by omega, ⟨by rw [← hw]; rfl, rfl, rfl, trivial⟩, pk_⟩
  · rw [decide_eq_false (show ¬ (k : Int) < n by omega)]
    refine G tt_ok pk90 ?_
    refine CW.exit ?_
    refine G tt_ok pk90 ?_
    exact CW.ret (fin_ret rfl pk_ ⟨rfl, rfl⟩)
theorem one160 (β : Base) (b : Bool) (x : Int) : Tri Tryz.prog β 160 [.bool b, .int .u64 x] [] (fun v L => v = .int .u64 (if b then x else 0) ∧ L = []) := by
  refine Tri.intro tt_ok Tryz.func160 rfl rfl Tryz.ntmps160 rfl fun F => ?_
  cases b <;> (
    refine G tt_ok pk160 ?_
    exact CW.ret (fin_ret rfl (Ent.refl _) ⟨rfl, rfl⟩))
@[reducible] def pk162 : List (Nat × Plan) := []
@[reducible] def pk163 : List (Nat × Plan) := []
@[reducible] def pk94 : List (Nat × Plan) := [(26, [(0, 0, []), (1, 0, []), (2, 0, []), (3, 0, []), (4, 0, []), (5, 0, []), (6, 1, [3, 5]), (7, 0, []), (8, 0, []), (9, 0, []), (10, 0, [])])]
def phaseV (i : Iq) : Int := (if pendI i then 1 else 0) + (if i.2.2.2 then 2 else 0)
theorem phase162 (β : Base) (e l t a : Bool) : Tri Tryz.prog β 162 [.agg #[.bool e, .bool l, .bool t, .bool a]] [] (fun v L => v = .int .i64 (phaseV (e, l, t, a)) ∧ L = []) := by
  refine Tri.intro tt_ok Tryz.func162 rfl rfl Tryz.ntmps162 rfl fun F => ?_
  unfold phaseV
  (refine G tt_ok pk162 ?_; repeat (refine G1 tt_ok pk162 ?_; intro _))
  refine ke rfl rfl (pending47 β e l t a) ?_
  cases pendI (e, l, t, a) <;> cases a <;> (
    (refine G tt_ok pk162 ?_; repeat (refine G1 tt_ok pk162 ?_; intro _))
    exact CW.ret (fin_ret rfl (A := []) (Ent.dropAll _) ⟨rfl, rfl⟩))
theorem phase163 (β : Base) (e l t a : Bool) : Tri Tryz.prog β 163 [.agg #[.bool e, .bool l, .bool t, .bool a]] [] (fun v L => v = .int .i64 (phaseV (e, l, t, a)) ∧ L = []) := by
  refine Tri.intro tt_ok Tryz.func163 rfl rfl Tryz.ntmps163 rfl fun F => ?_
  unfold phaseV
  (refine G tt_ok pk163 ?_; repeat (refine G1 tt_ok pk163 ?_; intro _))
  refine ke rfl rfl (pending58 β e l t a) ?_
  cases pendI (e, l, t, a) <;> cases a <;> (
    (refine G tt_ok pk163 ?_; repeat (refine G1 tt_ok pk163 ?_; intro _))
    exact CW.ret (fin_ret rfl (A := []) (Ent.dropAll _) ⟨rfl, rfl⟩))
theorem has60n (β : Base) (S : Nat) (q : Option Addr) (c : Nat) (j : Nat) : Tri Tryz.prog β 60 [.pointer (some ⟨S, 0, none⟩), .int .i64 ((8192 + j : Nat) : Int)] (setL S q c none) (fun v L => v = .bool false ∧ L = setL S q c none) := by
  generalize hn : ((8192 + j : Nat) : Int) = n
  refine Tri.intro tt_ok Tryz.func60 rfl rfl Tryz.ntmps60 rfl fun F => ?_
  unfold setL
  refine G tt_ok [] ?_
  rw [ge_j hn]
  refine G tt_ok [] ?_
  rw [out_j hn]
  refine G tt_ok [] ?_
  exact CW.ret (fin_ret rfl pk_ ⟨rfl, rfl⟩)
/-- A new processor's own registers. -/
def rdNewV (D : DS) (n : Nat) (k off w : Int) : Int × Int :=
  if (redistV off w).2 ≠ 0 then (0, (redistV off w).2)
  else if rightV n k then
    (if (redistV off w).1.1 = 1 then (0, 0)
    else if (redistV off w).1.1 = 2 then (k * 4294967296 + k * 256 + (if k + 1 = n then 16 else 0) + 1, 0)
    else if (redistV off w).1.1 = 14 then (0, 0)
    else if (redistV off w).1.1 = 15 then (0, 0)
    else if (redistV off w).1.1 = 16 then (0, 0)
    else if (redistV off w).1.1 = 17 then (0, 0)
    else if (redistV off w).1.1 = 18 then (0, 0)
    else if (redistV off w).1.1 = 0 then (0, 0)
    else D.rdOwnV k (redistV off w).1.1 (redistV off w).1.2.1 (redistV off w).1.2.2)
  else (0, 271)
set_option maxHeartbeats 8000000 in
theorem readOwn94 (β : Base) (g : Nat) {Z : GS} (h4 : Z.ss.length ≤ 4) (hnew : ∀ s ∈ Z.ss, newS s) (k off w : Int) : Tri Tryz.prog β 94 [.pointer (some ⟨g, 0, none⟩), .int .i64 k, .int .i64 off, .int .i64 w] (gA g Z)
    (fun v L => v = .tuple #[.int .u64 (rdNewV Z.D Z.ss.length k off w).1, .int .i64 (rdNewV Z.D Z.ss.length k off w).2] ∧ L = gA g Z) := by
  have hrd := rdOwn29 β Z.d Z.D k
  refine Tri.intro tt_ok Tryz.func94 rfl rfl Tryz.ntmps94 rfl fun F => ?_
  unfold rdNewV
  (refine G tt_ok pk94 ?_; repeat (refine G1 tt_ok pk94 ?_; intro _))
  refine ke rfl rfl (regsRedist49 β off w) ?_
  generalize (redistV off w).1 = P
  generalize (redistV off w).2 = e
  obtain ⟨r, f, c⟩ := P
  simp only
  (refine G tt_ok pk94 ?_; repeat (refine G1 tt_ok pk94 ?_; intro _))
  by_cases he : e = 0
  · subst he
    rw [if_neg (by simp)]
    (refine G tt_ok pk94 ?_; repeat (refine G1 tt_ok pk94 ?_; intro _))
    rw [gL_of]
    refine ke rfl rfl (ghas46 β g Z.d Z.qc Z.qs Z.cf.length Z.cc Z.ss.length Z.cs k) ?_
    cases hr : rightV Z.ss.length k with
    | false =>
      (refine G tt_ok pk94 ?_; repeat (refine G1 tt_ok pk94 ?_; intro _))
      exact CW.ret (fin_ret rfl (A := gA g Z) (by rw [gL_of]; exact pk_) ⟨rfl, rfl⟩)
    | true =>
      obtain ⟨s, hx, hl, hk⟩ := rights_at hr
      obtain ⟨n1, n2, n3, n4, n5⟩ := hnew s (List.mem_of_getElem? hx)
      obtain ⟨sf, sS, sW, so, spr, spe⟩ := s
      simp only at n1 n2 n3 n4 n5
      subst n1 n2 n3 n4 n5
      have hn0 : 0 < Z.ss.length := by omega
      simp only [if_true]
      (refine G tt_ok pk94 ?_; repeat (refine G1 tt_ok pk94 ?_; intro _))
      refine ir_ tt_ok rfl rfl (k.toNat) (hk) rfl ?_ (hlt := hl)
      (refine G tt_ok pk94 ?_; repeat (refine G1 tt_ok pk94 ?_; intro _))
      refine lr_ tt_ok rfl rfl (rd_sd hx) ?_ (hn := hn0)
      (refine G tt_ok pk94 ?_; repeat (refine G1 tt_ok pk94 ?_; intro _))
      by_cases h1 : r = 1
      · subst h1
        (refine G tt_ok pk94 ?_; repeat (refine G1 tt_ok pk94 ?_; intro _))
        exact CW.ret (fin_ret rfl (A := gA g Z) (by rw [gL_of]; exact pk_) ⟨rfl, rfl⟩)
      rw [if_neg h1, show (r == 1) = false by simp [h1]]
      (refine G tt_ok pk94 ?_; repeat (refine G1 tt_ok pk94 ?_; intro _))
      by_cases h2 : r = 2
      · subst h2
        have hk4 : k = 0 ∨ k = 1 ∨ k = 2 ∨ k = 3 := by omega
        have hwl : IntKind.i64.wrap (((Z.ss.length : Nat) : Int) - 1) = ((Z.ss.length : Nat) : Int) - 1 := wrap_id (by omega) (by omega)
        rw [if_pos rfl]
        (refine G tt_ok pk94 ?_; repeat (refine G1 tt_ok pk94 ?_; intro _))
        rw [hwl]
        by_cases hla : k + 1 = ((Z.ss.length : Nat) : Int)
        · rw [show (k == ((Z.ss.length : Nat) : Int) - 1) = true by simp; omega, if_pos hla]
          rcases hk4 with rfl | rfl | rfl | rfl <;> (
            (refine G tt_ok pk94 ?_; repeat (refine G1 tt_ok pk94 ?_; intro _))
            exact CW.ret (fin_ret rfl (A := gA g Z) (by rw [gL_of]; exact pk_) ⟨rfl, rfl⟩))
        · rw [show (k == ((Z.ss.length : Nat) : Int) - 1) = false by simp; omega, if_neg hla]
          rcases hk4 with rfl | rfl | rfl | rfl <;> (
            (refine G tt_ok pk94 ?_; repeat (refine G1 tt_ok pk94 ?_; intro _))
            exact CW.ret (fin_ret rfl (A := gA g Z) (by rw [gL_of]; exact pk_) ⟨rfl, rfl⟩))
      rw [if_neg h2, show (r == 2) = false by simp [h2]]
      (refine G tt_ok pk94 ?_; repeat (refine G1 tt_ok pk94 ?_; intro _))
      by_cases h14 : r = 14
      · subst h14
        (refine G tt_ok pk94 ?_; repeat (refine G1 tt_ok pk94 ?_; intro _))
        exact CW.ret (fin_ret rfl (A := gA g Z) (by rw [gL_of]; exact pk_) ⟨rfl, rfl⟩)
      rw [if_neg h14, show (r == 14) = false by simp [h14]]
      (refine G tt_ok pk94 ?_; repeat (refine G1 tt_ok pk94 ?_; intro _))
      by_cases h15 : r = 15
      · subst h15
        (refine G tt_ok pk94 ?_; repeat (refine G1 tt_ok pk94 ?_; intro _))
        exact CW.ret (fin_ret rfl (A := gA g Z) (by rw [gL_of]; exact pk_) ⟨rfl, rfl⟩)
      rw [if_neg h15, show (r == 15) = false by simp [h15]]
      (refine G tt_ok pk94 ?_; repeat (refine G1 tt_ok pk94 ?_; intro _))
      by_cases h16 : r = 16
      · subst h16
        (refine G tt_ok pk94 ?_; repeat (refine G1 tt_ok pk94 ?_; intro _))
        exact CW.ret (fin_ret rfl (A := gA g Z) (by rw [gL_of]; exact pk_) ⟨rfl, rfl⟩)
      rw [if_neg h16, show (r == 16) = false by simp [h16]]
      (refine G tt_ok pk94 ?_; repeat (refine G1 tt_ok pk94 ?_; intro _))
      by_cases h17 : r = 17
      · subst h17
        (refine G tt_ok pk94 ?_; repeat (refine G1 tt_ok pk94 ?_; intro _))
        exact CW.ret (fin_ret rfl (A := gA g Z) (by rw [gL_of]; exact pk_) ⟨rfl, rfl⟩)
      rw [if_neg h17, show (r == 17) = false by simp [h17]]
      (refine G tt_ok pk94 ?_; repeat (refine G1 tt_ok pk94 ?_; intro _))
      by_cases h18 : r = 18
      · subst h18
        (refine G tt_ok pk94 ?_; repeat (refine G1 tt_ok pk94 ?_; intro _))
        exact CW.ret (fin_ret rfl (A := gA g Z) (by rw [gL_of]; exact pk_) ⟨rfl, rfl⟩)
      rw [if_neg h18, show (r == 18) = false by simp [h18]]
      (refine G tt_ok pk94 ?_; repeat (refine G1 tt_ok pk94 ?_; intro _))
      by_cases h0 : r = 0
      · subst h0
        (refine G tt_ok pk94 ?_; repeat (refine G1 tt_ok pk94 ?_; intro _))
        exact CW.ret (fin_ret rfl (A := gA g Z) (by rw [gL_of]; exact pk_) ⟨rfl, rfl⟩)
      rw [if_neg h0, show (r == 0) = false by simp [h0]]
      (refine G tt_ok pk94 ?_; repeat (refine G1 tt_ok pk94 ?_; intro _))
      refine ke rfl rfl (hrd r f c) ?_
      (refine G tt_ok pk94 ?_; repeat (refine G1 tt_ok pk94 ?_; intro _))
      exact CW.ret (fin_ret rfl (A := gA g Z) (by rw [gL_of]; exact pk_) ⟨rfl, rfl⟩)
  · rw [if_pos he, show (e != 0) = true by simpa using he]
    (refine G tt_ok pk94 ?_; repeat (refine G1 tt_ok pk94 ?_; intro _))
    exact CW.ret (fin_ret rfl (A := gA g Z) pk_ ⟨rfl, rfl⟩)
@[reducible] def pk86 : List (Nat × Plan) := []
@[reducible] def pk95 : List (Nat × Plan) := [(20, [(0, 0, []), (1, 0, []), (2, 0, []), (3, 0, []), (4, 0, []), (5, 0, []), (6, 1, [3, 5]), (7, 0, []), (8, 0, []), (9, 0, []), (10, 0, [])])]
theorem rd_wo {ps : List Nat} {k : Nat} {p : Nat} (h : ps[k]? = some p) (X : List Value) : rdv ti44 (ps.flatMap wC ++ X) (0 + k * 1) = some (.int .u64 (p : Int)) :=
  rd_partR (enc := wC) (sz := 1) (fun _ => rfl) h 0 (i := ti44) rfl (by decide) (by omega) (by decide) X
theorem rep_at {α : Type} {n k : Nat} {a : α} (h : k < n) : (List.replicate n a)[k]? = some a := by simp [h]
/-- The document's new controller, with the distributor's plain state. -/
theorem base86 (β : Base) (r : Nat) {X : RG} {n s l : Nat} (hX : NewR X n s l) (hn : 1 ≤ n) : Tri Tryz.prog β 86 [.pointer (some ⟨r, 0, none⟩)] (rgA r X) (fun v L => v = .int .i64 0 ∧ L = rgA r X) := by
  have h0 : X.ps[0]? = some 0 := by rw [hX.ps]; exact rep_at (by omega)
  have hl : 0 < X.ps.length := (List.getElem?_eq_some_iff.1 h0).1
  refine Tri.intro tt_ok Tryz.func86 rfl rfl Tryz.ntmps86 rfl fun F => ?_
  rw [rg_of]
  refine G tt_ok pk86 ?_
  refine ir_ tt_ok rfl rfl (0) (rfl) rfl ?_ (hlt := hl)
  refine G tt_ok pk86 ?_
  refine lr_ tt_ok rfl rfl (rd_wo h0) ?_ (hn := hl)
  refine G tt_ok pk86 ?_
  refine CW.ret (fin_ret rfl (A := rgA r X) ?_ ⟨rfl, rfl⟩)
  rw [rg_of]
  exact pk_
set_option maxHeartbeats 8000000 in
theorem readOwn95 (β : Base) (r : Nat) {X : RG} {n s l : Nat} (hX : NewR X n s l) (hn1 : 1 ≤ n) (hn : n ≤ 4) (hs : s ≤ 64) (k off : Int) (hi : Bool) : Tri Tryz.prog β 95 [.pointer (some ⟨r, 0, none⟩), .int .i64 k, .int .i64 off, .int .i64 (wideV hi)] (rgA r X)
    (fun v L => v = .tuple #[.int .u64 (rdNewV X.E n k off (wideV hi)).1, .int .i64 (rdNewV X.E n k off (wideV hi)).2] ∧ L = rgA r X) := by
  have okD : OkD X.R X.E := newD_ok hX.d hn1 (by omega) hs hX.ro
  have hrd := refRdOwn50 β X.rd X.R X.E okD k
  have hth := rthere156 β r X.rd X.qf X.qb X.qw X.qo X.qp X.qe X.fs.length X.kf X.bs.length X.kb X.ws.length X.kw X.os.length X.ko X.ps.length X.kp X.es.length X.ke k
  have hfl : X.fs.length = n := by rw [hX.fs]; simp
  have hpl : X.ps.length = n := by rw [hX.ps]; simp
  have hel : X.es.length = n := by rw [hX.es]; simp
  have hol : X.os.length = n := by rw [hX.os]; simp
  have hps : ∀ i, i < n → X.ps[i]? = some 0 := fun i h => by rw [hX.ps]; exact rep_at h
  have hes : ∀ i, i < n → X.es[i]? = some 0 := fun i h => by rw [hX.es]; exact rep_at h
  have hos : ∀ i, i < n → X.os[i]? = some false := fun i h => by rw [hX.os]; exact rep_at h
  have hpc := redist_w off hi
  generalize wideV hi = w at hpc
  refine Tri.intro tt_ok Tryz.func95 rfl rfl Tryz.ntmps95 rfl fun F => ?_
  rw [rg_of]
  unfold rdNewV
  (refine G tt_ok pk95 ?_; repeat (refine G1 tt_ok pk95 ?_; intro _))
  refine ke rfl rfl (refRedist49 β off w) ?_
  generalize (redistV off w).1 = P at hpc
  generalize (redistV off w).2 = e
  obtain ⟨rr, f, c⟩ := P
  simp only at hpc ⊢
  (refine G tt_ok pk95 ?_; repeat (refine G1 tt_ok pk95 ?_; intro _))
  by_cases he : e = 0
  · subst he
    rw [if_neg (by simp)]
    (refine G tt_ok pk95 ?_; repeat (refine G1 tt_ok pk95 ?_; intro _))
    refine ke rfl rfl (hth) ?_
    rw [hfl]
    cases hr : rightV n k with
    | false =>
      (refine G tt_ok pk95 ?_; repeat (refine G1 tt_ok pk95 ?_; intro _))
      exact CW.ret (fin_ret rfl (A := rgA r X) (by rw [rg_of, hfl]; exact pk_) ⟨rfl, by rw [rg_of, hfl]⟩)
    | true =>
      have hkn : 0 ≤ k ∧ k < (n : Int) := by simp [rightV] at hr; omega
      have hk : k = (k.toNat : Int) := by omega
      have hkl : k.toNat < n := by omega
      simp only [if_true]
      (refine G tt_ok pk95 ?_; repeat (refine G1 tt_ok pk95 ?_; intro _))
      by_cases h1 : rr = 1
      · subst h1
        (refine G tt_ok pk95 ?_; repeat (refine G1 tt_ok pk95 ?_; intro _))
        refine ir_ tt_ok rfl rfl (k.toNat) (hk) rfl ?_ (hlt := by omega)
        (refine G tt_ok pk95 ?_; repeat (refine G1 tt_ok pk95 ?_; intro _))
        refine lr_ tt_ok rfl rfl (rd_bo (hos _ hkl)) ?_
        (refine G tt_ok pk95 ?_; repeat (refine G1 tt_ok pk95 ?_; intro _))
        refine ke rfl rfl (one160 β false 1) ?_
        (refine G tt_ok pk95 ?_; repeat (refine G1 tt_ok pk95 ?_; intro _))
        exact CW.ret (fin_ret rfl (A := rgA r X) (by rw [rg_of, hfl]; exact pk_) ⟨rfl, by rw [rg_of, hfl]⟩)
      rw [if_neg h1, show (rr == 1) = false by simp [h1]]
      (refine G tt_ok pk95 ?_; repeat (refine G1 tt_ok pk95 ?_; intro _))
      by_cases h2 : rr = 2
      · subst h2
        have hk4 : k = 0 ∨ k = 1 ∨ k = 2 ∨ k = 3 := by omega
        rw [if_pos rfl]
        (refine G tt_ok pk95 ?_; repeat (refine G1 tt_ok pk95 ?_; intro _))
        rw [show IntKind.i64.wrap (k + 1) = k + 1 from wrap_id (by omega) (by omega)]
        by_cases hla : k + 1 = (n : Int)
        · rw [show (k + 1 == (n : Int)) = true by simpa using hla, if_pos hla]
          refine ke rfl rfl (one160 β true 16) ?_
          rcases hk4 with rfl | rfl | rfl | rfl <;> (
            (refine G tt_ok pk95 ?_; repeat (refine G1 tt_ok pk95 ?_; intro _))
            exact CW.ret (fin_ret rfl (A := rgA r X) (by rw [rg_of, hfl]; exact pk_) ⟨rfl, by rw [rg_of, hfl]⟩))
        · rw [show (k + 1 == (n : Int)) = false by simpa using hla, if_neg hla]
          refine ke rfl rfl (one160 β false 16) ?_
          rcases hk4 with rfl | rfl | rfl | rfl <;> (
            (refine G tt_ok pk95 ?_; repeat (refine G1 tt_ok pk95 ?_; intro _))
            exact CW.ret (fin_ret rfl (A := rgA r X) (by rw [rg_of, hfl]; exact pk_) ⟨rfl, by rw [rg_of, hfl]⟩))
      rw [if_neg h2, show (rr == 2) = false by simp [h2]]
      (refine G tt_ok pk95 ?_; repeat (refine G1 tt_ok pk95 ?_; intro _))
      by_cases h14 : rr = 14
      · subst h14
        (refine G tt_ok pk95 ?_; repeat (refine G1 tt_ok pk95 ?_; intro _))
        refine ir_ tt_ok rfl rfl (k.toNat) (hk) rfl ?_ (hlt := by omega)
        (refine G tt_ok pk95 ?_; repeat (refine G1 tt_ok pk95 ?_; intro _))
        refine lr_ tt_ok rfl rfl (rd_wo (hps _ hkl)) ?_
        (refine G tt_ok pk95 ?_; repeat (refine G1 tt_ok pk95 ?_; intro _))
        exact CW.ret (fin_ret rfl (A := rgA r X) (by rw [rg_of, hfl]; exact pk_) ⟨rfl, by rw [rg_of, hfl]⟩)
      rw [if_neg h14, show (rr == 14) = false by simp [h14]]
      (refine G tt_ok pk95 ?_; repeat (refine G1 tt_ok pk95 ?_; intro _))
      by_cases h15 : rr = 15
      · subst h15
        (refine G tt_ok pk95 ?_; repeat (refine G1 tt_ok pk95 ?_; intro _))
        refine ir_ tt_ok rfl rfl (k.toNat) (hk) rfl ?_ (hlt := by omega)
        (refine G tt_ok pk95 ?_; repeat (refine G1 tt_ok pk95 ?_; intro _))
        refine lr_ tt_ok rfl rfl (rd_wo (hes _ hkl)) ?_
        (refine G tt_ok pk95 ?_; repeat (refine G1 tt_ok pk95 ?_; intro _))
        exact CW.ret (fin_ret rfl (A := rgA r X) (by rw [rg_of, hfl]; exact pk_) ⟨rfl, by rw [rg_of, hfl]⟩)
      rw [if_neg h15, show (rr == 15) = false by simp [h15]]
      (refine G tt_ok pk95 ?_; repeat (refine G1 tt_ok pk95 ?_; intro _))
      by_cases h16 : rr = 16
      · subst h16
        (refine G tt_ok pk95 ?_; repeat (refine G1 tt_ok pk95 ?_; intro _))
        exact CW.ret (fin_ret rfl (A := rgA r X) (by rw [rg_of, hfl]; exact pk_) ⟨rfl, by rw [rg_of, hfl]⟩)
      rw [if_neg h16, show (rr == 16) = false by simp [h16]]
      (refine G tt_ok pk95 ?_; repeat (refine G1 tt_ok pk95 ?_; intro _))
      by_cases h17 : rr = 17
      · subst h17
        (refine G tt_ok pk95 ?_; repeat (refine G1 tt_ok pk95 ?_; intro _))
        exact CW.ret (fin_ret rfl (A := rgA r X) (by rw [rg_of, hfl]; exact pk_) ⟨rfl, by rw [rg_of, hfl]⟩)
      rw [if_neg h17, show (rr == 17) = false by simp [h17]]
      (refine G tt_ok pk95 ?_; repeat (refine G1 tt_ok pk95 ?_; intro _))
      by_cases h18 : rr = 18
      · subst h18
        (refine G tt_ok pk95 ?_; repeat (refine G1 tt_ok pk95 ?_; intro _))
        exact CW.ret (fin_ret rfl (A := rgA r X) (by rw [rg_of, hfl]; exact pk_) ⟨rfl, by rw [rg_of, hfl]⟩)
      rw [if_neg h18, show (rr == 18) = false by simp [h18]]
      (refine G tt_ok pk95 ?_; repeat (refine G1 tt_ok pk95 ?_; intro _))
      by_cases h0 : rr = 0
      · subst h0
        (refine G tt_ok pk95 ?_; repeat (refine G1 tt_ok pk95 ?_; intro _))
        exact CW.ret (fin_ret rfl (A := rgA r X) (by rw [rg_of, hfl]; exact pk_) ⟨rfl, by rw [rg_of, hfl]⟩)
      rw [if_neg h0, show (rr == 0) = false by simp [h0]]
      (refine G tt_ok pk95 ?_; repeat (refine G1 tt_ok pk95 ?_; intro _))
      refine ke rfl rfl (hrd rr f c hpc) ?_
      (refine G tt_ok pk95 ?_; repeat (refine G1 tt_ok pk95 ?_; intro _))
      exact CW.ret (fin_ret rfl (A := rgA r X) (by rw [rg_of, hfl]; exact pk_) ⟨rfl, by rw [rg_of, hfl]⟩)
  · rw [if_pos he, show (e != 0) = true by simpa using he]
    (refine G tt_ok pk95 ?_; repeat (refine G1 tt_ok pk95 ?_; intro _))
    exact CW.ret (fin_ret rfl (A := rgA r X) (by rw [rg_of]; exact pk_) ⟨rfl, rfl⟩)
@[reducible] def pk89 : List (Nat × Plan) := []
set_option maxHeartbeats 8000000 in
theorem ractive89 (β : Base) (r : Nat) {n l : Nat} {X : RG} (ok : OkR n l X) (k : Int) : Tri Tryz.prog β 89 [.pointer (some ⟨r, 0, none⟩), .int .i64 k] (rgA r X)
    (fun v L => ∃ (q : Option Addr) (c : Nat), v = .slice q (((X.E.seenV k).filter actP).map (·.1)).length c ∧ L = rowA q (((X.E.seenV k).filter actP).map (·.1)).length ((((X.E.seenV k).filter actP).map (·.1)).flatMap i1C) :: rgA r X) := by
  have hseen := refSeen42 β X.rd X.R X.E ok.ok k
  have hrl := seenV_len (k := k) ok.ok.es
  have hsh := ok.ok.sh
  have hget := fun id => refGet44 β X.rd X.R X.E ok.ok k id
  have hat := fun p hp => (seenV_get ok.ok.es ok.ok.ok (k := k) (p := p) hp).1
  refine Tri.intro tt_ok Tryz.func89 rfl rfl Tryz.ntmps89 rfl fun F => ?_
  rw [rg_of]
  (refine G tt_ok pk89 ?_; repeat (refine G1 tt_ok pk89 ?_; intro _))
  (refine ka rfl rfl (hseen) ?_; rintro _ _ ⟨rq, rc, rfl, rfl⟩; refine w_ ?_)
  (refine G tt_ok pk89 ?_; repeat (refine G1 tt_ok pk89 ?_; intro _))
  generalize X.E.seenV k = rd at hrl hat
  refine CW.loop (α := Nat × Option Addr × Nat) (fun y => y.1 ≤ rd.length) (fun y => [(17, .int .i64 y.1), (16, .int .i64 rd.length), (15, .slice rq rd.length rc), (5, .slice y.2.1 (((rd.take y.1).filter actP).map (·.1)).length y.2.2), (0, .pointer (some ⟨r, 0, none⟩)), (1, .int .i64 k)])
    (fun y => [own 3 1 (.slice y.2.1 (((rd.take y.1).filter actP).map (·.1)).length y.2.2) (((rd.take y.1).filter actP).map (·.1)).length ((((rd.take y.1).filter actP).map (·.1)).flatMap i1C), rowA rq rd.length ((rd.map (·.1)).flatMap i1C)] ++ rgA r X) (fun y => rd.length - y.1) (0, none, 0) (by simp) ⟨rfl, rfl, rfl, rfl, rfl, rfl, trivial⟩ ?_ ?_
  · exact (own_nil 3 1).trans pk_
  rintro ⟨i, q1, c1⟩ hi
  simp only at hi ⊢
  rw [rg_of]
  (refine G tt_ok pk89 ?_; repeat (refine G1 tt_ok pk89 ?_; intro _))
  have hacc : (((rd.take i).filter actP).map (·.1)).length ≤ i := by
    rw [List.length_map]
    exact Nat.le_trans (List.length_filter_le _ _) (by rw [List.length_take]; omega)
  by_cases hlt : i < rd.length
  · rw [decide_eq_true (show (i : Int) < (rd.length : Int) by omega)]
    obtain ⟨p, hp⟩ : ∃ p, rd[i]? = some p := ⟨_, List.getElem?_eq_getElem hlt⟩
    have hp1 : (rd.map (·.1))[i]? = some p.1 := by rw [List.getElem?_map, hp]; rfl
    have hwr : IntKind.i64.wrap ((i : Int) + 1) = ((i + 1 : Nat) : Int) := by rw [wrap_id (by omega) (by omega)]; simp
    have hfl : ((rd.take (i + 1)).filter actP).map (·.1) = ((rd.take i).filter actP).map (·.1) ++ (if actP p = true then [p.1] else []) := by
      rw [List.take_add_one, hp, List.filter_append, List.map_append]
      congr 1
      simp only [Option.toList, List.filter_cons, List.filter_nil]
      split <;> rfl
    have hg := hget p.1
    rw [hat p (List.mem_of_getElem? hp)] at hg
    obtain ⟨id, ⟨i1, i2, i3, i4⟩, en, gr, pr⟩ := p
    simp only at hp1 hg
    rw [show actP (id, (i1, i2, i3, i4), en, gr, pr) = i4 from rfl] at hfl
    generalize ((rd.take i).filter actP).map (·.1) = acc at hacc hfl ⊢
    (refine G tt_ok pk89 ?_; repeat (refine G1 tt_ok pk89 ?_; intro _))
    refine ir_ tt_ok rfl rfl (i) (rfl) rfl ?_ (hlt := hlt)
    (refine G tt_ok pk89 ?_; repeat (refine G1 tt_ok pk89 ?_; intro _))
    refine lr_ tt_ok rfl rfl (rd_i1r hp1) ?_
    (refine G tt_ok pk89 ?_; repeat (refine G1 tt_ok pk89 ?_; intro _))
    refine ke rfl rfl (hg) ?_
    (refine G tt_ok pk89 ?_; repeat (refine G1 tt_ok pk89 ?_; intro _))
    cases i4 with
    | false =>
      simp only [Bool.false_eq_true, if_false, List.append_nil] at hfl
      (refine G tt_ok pk89 ?_; repeat (refine G1 tt_ok pk89 ?_; intro _))
      refine ⟨(i + 1, q1, c1), by simp only; omega, by simp only; omega, ⟨by rw [← hwr]; rfl, rfl, rfl, by simp only; rw [hfl]; rfl, rfl, rfl, trivial⟩, ?_⟩
      simp only
      rw [hfl]
      exact pk_
    | true =>
      simp only [if_true] at hfl
      have hlen : (acc ++ [id]).length = acc.length + 1 := by simp
      (refine G tt_ok pk89 ?_; repeat (refine G1 tt_ok pk89 ?_; intro _))
      (refine SQ.built tt_ok rfl rfl (fun _ => w_ ?_))
      (refine G tt_ok pk89 ?_; repeat (refine G1 tt_ok pk89 ?_; intro _))
      (refine SQ.appA tt_ok rfl rfl (by repeat (first | exact Rm.h | apply Rm.t)) (by repeat (first | exact .h | exact .q | apply At.t)) (i1C id) rfl rfl rfl (scal_eq rfl) (by omega) (by show (acc.length + 1) * 8 ≤ _; omega) (fun q2 c2 => w_ ?_))
      (refine G tt_ok pk89 ?_; repeat (refine G1 tt_ok pk89 ?_; intro _))
      refine ⟨(i + 1, q2, c2), by simp only; omega, by simp only; omega, ⟨by rw [← hwr]; rfl, rfl, rfl, by simp only; rw [hfl, hlen]; rfl, rfl, rfl, trivial⟩, ?_⟩
      simp only
      rw [hfl, hlen, flat_snoc]
      exact pk_
  · rw [decide_eq_false (show ¬ (i : Int) < (rd.length : Int) by omega)]
    (refine G tt_ok pk89 ?_; repeat (refine G1 tt_ok pk89 ?_; intro _))
    refine CW.exit ?_
    rw [List.take_of_length_le (show rd.length ≤ i by omega)]
    (refine G tt_ok pk89 ?_; repeat (refine G1 tt_ok pk89 ?_; intro _))
    generalize (rd.filter actP).map (·.1) = acc
    refine CW.ret (fin_ret rfl (A := rowA q1 acc.length (acc.flatMap i1C) :: rgA r X) ?_ ⟨q1, c1, rfl, rfl⟩)
    rw [rg_of]
    exact (Ent.append (L := [own 3 1 (.slice q1 acc.length c1) acc.length (acc.flatMap i1C)]) (Ent.trans pk_ own_row) (Ent.refl _)).trans pk_
@[reducible] def pk87 : List (Nat × Plan) := [(1, [(0, 0, []), (1, 0, []), (2, 0, []), (3, 0, []), (4, 0, []), (5, 0, []), (6, 0, []), (7, 0, []), (8, 0, []), (9, 0, []), (10, 0, []), (11, 0, []), (12, 0, []), (13, 0, []), (14, 0, []), (15, 0, []), (16, 0, []), (17, 0, []), (18, 0, []), (19, 0, []), (20, 0, []), (21, 0, []), (22, 0, []), (23, 0, []), (24, 0, []), (25, 0, []), (26, 0, []), (27, 0, []), (28, 0, []), (29, 0, []), (30, 0, []), (31, 0, []), (32, 0, []), (33, 1, [1, 3, 7, 9, 14, 16, 21, 23, 30, 32]), (34, 0, []), (35, 0, []), (36, 0, []), (37, 0, []), (38, 0, []), (39, 0, []), (40, 0, []), (41, 0, []), (42, 0, []), (43, 1, [1, 3, 7, 9, 14, 16, 21, 23, 30, 32, 40, 42]), (44, 0, []), (45, 0, []), (46, 0, [])])]
set_option maxHeartbeats 8000000 in
theorem alike87 (β : Base) : Tri Tryz.prog β 87 [fcV fc0, rfV rf0] [] (fun v L => v = .bool true ∧ L = []) := by
  have h0 := bits155 β (g := 0) (by omega)
  have h1 := bits155 β (g := 1) (by omega)
  refine Tri.intro tt_ok Tryz.func87 rfl rfl Tryz.ntmps87 rfl fun F => ?_
  (refine G tt_ok pk87 ?_; repeat (refine G1 tt_ok pk87 ?_; intro _))
  refine SQ.eqa tt_ok rfl rfl (by kernel_rfl) true (by simp [fc0, rf0]) ?_
  (refine G tt_ok pk87 ?_; repeat (refine G1 tt_ok pk87 ?_; intro _))
  refine SQ.eqa tt_ok rfl rfl (by kernel_rfl) true (by simp [fc0, rf0]) ?_
  (refine G tt_ok pk87 ?_; repeat (refine G1 tt_ok pk87 ?_; intro _))
  refine SQ.idx tt_ok rfl rfl 0 rfl (by decide) (o' := 6) rfl ?_
  (refine G tt_ok pk87 ?_; repeat (refine G1 tt_ok pk87 ?_; intro _))
  refine ke rfl rfl (h0) ?_
  (refine G tt_ok pk87 ?_; repeat (refine G1 tt_ok pk87 ?_; intro _))
  refine SQ.idx tt_ok rfl rfl 1 rfl (by decide) (o' := 7) rfl ?_
  (refine G tt_ok pk87 ?_; repeat (refine G1 tt_ok pk87 ?_; intro _))
  refine ke rfl rfl (h1) ?_
  (refine G tt_ok pk87 ?_; repeat (refine G1 tt_ok pk87 ?_; intro _))
  exact CW.ret (fin_ret rfl (A := []) (Ent.dropAll _) ⟨rfl, rfl⟩)
@[reducible] def pk98 : List (Nat × Plan) := [(8, [(0, 0, []), (1, 0, []), (3, 0, []), (4, 0, []), (5, 0, []), (6, 0, []), (7, 0, []), (2, 1, [1, 5, 7]), (8, 0, []), (9, 1, [])])]
@[reducible] def pk99 : List (Nat × Plan) := [(9, [(0, 0, []), (1, 0, []), (3, 0, []), (4, 0, []), (5, 0, []), (6, 0, []), (7, 0, []), (2, 1, [1, 5, 7]), (8, 0, []), (9, 1, [])])]
theorem msg_same {l : Nat} (hl : l ≤ 512) {id : Int} (hi : id < 9223372036854775808) : rmsgV l id = msgV l id := by
  unfold rmsgV msgV
  by_cases h : id ≥ 8192
  · rw [decide_eq_true h, wrap_id (x := id - 8192) (by omega) (by omega), wrap_id (x := 8192 + (l : Int)) (by omega) (by omega), Bool.true_and, Bool.true_and]
    exact decide_eq_decide.2 (by omega)
  · rw [decide_eq_false h]; rfl
/-- An interrupt of a new controller, as a list register has it. -/
def listNewV (D : DS) (l : Nat) (k id : Int) : Int × Int × Int × Int :=
  if msgV l id then (0, id, 0, 1) else (phaseV (D.getV k id).1.1, id, (D.getV k id).1.2.2.2, (D.getV k id).1.2.2.1)
@[reducible] def liV (x : Int × Int × Int × Int) : Value := .agg #[.int .i64 x.1, .int .i64 x.2.1, .int .i64 x.2.2.1, .int .i64 x.2.2.2, .bool false, .int .i64 0, .bool false]
set_option maxHeartbeats 8000000 in
theorem list98 (β : Base) (g : Nat) {Z : GS} {l : Nat} (hcf : Z.cf = List.replicate l 0) (hl : l ≤ 512) (hnew : ∀ s ∈ Z.ss, newS s) (k : Int) {id : Int} (hi : id < 9223372036854775808) : Tri Tryz.prog β 98 [.pointer (some ⟨g, 0, none⟩), .int .i64 k, .int .i64 id] (gA g Z)
    (fun v L => v = liV (listNewV Z.D l k id) ∧ L = gA g Z) := by
  have hlen : Z.cf.length = l := by rw [hcf]; simp
  have hmsg := msg15 β g Z.d Z.qc Z.qs Z.cf.length Z.cc Z.ss.length Z.cs id
  have hkn := known96 β g Z.d Z.qc Z.qs Z.cc Z.ss.length Z.cs (cf := Z.cf) (id := id) (by omega)
  have hget := get21' β Z.d Z.D k id hi
  refine Tri.intro tt_ok Tryz.func98 rfl rfl Tryz.ntmps98 rfl fun F => ?_
  unfold listNewV
  rw [hlen] at hmsg hkn
  (refine G tt_ok pk98 ?_; repeat (refine G1 tt_ok pk98 ?_; intro _))
  rename_i c6
  rw [gL_of, hlen]
  refine ke rfl rfl (hmsg) ?_
  cases hm : msgV l id with
  | false =>
    simp only [Bool.false_eq_true, if_false]
    (refine G tt_ok pk98 ?_; repeat (refine G1 tt_ok pk98 ?_; intro _))
    refine ke rfl rfl (hget) ?_
    generalize (Z.D.getV k id).1 = ln
    obtain ⟨⟨i1, i2, i3, i4⟩, en, gr, pr⟩ := ln
    (refine G tt_ok pk98 ?_; repeat (refine G1 tt_ok pk98 ?_; intro _))
    refine ke rfl rfl (phase162 β i1 i2 i3 i4) ?_
    (refine G tt_ok pk98 ?_; repeat (refine G1 tt_ok pk98 ?_; intro _))
    refine CW.ent (L' := pt c6 _ :: gA g Z) (by rw [gL_of, hlen]; exact pk_) ?_
    exact CW.ret (fin_cells [_] ⟨⟨_, _, _, _, 0, rfl, rfl, rfl, rfl⟩, trivial⟩ (A := gA g Z) pk_ ⟨rfl, by rw [gL_of, hlen]⟩)
  | true =>
    obtain ⟨j, hj, e1, e2⟩ := msg_at (by omega) hm
    rw [hm] at hkn
    have hcj : Z.cf[(id - 8192).toNat]? = some 0 := by rw [hcf, show (id - 8192).toNat = j by omega]; exact rep_at hj
    rw [hcj] at hkn
    simp only [if_true, Option.getD_some] at hkn ⊢
    (refine G tt_ok pk98 ?_; repeat (refine G1 tt_ok pk98 ?_; intro _))
    refine ke rfl rfl (hkn) ?_
    (refine G tt_ok pk98 ?_; repeat (refine G1 tt_ok pk98 ?_; intro _))
    refine ke rfl rfl (real48 β 0) ?_
    rw [show andI 0 248 = 0 from rfl]
    (refine G tt_ok pk98 ?_; repeat (refine G1 tt_ok pk98 ?_; intro _))
    refine ke rfl rfl (ghas46 β g Z.d Z.qc Z.qs l Z.cc Z.ss.length Z.cs k) ?_
    cases hr : rightV Z.ss.length k with
    | false =>
      (refine G tt_ok pk98 ?_; repeat (refine G1 tt_ok pk98 ?_; intro _))
      refine CW.ent (L' := pt c6 _ :: gA g Z) (by rw [gL_of, hlen]; exact pk_) ?_
      exact CW.ret (fin_cells [_] ⟨⟨_, _, _, _, 0, rfl, rfl, rfl, rfl⟩, trivial⟩ (A := gA g Z) pk_ ⟨rfl, by rw [gL_of, hlen]⟩)
    | true =>
      obtain ⟨s, hx, hls, hk⟩ := rights_at hr
      obtain ⟨n1, n2, n3, n4, n5⟩ := hnew s (List.mem_of_getElem? hx)
      (refine G tt_ok pk98 ?_; repeat (refine G1 tt_ok pk98 ?_; intro _))
      refine ir_ tt_ok rfl rfl (k.toNat) (hk) rfl ?_ (hlt := hls)
      (refine G tt_ok pk98 ?_; repeat (refine G1 tt_ok pk98 ?_; intro _))
      refine lr_ tt_ok rfl rfl (rd_sds hx) ?_
      (refine G tt_ok pk98 ?_; repeat (refine G1 tt_ok pk98 ?_; intro _))
      have hop : Ent [pkA sdA Z.ss] [exA (fun x : Option Addr × Nat => setL s.S x.1 x.2 s.W), pkA sdA (Z.ss.eraseIdx k.toNat)] := pk_open hx
      refine SQ.ent _ (Rm.to (A := pkA sdA Z.ss) (by repeat (first | exact Rm.h | apply Rm.t)) hop) ?_
      refine SQ.open_ fun y => ?_
      obtain ⟨q1, c1⟩ := y
      have h60 := has60n β s.S q1 c1 j
      rw [← e1] at h60
      have hcl : Ent (setL s.S q1 c1 s.W ++ [pkA sdA (Z.ss.eraseIdx k.toNat)]) [pkA sdA Z.ss] := by
        have h1 : Ent (setL s.S q1 c1 s.W) [exA fun x : Option Addr × Nat => setL s.S x.1 x.2 s.W] := Ent.exA (f := fun x : Option Addr × Nat => setL s.S x.1 x.2 s.W) (q1, c1)
        have h2 : Ent (sdA s ++ [pkA sdA (Z.ss.eraseIdx k.toNat)]) [pkA sdA Z.ss] := pk_shut hx
        exact (Ent.append h1 (Ent.refl _)).trans h2
      rw [n2] at hcl ⊢
      refine ke rfl rfl (h60) ?_
      refine SQ.ent _ (Tk.to (As := setL s.S q1 c1 none ++ [pkA sdA (Z.ss.eraseIdx k.toNat)]) (by repeat (first | exact .n | exact Rm.h | apply Tk.c | apply Rm.t)) hcl) ?_
      (refine G tt_ok pk98 ?_; repeat (refine G1 tt_ok pk98 ?_; intro _))
      refine CW.ent (L' := pt c6 _ :: gA g Z) (by rw [gL_of, hlen]; exact pk_) ?_
      exact CW.ret (fin_cells [_] ⟨⟨_, _, _, _, 0, rfl, rfl, rfl, rfl⟩, trivial⟩ (A := gA g Z) pk_ ⟨rfl, by rw [gL_of, hlen]⟩)
/-- The state of what is not there is empty. -/
theorem getV_bad {D : DS} {k id : Int} (h : (D.getV k id).2 ≠ 0) : (D.getV k id).1 = zeroL := by
  cases hr : rightV D.xs.length k with
  | false => rw [getV_wrong hr]
  | true =>
    obtain ⟨x, hx, hl, hk⟩ := right_at hr
    by_cases hid : id < 32
    · rw [getV_own hr hx hid] at h ⊢
      simp only at h ⊢
      unfold Bn.getV at h ⊢
      cases ha : Bn.atE 0 x.es id with
      | none => rfl
      | some e => rw [ha] at h; exact absurd rfl h
    · rw [getV_sh hr hid] at h ⊢
      simp only at h ⊢
      unfold Br.getV at h ⊢
      cases ha : Br.atE 32 D.sh id with
      | none => rfl
      | some e => rw [ha] at h; exact absurd rfl h
set_option maxHeartbeats 8000000 in
theorem list99 (β : Base) (r : Nat) {X : RG} {n s l : Nat} (hX : NewR X n s l) (hn1 : 1 ≤ n) (hn : n ≤ 4) (hs : s ≤ 64) (hl : l ≤ 512) (k : Int) {id : Int} (hi : id < 9223372036854775808) : Tri Tryz.prog β 99 [.pointer (some ⟨r, 0, none⟩), .int .i64 k, .int .i64 id] (rgA r X)
    (fun v L => v = liV (listNewV X.E l k id) ∧ L = rgA r X) := by
  have ok := hX.ok hn1 hn hs hl
  have hbl : X.bs.length = l := by rw [hX.bs]; simp
  have hmsg := rmsg97 β r X.rd X.qf X.qb X.qw X.qo X.qp X.qe X.fs.length X.kf X.bs.length X.kb X.ws.length X.kw X.os.length X.ko X.ps.length X.kp X.es.length X.ke id
  have hget := refGet44 β X.rd X.R X.E ok.ok k id
  have hwait := rwaiting88 β r ok k
  have hz0 : ∀ w ∈ X.ws, w.l = [] := fun w hw => by rw [hX.ws] at hw; rw [List.eq_of_mem_replicate hw]; rfl
  refine Tri.intro tt_ok Tryz.func99 rfl rfl Tryz.ntmps99 rfl fun F => ?_
  unfold listNewV
  rw [hbl, msg_same hl hi] at hmsg
  (refine G tt_ok pk99 ?_; repeat (refine G1 tt_ok pk99 ?_; intro _))
  rename_i c6
  rw [rg_of, hbl]
  refine ke rfl rfl (hmsg) ?_
  cases hm : msgV l id with
  | false =>
    simp only [Bool.false_eq_true, if_false]
    (refine G tt_ok pk99 ?_; repeat (refine G1 tt_ok pk99 ?_; intro _))
    refine ke rfl rfl (hget) ?_
    by_cases he : (X.E.getV k id).2 = 0
    · rw [he]
      generalize (X.E.getV k id).1 = ln
      obtain ⟨⟨i1, i2, i3, i4⟩, en, gr, pr⟩ := ln
      (refine G tt_ok pk99 ?_; repeat (refine G1 tt_ok pk99 ?_; intro _))
      refine ke rfl rfl (phase163 β i1 i2 i3 i4) ?_
      (refine G tt_ok pk99 ?_; repeat (refine G1 tt_ok pk99 ?_; intro _))
      refine CW.ent (L' := pt c6 _ :: rgA r X) (by rw [rg_of, hbl]; exact pk_) ?_
      exact CW.ret (fin_cells [_] ⟨⟨_, _, _, _, 0, rfl, rfl, rfl, rfl⟩, trivial⟩ (A := rgA r X) pk_ ⟨rfl, by rw [rg_of, hbl]⟩)
    · rw [getV_bad he]
      (refine G tt_ok pk99 ?_; repeat (refine G1 tt_ok pk99 ?_; intro _))
      rw [show ((X.E.getV k id).2 != 0) = true by simpa using he]
      (refine G tt_ok pk99 ?_; repeat (refine G1 tt_ok pk99 ?_; intro _))
      refine CW.ent (L' := pt c6 _ :: rgA r X) (by rw [rg_of, hbl]; exact pk_) ?_
      exact CW.ret (fin_cells [_] ⟨⟨_, _, _, _, 0, rfl, rfl, rfl, rfl⟩, trivial⟩ (A := rgA r X) pk_ ⟨rfl, by rw [rg_of, hbl]⟩)
  | true =>
    obtain ⟨j, hj, e1, e2⟩ := msg_at (by omega) hm
    have hbj : X.bs[j]? = some 0 := by rw [hX.bs]; exact rep_at hj
    simp only [if_true]
    (refine G tt_ok pk99 ?_; repeat (refine G1 tt_ok pk99 ?_; intro _))
    rw [e2]
    refine ir_ tt_ok rfl rfl (j) (rfl) rfl ?_ (hlt := hj)
    (refine G tt_ok pk99 ?_; repeat (refine G1 tt_ok pk99 ?_; intro _))
    refine lr_ tt_ok rfl rfl (by_rdX hbj) ?_
    (refine G tt_ok pk99 ?_; repeat (refine G1 tt_ok pk99 ?_; intro _))
    (refine ka rfl rfl (rreal157 β 0) ?_; rintro _ _ ⟨np, rfl, rfl, hnp⟩; refine w_ ?_)
    rw [hnp rfl]
    (refine G tt_ok pk99 ?_; repeat (refine G1 tt_ok pk99 ?_; intro _))
    rw [← hbl, ← rg_of]
    (refine ka rfl rfl (hwait) ?_; rintro _ _ ⟨ids, wq, wc, rfl, rfl, _, _, hz⟩; refine w_ ?_)
    rw [hz hz0]
    (refine G tt_ok pk99 ?_; repeat (refine G1 tt_ok pk99 ?_; intro _))
    refine ke rfl rfl (has32 β (n := 0) (l := []) rfl (by omega) id) ?_
    rw [show decide (id ∈ ([] : List Int)) = false by simp]
    (refine G tt_ok pk99 ?_; repeat (refine G1 tt_ok pk99 ?_; intro _))
    refine CW.ent (L' := pt c6 _ :: rgA r X) pk_ ?_
    exact CW.ret (fin_cells [_] ⟨⟨_, _, _, _, 0, rfl, rfl, rfl, rfl⟩, trivial⟩ (A := rgA r X) pk_ ⟨rfl, rfl⟩)
end Go.Proofs.YtebpodnbalfomaaGreatDoor.Sl
namespace Go.Proofs.YtebpodnbalfomaaGreatDoor.Sl
open Go Go.RowKit Go.Proofs
set_option linter.unusedVariables false
set_option linter.unusedSimpArgs false
/-- What an act on processor k may change. -/
def KeepS (k : Int) (Z Z' : GS) : Prop := Z'.ss.length = Z.ss.length ∧ ∀ j, (j ≠ k.toNat ∨ rightV Z.ss.length k = false) → Z'.ss[j]? = Z.ss[j]?
theorem KeepS.refl (k : Int) (Z : GS) : KeepS k Z Z := ⟨rfl, fun _ _ => rfl⟩
theorem KeepS.trans {k : Int} {A B C : GS} (h1 : KeepS k A B) (h2 : KeepS k B C) : KeepS k A C :=
  ⟨h2.1.trans h1.1, fun j hj => (h2.2 j (by rw [h1.1]; exact hj)).trans (h1.2 j hj)⟩
theorem KeepS.setS {k : Int} {Z : GS} (hr : rightV Z.ss.length k = true) (s : SdS) : KeepS k Z (Z.setS k s) := by
  refine ⟨by unfold GS.setS; simp, fun j hj => ?_⟩
  rcases hj with h | h
  · show (Z.ss.set k.toNat s)[j]? = Z.ss[j]?
    rw [List.getElem?_set_ne (Ne.symm h)]
  · rw [h] at hr; cases hr
theorem KeepS.at_ {k v : Int} {Z Z' : GS} (h : KeepS k Z Z') (hv : v ≠ k) : Z'.face v = Z.face v ∧ Z'.waitsV v = Z.waitsV v := by
  unfold GS.face GS.waitsV
  rw [h.1]
  cases hr : rightV Z.ss.length v with
  | false => exact ⟨rfl, rfl⟩
  | true =>
    have e : Z'.ss[v.toNat]? = Z.ss[v.toNat]? := h.2 _ (by
      cases hk : rightV Z.ss.length k with
      | false => exact .inr rfl
      | true => left; simp [rightV] at hr hk; omega)
    rw [e]
    exact ⟨rfl, rfl⟩
end Go.Proofs.YtebpodnbalfomaaGreatDoor.Sl
namespace Go.Proofs.YtebpodnbalfomaaGreatDoor.Sl
open Go Go.RowKit
set_option linter.unusedVariables false
set_option linter.unusedSimpArgs false
section
variable {P : Program} {β : Base} {rnd : Option (Nat × Loop)} {N : Nat} {env : Env} {L : List Atom} {K : Env → List Atom → Prop} {ops : Array Oper} {T : TT}
end
end Go.Proofs.YtebpodnbalfomaaGreatDoor.Sl
namespace Go.Proofs.YtebpodnbalfomaaGreatDoor.Sl
open Go Go.RowKit Go.Proofs
set_option linter.unusedVariables false
set_option linter.unusedSimpArgs false
attribute [local irreducible] CW Tri OW
attribute [local irreducible] wlen
set_option maxRecDepth 10000
theorem gface25 (β : Base) (g : Nat) (Z : GS) (k : Int) : Tri Tryz.prog β 25 [.pointer (some ⟨g, 0, none⟩), .int .i64 k] (gA g Z) (fun v L => v = fcV (Z.face k) ∧ L = gA g Z) := by
  have h := (face25 β g Z k).frame ([rowA Z.qc Z.cf.length (Z.cf.flatMap byC), pkA sdA Z.ss] ++ dA Z.d Z.D)
  refine (Tri.ent ?_ h).monoE ?_
  · rw [gL_of]; unfold gHd; exact pk_
  · rintro v L ⟨A', rfl, hv, rfl⟩
    refine ⟨gA g Z, ?_, hv, rfl⟩
    rw [gL_of]; unfold gHd
    exact pk_
end Go.Proofs.YtebpodnbalfomaaGreatDoor.Sl
namespace Go.Proofs.YtebpodnbalfomaaGreatDoor.Sl
open Go Go.RowKit Go.Proofs
set_option linter.unusedVariables false
set_option linter.unusedSimpArgs false
theorem face_at {Z : GS} {w : Int} {s : SdS} (hr : rightV Z.ss.length w = true) (hs : Z.ss[w.toNat]? = some s) : Z.face w = s.f := by
  unfold GS.face; rw [if_pos hr, hs]
end Go.Proofs.YtebpodnbalfomaaGreatDoor.Sl
namespace Go.Proofs.YtebpodnbalfomaaGreatDoor.Sl
open Go Go.RowKit Go.Proofs
set_option linter.unusedVariables false
set_option linter.unusedSimpArgs false
attribute [local irreducible] CW Tri OW
attribute [local irreducible] wlen
set_option maxRecDepth 10000
@[reducible] def pk36 : List (Nat × Plan) := [(1, [(0, 0, []), (1, 0, []), (2, 0, []), (3, 0, []), (4, 0, []), (5, 0, []), (6, 0, []), (7, 0, []), (8, 1, [3, 7]), (9, 0, []), (10, 0, []), (11, 0, []), (13, 0, []), (14, 0, []), (15, 0, []), (16, 0, []), (17, 0, []), (12, 1, [3, 7, 16]), (18, 0, []), (19, 0, []), (20, 0, []), (21, 0, []), (23, 0, []), (22, 1, [3, 7, 16]), (24, 1, [3, 7, 16]), (25, 0, []), (26, 0, [])]), (6, [(0, 0, []), (1, 0, []), (3, 0, []), (4, 0, []), (5, 0, []), (6, 0, []), (7, 0, []), (8, 0, []), (9, 0, []), (2, 1, [6, 9]), (10, 1, [6, 9]), (11, 0, []), (12, 0, []), (13, 0, []), (14, 0, []), (17, 0, []), (18, 0, []), (15, 1, [6, 9]), (16, 1, [6, 9]), (19, 1, [6, 9]), (20, 1, [6, 9]), (21, 0, []), (22, 0, []), (23, 0, []), (24, 0, []), (25, 0, []), (28, 0, []), (29, 0, []), (26, 1, [6, 9]), (27, 1, [6, 9]), (30, 1, [6, 9]), (31, 1, [6, 9]), (32, 0, []), (33, 0, [])])]
theorem NewR.same {X : RG} {n s l : Nat} (hX : NewR X n s l) {D : DS} (hD : newD D n s) (r : Nat) : rgA r X = rgA r { X with E := D } ∧ NewR { X with E := D } n s l := by
  have e : rD X.rd X.R X.E = rD X.rd X.R D := rD_congr (hX.d.1.trans hD.1.symm) (hX.d.2.1.trans hD.2.1.symm) (hX.d.2.2.1.trans hD.2.2.1.symm)
    ((newCR_pl hX.d.2.2.2.1 hX.d.2.2.2.2).trans (newCR_pl hD.2.2.2.1 hD.2.2.2.2).symm)
  refine ⟨?_, ⟨hD, hX.ro, hX.fs, hX.bs, hX.ws, hX.os, hX.ps, hX.es⟩⟩
  rw [rg_of, rg_of, e]
theorem NewG.n_ {R : RS} {Z : GS} {n s l : Nat} (h : NewG Z n s l) (hn0 : 1 ≤ n) (hn1 : n ≤ 4) (hs : s ≤ 64) (hl : l ≤ 512) (hR : R.os.length = n) : OkN R Z := by
  refine ⟨newD_ok h.d hn0 (by omega) hs hR, by rw [h.n, h.d.2.2.2.1], by rw [h.n]; exact hn1, by rw [h.cf]; simpa using hl, ?_, ?_⟩
  · intro b hb; rw [h.cf] at hb; rw [List.eq_of_mem_replicate hb]; decide
  · intro x hx
    obtain ⟨a, b, c, d, e⟩ := h.ss x hx
    refine ⟨by rw [a]; exact fc0_ok, by rw [b]; exact fun y hy => by (cases hy), fun j hj hh => ?_, by rw [d]; decide, by rw [e]; decide⟩
    rw [b] at hh; cases hh
theorem new_ready {D : DS} {n s : Nat} (h : newD D n s) (k : Int) : D.readyV k = [] := by
  unfold DS.readyV
  split
  · rfl
  · rw [List.filter_eq_nil_iff]
    intro p hp
    unfold takeP
    rw [h.1, h.2.1]
    simp
theorem new_waits {Z : GS} {n s l : Nat} (h : NewG Z n s l) (k : Int) : Z.waitsV k = [] := by
  unfold GS.waitsV
  split
  · split
    · rename_i x hx
      rw [(h.ss x (List.mem_of_getElem? hx)).2.1]; rfl
    · rfl
  · rfl
theorem new_cand {Z : GS} {n s l : Nat} (h : NewG Z n s l) (k : Int) : Z.candV k = [] := by
  unfold GS.candV GS.candB
  rw [new_ready h.d, new_waits h]
  simp
theorem new_face {Z : GS} {n s l : Nat} (h : NewG Z n s l) {k : Nat} (hk : k < n) : Z.face (k : Int) = fc0 := by
  have hr : rightV Z.ss.length (k : Int) = true := by rw [h.n]; simp [rightV]; omega
  obtain ⟨x, hx, hl, _⟩ := rights_at hr
  rw [face_at hr hx]
  exact (h.ss x (List.mem_of_getElem? hx)).1
set_option maxHeartbeats 16000000 in
theorem alike36 (β : Base) (hG : TabOk β) (g r : Nat) {Z : GS} {X : RG} {n s l : Nat} (hZ : NewG Z n s l) (hX : NewR X n s l) (hE : X.E = Z.D) (hn1 : 1 ≤ n) (hn : n ≤ 4) (hs : s ≤ 64) (hl : l ≤ 512) :
    Tri Tryz.prog β 36 [.pointer (some ⟨g, 0, none⟩), .pointer (some ⟨r, 0, none⟩)] (gA g Z ++ rgA r X) (fun v L => v = .bool true ∧ L = gA g Z ++ rgA r X) := by
  have okZ : OkN X.R Z := hZ.n_ hn1 hn hs hl hX.ro
  have okX := hX.ok hn1 hn hs hl
  have hcl : Z.cf.length = l := by rw [hZ.cf]; simp
  have hbl : X.bs.length = l := by rw [hX.bs]; simp
  have hfl : X.fs.length = n := by rw [hX.fs]; simp
  have hss : Z.ss.length = n := hZ.n
  have hal := alike13 β Z.d X.rd X.R Z.D okZ.ok
  have hlp := lpis16 β g Z.d Z.qc Z.qs Z.cf.length Z.cc Z.ss.length Z.cs
  obtain ⟨s0, hs0, _, _⟩ := rights_at (ss := Z.ss) (k := 0) (by rw [hss]; simp [rightV]; omega)
  have hpr := prop85 β g Z.d Z.qc Z.qs Z.cf.length Z.cc Z.cs (ss := Z.ss) (s := s0) hs0 (by rw [(hZ.ss s0 (List.mem_of_getElem? hs0)).2.2.2.1]; decide)
  rw [(hZ.ss s0 (List.mem_of_getElem? hs0)).2.2.2.1, show IntKind.i64.wrap ((clrN 64 0 4095 : Nat) : Int) = 0 from by kernel_rfl] at hpr
  have hba := base86 β r hX hn1
  have hf : ∀ i, i < n → X.fs[i]? = some rf0 := fun i h => by rw [hX.fs]; exact rep_at h
  have hface := fun (k : Nat) (hk : k < n) => (new_face hZ hk ▸ gface25 β g Z (k : Int) :)
  have hz0 : ∀ w ∈ X.ws, w.l = [] := fun w hw => by rw [hX.ws] at hw; rw [List.eq_of_mem_replicate hw]; rfl
  have hrd : ∀ k, X.E.readyV k = [] := fun k => by rw [hE]; exact new_ready hZ.d k
  refine Tri.intro tt_ok Tryz.func36 rfl rfl Tryz.ntmps36 rfl fun F => ?_
  rw [gL_of, rg_of, hE]
  refine G tt_ok pk36 ?_
  refine ke rfl rfl (hal) ?_
  refine G tt_ok pk36 ?_
  refine ke rfl rfl (hlp) ?_
  refine G tt_ok pk36 ?_
  rw [hcl, hbl]
  rw [show (((l : Nat) : Int) != ((l : Nat) : Int)) = false by simp]
  refine G tt_ok pk36 ?_
  rw [hcl] at hpr
  refine ke rfl rfl (hpr) ?_
  rw [rg_of, hbl, hE] at hba
  refine ke rfl rfl (hba) ?_
  refine G tt_ok pk36 ?_
  refine CW.loop (α := Nat) (fun i => i ≤ X.fs.length) (fun i => [(5, .int .i64 i), (0, .pointer (some ⟨g, 0, none⟩)), (1, .pointer (some ⟨r, 0, none⟩))]) (fun i => gA g Z ++ rgA r X) (fun i => X.fs.length - i) 0 (by omega) ⟨rfl, rfl, rfl, trivial⟩ (by rw [gL_of, rg_of, hcl, hbl, hE]; exact pk_) ?_
  intro i hi
  rw [rg_of, hE]
  refine G tt_ok pk36 ?_
  by_cases hin' : i < X.fs.length
  · rw [decide_eq_true (show (i : Int) < ((X.fs.length : Nat) : Int) by omega)]
    have hin : i < n := by omega
    have hwr : IntKind.i64.wrap ((i : Int) + 1) = ((i + 1 : Nat) : Int) := by rw [wrap_id (by omega) (by omega)]; simp
    have w0 := gwaits29N β g okZ (i : Int)
    rw [new_waits hZ] at w0
    have hwait := rwaiting88 β r okX (i : Int)
    have hact := ractive89 β r okX (i : Int)
    have hcands := rcands91 β r okX (i : Int)
    have hord := rorder92 β r okX (i : Int)
    have htop := rtop93 β r okX (i : Int)
    have hgo := order11N β hG g okZ (i : Int)
    have hgt := top24N β hG g okZ (i : Int)
    have hic := fun b5 b6 => iterCN β hG g b5 b6 okZ (i : Int)
    rw [new_cand hZ] at hgo hgt hic
    have hAV : ((Z.D.seenV i).filter actP).map (·.1) = Z.activeV i := rfl
    rw [rg_of, hE] at hwait hact hcands hord htop
    rw [hAV] at hact
    have hac := fun b3 b4 => iterAcN β g b3 b4 okZ (i : Int)
    have hale := active_leN okZ (i : Int)
    have hrd0 := new_ready hZ.d (i : Int)
    generalize Z.activeV i = AV at hac hale hact
    refine G tt_ok pk36 ?_
    refine ir_ tt_ok rfl rfl (i) (rfl) rfl ?_ (hlt := hin')
    refine G tt_ok pk36 ?_
    refine lr_ tt_ok rfl rfl (rd_rf (hf i hin)) ?_
    refine G tt_ok pk36 ?_
    (refine ka rfl rfl (hface i hin) ?_; rintro _ _ ⟨rfl, rfl⟩; refine ⟨(by repeat (first | exact trivial | refine ⟨trivial, ?_⟩ | refine ⟨rr_ (rd_rf (hf i hin)), ?_⟩ | refine ⟨wk (by repeat (first | exact .h | exact .q | apply At.t)) (by rfl), ?_⟩)), ?_⟩)
    refine G tt_ok pk36 ?_
    (refine ka rfl rfl (alike87 β) ?_; rintro _ _ ⟨rfl, rfl⟩; refine ⟨(by repeat (first | exact trivial | refine ⟨trivial, ?_⟩ | refine ⟨rr_ (rd_rf (hf i hin)), ?_⟩ | refine ⟨wk (by repeat (first | exact .h | exact .q | apply At.t)) (by rfl), ?_⟩)), ?_⟩)
    refine G tt_ok pk36 ?_
    (refine ka rfl rfl (w0) ?_; rintro _ _ ⟨b1, b2, q1, d1, W, rfl, rfl, hm, hW⟩; refine ⟨(by repeat (first | exact trivial | refine ⟨trivial, ?_⟩ | refine ⟨rr_ (rd_rf (hf i hin)), ?_⟩ | refine ⟨wk (by repeat (first | exact .h | exact .q | apply At.t)) (by rfl), ?_⟩)), ?_⟩)
    refine G tt_ok pk36 ?_
    (refine ka rfl rfl (nums28 β (iterW β hG b1 b2 q1 d1 hW) (by rw [hm]; simp)) ?_; rintro _ _ ⟨q2, c2, rfl, rfl⟩; refine ⟨(by repeat (first | exact trivial | refine ⟨trivial, ?_⟩ | refine ⟨rr_ (rd_rf (hf i hin)), ?_⟩ | refine ⟨wk (by repeat (first | exact .h | exact .q | apply At.t)) (by rfl), ?_⟩)), ?_⟩)
    rw [hm]
    refine G tt_ok pk36 ?_
    (refine ka rfl rfl (hwait) ?_; rintro _ _ ⟨ids, wq, wc, rfl, rfl, _, _, hz⟩; refine ⟨(by repeat (first | exact trivial | refine ⟨trivial, ?_⟩ | refine ⟨rr_ (rd_rf (hf i hin)), ?_⟩ | refine ⟨wk (by repeat (first | exact .h | exact .q | apply At.t)) (by rfl), ?_⟩)), ?_⟩)
    rw [hz hz0]
    refine G tt_ok pk36 ?_
    (refine ka rfl rfl (same30 β (q1 := q2) (q2 := wq) (n := 0) (c1 := c2) (c2 := wc) (l := []) rfl (by omega)) ?_; rintro _ _ ⟨rfl, rfl⟩; refine ⟨(by repeat (first | exact trivial | refine ⟨trivial, ?_⟩ | refine ⟨rr_ (rd_rf (hf i hin)), ?_⟩ | refine ⟨wk (by repeat (first | exact .h | exact .q | apply At.t)) (by rfl), ?_⟩)), ?_⟩)
    refine G tt_ok pk36 ?_
    (refine ka rfl rfl (active33 β g i) ?_; rintro _ _ ⟨b3, b4, rfl, rfl⟩; refine ⟨(by repeat (first | exact trivial | refine ⟨trivial, ?_⟩ | refine ⟨rr_ (rd_rf (hf i hin)), ?_⟩ | refine ⟨wk (by repeat (first | exact .h | exact .q | apply At.t)) (by rfl), ?_⟩)), ?_⟩)
    refine G tt_ok pk36 ?_
    (refine ka rfl rfl (nums28 β (hac b3 b4) hale) ?_; rintro _ _ ⟨q3, c3, rfl, rfl⟩; refine ⟨(by repeat (first | exact trivial | refine ⟨trivial, ?_⟩ | refine ⟨rr_ (rd_rf (hf i hin)), ?_⟩ | refine ⟨wk (by repeat (first | exact .h | exact .q | apply At.t)) (by rfl), ?_⟩)), ?_⟩)
    refine G tt_ok pk36 ?_
    (refine ka rfl rfl (hact) ?_; rintro _ _ ⟨q4, c4, rfl, rfl⟩; refine ⟨(by repeat (first | exact trivial | refine ⟨trivial, ?_⟩ | refine ⟨rr_ (rd_rf (hf i hin)), ?_⟩ | refine ⟨wk (by repeat (first | exact .h | exact .q | apply At.t)) (by rfl), ?_⟩)), ?_⟩)
    refine G tt_ok pk36 ?_
    (refine ka rfl rfl (same30 β (q1 := q3) (q2 := q4) (n := AV.length) (c1 := c3) (c2 := c4) (l := AV) rfl (by omega)) ?_; rintro _ _ ⟨rfl, rfl⟩; refine ⟨(by repeat (first | exact trivial | refine ⟨trivial, ?_⟩ | refine ⟨rr_ (rd_rf (hf i hin)), ?_⟩ | refine ⟨wk (by repeat (first | exact .h | exact .q | apply At.t)) (by rfl), ?_⟩)), ?_⟩)
    refine G tt_ok pk36 ?_
    (refine ka rfl rfl (candidates13 β g i) ?_; rintro _ _ ⟨b5, b6, rfl, rfl⟩; refine w_ ?_)
    refine G tt_ok pk36 ?_
    (refine ka rfl rfl (cands12 β (hic b5 b6) (by simp)) ?_; rintro _ _ ⟨q5, c5, rfl, rfl⟩; refine w_ ?_)
    refine G tt_ok pk36 ?_
    (refine ka rfl rfl (hcands) ?_; rintro _ _ ⟨cs, q6, c6, rfl, rfl, _, hz2⟩; refine w_ ?_)
    rw [hz2 ⟨hrd0, hz0⟩]
    refine G tt_ok pk36 ?_
    refine ke rfl rfl (same90 β (q1 := q5) (q2 := q6) (n := 0) (c1 := c5) (c2 := c6) (l := []) rfl (by omega)) ?_
    refine G tt_ok pk36 ?_
    (refine ka rfl rfl (hgo) ?_; rintro _ _ ⟨q7, c7, rfl, rfl⟩; refine w_ ?_)
    refine G tt_ok pk36 ?_
    (refine ka rfl rfl (hord) ?_; rintro _ _ ⟨cs2, q8, c8, rfl, rfl, _, hz3⟩; refine w_ ?_)
    rw [hz3 ⟨hrd0, hz0⟩]
    refine G tt_ok pk36 ?_
    refine ke rfl rfl (same90 β (q1 := q7) (q2 := q8) (n := 0) (c1 := c7) (c2 := c8) (l := []) rfl (by omega)) ?_
    refine G tt_ok pk36 ?_
    refine ke rfl rfl (hgt) ?_
    refine G tt_ok pk36 ?_
    (refine ka rfl rfl (htop) ?_; rintro _ _ ⟨ct, rfl, rfl, hz4⟩; refine w_ ?_)
    rw [hz4 ⟨hrd0, hz0⟩]
    refine G tt_ok pk36 ?_
    refine SQ.eqs' tt_ok rfl rfl rfl (by kernel_rfl) (by kernel_rfl) false (by simp [topC, ordC]) ?_
    refine G tt_ok pk36 ?_
    exact ⟨i + 1, by omega, by omega, ⟨by rw [← hwr]; rfl, rfl, rfl, trivial⟩, pk_⟩
  · rw [decide_eq_false (show ¬ (i : Int) < ((X.fs.length : Nat) : Int) by omega)]
    refine G tt_ok pk36 ?_
    refine CW.exit ?_
    refine G tt_ok pk36 ?_
    exact CW.ret (fin_ret rfl (A := gA g Z ++ rgA r X) (by rw [rg_of, hE]; exact pk_) ⟨rfl, by rw [gL_of, rg_of, hcl, hbl, hE]⟩)
@[reducible] def pk37 : List (Nat × Plan) := [(1, [(0, 0, []), (1, 0, []), (2, 0, []), (3, 0, []), (4, 0, []), (5, 0, []), (6, 1, [2, 4, 5]), (7, 1, [2, 4, 5]), (8, 0, []), (9, 0, []), (10, 0, []), (11, 0, []), (12, 0, [])]), (2, [(0, 0, []), (1, 0, []), (2, 0, []), (3, 0, []), (4, 0, []), (5, 0, []), (6, 1, [2, 4, 5]), (7, 1, [2, 4, 5]), (8, 0, []), (9, 0, []), (10, 0, []), (11, 0, []), (12, 0, [])]), (7, [(0, 0, []), (1, 0, []), (2, 0, []), (3, 0, []), (4, 0, []), (5, 0, []), (6, 0, []), (7, 0, []), (8, 0, []), (9, 0, []), (10, 0, [])]), (8, [(0, 0, []), (1, 0, []), (2, 0, []), (3, 0, []), (4, 0, []), (5, 0, []), (6, 0, []), (7, 0, []), (8, 0, []), (9, 0, []), (10, 0, []), (11, 0, []), (12, 0, []), (13, 0, []), (14, 0, []), (15, 0, []), (16, 0, []), (17, 0, []), (18, 0, []), (19, 0, []), (20, 0, []), (21, 0, []), (23, 0, []), (24, 0, []), (25, 0, []), (22, 1, [21, 25]), (26, 1, [21, 25]), (27, 0, []), (28, 0, []), (29, 0, []), (30, 0, []), (31, 0, []), (32, 0, []), (33, 0, []), (34, 0, []), (36, 0, []), (37, 0, []), (38, 0, []), (39, 0, []), (40, 0, []), (35, 1, [21, 25, 32, 34, 38, 40]), (41, 1, [21, 25, 32, 34, 38, 40]), (42, 0, []), (43, 0, []), (44, 0, [])])]
@[reducible] def pk8 : List (Nat × Plan) := []
set_option maxHeartbeats 16000000 in
theorem asks37 (β : Base) (g r : Nat) {Z : GS} {X : RG} {n s l : Nat} (hZ : NewG Z n s l) (hX : NewR X n s l) (hE : X.E = Z.D) (hn1 : 1 ≤ n) (hn : n ≤ 4) (hs : s ≤ 64) (hl : l ≤ 512) (x : VA) (hx : vaOk x) :
    Tri Tryz.prog β 37 [.pointer (some ⟨g, 0, none⟩), .pointer (some ⟨r, 0, none⟩), vaV x] (gA g Z ++ rgA r X) (fun v L => v = .bool true ∧ L = gA g Z ++ rgA r X) := by
  have hw := wide30 β x
  obtain ⟨o, xv, w, id, off, reg, y, hi, d⟩ := x
  obtain ⟨hxid, hy, hd⟩ := hx
  simp only at hxid hy hd hw
  have hcl : Z.cf.length = l := by rw [hZ.cf]; simp
  have hbl : X.bs.length = l := by rw [hX.bs]; simp
  have ra := readOwn94 β g (Z := Z) (by rw [hZ.n]; exact hn) hZ.ss xv off (wideV hi)
  have rb := readOwn95 β r hX hn1 hn hs xv off hi
  have ha := list98 β g hZ.cf hl hZ.ss xv (id := id) hxid
  have hb := list99 β r hX hn1 hn hs hl xv (id := id) hxid
  have hkn := known96 β g Z.d Z.qc Z.qs Z.cc Z.ss.length Z.cs (cf := Z.cf) (id := id) (by omega)
  have hms := msg15 β g Z.d Z.qc Z.qs Z.cf.length Z.cc Z.ss.length Z.cs id
  have hmr := rmsg97 β r X.rd X.qf X.qb X.qw X.qo X.qp X.qe X.fs.length X.kf X.bs.length X.kb X.ws.length X.kw X.os.length X.ko X.ps.length X.kp X.es.length X.ke id
  rw [show rmsgV X.bs.length id = msgV l id by rw [hbl]; exact msg_same hl hxid] at hmr
  rw [show msgV Z.cf.length id = msgV l id by rw [hcl]] at hms hkn
  rw [hZ.n, gL_of, hZ.n] at ra
  rw [rg_of, hE] at rb
  rw [gL_of, hZ.n] at ha
  rw [rg_of, hE] at hb
  rw [hZ.n] at hkn hms
  generalize rdNewV Z.D n xv off (wideV hi) = RO at ra rb
  generalize listNewV Z.D l xv id = LV at ha hb
  refine Tri.intro tt_ok Tryz.func37 rfl rfl Tryz.ntmps37 rfl fun F => ?_
  rw [gL_of, rg_of, hE, hZ.n]
  (refine G tt_ok pk37 ?_; repeat (refine G1 tt_ok pk37 ?_; intro _))
  refine ke rfl rfl (hw) ?_
  (refine G tt_ok pk37 ?_; repeat (refine G1 tt_ok pk37 ?_; intro _))
  refine ke rfl rfl (ra) ?_
  (refine G tt_ok pk37 ?_; repeat (refine G1 tt_ok pk37 ?_; intro _))
  refine ke rfl rfl (hw) ?_
  (refine G tt_ok pk37 ?_; repeat (refine G1 tt_ok pk37 ?_; intro _))
  refine ke rfl rfl (rb) ?_
  (refine G tt_ok pk37 ?_; repeat (refine G1 tt_ok pk37 ?_; intro _))
  refine ke rfl rfl (hkn) ?_
  (refine G tt_ok pk37 ?_; repeat (refine G1 tt_ok pk37 ?_; intro _))
  refine ke rfl rfl (hmr) ?_
  cases hm : msgV l id with
  | false =>
    rw [hm] at hms hmr
    simp only [Bool.false_eq_true, if_false]
    (refine G tt_ok pk37 ?_; repeat (refine G1 tt_ok pk37 ?_; intro _))
    rw [show (RO.1 == RO.1) = true by simp]
    (refine G tt_ok pk37 ?_; repeat (refine G1 tt_ok pk37 ?_; intro _))
    rw [show (RO.2 == RO.2) = true by simp]
    (refine G tt_ok pk37 ?_; repeat (refine G1 tt_ok pk37 ?_; intro _))
    refine ke rfl rfl (hms) ?_
    (refine G tt_ok pk37 ?_; repeat (refine G1 tt_ok pk37 ?_; intro _))
    refine ke rfl rfl (hmr) ?_
    (refine G tt_ok pk37 ?_; repeat (refine G1 tt_ok pk37 ?_; intro _))
    refine ke rfl rfl (ha) ?_
    (refine G tt_ok pk37 ?_; repeat (refine G1 tt_ok pk37 ?_; intro _))
    refine ke rfl rfl (hb) ?_
    (refine G tt_ok pk37 ?_; repeat (refine G1 tt_ok pk37 ?_; intro _))
    refine SQ.eqs' tt_ok rfl rfl rfl (by kernel_rfl) (by kernel_rfl) true (by simp) ?_
    (refine G tt_ok pk37 ?_; repeat (refine G1 tt_ok pk37 ?_; intro _))
    exact CW.ret (fin_ret rfl (A := gA g Z ++ rgA r X) (by rw [gL_of, rg_of, hE, hZ.n]; exact pk_) ⟨rfl, by rw [gL_of, rg_of, hE, hZ.n]⟩)
  | true =>
    obtain ⟨j, hj, e1, e2⟩ := msg_at (by omega) hm
    have hcj : Z.cf[(id - 8192).toNat]? = some 0 := by rw [hZ.cf, show (id - 8192).toNat = j by omega]; exact rep_at hj
    have hbj : X.bs[j]? = some 0 := by rw [hX.bs]; exact rep_at hj
    have hjb : j < X.bs.length := by omega
    rw [hm] at hms hmr
    rw [hcj]
    simp only [if_true, Option.getD_some]
    (refine G tt_ok pk37 ?_; repeat (refine G1 tt_ok pk37 ?_; intro _))
    rw [e2]
    refine ir_ tt_ok rfl rfl (j) (rfl) rfl ?_ (hlt := hjb)
    (refine G tt_ok pk37 ?_; repeat (refine G1 tt_ok pk37 ?_; intro _))
    refine lr_ tt_ok rfl rfl (by_rdX hbj) ?_
    (refine G tt_ok pk37 ?_; repeat (refine G1 tt_ok pk37 ?_; intro _))
    rw [show (RO.1 == RO.1) = true by simp]
    (refine G tt_ok pk37 ?_; repeat (refine G1 tt_ok pk37 ?_; intro _))
    rw [show (RO.2 == RO.2) = true by simp]
    (refine G tt_ok pk37 ?_; repeat (refine G1 tt_ok pk37 ?_; intro _))
    refine ke rfl rfl (hms) ?_
    (refine G tt_ok pk37 ?_; repeat (refine G1 tt_ok pk37 ?_; intro _))
    refine ke rfl rfl (hmr) ?_
    (refine G tt_ok pk37 ?_; repeat (refine G1 tt_ok pk37 ?_; intro _))
    refine ke rfl rfl (ha) ?_
    (refine G tt_ok pk37 ?_; repeat (refine G1 tt_ok pk37 ?_; intro _))
    refine ke rfl rfl (hb) ?_
    (refine G tt_ok pk37 ?_; repeat (refine G1 tt_ok pk37 ?_; intro _))
    refine SQ.eqs' tt_ok rfl rfl rfl (by kernel_rfl) (by kernel_rfl) true (by simp) ?_
    (refine G tt_ok pk37 ?_; repeat (refine G1 tt_ok pk37 ?_; intro _))
    exact CW.ret (fin_ret rfl (A := gA g Z ++ rgA r X) (by rw [gL_of, rg_of, hE, hZ.n]; exact pk_) ⟨rfl, by rw [gL_of, rg_of, hE, hZ.n]⟩)
set_option maxHeartbeats 8000000 in
theorem law_news (β : Base) (hG : TabOk β) (n s l : Int) (x : VA) (hx : vaOk x) :
    Tri Tryz.prog β 8 [.int .i64 n, .int .i64 s, .int .i64 l, .agg (vaC x).toArray] [] (fun v L => v = .bool true ∧ L = []) := by
  refine Tri.intro tt_ok Tryz.func8 rfl rfl Tryz.ntmps8 rfl fun F => ?_
  (refine G tt_ok pk8 ?_; repeat (refine G1 tt_ok pk8 ?_; intro _))
  refine ke rfl rfl (awake9 β hG) ?_
  (refine G tt_ok pk8 ?_; repeat (refine G1 tt_ok pk8 ?_; intro _))
  by_cases h : newOk n s l
  · have h' := h
    unfold newOk at h'
    obtain ⟨N, rfl⟩ : ∃ N : Nat, n = (N : Int) := ⟨n.toNat, by omega⟩
    obtain ⟨S, rfl⟩ : ∃ S : Nat, s = (S : Int) := ⟨s.toNat, by omega⟩
    obtain ⟨Q, rfl⟩ : ∃ Q : Nat, l = (Q : Int) := ⟨l.toNat, by omega⟩
    have hN1 : 1 ≤ N := by omega
    have hN4 : N ≤ 4 := by omega
    have hS : S ≤ 64 := by omega
    have hQ : Q ≤ 512 := by omega
    (refine ka rfl rfl (gnew34 β hN1 hN4 hS (l := Q) hQ) ?_; rintro _ _ ⟨g, Z, rfl, rfl, hZ⟩; refine w_ ?_)
    (refine G tt_ok pk8 ?_; repeat (refine G1 tt_ok pk8 ?_; intro _))
    (refine ka rfl rfl (rnew35 β hN1 hN4 hS (l := Q) hQ) ?_; rintro _ _ ⟨r, X0, rfl, rfl, hX0⟩; refine w_ ?_)
    obtain ⟨eX, hX⟩ := hX0.same hZ.d r
    rw [eX]
    generalize hXX : ({ X0 with E := Z.D } : RG) = X at hX ⊢
    have hE : X.E = Z.D := by rw [← hXX]
    (refine G tt_ok pk8 ?_; repeat (refine G1 tt_ok pk8 ?_; intro _))
    refine ke rfl rfl (alike36 β hG g r hZ hX hE hN1 hN4 hS hQ) ?_
    (refine G tt_ok pk8 ?_; repeat (refine G1 tt_ok pk8 ?_; intro _))
    refine ke rfl rfl (asks37 β g r hZ hX hE hN1 hN4 hS hQ x hx) ?_
    (refine G tt_ok pk8 ?_; repeat (refine G1 tt_ok pk8 ?_; intro _))
    exact CW.ret (fin_ret rfl (A := []) (Ent.dropAll _) ⟨rfl, rfl⟩)
  · refine ke rfl rfl (gnew34_bad β h) ?_
    (refine G tt_ok pk8 ?_; repeat (refine G1 tt_ok pk8 ?_; intro _))
    refine ke rfl rfl (rnew35_bad β h) ?_
    (refine G tt_ok pk8 ?_; repeat (refine G1 tt_ok pk8 ?_; intro _))
    exact CW.ret (fin_ret rfl (A := []) (Ent.dropAll _) ⟨rfl, rfl⟩)
end Go.Proofs.YtebpodnbalfomaaGreatDoor.Sl
namespace Go.Proofs.YtebpodnbalfomaaGreatDoor.Sl
open Go Go.RowKit Go.Proofs
set_option linter.unusedVariables false
set_option linter.unusedSimpArgs false
set_option maxRecDepth 100000
theorem bys_get : ∀ (B : List Nat) (i : Nat), (bys B)[i]? = B[i]?.map fun b => Value.int .u8 (b : Int)
  | [], i => by simp [bys]
  | b :: r, 0 => rfl
  | b :: r, i + 1 => by
    have := bys_get r i
    show (bys r)[i]? = _
    rw [this]; rfl
@[reducible] def laidL : List (String × DataW Unit) := [("math/bits.deBruijn64tab", Rows.laid_math_bits_deBruijn64tab)]
theorem gTab : Tryz.prog.globalNamed "math/bits.deBruijn64tab" = some 0 := by kernel_rfl
theorem tTab : (Tryz.prog.globals[0]?).map (·.type) = some 304 := by kernel_rfl
theorem cTab : Tryz.prog.cellsOf 304 = 64 := by kernel_rfl
theorem cTab5 : Tryz.prog.cellsOf 5 = 1 := by kernel_rfl
theorem laid_is : (Rows.laid_math_bits_deBruijn64tab : DataW Unit) = .agg (tzT.map fun n : Nat => .lit (.int .u8 (n : Int))) := rfl
theorem tab_of_laid {W : World} (h : laidMetH Tryz.prog laidL W) : TabOk W := by
  rw [MakeChecks.laidMetH_plain _ _ _ (by kernel_rfl)] at h
  obtain ⟨ps, ⟨g, t, cs, fu, p, q, hg, ht, hv, hd, _, _⟩, _, _⟩ := h
  obtain rfl := Option.some.inj (gTab.symm.trans hg)
  obtain rfl := Option.some.inj (tTab.symm.trans ht)
  obtain ⟨xs, m, rfl, hx, hlen, hn, hel⟩ := DataW.trod_array Tryz.underlying304 hd
  rw [cTab] at hlen
  have hxs : xs.map (·.1) = tzT.map fun n : Nat => DataW.lit (.int .u8 (n : Int)) := by
    rw [laid_is] at hx
    injection hx with h1 _
    injection h1 with h1
    exact h1.symm
  have hcs : cs.toList = bys tzT := by
    apply List.ext_getElem?
    intro i
    rw [bys_get]
    by_cases hi : i < 64
    · have h1 := hel i hi
      rw [cTab5] at h1
      obtain ⟨x, hx1⟩ : ∃ x, xs[i]? = some x := ⟨_, List.getElem?_eq_getElem (by rw [hn]; exact hi)⟩
      rw [hx1] at h1
      obtain ⟨n, e1, e2, _⟩ := DataW.trod_int Tryz.underlying5 h1
      have h2 : (xs.map (·.1))[i]? = some (.lit (.int .u8 n)) := by rw [List.getElem?_map, hx1, e2]; rfl
      rw [hxs, List.getElem?_map] at h2
      have h3 : cs.toList[i]? = some (.int .u8 n) := by
        have : ((cs.toList.drop (i * 1)).take 1)[0]? = some (.int .u8 n) := by rw [e1]; rfl
        rw [List.getElem?_take_of_lt (by omega), List.getElem?_drop] at this
        simpa using this
      rw [h3]
      cases hz : tzT[i]? with
      | none => rw [hz] at h2; cases h2
      | some z =>
        rw [hz] at h2
        simp only [Option.map_some, Option.some.injEq, DataW.lit.injEq, Lit.int.injEq, true_and] at h2
        rw [← h2]; rfl
    · rw [List.getElem?_eq_none (by omega), List.getElem?_eq_none (by have : tzT.length = 64 := rfl; omega)]; rfl
  unfold World.var? at hv
  rw [gTab] at hv
  simp only [Option.bind_some] at hv
  cases hh : W.heap[0]? with
  | none => rw [hh] at hv; cases hv
  | some o =>
    rw [hh] at hv
    cases o with
    | cells c t fz =>
      simp only [Option.some.injEq] at hv
      subst hv
      refine ⟨(Array.getElem?_eq_some_iff.1 hh).1, t, fz, ?_⟩
      rw [hh, ← hcs]
    | _ => cases hv
/-- A world in which the table lies. -/
noncomputable def laidWorld (os : Os) : World :=
  let w0 := World.holding Tryz.prog os ⟨#[], #[], []⟩
  { w0 with heap := w0.heap.modify 0 fun
      | .cells _ t frozen => .cells (bys tzT).toArray t frozen
      | o => o }
theorem laidWorld_met (os : Os) (args : Array Value) : laidMetH Tryz.prog laidL ((laidWorld os).forCall (fun _ _ => 0) ⟨#[], args, []⟩).memory := by
  rw [MakeChecks.laidMetH_plain _ _ _ (by kernel_rfl)]
  exact laidMet_of_run' 8 (by kernel_rfl) (by kernel_rfl)
end Go.Proofs.YtebpodnbalfomaaGreatDoor.Sl
