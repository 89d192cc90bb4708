/-
  Part 5 of the proof: contracts of the code's functions, and what is plain.
-/
import Derived.Test.YtakkogdmlbkdaaaGreatDoorM4
import Derived.Test.YtakkogdmlbkdaaaGreatDoorM2
import Derived.Test.YtakkogdmlbkdaaaGreatDoorM3
set_option linter.unusedVariables false
set_option linter.unusedSimpArgs false
set_option maxRecDepth 10000
open Go Go.RowKit Go.Proofs
namespace Go.Proofs.YtakkogdmlbkdaaaGreatDoor.Sl.It
attribute [local irreducible] CW Tri OW
@[reducible] def pk49 : List (Nat × Plan) := []
attribute [local irreducible] fnd frI
variable {ns nc : Nat}
def Rx.hiT (ns : Nat) (R : Rx) (c : Nat) : Option Nat := if c = 0 then (List.range ns).find? (fun k => R.high.getD k false && !R.act.getD k false) else none
def Rx.msB (R : Rx) (c n : Nat) : Bool := decide (R.de.getD n 0 ≥ 0) && (R.core.getD n 0 == (c : Int) && R.wait.getD n false)
def Rx.msT (R : Rx) (c : Nat) : Option Nat := (List.range 512).find? (R.msB c)
def Rx.takeN (ns : Nat) (R : Rx) (c : Nat) : Rx × (Int × Bool) := match R.hiT ns c with
 | some k => ({ R with act := R.act.set k true }, (32 + (k : Int), true))
 | none => match R.msT c with
  | some n => ({ R with wait := R.wait.set n false }, (8192 + (n : Int), true))
  | none => (R, (0, false))
def Rx.takeV (ns nc : Nat) (R : Rx) (c : Int) : Rx × (Int × Bool) := if (rightV nc c && !R.asl.getD c.toNat false) = true then R.takeN ns c.toNat else (R, (0, false))
@[reducible] def ibV (x : Int × Bool) : Value := .tuple #[.int .i64 x.1, .bool x.2]
attribute [local irreducible] Rx.msB
theorem hiT_some {R : Rx} {ns k : Nat} (hk : k < ns) (h1 : R.high.getD k false = true) (h2 : R.act.getD k false = false) (hb : ∀ j, j < k → (R.high.getD j false && !R.act.getD j false) = false) : R.hiT ns 0 = some k := by
 unfold Rx.hiT
 rw [if_pos rfl, List.find?_range_eq_some]
 exact ⟨by rw [h1, h2]; rfl, by simpa using hk, fun j hj => by simp only [hb j hj]; rfl⟩
theorem hiT_none {R : Rx} {ns c : Nat} (hb : c = 0 → ∀ j, j < ns → (R.high.getD j false && !R.act.getD j false) = false) : R.hiT ns c = none := by
 unfold Rx.hiT
 split
 ·rename_i h
  rw [List.find?_eq_none]
  intro j hj
  rw [hb h j (by simpa using hj)]; simp
 ·rfl
theorem msT_some {R : Rx} {c n : Nat} (hn : n < 512) (h : R.msB c n = true) (hb : ∀ j, j < n → R.msB c j = false) : R.msT c = some n := by
 unfold Rx.msT
 rw [List.find?_range_eq_some]
 exact ⟨h, by simpa using hn, fun j hj => by simp only [hb j hj]; rfl⟩
theorem msT_none {R : Rx} {c : Nat} (hb : ∀ j, j < 512 → R.msB c j = false) : R.msT c = none := by
 unfold Rx.msT
 rw [List.find?_eq_none]
 intro j hj
 rw [hb j (by simpa using hj)]; simp
theorem msB_eq {R : Rx} {c n : Nat} {x y : Bool} {z : Bool} (h1 : decide (R.de.getD n 0 ≥ 0) = x) (h2 : (R.core.getD n 0 == (c : Int)) = y) (h3 : R.wait.getD n false = z) : R.msB c n = (x && (y && z)) := by
 unfold Rx.msB; rw [h1, h2, h3]
set_option maxHeartbeats 8000000 in
theorem rtake49 (β : Base) (r : Nat) {R : Rx} (h : R.ok ns nc) (c : Int) : Tri Tryz.prog β 49 [.pointer (some ⟨r, 0, none⟩), .int .i64 c] [rfA r ns nc R] (fun u L => u = ibV (R.takeV ns nc c).2 ∧ L = [rfA r ns nc (R.takeV ns nc c).1]) := by
 refine Tri.rf (enters_of Tryz.func49 (by kernel_rfl) rfl) fun a => ?_
 refine Tri.intro tt_ok Tryz.func49 rfl rfl Tryz.ntmps49 rfl fun F => ?_
 have hs := rthere44 (ns := ns) (nc := nc) β r a h.core h.wait c
 have h3 := rd_hi (a := a) (ns := ns) (nc := nc) h.core h.wait
 have h4 := rd_ac (a := a) (ns := ns) (nc := nc) h.core h.wait
 have h5 := rd_as (a := a) (ns := ns) (nc := nc) h.core h.wait
 have hn64 := h.n64
 obtain ⟨M, hM⟩ : ∃ M : Nat, M = 512 := ⟨_, rfl⟩
 unfold Rx.takeV
 unfold rfL
 cases hr : rightV nc c with
 | false =>
  rw [hr] at hs
  refine G tt_ok pk49 ?_
  refine ke rfl rfl (hs) ?_
  refine G tt_ok pk49 ?_
  exact CW.ret (fin_ret rfl (A := [rfA r ns nc R]) (rf_pick (a := a) (by unfold rfL; exact pk_)) ⟨rfl, rfl⟩)
 | true =>
  rw [hr] at hs
  obtain ⟨n, rfl⟩ : ∃ n : Nat, c = n := ⟨c.toNat, by simp [rightV] at hr; omega⟩
  have hlt : n < nc := by simp [rightV] at hr; omega
  have hkl : n < R.asl.length := by rw [h.asl]; exact hlt
  simp only [Bool.true_and, Int.toNat_natCast]
  refine G tt_ok pk49 ?_
  refine ke rfl rfl (hs) ?_
  refine G tt_ok pk49 ?_
  (refine SQ.ldA tt_ok rfl rfl (by repeat (first | exact .h | exact .q | apply At.t)) (h5) ?_)
  refine G tt_ok pk49 ?_
  refine ir_ tt_ok rfl rfl (n) (rfl) rfl ?_ (hlt := hlt)
  refine G tt_ok pk49 ?_
  refine lr_ tt_ok rfl rfl (rd_b hkl) ?_
  refine G tt_ok pk49 ?_
  cases ha : R.asl.getD n false with
  | true =>
   refine G tt_ok pk49 ?_
   exact CW.ret (fin_ret rfl (A := [rfA r ns nc R]) (rf_pick (a := a) (by unfold rfL; exact pk_)) ⟨rfl, rfl⟩)
  | false =>
   simp only [Bool.not_false, if_true]
   refine G tt_ok pk49 ?_
   refine CW.loop (α := Nat) (fun k => k ≤ ns ∧ (n = 0 → ∀ j, j < k → (R.high.getD j false && !R.act.getD j false) = false)) (fun k => [(6, .int .i64 k), (0, .pointer (some ⟨r, 0, none⟩)), (1, .int .i64 (n : Int))])
    (fun k => rfL r a ns nc R) (fun k => ns - k) 0 ⟨by omega, fun _ j hj => by omega⟩ ⟨rfl, rfl, rfl, trivial⟩ (by unfold rfL; exact pk_) ?_
   rintro k ⟨hk, hb⟩
   unfold rfL
   refine G tt_ok pk49 ?_
   (refine SQ.ldA tt_ok rfl rfl (by repeat (first | exact .h | exact .q | apply At.t)) (h3) ?_)
   refine G tt_ok pk49 ?_
   rcases Classical.em (k < ns ∧ n = 0) with ⟨hk2, hn0⟩ | hh
   ·rw [decide_eq_true (show (k : Int) < (ns : Int) by omega)]
    have hwr : IntKind.i64.wrap ((k : Int) + 1) = ((k + 1 : Nat) : Int) := by rw [wrap_id (by omega) (by omega)]; simp
    have hhl : k < R.high.length := by rw [h.high]; exact hk2
    have hal : k < R.act.length := by rw [h.act]; exact hk2
    subst hn0
    have hb0 := hb rfl
    refine G tt_ok pk49 ?_
    (refine SQ.ldA tt_ok rfl rfl (by repeat (first | exact .h | exact .q | apply At.t)) (h3) ?_)
    refine G tt_ok pk49 ?_
    refine ir_ tt_ok rfl rfl (k) (rfl) rfl ?_ (hlt := hk2)
    refine G tt_ok pk49 ?_
    refine lr_ tt_ok rfl rfl (rd_b hhl) ?_
    refine G tt_ok pk49 ?_
    cases hhi : R.high.getD k false with
    | false =>
     refine G tt_ok pk49 ?_
     refine ⟨k + 1, ⟨by omega, fun _ j hj => ?_⟩, by omega, ⟨by rw [← hwr]; rfl, rfl, rfl, trivial⟩, pk_⟩
     rcases Nat.lt_succ_iff_lt_or_eq.1 hj with h1 | h1
     ·exact hb0 j h1
     ·subst h1; rw [hhi]; rfl
    | true =>
     refine G tt_ok pk49 ?_
     (refine SQ.ldA tt_ok rfl rfl (by repeat (first | exact .h | exact .q | apply At.t)) (h4) ?_)
     refine G tt_ok pk49 ?_
     refine ir_ tt_ok rfl rfl (k) (rfl) rfl ?_ (hlt := hk2)
     refine G tt_ok pk49 ?_
     refine lr_ tt_ok rfl rfl (rd_b hal) ?_
     refine G tt_ok pk49 ?_
     cases hac : R.act.getD k false with
     | true =>
      refine G tt_ok pk49 ?_
      refine ⟨k + 1, ⟨by omega, fun _ j hj => ?_⟩, by omega, ⟨by rw [← hwr]; rfl, rfl, rfl, trivial⟩, pk_⟩
      rcases Nat.lt_succ_iff_lt_or_eq.1 hj with h1 | h1
      ·exact hb0 j h1
      ·subst h1; rw [hac, hhi]; rfl
     | false =>
      refine G tt_ok pk49 ?_
      (refine SQ.ldA tt_ok rfl rfl (by repeat (first | exact .h | exact .q | apply At.t)) (h4) ?_)
      refine G tt_ok pk49 ?_
      refine ir_ tt_ok rfl rfl (k) (rfl) rfl ?_ (hlt := hk2)
      refine G tt_ok pk49 ?_
      refine sr_ tt_ok rfl rfl (wr_b hal true) ?_
      refine G tt_ok pk49 ?_
      unfold Rx.takeN
      rw [hiT_some hk2 hhi hac hb0]
      rw [show IntKind.i64.wrap (32 + (k : Int)) = 32 + (k : Int) by rw [wrap_id (by omega) (by omega)]]
      exact CW.ret (fin_ret rfl (A := [rfA r ns nc { R with act := R.act.set k true }]) (rf_pick (a := a) (by unfold rfL; exact pk_)) ⟨rfl, rfl⟩)
   ·have hno : R.hiT ns n = none := hiT_none fun h0 j hj => hb h0 j (by omega)
    unfold Rx.takeN
    rw [hno]
    simp only
    rcases Nat.lt_or_ge k ns with hk2 | hk2
    ·rw [decide_eq_true (show (k : Int) < (ns : Int) by omega)]
     refine G tt_ok pk49 ?_
     rw [show ((n : Int) == 0) = false from beq_eq_false_iff_ne.2 (by omega)]
     refine G tt_ok pk49 ?_
     refine CW.exit ?_
     refine G tt_ok pk49 ?_
     refine CW.loop (α := Nat) (fun k => k ≤ M ∧ ∀ j, j < k → R.msB n j = false) (fun k => [(7, .int .i64 k), (0, .pointer (some ⟨r, 0, none⟩)), (1, .int .i64 (n : Int))])
      (fun k => rfL r a ns nc R) (fun k => M - k) 0 ⟨by omega, fun j hj => by omega⟩ ⟨rfl, rfl, rfl, trivial⟩ (by unfold rfL; exact pk_) ?_
     clear hk hb hk2 hh k
     rintro k ⟨hk, hb⟩
     unfold rfL
     refine G tt_ok pk49 ?_
     by_cases hk2 : k < M
     ·rw [decide_eq_true (show (k : Int) < 512 by omega)]
      have hl : k < 512 := by omega
      have hwr : IntKind.i64.wrap ((k : Int) + 1) = ((k + 1 : Nat) : Int) := by rw [wrap_id (by omega) (by omega)]; simp
      have r1 := rd3 (iS_at (l := R.de) (k := k) (by rw [h.de]; exact hl))
      have r2 := rd_core (a := a) (ns := ns) (nc := nc) (wait := R.wait) h.core hl
      have r3 := rd_wait (a := a) (ns := ns) (nc := nc) h.core h.wait hl
      have w1 := wr_wait (a := a) (ns := ns) (nc := nc) h.core h.wait hl false
      have hms := @msB_eq R n k
      have hnx : R.msB n k = false → ∀ j, j < k + 1 → R.msB n j = false := fun h9 j hj => by
       rcases Nat.lt_succ_iff_lt_or_eq.1 hj with h1 | h1
       ·exact hb j h1
       ·subst h1; exact h9
      refine G tt_ok pk49 ?_
      refine ir_ tt_ok rfl rfl (k) (rfl) rfl ?_ (hlt := hl)
      refine G tt_ok pk49 ?_
      refine lr_ tt_ok rfl rfl (r1) ?_
      refine G tt_ok pk49 ?_
      cases hx : decide (R.de.getD k 0 ≥ 0) with
      | false =>
       refine G tt_ok pk49 ?_
       exact ⟨k + 1, ⟨by omega, hnx (hms hx rfl rfl)⟩, by omega, ⟨by rw [← hwr]; rfl, rfl, rfl, trivial⟩, pk_⟩
      | true =>
       refine G tt_ok pk49 ?_
       refine SQ.idx tt_ok rfl rfl k rfl hl (o' := 1 + k * 1) rfl ?_
       refine G tt_ok pk49 ?_
       (refine SQ.ldA tt_ok rfl rfl (by repeat (first | exact .h | exact .q | apply At.t)) (r2) ?_)
       refine G tt_ok pk49 ?_
       cases hy : R.core.getD k 0 == (n : Int) with
       | false =>
        refine G tt_ok pk49 ?_
        exact ⟨k + 1, ⟨by omega, hnx (hms hx hy rfl)⟩, by omega, ⟨by rw [← hwr]; rfl, rfl, rfl, trivial⟩, pk_⟩
       | true =>
        refine G tt_ok pk49 ?_
        refine SQ.idx tt_ok rfl rfl k rfl hl (o' := 513 + k * 1) rfl ?_
        refine G tt_ok pk49 ?_
        (refine SQ.ldA tt_ok rfl rfl (by repeat (first | exact .h | exact .q | apply At.t)) (r3) ?_)
        refine G tt_ok pk49 ?_
        cases hz : R.wait.getD k false with
        | false =>
         refine G tt_ok pk49 ?_
         exact ⟨k + 1, ⟨by omega, hnx (hms hx hy hz)⟩, by omega, ⟨by rw [← hwr]; rfl, rfl, rfl, trivial⟩, pk_⟩
        | true =>
         refine G tt_ok pk49 ?_
         refine SQ.idx tt_ok rfl rfl k rfl hl (o' := 513 + k * 1) rfl ?_
         refine G tt_ok pk49 ?_
         (refine SQ.stA tt_ok rfl rfl (by repeat (first | apply Up.h | apply Up.t)) (by rfl) (w1) (by repeat (first | exact trivial | refine ⟨trivial, ?_⟩ | refine ⟨wk (by repeat (first | exact .h | exact .q | apply At.t)) (by rfl), ?_⟩)) ?_)
         refine G tt_ok pk49 ?_
         rw [msT_some hl (hms hx hy hz) hb]
         rw [show IntKind.i64.wrap (8192 + (k : Int)) = 8192 + (k : Int) by rw [wrap_id (by omega) (by omega)]]
         exact CW.ret (fin_ret rfl (A := [rfA r ns nc { R with wait := R.wait.set k false }]) (rf_pick (a := a) (by unfold rfL; exact pk_)) ⟨rfl, rfl⟩)
     ·rw [decide_eq_false (show ¬ (k : Int) < 512 by omega)]
      refine G tt_ok pk49 ?_
      refine CW.exit ?_
      refine G tt_ok pk49 ?_
      rw [msT_none (fun j hj => hb j (by omega))]
      exact CW.ret (fin_ret rfl (A := [rfA r ns nc R]) (rf_pick (a := a) (by unfold rfL; exact pk_)) ⟨rfl, rfl⟩)
    ·rw [decide_eq_false (show ¬ (k : Int) < (ns : Int) by omega)]
     refine G tt_ok pk49 ?_
     refine CW.exit ?_
     refine G tt_ok pk49 ?_
     refine CW.loop (α := Nat) (fun k => k ≤ M ∧ ∀ j, j < k → R.msB n j = false) (fun k => [(7, .int .i64 k), (0, .pointer (some ⟨r, 0, none⟩)), (1, .int .i64 (n : Int))])
      (fun k => rfL r a ns nc R) (fun k => M - k) 0 ⟨by omega, fun j hj => by omega⟩ ⟨rfl, rfl, rfl, trivial⟩ (by unfold rfL; exact pk_) ?_
     clear hk hb hk2 hh k
     rintro k ⟨hk, hb⟩
     unfold rfL
     refine G tt_ok pk49 ?_
     by_cases hk2 : k < M
     ·rw [decide_eq_true (show (k : Int) < 512 by omega)]
      have hl : k < 512 := by omega
      have hwr : IntKind.i64.wrap ((k : Int) + 1) = ((k + 1 : Nat) : Int) := by rw [wrap_id (by omega) (by omega)]; simp
      have r1 := rd3 (iS_at (l := R.de) (k := k) (by rw [h.de]; exact hl))
      have r2 := rd_core (a := a) (ns := ns) (nc := nc) (wait := R.wait) h.core hl
      have r3 := rd_wait (a := a) (ns := ns) (nc := nc) h.core h.wait hl
      have w1 := wr_wait (a := a) (ns := ns) (nc := nc) h.core h.wait hl false
      have hms := @msB_eq R n k
      have hnx : R.msB n k = false → ∀ j, j < k + 1 → R.msB n j = false := fun h9 j hj => by
       rcases Nat.lt_succ_iff_lt_or_eq.1 hj with h1 | h1
       ·exact hb j h1
       ·subst h1; exact h9
      refine G tt_ok pk49 ?_
      refine ir_ tt_ok rfl rfl (k) (rfl) rfl ?_ (hlt := hl)
      refine G tt_ok pk49 ?_
      refine lr_ tt_ok rfl rfl (r1) ?_
      refine G tt_ok pk49 ?_
      cases hx : decide (R.de.getD k 0 ≥ 0) with
      | false =>
       refine G tt_ok pk49 ?_
       exact ⟨k + 1, ⟨by omega, hnx (hms hx rfl rfl)⟩, by omega, ⟨by rw [← hwr]; rfl, rfl, rfl, trivial⟩, pk_⟩
      | true =>
       refine G tt_ok pk49 ?_
       refine SQ.idx tt_ok rfl rfl k rfl hl (o' := 1 + k * 1) rfl ?_
       refine G tt_ok pk49 ?_
       (refine SQ.ldA tt_ok rfl rfl (by repeat (first | exact .h | exact .q | apply At.t)) (r2) ?_)
       refine G tt_ok pk49 ?_
       cases hy : R.core.getD k 0 == (n : Int) with
       | false =>
        refine G tt_ok pk49 ?_
        exact ⟨k + 1, ⟨by omega, hnx (hms hx hy rfl)⟩, by omega, ⟨by rw [← hwr]; rfl, rfl, rfl, trivial⟩, pk_⟩
       | true =>
        refine G tt_ok pk49 ?_
        refine SQ.idx tt_ok rfl rfl k rfl hl (o' := 513 + k * 1) rfl ?_
        refine G tt_ok pk49 ?_
        (refine SQ.ldA tt_ok rfl rfl (by repeat (first | exact .h | exact .q | apply At.t)) (r3) ?_)
        refine G tt_ok pk49 ?_
        cases hz : R.wait.getD k false with
        | false =>
         refine G tt_ok pk49 ?_
         exact ⟨k + 1, ⟨by omega, hnx (hms hx hy hz)⟩, by omega, ⟨by rw [← hwr]; rfl, rfl, rfl, trivial⟩, pk_⟩
        | true =>
         refine G tt_ok pk49 ?_
         refine SQ.idx tt_ok rfl rfl k rfl hl (o' := 513 + k * 1) rfl ?_
         refine G tt_ok pk49 ?_
         (refine SQ.stA tt_ok rfl rfl (by repeat (first | apply Up.h | apply Up.t)) (by rfl) (w1) (by repeat (first | exact trivial | refine ⟨trivial, ?_⟩ | refine ⟨wk (by repeat (first | exact .h | exact .q | apply At.t)) (by rfl), ?_⟩)) ?_)
         refine G tt_ok pk49 ?_
         rw [msT_some hl (hms hx hy hz) hb]
         rw [show IntKind.i64.wrap (8192 + (k : Int)) = 8192 + (k : Int) by rw [wrap_id (by omega) (by omega)]]
         exact CW.ret (fin_ret rfl (A := [rfA r ns nc { R with wait := R.wait.set k false }]) (rf_pick (a := a) (by unfold rfL; exact pk_)) ⟨rfl, rfl⟩)
     ·rw [decide_eq_false (show ¬ (k : Int) < 512 by omega)]
      refine G tt_ok pk49 ?_
      refine CW.exit ?_
      refine G tt_ok pk49 ?_
      rw [msT_none (fun j hj => hb j (by omega))]
      exact CW.ret (fin_ret rfl (A := [rfA r ns nc R]) (rf_pick (a := a) (by unfold rfL; exact pk_)) ⟨rfl, rfl⟩)
end Go.Proofs.YtakkogdmlbkdaaaGreatDoor.Sl.It
namespace Go.Proofs.YtakkogdmlbkdaaaGreatDoor.Sl.It
attribute [local irreducible] CW Tri OW
@[reducible] def pk29 : List (Nat × Plan) := []
attribute [local irreducible] fnd frI
variable {T ns nc : Nat}
theorem events29 (β : Base) (h : Nat) (x : Hx) (hx : x.ok T nc) : Tri Tryz.prog β 29 [.pointer (some ⟨h, 0, none⟩)] [hoA h nc x]
  (fun v L => ∃ b3 b1 b2 r d r2 d2, v = .func (.func 122) #[] #[.pointer (some ⟨b3, 0, none⟩)] ∧ L = hoA h nc x :: seL b3 b1 b2 r d r2 d2 x.S.ns) := by
 refine Tri.ho (enters_of Tryz.func29 (by kernel_rfl) rfl) fun a ha => ?_
 refine Tri.intro tt_ok Tryz.func29 rfl rfl Tryz.ntmps29 rfl fun F => ?_
 unfold hL hRow
 refine G tt_ok pk29 ?_
 (refine ka rfl rfl (sall73 β a.sp hx.S) ?_; rintro _ _ ⟨b3, b1, b2, r, d, r2, d2, rfl, rfl⟩; refine w_ ?_)
 unfold seL thL
 refine G tt_ok pk29 ?_
 refine CW.ret (fin_ret rfl (A := hoA h nc x :: seL b3 b1 b2 r d r2 d2 x.S.ns) ?_ ⟨b3, b1, b2, r, d, r2, d2, rfl, rfl⟩)
 refine (show Ent _ (hL h a nc x ++ seL b3 b1 b2 r d r2 d2 x.S.ns) from by unfold hL hRow seL thL; exact pk_).trans ?_
 exact Ent.append (ho_shut ha) (Ent.refl _)
def allE (de ev : List Int) (d : Nat) : Nat → List Int
 | 0 => []
 | e + 1 => allE de ev d e ++ (match fnd de ev d e with
  | some n => [(d : Int), (e : Int), (n : Int)]
  | none => [])
def allD (de ev : List Int) : Nat → List Int
 | 0 => []
 | d + 1 => allD de ev d ++ allE de ev d 16
attribute [local irreducible] allE allD
end Go.Proofs.YtakkogdmlbkdaaaGreatDoor.Sl.It
namespace Go.Proofs.YtakkogdmlbkdaaaGreatDoor.Sl.It
attribute [local irreducible] CW Tri OW
@[reducible] def pk40 : List (Nat × Plan) := []
attribute [local irreducible] fnd frI
variable {T ns nc : Nat}
set_option maxHeartbeats 4000000 in
theorem rsnew40 (β : Base) (M : Nat) (hM : M ≤ 512) : Tri Tryz.prog β 40 [.int .i64 (M : Int)] [] (fun v L => ∃ s q c q2 c2, v = .tuple #[.pointer (some ⟨s, 0, none⟩), .bool true] ∧ L = [pt s [.slice q M c, .slice q2 M c2], rowA q M (iS (List.replicate M (-1))), rowA q2 M (iS (List.replicate M (-1)))]) := by
 refine Tri.intro tt_ok Tryz.func40 rfl rfl Tryz.ntmps40 rfl fun F => ?_
 refine G tt_ok pk40 ?_
 rw [decide_eq_false (show ¬ (M : Int) < 0 by omega)]
 refine G tt_ok pk40 ?_
 rw [decide_eq_false (show ¬ (M : Int) > 512 by omega)]
 (refine G tt_ok pk40 ?_; repeat (refine G1 tt_ok pk40 ?_; intro _))
 rename_i s
 refine CW.ent ((own_nil 3 1).trans (own_nil 3 1)) ?_
 refine CW.loop (α := Nat × (Option Addr × Nat) × (Option Addr × Nat)) (fun y => y.1 ≤ M) (fun y => [(5, .int .i64 y.1), (4, .pointer (some ⟨s, 0, none⟩)), (0, .int .i64 (M : Int))])
  (fun y => [own 3 1 (.slice y.2.1.1 y.1 y.2.1.2) y.1 (iS (List.replicate y.1 (-1))), own 3 1 (.slice y.2.2.1 y.1 y.2.2.2) y.1 (iS (List.replicate y.1 (-1))), pt s [.slice y.2.1.1 y.1 y.2.1.2, .slice y.2.2.1 y.1 y.2.2.2]]) (fun y => M - y.1) (0, (none, 0), (none, 0)) (by simp) ⟨rfl, rfl, rfl, trivial⟩ pk_ ?_
 rintro ⟨k, ⟨q, c⟩, q2, c2⟩ hk
 simp only at hk ⊢
 have e1 : iS (List.replicate (k + 1) (-1)) = iS (List.replicate k (-1)) ++ [.int .i64 (-1)] := by rw [List.replicate_succ']; unfold iS; rw [List.map_append]; rfl
 generalize hcs : iS (List.replicate k (-1)) = cs at e1 ⊢
 refine G tt_ok pk40 ?_
 by_cases hlt : k < M
 ·rw [decide_eq_true (show (k : Int) < (M : Int) by omega)]
  have hwr : IntKind.i64.wrap ((k : Int) + 1) = ((k + 1 : Nat) : Int) := by rw [wrap_id (by omega) (by omega)]; simp
  refine G tt_ok pk40 ?_
  (refine SQ.built tt_ok rfl rfl (fun _ => w_ ?_))
  refine G tt_ok pk40 ?_
  (refine SQ.appA tt_ok rfl rfl (by repeat (first | exact Rm.h | apply Rm.t)) (by repeat (first | exact .h | exact .q | apply At.t)) ([.int .i64 (-1)]) rfl rfl rfl (scal_eq rfl) (by omega) (by show (k + 1) * 8 ≤ _; omega) (fun qa ca => w_ ?_))
  refine G tt_ok pk40 ?_
  (refine SQ.built tt_ok rfl rfl (fun _ => w_ ?_))
  refine G tt_ok pk40 ?_
  (refine SQ.appA tt_ok rfl rfl (by repeat (first | exact Rm.h | apply Rm.t)) (by repeat (first | exact .h | exact .q | apply At.t)) ([.int .i64 (-1)]) rfl rfl rfl (scal_eq rfl) (by omega) (by show (k + 1) * 8 ≤ _; omega) (fun qb cb => w_ ?_))
  refine G tt_ok pk40 ?_
  exact ⟨(k + 1, (qa, ca), (qb, cb)), by simp only; omega, by simp only; omega, ⟨by rw [← hwr]; rfl, rfl, rfl, trivial⟩, by simp only; rw [e1]; exact pk_⟩
 ·rw [decide_eq_false (show ¬ (k : Int) < (M : Int) by omega)]
  obtain rfl : k = M := by omega
  refine G tt_ok pk40 ?_
  refine CW.exit ?_
  refine G tt_ok pk40 ?_
  rw [hcs]
  refine CW.ret (fin_ret rfl (A := [pt s [.slice q k c, .slice q2 k c2], rowA q k cs, rowA q2 k cs]) ?_ ⟨s, q, c, q2, c2, rfl, rfl⟩)
  refine (show Ent _ ([own 3 1 (.slice q k c) k cs] ++ ([own 3 1 (.slice q2 k c2) k cs] ++ [pt s [.slice q k c, .slice q2 k c2]])) from pk_).trans ?_
  refine (Ent.append own_row (Ent.append own_row (Ent.refl _))).trans ?_
  exact pk_
@[reducible] def lsE (l : List Nat) : Array Bool := ((List.range 11).map fun i => l.contains i || [0, 1, 3, 5].contains i).toArray
@[reducible] def vE (b n : Nat) : Value := .slice (some ⟨b, 0, none⟩) n n
@[reducible] def mE (t : TI) (b n : Nat) : Atom := pt b (madeCells t.zero.cells (n * t.size)).toList
@[reducible] def daN (s : Nat) (dq : Option Addr) (dc : Nat) (eq : Option Addr) (ec x y z ns nc : Nat) : Da := ⟨s, dq, dc, eq, ec, some ⟨x, 0, none⟩, ns, some ⟨y, 0, none⟩, ns, some ⟨z, 0, none⟩, nc⟩
@[reducible] def BE (s ns nc : Nat) : Env := [(34, .pointer (some ⟨s, 0, none⟩)), (35, .int .i64 ns), (37, .int .i64 ns), (39, .int .i64 nc)]
@[reducible] def RD (s : Nat) (dq : Option Addr) (dc : Nat) (eq : Option Addr) (ec : Nat) (RR : List Int) : List Atom := [pt s [.slice dq 512 dc, .slice eq 512 ec], rowA dq 512 (iS RR), rowA eq 512 (iS RR)]
theorem made_b (n : Nat) : (madeCells ti4.zero.cells (n * ti4.size)).toList = bS (List.replicate n false) := by
 have h := made_flat_of (α := Unit) (enc := fun _ => [Value.bool false]) (a := ()) ti4.zero.cells rfl (by decide) n
 refine h.trans ?_
 unfold bS
 rw [List.map_replicate]
 induction n with
 | zero => rfl
 | succ n ih => rw [List.replicate_succ, List.flatMap_cons, List.replicate_succ, ← ih (made_flat_of (α := Unit) (enc := fun _ => [Value.bool false]) (a := ()) ti4.zero.cells rfl (by decide) n)]; rfl
def rx0 (ns nc : Nat) : Rx := ⟨List.replicate 512 (-1), List.replicate 512 (-1), List.replicate 512 0, List.replicate 512 false, List.replicate ns false, List.replicate ns false, List.replicate nc false⟩
theorem rx0_ok {ns nc : Nat} (h1 : ns ≤ 64) (h2 : nc ≤ 8) : (rx0 ns nc).ok ns nc := ⟨List.length_replicate, List.length_replicate, List.length_replicate, List.length_replicate, List.length_replicate, List.length_replicate, List.length_replicate, h1, h2⟩
set_option maxHeartbeats 8000000 in
theorem rnew12 (β : Base) {nc ns z : Nat} (hn0 : 1 ≤ nc) (hn1 : nc ≤ 8) (hs1 : ns ≤ 64) (hz0 : 11264 ≤ z) (hz1 : z ≤ 131072) : Tri Tryz.prog β 12 [.int .i64 nc, .int .i64 ns, .int .i64 z] [] (fun v L => ∃ r, v = .tuple #[.pointer (some ⟨r, 0, none⟩), .int .i64 0] ∧ L = [rfA r ns nc (rx0 ns nc)]) := by
 have hsn := rsnew40 β 512 (Nat.le_refl _)
 obtain ⟨RR, hRR⟩ : ∃ RR, RR = List.replicate 512 (-1 : Int) := ⟨_, rfl⟩
 rw [← hRR] at hsn
 refine Tri.intro tt_ok Tryz.func12 rfl rfl Tryz.ntmps12 rfl fun F => ?_
 generalize hzi : (z : Int) = zi
 refine G tt_ok [] ?_
 rw [decide_eq_false (show ¬ zi < 11264 by omega)]
 refine G tt_ok [] ?_
 rw [decide_eq_false (show ¬ zi > 131072 by omega)]
 refine G tt_ok [] ?_
 rw [decide_eq_false (show ¬ (nc : Int) < 1 by omega)]
 refine G tt_ok [] ?_
 rw [decide_eq_false (show ¬ (nc : Int) > 8 by omega)]
 refine G tt_ok [] ?_
 rw [decide_eq_false (show ¬ (ns : Int) < 0 by omega)]
 refine G tt_ok [] ?_
 rw [decide_eq_false (show ¬ (ns : Int) > 64 by omega)]
 refine G tt_ok [] ?_
 (refine ka rfl rfl (hsn) ?_; rintro _ _ ⟨s, dq, dc, eq, ec, rfl, rfl⟩; refine w_ ?_)
 refine G tt_ok [] ?_
 have hs4 : ns * 1 ≤ 16777216 := by omega
 have hn4 : nc * 1 ≤ 16777216 := by omega
 have hs9 : 1 * ns ≤ 281474976710656 := by omega
 have hn9 : 1 * nc ≤ 281474976710656 := by omega
 have hs63 : ns ≤ 9223372036854775807 := by omega
 have hn63 : nc ≤ 9223372036854775807 := by omega
 refine CW.regionF tt_ok (by kernel_rfl) [0, 1, 3, 5] (by decide +kernel) (fun x : Nat × Nat × Nat × Nat => [(6, .pointer (some ⟨x.1, 0, none⟩)), (7, .int .i64 0)])
  (fun x => [pt x.1 (rowR (daN s dq dc eq ec x.2.1 x.2.2.1 x.2.2.2 ns nc) ns nc (List.replicate 512 0) (List.replicate 512 false)), mE ti4 x.2.1 ns, mE ti4 x.2.2.1 ns, mE ti4 x.2.2.2 nc] ++ RD s dq dc eq ec RR) ?_ ?_
 ·refine ⟨_, _, rfl, rfl, rfl, rfl, _, _, rfl, rfl, rfl, rfl, _, _, rfl, rfl, rfl, rfl, _, _, rfl, rfl, rfl, rfl, ?_⟩
  show BQ _ _ _ _ _ _ _ 7 (lsE []) _ _
  refine BQ.abs fun B1 hs hz => ?_
  have b2_4_6 : ∀ x : Nat × Nat × Nat, B1 4 (lsE [2, 4, 6]) ([(36, vE x.1 ns), (38, vE x.2.1 ns), (40, vE x.2.2 nc)] ++ BE s ns nc) ([mE ti4 x.1 ns, mE ti4 x.2.1 ns, mE ti4 x.2.2 nc] ++ RD s dq dc eq ec RR) := fun x => by
   refine hs _ _ _ _ [7] (by decide +kernel) ⟨⟨_, rfl, rfl, ?_⟩, trivial⟩
   refine SQ.bld tt_ok rfl rfl (cs := rowR (daN s dq dc eq ec x.1 x.2.1 x.2.2 ns nc) ns nc (List.replicate 512 0) (List.replicate 512 false)) (by kernel_rfl) ?_
   refine SQ.nil ?_
   refine hs _ _ _ _ [8] (by decide +kernel) ⟨⟨_, rfl, rfl, ?_⟩, trivial⟩
   refine SQ.boxL rfl rfl rfl fun p => ?_
   refine SQ.nil ?_
   refine hs _ _ _ _ [9] (by decide +kernel) ⟨⟨_, rfl, rfl, ?_⟩, trivial⟩
   refine SQ.pures1 tt_ok rfl ?_
   refine SQ.nil ?_
   refine hs _ _ _ _ [10] (by decide +kernel) ⟨⟨_, rfl, rfl, ?_⟩, trivial⟩
   refine SQ.pures1 tt_ok rfl ?_
   refine SQ.nil ?_
   exact hz _ _ _ ⟨by decide +kernel, (p, x.1, x.2.1, x.2.2), ⟨rfl, rfl, trivial⟩, Ent.refl _⟩
  have b2_4 : ∀ x : Nat × Nat × Nat, B1 5 (lsE [2, 4]) ([(36, vE x.1 ns), (38, vE x.2.1 ns)] ++ BE s ns nc) ([mE ti4 x.1 ns, mE ti4 x.2.1 ns] ++ RD s dq dc eq ec RR) := fun x => by
   refine hs _ _ _ _ [6] (by decide +kernel) ⟨⟨_, rfl, rfl, ?_⟩, trivial⟩
   ·exact SQ.make tt_ok rfl rfl nc rfl rfl hn4 hn9 hn63 fun g => ⟨trivial, dp_ (b2_4_6 (x.1, x.2.1, g)) (hA := mv_ 2 rfl)⟩
  have b2_6 : ∀ x : Nat × Nat × Nat, B1 5 (lsE [2, 6]) ([(36, vE x.1 ns), (40, vE x.2.2 nc)] ++ BE s ns nc) ([mE ti4 x.1 ns, mE ti4 x.2.2 nc] ++ RD s dq dc eq ec RR) := fun x => by
   refine hs _ _ _ _ [4] (by decide +kernel) ⟨⟨_, rfl, rfl, ?_⟩, trivial⟩
   ·exact SQ.make tt_ok rfl rfl ns rfl rfl hs4 hs9 hs63 fun g => ⟨trivial, dp_ (b2_4_6 (x.1, g, x.2.2)) (hA := mv_ 1 rfl)⟩
  have b4_6 : ∀ x : Nat × Nat × Nat, B1 5 (lsE [4, 6]) ([(38, vE x.2.1 ns), (40, vE x.2.2 nc)] ++ BE s ns nc) ([mE ti4 x.2.1 ns, mE ti4 x.2.2 nc] ++ RD s dq dc eq ec RR) := fun x => by
   refine hs _ _ _ _ [2] (by decide +kernel) ⟨⟨_, rfl, rfl, ?_⟩, trivial⟩
   ·exact SQ.make tt_ok rfl rfl ns rfl rfl hs4 hs9 hs63 fun g => ⟨trivial, dp_ (b2_4_6 (g, x.2)) (hA := mv_ 0 rfl)⟩
  have b2 : ∀ x : Nat × Nat × Nat, B1 6 (lsE [2]) ([(36, vE x.1 ns)] ++ BE s ns nc) ([mE ti4 x.1 ns] ++ RD s dq dc eq ec RR) := fun x => by
   refine hs _ _ _ _ [4, 6] (by decide +kernel) ⟨⟨_, rfl, rfl, ?_⟩, ⟨_, rfl, rfl, ?_⟩, trivial⟩
   ·exact SQ.make tt_ok rfl rfl ns rfl rfl hs4 hs9 hs63 fun g => ⟨trivial, dp_ (b2_4 (x.1, g, x.2.2)) (hA := mv_ 1 rfl)⟩
   ·exact SQ.make tt_ok rfl rfl nc rfl rfl hn4 hn9 hn63 fun g => ⟨trivial, dp_ (b2_6 (x.1, x.2.1, g)) (hA := mv_ 1 rfl)⟩
  have b4 : ∀ x : Nat × Nat × Nat, B1 6 (lsE [4]) ([(38, vE x.2.1 ns)] ++ BE s ns nc) ([mE ti4 x.2.1 ns] ++ RD s dq dc eq ec RR) := fun x => by
   refine hs _ _ _ _ [2, 6] (by decide +kernel) ⟨⟨_, rfl, rfl, ?_⟩, ⟨_, rfl, rfl, ?_⟩, trivial⟩
   ·exact SQ.make tt_ok rfl rfl ns rfl rfl hs4 hs9 hs63 fun g => ⟨trivial, dp_ (b2_4 (g, x.2)) (hA := mv_ 0 rfl)⟩
   ·exact SQ.make tt_ok rfl rfl nc rfl rfl hn4 hn9 hn63 fun g => ⟨trivial, dp_ (b4_6 (x.1, x.2.1, g)) (hA := mv_ 1 rfl)⟩
  have b6 : ∀ x : Nat × Nat × Nat, B1 6 (lsE [6]) ([(40, vE x.2.2 nc)] ++ BE s ns nc) ([mE ti4 x.2.2 nc] ++ RD s dq dc eq ec RR) := fun x => by
   refine hs _ _ _ _ [2, 4] (by decide +kernel) ⟨⟨_, rfl, rfl, ?_⟩, ⟨_, rfl, rfl, ?_⟩, trivial⟩
   ·exact SQ.make tt_ok rfl rfl ns rfl rfl hs4 hs9 hs63 fun g => ⟨trivial, dp_ (b2_6 (g, x.2)) (hA := mv_ 0 rfl)⟩
   ·exact SQ.make tt_ok rfl rfl ns rfl rfl hs4 hs9 hs63 fun g => ⟨trivial, dp_ (b4_6 (x.1, g, x.2.2)) (hA := mv_ 0 rfl)⟩
  have x : Nat × Nat × Nat := (0, 0, 0)
  refine hs _ _ _ _ [2, 4, 6] (by decide +kernel) ⟨⟨_, rfl, rfl, ?_⟩, ⟨_, rfl, rfl, ?_⟩, ⟨_, rfl, rfl, ?_⟩, trivial⟩
  ·exact SQ.make tt_ok rfl rfl ns rfl rfl hs4 hs9 hs63 fun g => ⟨trivial, dp_ (b2 (g, x.2)) (hA := mv_ 0 rfl)⟩
  ·exact SQ.make tt_ok rfl rfl ns rfl rfl hs4 hs9 hs63 fun g => ⟨trivial, dp_ (b4 (x.1, g, x.2.2)) (hA := mv_ 0 rfl)⟩
  ·exact SQ.make tt_ok rfl rfl nc rfl rfl hn4 hn9 hn63 fun g => ⟨trivial, dp_ (b6 (x.1, x.2.1, g)) (hA := mv_ 0 rfl)⟩
 ·rintro ⟨r, x, y, w⟩
  simp only
  refine G tt_ok [] ?_
  refine CW.ret (fin_ret rfl (A := [rfA r ns nc (rx0 ns nc)]) (rf_pick (a := daN s dq dc eq ec x y w ns nc) ?_) ⟨r, rfl, rfl⟩)
  have hrw : ∀ (b n : Nat), Ent [mE ti4 b n] [rowA (some ⟨b, 0, none⟩) n (bS (List.replicate n false))] := fun b n => by
   unfold mE
   rw [made_b]
   have := row_close (g := b) (n := n) (cs := bS (List.replicate n false)) (rest := [])
   rwa [List.append_nil] at this
  refine (show Ent _ ([mE ti4 x ns] ++ ([mE ti4 y ns] ++ ([mE ti4 w nc] ++ (pt r (rowR (daN s dq dc eq ec x y w ns nc) ns nc (List.replicate 512 0) (List.replicate 512 false)) :: RD s dq dc eq ec RR)))) from pk_).trans ?_
  refine (Ent.append (hrw _ _) (Ent.append (hrw _ _) (Ent.append (hrw _ _) (Ent.refl _)))).trans ?_
  unfold rfL rx0
  rw [← hRR]
  exact pk_
end Go.Proofs.YtakkogdmlbkdaaaGreatDoor.Sl.It
namespace Go.Proofs.YtakkogdmlbkdaaaGreatDoor.Sl
section
variable {P : Program} {β : Base} {rnd : Option (Nat × Loop)} {N : Nat} {env : Env} {L : List Atom} {K : Env → List Atom → Prop} {ops : Array Oper} {T : TT}
end
end Go.Proofs.YtakkogdmlbkdaaaGreatDoor.Sl
namespace Go.Proofs.YtakkogdmlbkdaaaGreatDoor.Sl.It
attribute [local irreducible] CW Tri OW
attribute [local irreducible] fnd frI
variable {T ns nc : Nat}
section
variable {s : Nat} {core : List Int} {wait : List Bool} (hc : core.length = 512) (hw : wait.length = 512)
include hc hw
end
end Go.Proofs.YtakkogdmlbkdaaaGreatDoor.Sl.It
namespace Go.Proofs.YtakkogdmlbkdaaaGreatDoor.Sl.It
def extN (W : List Nat) (x : Nat × Nat × Nat) : Nat := W.getD x.1 0 / 2 ^ x.2.1 % 2 ^ x.2.2
theorem or_ext (x y a s : Nat) : (x ||| y) / 2 ^ a % 2 ^ s = (x / 2 ^ a % 2 ^ s) ||| (y / 2 ^ a % 2 ^ s) := by
 rw [← Nat.shiftRight_eq_div_pow, ← Nat.shiftRight_eq_div_pow, ← Nat.shiftRight_eq_div_pow, Nat.shiftRight_or_distrib, Nat.or_mod_two_pow]
theorem ext_same {n a s : Nat} (h : n < 2 ^ s) : n * 2 ^ a / 2 ^ a % 2 ^ s = n := by
 rw [Nat.mul_div_cancel _ (Nat.two_pow_pos a), Nat.mod_eq_of_lt h]
theorem ext_above {n a b s : Nat} (h : b + s ≤ a) : n * 2 ^ a / 2 ^ b % 2 ^ s = 0 := by
 obtain ⟨k, rfl⟩ : ∃ k, a = b + (s + k) := ⟨a - b - s, by omega⟩
 rw [Nat.pow_add, ← Nat.mul_assoc, Nat.mul_right_comm, Nat.mul_div_cancel _ (Nat.two_pow_pos b), Nat.pow_add, ← Nat.mul_assoc, Nat.mul_right_comm]
 exact Nat.mul_mod_left _ _
theorem ext_below {n a t b s : Nat} (hn : n < 2 ^ t) (h : a + t ≤ b) : n * 2 ^ a / 2 ^ b % 2 ^ s = 0 := by
 have h1 : n * 2 ^ a < 2 ^ b := by
  have h2 : n * 2 ^ a < 2 ^ t * 2 ^ a := Nat.mul_lt_mul_of_pos_right hn (Nat.two_pow_pos a)
  have h3 : 2 ^ t * 2 ^ a ≤ 2 ^ b := by rw [← Nat.pow_add]; exact Nat.pow_le_pow_right (by omega) (by omega)
  omega
 rw [Nat.div_eq_of_lt h1, Nat.zero_mod]
def apartF (x y : Nat × Nat × Nat) : Bool := x.1 != y.1 || (Nat.ble (x.2.1 + x.2.2) y.2.1 || Nat.ble (y.2.1 + y.2.2) x.2.1)
theorem parts_apart {o : Int} (ho : knownV o = true) : ∀ f, f < 8 → ∀ g, g < 8 → f ≠ g → (partV' o f).2 = true → (partV' o g).2 = true → apartF (partV' o f).1 (partV' o g).1 = true := by
 rcases known_cases ho with rfl | rfl | rfl | rfl | rfl | rfl | rfl | rfl | rfl | rfl | rfl | rfl <;> decide
theorem parts_op {o : Int} (ho : knownV o = true) : ∀ f, f < 8 → (partV' o f).2 = true → (partV' o f).1.1 = 0 → 8 ≤ (partV' o f).1.2.1 := by
 rcases known_cases ho with rfl | rfl | rfl | rfl | rfl | rfl | rfl | rfl | rfl | rfl | rfl | rfl <;> decide
theorem parts_w {o : Int} (ho : knownV o = true) : ∀ f, f < 8 → (partV' o f).1.1 < 4 := by
 rcases known_cases ho with rfl | rfl | rfl | rfl | rfl | rfl | rfl | rfl | rfl | rfl | rfl | rfl <;> decide
theorem enc_ext {c : Cm} (hk : knownV c.1 = true) : ∀ {f : Nat} {W : List Nat}, f ≤ 8 → encL c f = some W → W.length = 4 ∧ W.getD 0 0 % 256 = c.1.toNat ∧ ∀ g, g < 8 → (partV' c.1 g).2 = true → extN W (partV' c.1 g).1 = if g < f then (getF c g).toNat else 0
 | 0, W, _, h => by
  simp only [encL, Option.some.injEq] at h
  subst h
  have hop : c.1.toNat < 16 := by rcases known_cases hk with h | h | h | h | h | h | h | h | h | h | h | h <;> rw [h] <;> decide
  refine ⟨rfl, Nat.mod_eq_of_lt (show c.1.toNat < 256 by omega), fun g hg hh => ?_⟩
  rw [if_neg (by omega)]
  have h0 := parts_op hk g hg hh
  have h4 := parts_w hk g hg
  generalize (partV' c.1 g).1 = x at h0 h4 ⊢
  obtain ⟨w, a, s⟩ := x
  simp only at h0 h4 ⊢
  unfold extN
  simp only
  match w, h0, h4 with
  | 0, h0, _ =>
   simp only [List.getD_cons_zero]
   have h1 : c.1.toNat < 2 ^ a := by
    have := Nat.pow_le_pow_right (n := 2) (by omega) (h0 rfl)
    omega
   rw [Nat.div_eq_of_lt h1, Nat.zero_mod]
  | 1, _, _ => simp
  | 2, _, _ => simp
  | 3, _, _ => simp
 | f + 1, W, hf, h => by
  unfold encL at h
  cases h1 : encL c f with
  | none => rw [h1] at h; cases h
  | some V =>
   rw [h1] at h
   simp only at h
   obtain ⟨i1, i2, i3⟩ := enc_ext hk (show f ≤ 8 by omega) h1
   unfold encS at h
   split at h
   ·cases h
   ·rename_i hc
    simp only [Option.some.injEq] at h
    cases hh : (partV' c.1 f).2 with
    | false =>
     rw [hh, if_neg (by simp)] at h
     subst h
     refine ⟨i1, i2, fun g hg hgh => ?_⟩
     rw [i3 g hg hgh]
     have : g ≠ f := fun e => by subst e; rw [hh] at hgh; cases hgh
     by_cases hlt : g < f
     ·rw [if_pos hlt, if_pos (by omega)]
     ·rw [if_neg hlt, if_neg (by omega)]
    | true =>
     rw [hh, if_pos rfl] at h
     subst h
     have hw := parts_w hk f (by omega)
     have hop := parts_op hk f (by omega) hh
     have hn : (getF c f).toNat < 2 ^ (partV' c.1 f).1.2.2 := by
      by_cases h3 : getF c f ≥ ((2 ^ (partV' c.1 f).1.2.2 : Nat) : Int)
      ·exact absurd (.inr (.inr h3)) hc
      ·have := Nat.two_pow_pos (partV' c.1 f).1.2.2
       omega
     have hself := i3 f (by omega) hh
     rw [if_neg (by omega)] at hself
     have hap := fun g hg hgh hne => parts_apart hk f (by omega) g hg hne hh hgh
     generalize hx : (partV' c.1 f).1 = x at hw hop hn hself hap ⊢
     obtain ⟨w, a, s⟩ := x
     simp only at hw hop hn ⊢
     refine ⟨by simp [i1], ?_, fun g hg hgh => ?_⟩
     ·rw [getD_set (by omega)]
      split
      ·rename_i e
       subst e
       have ha := hop rfl
       have e8 : ∀ z : Nat, z % 256 = z / 2 ^ 0 % 2 ^ 8 := fun z => by simp
       rw [e8, or_ext, ← e8, i2, ext_above (show 0 + 8 ≤ a by omega), Nat.or_zero]
      ·exact i2
     ·have i3g := i3 g hg hgh
      by_cases hgf : g = f
      ·subst hgf
       rw [if_pos (by omega)]
       rw [hx]
       unfold extN at hself ⊢
       simp only at hself ⊢
       rw [getD_set (by omega), if_pos rfl, or_ext, hself, ext_same hn, Nat.zero_or]
      ·have hd := hap g hg hgh (fun e => hgf e.symm)
       have hgoal : extN (V.set w (V.getD w 0 ||| (getF c f).toNat * 2 ^ a)) (partV' c.1 g).1 = extN V (partV' c.1 g).1 := by
        generalize (partV' c.1 g).1 = y at hd ⊢
        obtain ⟨w2, a2, s2⟩ := y
        unfold extN
        simp only
        rw [getD_set (by omega)]
        split
        ·rename_i e
         subst e
         unfold apartF at hd
         simp only [bne_self_eq_false, Bool.false_or, Bool.or_eq_true, Nat.ble_eq] at hd
         rw [or_ext]
         rcases hd with hd | hd
         ·rw [ext_below hn hd, Nat.or_zero]
         ·rw [ext_above hd, Nat.or_zero]
        ·rfl
       rw [hgoal, i3g]
       by_cases hlt : g < f
       ·rw [if_pos hlt, if_pos (by omega)]
       ·rw [if_neg hlt, if_neg (by omega)]
theorem dec_step {c d : Cm} {W : List Nat} (hk : knownV c.1 = true) (hW : ∀ g, g < 8 → (partV' c.1 g).2 = true → extN W (partV' c.1 g).1 = (getF c g).toNat) (h0 : ∀ g, g < 8 → 0 ≤ getF c g) {f : Nat} (hf : f < 8) (hd : d.1 = c.1) :
  decS W f d = if (partV' c.1 f).2 then putF d f (getF c f) else d := by
 unfold decS
 rw [hd]
 cases hh : (partV' c.1 f).2 with
 | false => rfl
 | true =>
  rw [if_pos rfl, if_pos rfl]
  have := hW f hf hh
  unfold extN at this
  rw [this]
  congr 1
  have := h0 f hf
  omega
theorem putF_op (d : Cm) (f : Nat) (n : Int) : (putF d f n).1 = d.1 := by
 unfold putF
 split <;> rfl
theorem dec_enc {c : Cm} (h : (encV c).2 = 0) : decV (encV c).1 = (c, 0) := by
 obtain ⟨hk, h256, hg⟩ := enc_get h
 have hV : ∃ W, encL c 8 = some W ∧ encV c = (W, 0) := by
  unfold encV at h ⊢
  rw [if_pos ⟨hk, h256⟩] at h ⊢
  cases h1 : encL c 8 with
  | none => rw [h1] at h; exact absurd h (by simp)
  | some W => exact ⟨W, rfl, rfl⟩
 obtain ⟨W, hW, hE⟩ := hV
 obtain ⟨e1, e2, e3⟩ := enc_ext hk (Nat.le_refl 8) hW
 have e3 : ∀ g, g < 8 → (partV' c.1 g).2 = true → extN W (partV' c.1 g).1 = (getF c g).toNat := fun g hg' hh => by rw [e3 g hg' hh, if_pos hg']
 have h0 : ∀ g, g < 8 → 0 ≤ getF c g := fun g hg' => (hg g hg').2.1
 have hop : ((W.getD 0 0 % 256 : Nat) : Int) = c.1 := by
  rw [e2]
  rcases known_cases hk with h | h | h | h | h | h | h | h | h | h | h | h <;> rw [h] <;> rfl
 have hz : ∀ g, g < 8 → (partV' c.1 g).2 = false → getF c g = 0 := fun g hg' => (hg g hg').1
 have hd : decL W 8 = c := by
  have step := fun (d : Cm) (f : Nat) (hf : f < 8) (hd : d.1 = c.1) => dec_step hk e3 h0 hf hd
  have o0 : (decL W 0).1 = c.1 := hop
  have s1 : decL W 1 = if (partV' c.1 0).2 then putF (decL W 0) 0 (getF c 0) else decL W 0 := step _ 0 (by omega) o0
  have o1 : (decL W 1).1 = c.1 := by rw [s1]; split; rw [putF_op]; exact o0; exact o0
  have s2 : decL W 2 = if (partV' c.1 1).2 then putF (decL W 1) 1 (getF c 1) else decL W 1 := step _ 1 (by omega) o1
  have o2 : (decL W 2).1 = c.1 := by rw [s2]; split; rw [putF_op]; exact o1; exact o1
  have s3 : decL W 3 = if (partV' c.1 2).2 then putF (decL W 2) 2 (getF c 2) else decL W 2 := step _ 2 (by omega) o2
  have o3 : (decL W 3).1 = c.1 := by rw [s3]; split; rw [putF_op]; exact o2; exact o2
  have s4 : decL W 4 = if (partV' c.1 3).2 then putF (decL W 3) 3 (getF c 3) else decL W 3 := step _ 3 (by omega) o3
  have o4 : (decL W 4).1 = c.1 := by rw [s4]; split; rw [putF_op]; exact o3; exact o3
  have s5 : decL W 5 = if (partV' c.1 4).2 then putF (decL W 4) 4 (getF c 4) else decL W 4 := step _ 4 (by omega) o4
  have o5 : (decL W 5).1 = c.1 := by rw [s5]; split; rw [putF_op]; exact o4; exact o4
  have s6 : decL W 6 = if (partV' c.1 5).2 then putF (decL W 5) 5 (getF c 5) else decL W 5 := step _ 5 (by omega) o5
  have o6 : (decL W 6).1 = c.1 := by rw [s6]; split; rw [putF_op]; exact o5; exact o5
  have s7 : decL W 7 = if (partV' c.1 6).2 then putF (decL W 6) 6 (getF c 6) else decL W 6 := step _ 6 (by omega) o6
  have o7 : (decL W 7).1 = c.1 := by rw [s7]; split; rw [putF_op]; exact o6; exact o6
  have s8 : decL W 8 = if (partV' c.1 7).2 then putF (decL W 7) 7 (getF c 7) else decL W 7 := step _ 7 (by omega) o7
  have i0 : decL W 0 = (c.1, 0, 0, 0, 0, 0, 0, 0, false) := by unfold decL; rw [hop]
  have z0 := hz 0 (by omega); have z1 := hz 1 (by omega); have z2 := hz 2 (by omega); have z3 := hz 3 (by omega)
  have z4 := hz 4 (by omega); have z5 := hz 5 (by omega); have z6 := hz 6 (by omega); have z7 := hz 7 (by omega)
  obtain ⟨op, dev, ev, num, coll, tgt, b, a, v⟩ := c
  simp only [getF] at z0 z1 z2 z3 z4 z5 z6 z7 s1 s2 s3 s4 s5 s6 s7 s8 h256 i0
  have p1 : decL W 1 = (op, dev, 0, 0, 0, 0, 0, 0, false) := by
   rw [s1, i0]; cases hh : (partV' op 0).2 with
   | true => rfl
   | false => rw [z0 hh]; rfl
  have p2 : decL W 2 = (op, dev, ev, 0, 0, 0, 0, 0, false) := by
   rw [s2, p1]; cases hh : (partV' op 1).2 with
   | true => rfl
   | false => rw [z1 hh]; rfl
  have p3 : decL W 3 = (op, dev, ev, num, 0, 0, 0, 0, false) := by
   rw [s3, p2]; cases hh : (partV' op 2).2 with
   | true => rfl
   | false => rw [z2 hh]; rfl
  have p4 : decL W 4 = (op, dev, ev, num, coll, 0, 0, 0, false) := by
   rw [s4, p3]; cases hh : (partV' op 3).2 with
   | true => rfl
   | false => rw [z3 hh]; rfl
  have p5 : decL W 5 = (op, dev, ev, num, coll, tgt, 0, 0, false) := by
   rw [s5, p4]; cases hh : (partV' op 4).2 with
   | true => rfl
   | false => rw [z4 hh]; rfl
  have p6 : decL W 6 = (op, dev, ev, num, coll, tgt, b, 0, false) := by
   rw [s6, p5]; cases hh : (partV' op 5).2 with
   | true => rfl
   | false => rw [z5 hh]; rfl
  have p7 : decL W 7 = (op, dev, ev, num, coll, tgt, b, a, false) := by
   rw [s7, p6]; cases hh : (partV' op 6).2 with
   | true => rw [if_pos rfl]; simp only [putF]; rw [show a / 256 * 256 = a by omega]
   | false => rw [if_neg (by simp)]; rw [show a = 0 by have := z6 hh; omega]
  rw [s8, p7]
  cases hh : (partV' op 7).2 with
  | true => cases v <;> rfl
  | false =>
   have := z7 hh
   cases v with
   | true => simp at this
   | false => rfl
 have hok : decOk W (decL W 8) := by
  rw [hd]
  unfold decOk
  rw [hE]
  exact ⟨rfl, rfl, rfl, rfl, rfl⟩
 unfold decV
 rw [hE]
 simp only
 rw [if_pos hok, hd]
variable {T nc : Nat}
def KS (S : Nat → Prop) (B B' : List Nat) : Prop := B'.length = B.length ∧ ∀ i, S i → B'[i]? = B[i]?
theorem KS.refl (S : Nat → Prop) (B : List Nat) : KS S B B := ⟨rfl, fun _ _ => rfl⟩
theorem KS.trans {S : Nat → Prop} {A B C : List Nat} (h1 : KS S A B) (h2 : KS S B C) : KS S A C := ⟨h2.1.trans h1.1, fun i hi => (h2.2 i hi).trans (h1.2 i hi)⟩
theorem KS.mono {S T : Nat → Prop} {A B : List Nat} (h : KS S A B) (hs : ∀ i, T i → S i) : KS T A B := ⟨h.1, fun i hi => h.2 i (hs i hi)⟩
theorem KS.rd {S : Nat → Prop} {B B' : List Nat} (h : KS S B B') {a w : Nat} (hs : ∀ i, a ≤ i → i < a + w → S i) : rdN B' a w = rdN B a w := by
 unfold rdN
 congr 1
 apply List.ext_getElem?
 intro k
 rw [List.getElem?_take, List.getElem?_take]
 split
 ·rw [List.getElem?_drop, List.getElem?_drop, h.2 _ (hs _ (by omega) (by omega))]
 ·rfl
theorem KS.wr {B : List Nat} {a w v : Nat} (h : a + w ≤ B.length) : KS (fun i => i < a ∨ a + w ≤ i) B (wrN B a w v) := ⟨wrN_len v h, fun i hi => by rw [wrN_at h, if_neg (by omega)]⟩
theorem wipe_at {B : List Nat} {A W : Nat} (h : A + W ≤ B.length) (i : Nat) : (wipeN B A W)[i]? = if A ≤ i ∧ i < A + W then some 0 else B[i]? := by
 unfold wipeN
 by_cases h1 : i < A
 ·rw [if_neg (by omega), List.append_assoc, List.getElem?_append_left (by rw [List.length_take]; omega), List.getElem?_take_of_lt h1]
 ·by_cases h2 : i < A + W
  ·rw [if_pos (by omega), List.getElem?_append_left (by rw [List.length_append, List.length_take, List.length_replicate]; omega), List.getElem?_append_right (by rw [List.length_take]; omega), List.getElem?_replicate, if_pos (by rw [List.length_take]; omega)]
  ·rw [if_neg (by omega), List.getElem?_append_right (by rw [List.length_append, List.length_take, List.length_replicate]; omega), List.getElem?_drop]
   congr 1
   rw [List.length_append, List.length_take, List.length_replicate]; omega
theorem KS.wipe {B : List Nat} {A W : Nat} (h : A + W ≤ B.length) : KS (fun i => i < A ∨ A + W ≤ i) B (wipeN B A W) := ⟨wipe_len h, fun i hi => by rw [wipe_at h, if_neg (by omega)]⟩
theorem rd_wipe {B : List Nat} {A W a w : Nat} (h : A + W ≤ B.length) (h1 : A ≤ a) (h2 : a + w ≤ A + W) : rdN (wipeN B A W) a w = 0 := by
 have e : ((wipeN B A W).drop a).take w = List.replicate w 0 := by
  apply List.ext_getElem?
  intro k
  rw [List.getElem?_take, List.getElem?_replicate]
  split
  ·rw [List.getElem?_drop, wipe_at h, if_pos (by omega)]
  ·rfl
 unfold rdN
 rw [e]
 clear e h h1 h2
 induction w with
 | zero => rfl
 | succ w ih => rw [List.replicate_succ]; simp only [leN, ih]
theorem stW_ks {B : List Nat} (hB : okT T B.length) {j : Nat} (hj : j < 32) (E : List Nat) : ∀ {k}, k ≤ 4 → KS (fun i => i < 32 * j ∨ 32 * j + 32 ≤ i) B (stW B j E k)
 | 0, _ => KS.refl _ _
 | k + 1, hk => by
  have h1 := stW_ks hB hj E (k := k) (by omega)
  exact h1.trans ((KS.wr (by rw [h1.1]; omega)).mono fun i hi => by omega)
theorem stW_rd {B : List Nat} (hB : okT T B.length) {j : Nat} (hj : j < 32) {E : List Nat} (hE : ∀ k, E.getD k 0 < 2 ^ 64) : ∀ {k}, k ≤ 4 → ∀ g, g < k → ldK (stW B j E k) j g = E.getD g 0
 | 0, _, g, hg => absurd hg (by omega)
 | k + 1, hk, g, hg => by
  have hl := (stW_ks hB hj E (k := k) (by omega)).1
  unfold stW ldK
  by_cases e : g = k
  ·subst e
   rw [rd_wr _ (by rw [hl]; omega)]
   exact Nat.mod_eq_of_lt (by rw [show (256 : Nat) ^ 8 = 2 ^ 64 by decide]; exact hE g)
  ·rw [rd_apart _ (by rw [hl]; omega) (by omega)]
   exact stW_rd hB hj hE (k := k) (by omega) g (by omega)
theorem stW_ld {B : List Nat} (hB : okT T B.length) {j : Nat} (hj : j < 32) (c : Cm) : ldW (stW B j (encV c).1 4) j = (encV c).1 := by
 have h := stW_rd hB hj (enc_lt c) (k := 4) (Nat.le_refl _)
 unfold ldW
 rw [h 0 (by omega), h 1 (by omega), h 2 (by omega), h 3 (by omega)]
 have hl := (encV_ok c).1
 generalize (encV c).1 = E at hl
 match E, hl with
 | [a, b, c, d], _ => rfl
theorem rd_zero (n a w : Nat) : rdN (List.replicate n 0) a w = 0 := by
 unfold rdN
 rw [List.drop_replicate, List.take_replicate]
 generalize min w (n - a) = k
 induction k with
 | zero => rfl
 | succ k ih => rw [List.replicate_succ]; simp only [leN, ih]

theorem tb (x j : Nat) : (x / 2 ^ j % 2 == 1) = x.testBit j := by
 rw [Nat.testBit_eq_decide_div_mod_eq, Bool.eq_iff_iff]; simp
theorem bitP_st {B : List Nat} (hB : okT T B.length) {k i : Nat} (hk : k < 8) (hi : i < 512) (v : Bool) {j i' : Nat} (hj : j < 8) (hi' : i' < 512) : bitP (stP B k i v) j i' = if j = k ∧ i' = i then v else bitP B j i' := by
 have hl : 10752 + 64 * k + i / 8 + 1 ≤ B.length := by omega
 unfold bitP byP stP
 by_cases ha : j = k ∧ i' / 8 = i / 8
 ·obtain ⟨rfl, ha⟩ := ha
  rw [ha, rd_wr _ hl, tb, tb, show (256 : Nat) ^ 1 = 2 ^ 8 by decide, Nat.testBit_mod_two_pow, bitN_bit _ (by omega) (by omega)]
  have h8 : i' % 8 < 8 := by omega
  rw [decide_eq_true h8, Bool.true_and]
  by_cases e : i' = i
  ·subst e; simp
  ·rw [if_neg (by omega), if_neg (by simp [e])]
   unfold byP
   rw [show 10752 + 64 * j + i / 8 = 10752 + 64 * j + i' / 8 by omega]
 ·rw [rd_apart _ hl (by omega), if_neg (by omega)]
theorem at_set {w : SW} {k j : Nat} (h : k < w.cs.length) (B' : List Nat) (c : Pc) : (⟨B', w.cs.set k c⟩ : SW).at_ j = if j = k then c else w.at_ j := getD_set h
theorem stP_ks {B : List Nat} (hB : okT T B.length) {k i : Nat} (hk : k < 8) (hi : i < 512) (v : Bool) : KS (fun a => a < 10752 ∨ 11264 ≤ a) B (stP B k i v) := by
 unfold stP
 exact (KS.wr (by omega)).mono fun j hj => by omega
def WtK (w : SW) (k : Nat) (on : Bool) (m : Nat → Bool) : Prop := (w.at_ k).on = on ∧ ∀ i, i < 512 → hasS (w.at_ k).U i = (on && m i) ∧ bitP w.B k i = (!on && m i)
theorem WtK.has {w : SW} {k : Nat} {on : Bool} {m : Nat → Bool} (h : WtK w k on m) {n : Nat} (hn : n < 512) : w.has k (8192 + (n : Int)) = m n := by
 obtain ⟨h1, h2⟩ := h
 have h3 := h2 n hn
 have hi : idxV (8192 + (n : Int)) = true := by
  unfold idxV
  rw [show (8192 : Int) + n - 8192 = n by omega, wrap_id (by omega) (by omega)]
  simp; omega
 unfold SW.has hasL
 rw [hi, h1, show ((8192 : Int) + n - 8192).toNat = n by omega, h3.1, h3.2]
 cases on <;> simp
theorem WtK.congr {w w' : SW} {k : Nat} {on : Bool} {m : Nat → Bool} (h : WtK w k on m) (h1 : (w'.at_ k).on = (w.at_ k).on) (h2 : (w'.at_ k).U = (w.at_ k).U) (ks : KS (fun a => 10752 ≤ a ∧ a < 11264) w.B w'.B) (hk : k < 8) : WtK w' k on m := by
 refine ⟨h1.trans h.1, fun i hi => ?_⟩
 rw [h2]
 refine ⟨(h.2 i hi).1, ?_⟩
 rw [← (h.2 i hi).2]
 unfold bitP byP
 rw [ks.rd fun a h1 h2 => by omega]
theorem idx_n {n : Nat} (hn : n < 512) : idxV (8192 + (n : Int)) = true ∧ ((8192 : Int) + n - 8192).toNat = n := by
 refine ⟨?_, by omega⟩
 unfold idxV
 rw [show (8192 : Int) + n - 8192 = n by omega, wrap_id (by omega) (by omega)]
 simp; omega
theorem wt_set {w : SW} (hw : w.ok T nc) {k : Nat} (hk : k < nc) {n : Nat} (hn : n < 512) (v : Bool) {j : Nat} (hj : j < nc) {on : Bool} {m : Nat → Bool} (h : WtK w j on m) :
  WtK (w.set k (8192 + (n : Int)) v) j on (fun i => if j = k ∧ i = n then v else m i) := by
 obtain ⟨hi, he⟩ := idx_n hn
 have hlen : k < w.cs.length := by rw [hw.2.2.1]; exact hk
 have hk8 := (hw.2.2.2 k hk).2.2
 have hj8 := (hw.2.2.2 j hj).2.2
 obtain ⟨h1, h2⟩ := h
 unfold SW.set setLV
 rw [hi, if_pos rfl, he]
 by_cases e : j = k
 ·subst e
  cases hon : (w.at_ j).on with
  | true =>
   have hon2 : on = true := by rw [← h1, hon]
   subst hon2
   refine ⟨by rw [at_set hlen, if_pos rfl], fun i hi2 => ?_⟩
   rw [at_set hlen, if_pos rfl]
   simp only [if_true, true_and]
   refine ⟨?_, by rw [(h2 i hi2).2]; rfl⟩
   cases v with
   | true =>
    simp only [if_true]
    rw [has_putS, (h2 i hi2).1]
    by_cases e2 : i = n <;> simp [e2]
   | false =>
    simp only [Bool.false_eq_true, if_false]
    rw [has_takeS, (h2 i hi2).1]
    by_cases e2 : i = n <;> simp [e2]
  | false =>
   have hon2 : on = false := by rw [← h1, hon]
   subst hon2
   refine ⟨by rw [at_set hlen, if_pos rfl], fun i hi2 => ?_⟩
   rw [at_set hlen, if_pos rfl]
   simp only [Bool.false_eq_true, if_false, true_and]
   refine ⟨by rw [(h2 i hi2).1]; rfl, ?_⟩
   rw [bitP_st hw.1 hk8 hn v hj8 hi2, (h2 i hi2).2]
   by_cases e2 : i = n <;> simp [e2]
 ·have h3 : (fun i => if j = k ∧ i = n then v else m i) = m := funext fun i => if_neg fun h => e h.1
  rw [h3]
  refine ⟨by rw [at_set hlen, if_neg e]; exact h1, fun i hi2 => ?_⟩
  rw [at_set hlen, if_neg e]
  refine ⟨(h2 i hi2).1, ?_⟩
  rw [← (h2 i hi2).2]
  simp only
  split
  ·rfl
  ·show bitP (stP w.B k n v) j i = _
   rw [bitP_st hw.1 hk8 hn v hj8 hi2, if_neg fun h => e h.1]
theorem set_ks {w : SW} (hw : w.ok T nc) {k : Nat} (hk : k < nc) {n : Nat} (hn : n < 512) (v : Bool) : KS (fun a => a < 10752 ∨ 11264 ≤ a) w.B (w.set k (8192 + (n : Int)) v).B := by
 obtain ⟨hi, he⟩ := idx_n hn
 unfold SW.set setLV
 rw [hi, if_pos rfl, he]
 simp only
 split
 ·exact KS.refl _ _
 ·exact stP_ks hw.1 (hw.2.2.2 k hk).2.2 hn v
theorem set_C {w : SW} (hw : w.ok T nc) {k : Nat} (hk : k < nc) (n : Int) (v : Bool) (j : Nat) : ((w.set k n v).at_ j).C = (w.at_ j).C := by
 have hlen : k < w.cs.length := by rw [hw.2.2.1]; exact hk
 unfold SW.set
 rw [at_set hlen]
 split
 ·rename_i e; rw [e]
 ·rfl
end Go.Proofs.YtakkogdmlbkdaaaGreatDoor.Sl.It
namespace Go.Proofs.YtakkogdmlbkdaaaGreatDoor.Sl.It
attribute [local irreducible] invK enK enV waitL
variable {T nc : Nat}
theorem odd_part : ∀ (n y : Nat), y ≤ n → 0 < y → ∃ t m, y = 2 ^ t * (2 * m + 1)
 | 0, y, h, h0 => by omega
 | n + 1, y, h, h0 => by
  by_cases ho : y % 2 = 1
  ·exact ⟨0, y / 2, by simp; omega⟩
  ·obtain ⟨t, m, e⟩ := odd_part n (y / 2) (by omega) (by omega)
   refine ⟨t + 1, m, ?_⟩
   rw [Nat.pow_succ, Nat.mul_assoc, Nat.mul_comm 2, ← Nat.mul_assoc, ← e]; omega
theorem tz_tab : ∀ t : Nat, t < 64 → tzT.getD (2 ^ t * 285870213051353865 % 2 ^ 64 / 2 ^ 58) 0 = t := by decide +kernel
theorem bit_y {t m i : Nat} : (2 ^ t * (2 * m + 1)).testBit i = if i < t then false else (2 * m + 1).testBit (i - t) := by
 have := Nat.testBit_two_pow_mul_add (2 * m + 1) (b := 0) (i := t) (Nat.two_pow_pos t) i
 rw [Nat.add_zero] at this
 rw [this]; simp
theorem bit_y1 {t m i : Nat} : (2 ^ t * (2 * m + 1) - 1).testBit i = if i < t then true else (2 * m).testBit (i - t) := by
 have e : 2 ^ t * (2 * m + 1) - 1 = 2 ^ t * (2 * m) + (2 ^ t - 1) := by
  have := Nat.two_pow_pos t
  rw [Nat.mul_add, Nat.mul_one]; omega
 rw [e, Nat.testBit_two_pow_mul_add (2 * m) (by have := Nat.two_pow_pos t; omega) i, Nat.testBit_two_pow_sub_one]
 split <;> simp_all
theorem odd_bit (m j : Nat) : (2 * m + 1).testBit j = if j = 0 then true else (2 * m).testBit j := by
 cases j with
 | zero => simp [Nat.testBit_zero]
 | succ j => simp [Nat.testBit_succ]; congr 1; omega
theorem low_spec {y : Nat} (h0 : y ≠ 0) (hy : y < 2 ^ 64) : y.testBit (lowB y) = true ∧ (∀ i, i < lowB y → y.testBit i = false) ∧ ∀ i, (y &&& (y - 1)).testBit i = (y.testBit i && !decide (i = lowB y)) := by
 obtain ⟨t, m, e⟩ := odd_part y y (Nat.le_refl _) (by omega)
 have hb : ∀ i, y.testBit i = if i < t then false else if i = t then true else (2 * m).testBit (i - t) := fun i => by
  rw [e, bit_y]
  split
  ·rfl
  ·rw [odd_bit]
   by_cases h : i = t
   ·subst h; simp
   ·rw [if_neg (by omega), if_neg h]
 have h1 : ∀ i, (y - 1).testBit i = if i < t then true else if i = t then false else (2 * m).testBit (i - t) := fun i => by
  rw [e, bit_y1]
  split
  ·rfl
  ·by_cases h : i = t
   ·subst h; simp
   ·rw [if_neg h]
 have ht : t < 64 := by
  apply Decidable.byContradiction; intro hn
  have : 2 ^ 64 ≤ 2 ^ t := Nat.pow_le_pow_right (by omega) (by omega)
  have h2 : 2 ^ t ≤ y := by rw [e]; exact Nat.le_mul_of_pos_right _ (by omega)
  omega
 have hlow : y &&& (2 ^ 64 - y) = 2 ^ t := by
  apply Nat.eq_of_testBit_eq
  intro i
  rw [Nat.testBit_and, show 2 ^ 64 - y = 2 ^ 64 - ((y - 1) + 1) by omega, Nat.testBit_two_pow_sub_succ (by omega), h1, hb, Nat.testBit_two_pow]
  by_cases c1 : i < t
  ·simp [c1]; omega
  ·by_cases c2 : i = t
   ·subst c2; simp [ht]
   ·rw [if_neg c1, if_neg c2, if_neg c1, if_neg c2]
    rw [show decide (t = i) = false by simp; omega]
    cases (2 * m).testBit (i - t) <;> simp
 have hB : lowB y = t := by
  unfold lowB tzI
  rw [hlow]
  exact tz_tab t ht
 rw [hB]
 refine ⟨by rw [hb]; simp, fun i hi => by rw [hb, if_pos hi], fun i => ?_⟩
 rw [Nat.testBit_and, hb, h1]
 by_cases c1 : i < t
 ·simp [c1]
 ·by_cases c2 : i = t
  ·subst c2; simp
  ·simp [c1, c2]
theorem bitsN_spec : ∀ (n y : Nat), y ≤ n → y < 2 ^ 64 → (∀ x, x ∈ bitsN y ↔ y.testBit x = true) ∧ (bitsN y).Pairwise (· < ·)
 | 0, y, h, _ => by
  obtain rfl : y = 0 := by omega
  rw [bitsN_0]; simp
 | n + 1, y, h, hy => by
  by_cases h0 : y = 0
  ·subst h0; rw [bitsN_0]; simp
  ·rw [bitsN_s h0]
   obtain ⟨hl, hm, hr⟩ := low_spec h0 hy
   have hle := @Nat.and_le_right y (y - 1)
   obtain ⟨ih1, ih2⟩ := bitsN_spec n (y &&& (y - 1)) (by omega) (by omega)
   refine ⟨fun x => ?_, ?_⟩
   ·rw [List.mem_cons, ih1, hr]
    by_cases hx : x = lowB y
    ·subst hx; simp [hl]
    ·simp [hx]
   ·rw [List.pairwise_cons]
    refine ⟨fun x hx => ?_, ih2⟩
    rw [ih1, hr] at hx
    simp only [Bool.and_eq_true, Bool.not_eq_true', decide_eq_false_iff_not] at hx
    apply Decidable.byContradiction; intro hn
    have := hm x (by omega)
    rw [this] at hx
    exact absurd hx.1 (by simp)
theorem bitsN_mem {y x : Nat} (hy : y < 2 ^ 64) : x ∈ bitsN y ↔ y.testBit x = true := (bitsN_spec y y (Nat.le_refl _) hy).1 x
theorem hasS_cons (y : Nat) (r : List Nat) (i : Nat) : hasS (y :: r) i = if i < 64 then y.testBit i else hasS r (i - 64) := by
 unfold hasS wAt
 split
 ·rename_i h
  rw [show i / 64 = 0 by omega, show i % 64 = i by omega]; rfl
 ·rename_i h
  rw [show i / 64 = (i - 64) / 64 + 1 by omega, List.getElem?_cons_succ, show (i - 64) % 64 = i % 64 by omega]
theorem memU_mem : ∀ (U : List Nat) (k : Nat), (∀ y ∈ U, y < 2 ^ 64) → ∀ x : Int, x ∈ memU k U ↔ ∃ i : Nat, x = ((64 * k + i : Nat) : Int) ∧ hasS U i = true
 | [], k, _, x => by
  constructor
  ·intro h; cases h
  ·rintro ⟨i, _, h⟩
   unfold hasS wAt at h
   simp at h
 | y :: r, k, hU, x => by
  have hy := hU y (by simp)
  have ih := memU_mem r (k + 1) (fun z hz => hU z (by simp [hz])) x
  show x ∈ (bitsN y).map _ ++ memU (k + 1) r ↔ _
  rw [List.mem_append, ih, List.mem_map]
  constructor
  ·rintro (⟨b, hb, rfl⟩ | ⟨i, rfl, h⟩)
   ·have := bitsN_lt y y (Nat.le_refl _) b hb
    exact ⟨b, rfl, by rw [hasS_cons, if_pos this]; exact (bitsN_mem hy).1 hb⟩
   ·refine ⟨64 + i, by congr 1; omega, ?_⟩
    rw [hasS_cons, if_neg (by omega), show 64 + i - 64 = i by omega]; exact h
  ·rintro ⟨i, rfl, h⟩
   rw [hasS_cons] at h
   by_cases hi : i < 64
   ·rw [if_pos hi] at h
    exact .inl ⟨i, (bitsN_mem hy).2 h, rfl⟩
   ·rw [if_neg hi] at h
    exact .inr ⟨i - 64, by congr 1; omega, h⟩
theorem hasS_lt {U : List Nat} (h : setOk U) {i : Nat} (hi : hasS U i = true) : i < 512 := by
 have := has_in hi
 have := h.1
 omega
theorem bitsU_mem {U : List Nat} (h : setOk U) (x : Int) : x ∈ bitsU U ↔ ∃ i : Nat, i < 512 ∧ x = (i : Int) ∧ hasS U i = true := by
 unfold bitsU
 rw [memU_mem U 0 h.2]
 constructor
 ·rintro ⟨i, rfl, h2⟩; exact ⟨i, hasS_lt h h2, by simp, h2⟩
 ·rintro ⟨i, _, rfl, h2⟩; exact ⟨i, by simp, h2⟩
theorem ok_at {w : SW} (hw : w.ok T nc) {k : Nat} (hk : k < nc) : setOk (w.at_ k).U ∧ (w.at_ k).C.length = 512 ∧ k < 8 := hw.2.2.2 k hk
theorem dis_fold {k : Nat} (hk : k < 8) : ∀ {xs : List Int} {s : List Nat × List Nat}, (∀ x ∈ xs, ∃ i : Nat, i < 512 ∧ x = (i : Int)) → okT T s.2.length →
  okT T (xs.foldl (disS k) s).2.length ∧ KS (fun a => a < 10752 ∨ 11264 ≤ a) s.2 (xs.foldl (disS k) s).2 ∧
  (∀ i, hasS (xs.foldl (disS k) s).1 i = (hasS s.1 i && !decide ((i : Int) ∈ xs))) ∧ ∀ j i, j < 8 → i < 512 → bitP (xs.foldl (disS k) s).2 j i = (bitP s.2 j i || (decide (j = k) && decide ((i : Int) ∈ xs)))
 | [], s, _, h2 => ⟨h2, KS.refl _ _, fun i => by simp, fun j i _ _ => by simp⟩
 | x :: xs, s, hx, h2 => by
  obtain ⟨n, hn, rfl⟩ := hx x (by simp)
  have hs2 := stP_len h2 hk hn true
  obtain ⟨h3, h4, h5, h6⟩ := dis_fold hk (xs := xs) (s := disS k s (n : Int)) (fun y hy => hx y (by simp [hy])) (by unfold disS; simp only [Int.toNat_natCast]; exact hs2)
  rw [List.foldl_cons]
  refine ⟨h3, KS.trans (stP_ks h2 hk hn true) h4, fun i => ?_, fun j i hj hi => ?_⟩
  ·rw [h5]
   unfold disS
   simp only [Int.toNat_natCast]
   rw [has_takeS]
   by_cases e : i = n
   ·subst e; simp
   ·have : ¬ (i : Int) = (n : Int) := by omega
    simp [e, this]
  ·rw [h6 j i hj hi]
   unfold disS
   simp only [Int.toNat_natCast]
   rw [bitP_st h2 hk hn true hj hi]
   by_cases e : i = n
   ·subst e
    by_cases e2 : j = k <;> simp [e2]
   ·have : ¬ (i : Int) = (n : Int) := by omega
    simp [e, this]
theorem wt_dis_ne {w : SW} (hw : w.ok T nc) {k : Nat} (hk : k < nc) {j : Nat} (hj : j < nc) (e : j ≠ k) {on : Bool} {m : Nat → Bool} (h : WtK w j on m) : WtK (w.dis k) j on m := by
 have hlen : k < w.cs.length := by rw [hw.2.2.1]; exact hk
 obtain ⟨hU, _, hk8⟩ := ok_at hw hk
 obtain ⟨_, _, h5, h6⟩ := dis_fold (T := T) hk8 (xs := bitsU (w.at_ k).U) (s := ((w.at_ k).U, w.B)) (bitsU_lt hU) hw.1
 refine ⟨by unfold SW.dis; rw [at_set hlen, if_neg e]; exact h.1, fun i hi => ?_⟩
 unfold SW.dis
 rw [at_set hlen, if_neg e]
 refine ⟨(h.2 i hi).1, ?_⟩
 have := h6 j i (hw.2.2.2 j hj).2.2 hi
 show bitP (disV k (w.at_ k).U w.B).2 j i = _
 unfold disV
 rw [this, ← (h.2 i hi).2, decide_eq_false e]; simp
theorem dis_ks {w : SW} (hw : w.ok T nc) {k : Nat} (hk : k < nc) : KS (fun a => a < 10752 ∨ 11264 ≤ a) w.B (w.dis k).B := by
 obtain ⟨hU, _, hk8⟩ := ok_at hw hk
 exact (dis_fold (T := T) hk8 (xs := bitsU (w.at_ k).U) (s := ((w.at_ k).U, w.B)) (bitsU_lt hU) hw.1).2.1
theorem dis_C {w : SW} (hw : w.ok T nc) {k : Nat} (hk : k < nc) (j : Nat) : ((w.dis k).at_ j).C = (w.at_ j).C := by
 have hlen : k < w.cs.length := by rw [hw.2.2.1]; exact hk
 unfold SW.dis
 rw [at_set hlen]
 split
 ·rename_i e; rw [e]
 ·rfl
theorem enK_spec {k : Nat} (hk : k < 8) {U B : List Nat} (hU : setOk U) (hB : okT T B.length) : ∀ {n}, n ≤ 512 → setOk (enK k U B n).1 ∧ okT T (enK k U B n).2.length ∧ KS (fun a => a < 10752 ∨ 11264 ≤ a) B (enK k U B n).2 ∧
  (∀ i, i < 512 → hasS (enK k U B n).1 i = (hasS U i || (decide (i < n) && bitP B k i))) ∧ ∀ j i, j < 8 → i < 512 → bitP (enK k U B n).2 j i = (bitP B j i && !(decide (j = k) && decide (i < n)))
 | 0, _ => by
  rw [enK_zero]
  exact ⟨hU, hB, KS.refl _ _, fun i _ => by simp, fun j i _ _ => by simp⟩
 | n + 1, hn => by
  obtain ⟨h1, h2, h3, h4, h5⟩ := enK_spec hk hU hB (n := n) (by omega)
  rw [enK_succ]
  generalize enK k U B n = s at h1 h2 h3 h4 h5 ⊢
  have hbn : bitP s.2 k n = bitP B k n := by rw [h5 k n hk (by omega)]; simp
  cases hb : bitP s.2 k n with
  | true =>
   rw [if_pos rfl]
   rw [hb] at hbn
   refine ⟨putS_ok h1 (by omega), stP_len h2 hk (by omega) false, h3.trans (stP_ks h2 hk (by omega) false), fun i hi => ?_, fun j i hj hi => ?_⟩
   ·rw [has_putS, h4 i hi]
    by_cases e : i = n
    ·subst e; simp [← hbn]
    ·have : (decide (i < n + 1)) = decide (i < n) := by simp; omega
     rw [this]; simp [e]
   ·rw [bitP_st h2 hk (by omega) false hj hi, h5 j i hj hi]
    by_cases e2 : j = k
    ·by_cases e : i = n
     ·subst e; subst e2; simp
     ·have : (decide (i < n + 1)) = decide (i < n) := by simp; omega
      rw [this]; simp [e]
    ·simp [e2]
  | false =>
   rw [if_neg (by simp)]
   rw [hb] at hbn
   refine ⟨h1, h2, h3, fun i hi => ?_, fun j i hj hi => ?_⟩
   ·rw [h4 i hi]
    by_cases e : i = n
    ·subst e; simp [← hbn]
    ·have : (decide (i < n + 1)) = decide (i < n) := by simp; omega
     rw [this]
   ·rw [h5 j i hj hi]
    by_cases e2 : j = k
    ·by_cases e : i = n
     ·subst e; subst e2; simp [← hbn]
     ·have : (decide (i < n + 1)) = decide (i < n) := by simp; omega
      rw [this]
    ·simp [e2]
theorem invK_spec {k : Nat} {C B : List Nat} (hC : C.length = 512) : ∀ {n}, n ≤ 512 → ∀ i, i < 512 → (invK k C B n).getD i 0 = if i < n then rdN B (10240 + i) 1 else C.getD i 0
 | 0, _, i, _ => by rw [invK_zero, if_neg (by omega)]
 | n + 1, hn, i, hi => by
  rw [invK_succ, invV]
  have hlen : (invK k C B n).length = 512 := by rw [invK_len]; exact hC
  obtain ⟨hx, he⟩ := idx_n (n := n) (by omega)
  rw [show ((8192 + n : Nat) : Int) = 8192 + (n : Int) by omega, hx, if_pos rfl, he, getD_set (by omega), invK_spec hC (by omega) i hi]
  by_cases e : i = n
  ·subst e; rw [if_pos rfl, if_pos (by omega)]
  ·rw [if_neg e]
   by_cases e2 : i < n
   ·rw [if_pos e2, if_pos (by omega)]
   ·rw [if_neg e2, if_neg (by omega)]
def prB (B : List Nat) : Prop := ∀ i, i < 512 → rdN B (10240 + i) 1 = 161
def prC (C : List Nat) : Prop := ∀ i, i < 512 → C.getD i 0 = 161
theorem prB.ks {S : Nat → Prop} {B B' : List Nat} (h : prB B) (ks : KS S B B') (hs : ∀ a, 10240 ≤ a → a < 10752 → S a) : prB B' := fun i hi => by
 rw [ks.rd fun a h1 h2 => hs a (by omega) (by omega)]; exact h i hi
theorem en_true {w : SW} {k : Nat} (h : (w.at_ k).on = true) : w.en k = w := by
 have e : enV k (w.at_ k).on (w.at_ k).U (w.at_ k).C w.B = ((w.at_ k).U, (w.at_ k).C, w.B) := by unfold enV enW; rw [h]; rfl
 unfold SW.en
 rw [e, ← h]
 exact SW.same w k
theorem en_spec {w : SW} (hw : w.ok T nc) {k : Nat} (hk : k < nc) (hp : prB w.B) (hCk : (w.at_ k).on = true → prC (w.at_ k).C) :
  KS (fun a => a < 10752 ∨ 11264 ≤ a) w.B (w.en k).B ∧ prC ((w.en k).at_ k).C ∧ (∀ j, j ≠ k → (w.en k).at_ j = w.at_ j) ∧ (∀ on m, WtK w k on m → WtK (w.en k) k true m) ∧ ∀ j on m, j < nc → j ≠ k → WtK w j on m → WtK (w.en k) j on m := by
 have hlen : k < w.cs.length := by rw [hw.2.2.1]; exact hk
 obtain ⟨hU, hC, hk8⟩ := ok_at hw hk
 cases hon : (w.at_ k).on with
 | true =>
  rw [en_true hon]
  refine ⟨KS.refl _ _, hCk hon, fun _ _ => rfl, fun on m h => ?_, fun _ _ _ _ _ h => h⟩
  obtain rfl : on = true := by rw [← h.1, hon]
  exact h
 | false =>
  obtain ⟨h1, h2, h3, h4, h5⟩ := enK_spec hk8 hU hw.1 (n := 512) (Nat.le_refl _)
  have hC2 := invK_spec (k := k) (B := (enK k (w.at_ k).U w.B 512).2) hC (n := 512) (Nat.le_refl _)
  have hpr := hp.ks h3 fun a h6 h7 => by omega
  have e : w.en k = ⟨(enK k (w.at_ k).U w.B 512).2, w.cs.set k ⟨true, (enK k (w.at_ k).U w.B 512).1, invK k (w.at_ k).C (enK k (w.at_ k).U w.B 512).2 512⟩⟩ := by
   unfold SW.en enV enW
   rw [hon]; rfl
  rw [e]
  generalize enK k (w.at_ k).U w.B 512 = s at h1 h2 h3 h4 h5 hC2 hpr ⊢
  refine ⟨h3, ?_, fun j hj => by rw [at_set hlen, if_neg hj], fun on m h => ?_, fun j on m hj hne h => ?_⟩
  ·rw [at_set hlen, if_pos rfl]
   intro i hi
   rw [hC2 i hi, if_pos hi]; exact hpr i hi
  ·obtain rfl : on = false := by rw [← h.1, hon]
   refine ⟨by rw [at_set hlen, if_pos rfl], fun i hi => ?_⟩
   rw [at_set hlen, if_pos rfl]
   simp only
   rw [h4 i hi, h5 k i hk8 hi, (h.2 i hi).1, (h.2 i hi).2]
   simp [hi]
  ·refine ⟨by rw [at_set hlen, if_neg hne]; exact h.1, fun i hi => ?_⟩
   rw [at_set hlen, if_neg hne]
   refine ⟨(h.2 i hi).1, ?_⟩
   rw [h5 j i (hw.2.2.2 j hj).2.2 hi, (h.2 i hi).2]
   simp [hne]
theorem best_none {C U : List Nat} (hU : setOk U) (h : ∀ i, i < 512 → hasS U i = false) : bestC C U = (0, 0, 0, false) := by
 have : bitsU U = [] := by
  apply List.eq_nil_iff_forall_not_mem.2
  intro x hx
  obtain ⟨i, hi, _, h9⟩ := (bitsU_mem hU x).1 hx
  rw [h i hi] at h9; cases h9
 unfold bestC
 rw [this]; rfl
theorem sup_161 {C : List Nat} (hC : prC C) {i : Nat} (hi : i < 512) : supI C i = true ∧ supP C i = 160 := by
 unfold supI supP
 rw [hC i hi]
 exact ⟨by decide, by decide +kernel⟩
theorem best_fold {C : List Nat} (hC : prC C) : ∀ (xs : List Int) (c : Cd), (∀ x ∈ xs, ∃ i : Nat, i < 512 ∧ x = (i : Int)) → (c = (0, 0, 0, false) ∨ ∃ i : Nat, i < 512 ∧ c = (8192 + (i : Int), 160, 1, true)) →
  (xs = [] ∧ xs.foldl (stepC C) c = c) ∨ ∃ i : Nat, i < 512 ∧ xs.foldl (stepC C) c = (8192 + (i : Int), 160, 1, true) ∧ (((i : Int) ∈ xs) ∨ c = (8192 + (i : Int), 160, 1, true)) ∧ (∀ x ∈ xs, (i : Int) ≤ x) ∧ (c = (0, 0, 0, false) ∨ ∃ j : Nat, c = (8192 + (j : Int), 160, 1, true) ∧ i ≤ j)
 | [], c, _, _ => .inl ⟨rfl, rfl⟩
 | x :: xs, c, hx, hc => by
  refine .inr ?_
  obtain ⟨n, hn, rfl⟩ := hx x (by simp)
  obtain ⟨s1, s2⟩ := sup_161 hC hn
  have hst : ∃ i : Nat, i < 512 ∧ stepC C c (n : Int) = (8192 + (i : Int), 160, 1, true) ∧ (i = n ∨ c = (8192 + (i : Int), 160, 1, true)) ∧ i ≤ n ∧ (c = (0, 0, 0, false) ∨ ∃ j : Nat, c = (8192 + (j : Int), 160, 1, true) ∧ i ≤ j) := by
   unfold stepC
   rw [Int.toNat_natCast, s1, s2]
   rcases hc with rfl | ⟨j, hj, rfl⟩
   ·exact ⟨n, hn, rfl, .inl rfl, Nat.le_refl _, .inl rfl⟩
   ·unfold beforeV
    simp only [Bool.not_true, Bool.false_or, Bool.true_and]
    by_cases hlt : n < j
    ·rw [if_pos (by simp; omega)]
     exact ⟨n, hn, rfl, .inl rfl, Nat.le_refl _, .inr ⟨j, rfl, by omega⟩⟩
    ·rw [if_neg (by simp; omega)]
     exact ⟨j, hj, rfl, .inr rfl, by omega, .inr ⟨j, rfl, Nat.le_refl _⟩⟩
  obtain ⟨i, hi, he, ho, hle, hc2⟩ := hst
  rw [List.foldl_cons, he]
  rcases best_fold hC xs (8192 + (i : Int), 160, 1, true) (fun y hy => hx y (by simp [hy])) (.inr ⟨i, hi, rfl⟩) with ⟨rfl, e⟩ | ⟨i2, hi2, e, ho2, hle2, hc3⟩
  ·refine ⟨i, hi, by rw [e], ?_, ?_, hc2⟩
   ·rcases ho with rfl | h
    ·exact .inl (by simp)
    ·exact .inr h
   ·intro y hy
    simp at hy; omega
  ·have hi12 : i2 ≤ i := by
    rcases hc3 with h | ⟨j, h, hj⟩
    ·simp at h
    ·simp only [Prod.mk.injEq] at h; omega
   refine ⟨i2, hi2, e, ?_, ?_, ?_⟩
   ·rcases ho2 with h | h
    ·exact .inl (by simp [h])
    ·have : i2 = i := by simp only [Prod.mk.injEq] at h; omega
     subst this
     rcases ho with rfl | h
     ·exact .inl (by simp)
     ·exact .inr h
   ·intro y hy
    rcases List.mem_cons.1 hy with rfl | hy
    ·omega
    ·exact hle2 y hy
   ·rcases hc2 with h | ⟨j, h, hj⟩
    ·exact .inl h
    ·exact .inr ⟨j, h, by omega⟩
theorem best_some {C U : List Nat} (hC : prC C) (hU : setOk U) {n : Nat} (hn : hasS U n = true) (hb : ∀ i, i < n → hasS U i = false) : bestC C U = (8192 + (n : Int), 160, 1, true) := by
 have hn5 := hasS_lt hU hn
 have hmem := (bitsU_mem hU (n : Int)).2 ⟨n, hn5, rfl, hn⟩
 unfold bestC
 rcases best_fold hC (bitsU U) (0, 0, 0, false) (bitsU_lt hU) (.inl rfl) with ⟨e, _⟩ | ⟨i, hi, e, ho, hle, _⟩
 ·rw [e] at hmem; cases hmem
 ·rw [e]
  have h1 := hle _ hmem
  rcases ho with ho | ho
  ·obtain ⟨i', _, he, h9⟩ := (bitsU_mem hU (i : Int)).1 ho
   obtain rfl : i = i' := by omega
   by_cases e2 : i = n
   ·rw [e2]
   ·rw [hb i (by omega)] at h9; cases h9
  ·simp at ho
variable {T nc : Nat}
structure MT (T nc : Nat) (B : List Nat) (dm : Nat → Bool) (ev : Nat → Nat → Option (Nat × Nat)) : Prop where
 len : okT T B.length
 prop : prB B
 lead : ∀ k, k < 4 → rdN B (1024 + 8 * k) 8 = 2 ^ 63 + 1280 + 64 * k
 coll : ∀ k, k < nc → rdN B (1792 + 8 * k) 8 = 2 ^ 63 + k
 dev : ∀ d, d < 32 → rdN B (1280 + 8 * d) 8 = if dm d then devN 3 (2048 + 256 * d) else 0
 evt : ∀ d e, d < 32 → e < 16 → dm d = true → match ev d e with
  | some (n, c) => n < 512 ∧ c < nc ∧ rdN B (2048 + 256 * d + 8 * e) 8 = routeN c (8192 + n)
  | none => rdN B (2048 + 256 * d + 8 * e) 8 = 0
 non : ∀ d e, d < 32 → e < 16 → dm d = false → ev d e = none
section
variable {B : List Nat} {dm : Nat → Bool} {ev : Nat → Nat → Option (Nat × Nat)}
theorem acc_8 {n a s o : Nat} (hn : n ≤ 1000000) (h1 : a + s ≤ n) (h2 : o + 8 ≤ s) (h3 : o % 8 = 0) : accV n (a : Int) (s : Int) (o : Int) 8 = 0 := by
 unfold accV holdsV mayV
 rw [if_pos (by simp; omega), if_neg (by simp), if_neg (by rw [Int.tmod_eq_emod_of_nonneg (by omega)]; omega), wrap_id (by omega) (by omega), if_neg (by omega)]
theorem mem_8 {a s o : Nat} (hn : B.length ≤ 1000000) (h1 : a + s ≤ B.length) (h2 : o + 8 ≤ s) (h3 : o % 8 = 0) : memRd B (a : Int) (s : Int) (o : Int) 8 = (rdN B (a + o) 8, 0) := by
 unfold memRd
 rw [acc_8 hn h1 h2 h3, if_pos rfl]
 congr 2
theorem mwr_8 {a s o : Nat} (hn : B.length ≤ 1000000) (h1 : a + s ≤ B.length) (h2 : o + 8 ≤ s) (h3 : o % 8 = 0) (v : Nat) : memWr B (a : Int) (s : Int) (o : Int) 8 v = (wrN B (a + o) 8 v, 0) := by
 unfold memWr
 rw [acc_8 hn h1 h2 h3, if_pos rfl]
 congr 2
theorem ent_8 {n a s k : Nat} (hn : n ≤ 1000000) (h1 : a + s ≤ n) (h2 : k * 8 + 8 ≤ s) : entA n (a : Int) (s : Int) (k : Int) = some (a + 8 * k) := by
 unfold entA fairV holdsV
 rw [if_pos (by simp; omega)]
 congr 1; omega
theorem slot_ld (hl : okT T B.length) (lead : ∀ k, k < 4 → rdN B (1024 + 8 * k) 8 = 2 ^ 63 + 1280 + 64 * k) {d : Nat} (hd : d < 32) : slotA B 1024 256 64 (d : Int) = some (1280 + 8 * d) := by
 have h1 := lead (d / 8) (by omega)
 have hr := mem_8 (B := B) (a := 1024) (s := 256) (o := d / 8 * 8) (by omega) (by omega) (by omega) (by omega)
 rw [show 1024 + d / 8 * 8 = 1024 + 8 * (d / 8) by omega, h1] at hr
 unfold slotA
 rw [if_neg (by omega), if_neg (by omega), show ((d : Int) / 8 * 8) = ((d / 8 * 8 : Nat) : Int) by omega]
 rw [show (1024 : Int) = ((1024 : Nat) : Int) by rfl, show (256 : Int) = ((256 : Nat) : Int) by rfl, hr]
 simp only
 rw [if_pos ⟨trivial, by omega⟩]
 rw [show (2 ^ 63 + 1280 + 64 * (d / 8)) % 2 ^ 32 = 1280 + 64 * (d / 8) by omega, show ((d : Int) % 8) = ((d % 8 : Nat) : Int) by omega]
 rw [show (64 : Int) = ((64 : Nat) : Int) by rfl, ent_8 (by omega) (by omega) (by omega)]
 congr 1; omega
theorem MT.slot (h : MT T nc B dm ev) {d : Nat} (hd : d < 32) : slotA B 1024 256 64 (d : Int) = some (1280 + 8 * d) := slot_ld h.len h.lead hd
theorem devV_3 {d : Nat} (hd : d < 32) : devV (devN 3 (2048 + 256 * d)) = (true, 3, ((2048 + 256 * d : Nat) : Int)) := by
 unfold devV devN
 rw [if_neg (by omega)]
 congr 2
 ·have : (2 ^ 63 + 3 + (2048 + 256 * d)) % 2 ^ 5 = 3 := by omega
  rw [this]; rfl
 ·congr 1; omega
theorem MT.tab (h : MT T nc B dm ev) {d : Nat} (hd : d < 32) : tabGet B 1024 256 64 (d : Int) = (if dm d then (true, 3, ((2048 + 256 * d : Nat) : Int)) else (false, 0, 0), 0) := by
 unfold tabGet
 rw [h.slot hd]
 simp only
 rw [h.dev d hd]
 cases dm d with
 | true => rw [if_pos rfl, if_pos rfl, devV_3 hd]
 | false => rfl
theorem MT.device (h : MT T nc B dm ev) {d : Nat} (hd : d < 32) (hm : dm d = true) : deviceV B 64 (d : Int) = ((true, 3, ((2048 + 256 * d : Nat) : Int)), 0) := by
 unfold deviceV
 rw [h.tab hd, hm]; rfl
theorem evA_3 {n d e : Nat} (hn : n ≤ 1000000) (hl : 11264 ≤ n) (hd : d < 32) (he : e < 16) : evA n (true, 3, ((2048 + 256 * d : Nat) : Int)) (e : Int) = (some (2048 + 256 * d + 8 * e), 0) := by
 unfold evA
 have h16 : evN 3 = 16 := rfl
 simp only
 rw [if_neg (by rw [h16]; simp; omega), if_pos (by unfold holdsV; simp; omega)]
 congr 2; omega
theorem MT.rt (h : MT T nc B dm ev) {d e : Nat} (hd : d < 32) (he : e < 16) : devRt B (true, 3, ((2048 + 256 * d : Nat) : Int)) (e : Int) = (routeV (rdN B (2048 + 256 * d + 8 * e) 8), 0) := by
 have hl := h.len
 unfold devRt
 rw [evA_3 (by omega) (by omega) hd he]
theorem routeV_0 : routeV 0 = (0, 0, false) := rfl
theorem routeV_N {c n : Nat} (hc : c < 65536) (hn : n < 4294967296) : routeV (routeN (c : Int) (n : Int)) = ((n : Int), (c : Int), true) := by
 unfold routeV routeN
 rw [Int.toNat_natCast, Int.toNat_natCast, if_neg (by omega)]
 have h1 : (2 ^ 63 + c * 2 ^ 32 + n) % 2 ^ 32 = n := by omega
 have h2 : (2 ^ 63 + c * 2 ^ 32 + n) / 2 ^ 32 % 2 ^ 16 = c := by omega
 rw [h1, h2]
theorem MT.rt_some (h : MT T nc B dm ev) (h8 : nc ≤ 8) {d e n c : Nat} (hd : d < 32) (he : e < 16) (hv : ev d e = some (n, c)) :
  dm d = true ∧ n < 512 ∧ c < nc ∧ devRt B (true, 3, ((2048 + 256 * d : Nat) : Int)) (e : Int) = ((8192 + (n : Int), (c : Int), true), 0) := by
 have hm : dm d = true := by
  cases hm : dm d with
  | true => rfl
  | false => rw [h.non d e hd he hm] at hv; cases hv
 have h1 := h.evt d e hd he hm
 rw [hv] at h1
 obtain ⟨h1, h2, h3⟩ := h1
 refine ⟨hm, h1, h2, ?_⟩
 rw [h.rt hd he, h3, show ((8192 : Int) + n) = ((8192 + n : Nat) : Int) by omega, routeV_N (by omega) (by omega)]
theorem MT.rt_none (h : MT T nc B dm ev) {d e : Nat} (hd : d < 32) (he : e < 16) (hm : dm d = true) (hv : ev d e = none) : devRt B (true, 3, ((2048 + 256 * d : Nat) : Int)) (e : Int) = ((0, 0, false), 0) := by
 have h1 := h.evt d e hd he hm
 rw [hv] at h1
 rw [h.rt hd he, h1, routeV_0]
theorem MT.event (h : MT T nc B dm ev) (h8 : nc ≤ 8) {d e n c : Nat} (hd : d < 32) (he : e < 16) (hv : ev d e = some (n, c)) : eventV B 64 (d : Int) (e : Int) = ((8192 + (n : Int), (c : Int), true), 0) := by
 obtain ⟨hm, h1, h2, h3⟩ := h.rt_some h8 hd he hv
 unfold eventV
 rw [h.device hd hm]
 simp only [ne_eq, not_true, if_false]
 rw [h3]; simp
theorem MT.tg (h : MT T nc B dm ev) (h8 : nc ≤ 8) {c : Nat} (hc : c < nc) : targetV B 1792 64 (c : Int) = ((c : Int), true, 0) := by
 have hl := h.len
 have hr := mem_8 (B := B) (a := 1792) (s := 64) (o := 8 * c) (by omega) (by omega) (by omega) (by omega)
 rw [h.coll c hc] at hr
 unfold targetV
 rw [if_neg (by omega), show ((c : Int) * 8) = ((8 * c : Nat) : Int) by omega, show (1792 : Int) = ((1792 : Nat) : Int) by rfl, show (64 : Int) = ((64 : Nat) : Int) by rfl, hr]
 simp only [ne_eq, not_true, if_false]
 rw [if_neg (by omega)]
 congr 1; omega
theorem MT.side (h : MT T nc B dm ev) (h8 : nc ≤ 8) {c : Nat} (hc : c < nc) : sideV nc B (c : Int) = (some c, 0) := by
 unfold sideV targetW
 rw [h.tg h8 hc]
 simp; omega
theorem MT.ks (h : MT T nc B dm ev) {S : Nat → Prop} {B' : List Nat} (ks : KS S B B') (hs : ∀ a, 1024 ≤ a → a < 10752 → S a) (h8 : nc ≤ 8) : MT T nc B' dm ev := by
 have rd : ∀ a w, 1024 ≤ a → a + w ≤ 10752 → rdN B' a w = rdN B a w := fun a w h1 h2 => ks.rd fun i h3 h4 => hs i (by omega) (by omega)
 refine ⟨by rw [ks.1]; exact h.len, h.prop.ks ks fun a h1 h2 => hs a (by omega) h2, fun k hk => ?_, fun k hk => ?_, fun d hd => ?_, fun d e hd he hm => ?_, h.non⟩
 ·rw [rd _ _ (by omega) (by omega)]; exact h.lead k hk
 ·rw [rd _ _ (by omega) (by omega)]; exact h.coll k hk
 ·rw [rd _ _ (by omega) (by omega)]; exact h.dev d hd
 ·rw [rd _ _ (by omega) (by omega)]; exact h.evt d e hd he hm
theorem MT.wev (h : MT T nc B dm ev) {d e : Nat} (hd : d < 32) (he : e < 16) (hm : dm d = true) {v : Nat} {o : Option (Nat × Nat)} (ho : match o with
  | some (n, c) => n < 512 ∧ c < nc ∧ v = routeN c (8192 + n)
  | none => v = 0) (h8 : nc ≤ 8) : MT T nc (wrN B (2048 + 256 * d + 8 * e) 8 v) dm (fun a b => if a = d ∧ b = e then o else ev a b) := by
 have hl := h.len
 have hb : 2048 + 256 * d + 8 * e + 8 ≤ B.length := by omega
 have rd : ∀ a w, (a + w ≤ 2048 + 256 * d + 8 * e ∨ 2048 + 256 * d + 8 * e + 8 ≤ a) → rdN (wrN B (2048 + 256 * d + 8 * e) 8 v) a w = rdN B a w := fun a w h1 => rd_apart _ hb (by omega)
 refine ⟨by rw [wrN_len _ hb]; exact hl, fun i hi => ?_, fun k hk => ?_, fun k hk => ?_, fun d' hd' => ?_, fun d' e' hd' he' hm' => ?_, fun d' e' hd' he' hm' => ?_⟩
 ·rw [rd _ _ (by omega)]; exact h.prop i hi
 ·rw [rd _ _ (by omega)]; exact h.lead k hk
 ·rw [rd _ _ (by omega)]; exact h.coll k hk
 ·rw [rd _ _ (by omega)]; exact h.dev d' hd'
 ·by_cases e1 : d' = d ∧ e' = e
  ·obtain ⟨rfl, rfl⟩ := e1
   simp only [and_self, if_true]
   rw [rd_wr _ hb, show (256 : Nat) ^ 8 = 2 ^ 64 by decide]
   cases o with
   | none => simp only at ho ⊢; subst ho; rfl
   | some x =>
    obtain ⟨n, c⟩ := x
    simp only at ho ⊢
    obtain ⟨h1, h2, h3⟩ := ho
    refine ⟨h1, h2, ?_⟩
    rw [h3]
    apply Nat.mod_eq_of_lt
    unfold routeN
    omega
  ·simp only [e1, if_false]
   rw [rd _ _ (by omega)]; exact h.evt d' e' hd' he' hm'
 ·by_cases e1 : d' = d ∧ e' = e
  ·obtain ⟨rfl, rfl⟩ := e1
   rw [hm] at hm'; cases hm'
  ·simp only [e1, if_false]; exact h.non d' e' hd' he' hm'
theorem MT.map (h : MT T nc B dm ev) {d : Nat} (hd : d < 32) (hm : dm d = false) (h8 : nc ≤ 8) :
  MT T nc (wrN (wipeN B (2048 + 256 * d) 128) (1280 + 8 * d) 8 (devN 3 (2048 + 256 * d))) (fun a => if a = d then true else dm a) ev ∧ KS (fun a => a < 1024 ∨ 10240 ≤ a) B (wrN (wipeN B (2048 + 256 * d) 128) (1280 + 8 * d) 8 (devN 3 (2048 + 256 * d))) := by
 have hl := h.len
 have h1 : 2048 + 256 * d + 128 ≤ B.length := by omega
 have hk := KS.wipe h1
 have hl2 := wipe_len h1
 have h2 : 1280 + 8 * d + 8 ≤ (wipeN B (2048 + 256 * d) 128).length := by omega
 have hk2 := KS.wr (v := devN 3 (2048 + 256 * d)) h2
 have hk3 : KS (fun a => (a < 2048 + 256 * d ∨ 2048 + 256 * d + 128 ≤ a) ∧ (a < 1280 + 8 * d ∨ 1280 + 8 * d + 8 ≤ a)) B _ := (hk.mono fun i hi => hi.1).trans (hk2.mono fun i hi => hi.2)
 refine ⟨⟨by rw [hk3.1]; exact hl, fun i hi => ?_, fun k hk => ?_, fun k hk => ?_, fun d' hd' => ?_, fun d' e' hd' he' hm' => ?_, fun d' e' hd' he' hm' => ?_⟩, hk3.mono fun i hi => by omega⟩
 ·rw [hk3.rd fun i h3 h4 => by omega]; exact h.prop i hi
 ·rw [hk3.rd fun i h3 h4 => by omega]; exact h.lead k hk
 ·rw [hk3.rd fun i h3 h4 => by omega]; exact h.coll k hk
 ·by_cases e : d' = d
  ·subst e
   rw [if_pos rfl, if_pos rfl, rd_wr _ h2]
   apply Nat.mod_eq_of_lt
   rw [show (256 : Nat) ^ 8 = 2 ^ 64 by decide]
   unfold devN; omega
  ·rw [if_neg e, hk3.rd fun i h3 h4 => by omega]; exact h.dev d' hd'
 ·by_cases e : d' = d
  ·subst e
   rw [h.non d' e' hd' he' hm]
   simp only
   rw [hk2.rd fun i h3 h4 => by omega]
   exact rd_wipe h1 (by omega) (by omega)
  ·rw [if_neg e] at hm'
   rw [hk3.rd fun i h3 h4 => by omega]; exact h.evt d' e' hd' he' hm'
 ·by_cases e : d' = d
  ·rw [if_pos e] at hm'; cases hm'
  ·rw [if_neg e] at hm'; exact h.non d' e' hd' he' hm'
end
theorem encL_some {c : Cm} (h : ∀ g, g < 8 → ((partV' c.1 g).2 = false → getF c g = 0) ∧ 0 ≤ getF c g ∧ getF c g < ((2 ^ (partV' c.1 g).1.2.2 : Nat) : Int)) : ∀ f, f ≤ 8 → ∃ W, encL c f = some W
 | 0, _ => ⟨_, rfl⟩
 | f + 1, hf => by
  obtain ⟨W, hW⟩ := encL_some h f (by omega)
  obtain ⟨h1, h2, h3⟩ := h f (by omega)
  unfold encL
  rw [hW]
  simp only
  unfold encS
  rw [if_neg (by
   rintro (⟨a, b⟩ | a | a)
   ·exact b (h1 a)
   ·omega
   ·omega)]
  exact ⟨_, rfl⟩
theorem enc_ok {c : Cm} (hk : knownV c.1 = true) (ha : c.2.2.2.2.2.2.2.1 % 256 = 0) (h : ∀ g, g < 8 → ((partV' c.1 g).2 = false → getF c g = 0) ∧ 0 ≤ getF c g ∧ getF c g < ((2 ^ (partV' c.1 g).1.2.2 : Nat) : Int)) : (encV c).2 = 0 := by
 obtain ⟨W, hW⟩ := encL_some h 8 (Nat.le_refl _)
 unfold encV
 rw [if_pos ⟨hk, ha⟩, hW]
theorem lt8 {P : Nat → Prop} (h0 : P 0) (h1 : P 1) (h2 : P 2) (h3 : P 3) (h4 : P 4) (h5 : P 5) (h6 : P 6) (h7 : P 7) : ∀ g, g < 8 → P g
 | 0, _ => h0
 | 1, _ => h1
 | 2, _ => h2
 | 3, _ => h3
 | 4, _ => h4
 | 5, _ => h5
 | 6, _ => h6
 | 7, _ => h7
 | n + 8, h => absurd h (by omega)
theorem enc_movi {d e c : Nat} (hd : d < 32) (he : e < 16) (hc : c < 8) : (encV (cmMovi d e c)).2 = 0 := by
 refine enc_ok rfl rfl (lt8 ?_ ?_ ?_ ?_ ?_ ?_ ?_ ?_) <;> simp [cmMovi, partV', getF] <;> omega
theorem enc_mapti {d e n c : Nat} (hd : d < 32) (he : e < 16) (hn : n < 512) (hc : c < 8) : (encV (cmMapti d e (8192 + (n : Int)) c)).2 = 0 := by
 refine enc_ok rfl rfl (lt8 ?_ ?_ ?_ ?_ ?_ ?_ ?_ ?_) <;> simp [cmMapti, partV', getF] <;> omega
theorem enc_mapd {d : Nat} (hd : d < 32) : (encV (cmMapd d)).2 = 0 := by
 refine enc_ok rfl (by simp [cmMapd]) (lt8 ?_ ?_ ?_ ?_ ?_ ?_ ?_ ?_) <;> simp [cmMapd, partV', getF] <;> omega
theorem enc_disc {d e : Nat} (hd : d < 32) (he : e < 16) : (encV (cmDisc d e)).2 = 0 := by
 refine enc_ok rfl rfl (lt8 ?_ ?_ ?_ ?_ ?_ ?_ ?_ ?_) <;> simp [cmDisc, partV', getF] <;> omega
theorem enc_mapc {k : Nat} (hk : k < 8) : (encV (cmMapc k)).2 = 0 := by
 refine enc_ok rfl rfl (lt8 ?_ ?_ ?_ ?_ ?_ ?_ ?_ ?_) <;> simp [cmMapc, partV', getF] <;> omega
theorem cmd_run {x : IW} {j : Nat} (hB : okT T x.w.B.length) (hj : j < 32) (hi : x.i = j) (hst : x.st = false) {c : Cm} (he : (encV c).2 = 0) (hd : (doV 64 ⟨stW x.w.B j (encV c).1 4, x.w.cs⟩ c).2 = 0) :
  cmdV j x c = (⟨(doV 64 ⟨stW x.w.B j (encV c).1 4, x.w.cs⟩ c).1, false, (j + 1) % 32⟩, (j + 1) % 32, 0) := by
 have hp : putV x.w.B x.i j c = (stW x.w.B j (encV c).1 4, (j + 1) % 32, 0) := by
  unfold putV
  rw [hi, if_neg (by unfold lefN; omega), if_pos he]
 have hh : headV (stW x.w.B j (encV c).1 4) j ((j + 1) % 32) = (c, 0) := by
  unfold headV
  rw [if_neg (by unfold lefN; omega), stW_ld hB hj, dec_enc he]
 have hs : stepV 64 true ((j + 1) % 32) ⟨⟨stW x.w.B j (encV c).1 4, x.w.cs⟩, false, j⟩ = (⟨(doV 64 ⟨stW x.w.B j (encV c).1 4, x.w.cs⟩ c).1, false, (j + 1) % 32⟩, c, 0) := by
  unfold stepV
  simp only [hh]
  rw [if_neg (by simp), if_neg (by simp), if_neg (by simp), if_neg (by simp), if_neg (by simp [hd])]
  have : nxI j ((j + 1) % 32) = (j + 1) % 32 := by unfold nxI; rw [if_neg (by unfold lefN; omega)]
  rw [this]
 have hr : runV 64 true ((j + 1) % 32) 1 0 ⟨⟨stW x.w.B j (encV c).1 4, x.w.cs⟩, false, j⟩ = (⟨(doV 64 ⟨stW x.w.B j (encV c).1 4, x.w.cs⟩ c).1, false, (j + 1) % 32⟩, 1, 0) := by
  rw [runV_s, hs]
  simp only
  rw [if_neg (by simp), if_neg (by simp)]
  rfl
 unfold cmdV
 rw [hp]
 simp only [hi, hst, hr]
 simp
end Go.Proofs.YtakkogdmlbkdaaaGreatDoor.Sl.It
namespace Go.Proofs.YtakkogdmlbkdaaaGreatDoor.Sl.It
attribute [local irreducible] invK enK enV waitL
variable {T nc : Nat}
theorem KS.drop_ {S : Nat → Prop} {B B' : List Nat} (h : KS S B B') {n : Nat} (hs : ∀ i, n ≤ i → S i) : B'.drop n = B.drop n := by
 apply List.ext_getElem?
 intro k
 rw [List.getElem?_drop, List.getElem?_drop, h.2 _ (hs _ (by omega))]
structure WR (T nc : Nat) (w : SW) (on : Nat → Bool) (m : Nat → Nat → Bool) (dm : Nat → Bool) (ev : Nat → Nat → Option (Nat × Nat)) (Z : List Nat) : Prop where
 ok : w.ok T nc
 n8 : nc ≤ 8
 mt : MT T nc w.B dm ev
 wt : ∀ k, k < nc → WtK w k (on k) (m k)
 cf : ∀ k, k < nc → prC (w.at_ k).C
 zz : w.B.drop 11264 = Z
section
variable {w : SW} {on : Nat → Bool} {m : Nat → Nat → Bool} {dm : Nat → Bool} {ev : Nat → Nat → Option (Nat × Nat)} {Z : List Nat}
theorem WR.newB (h : WR T nc w on m dm ev Z) {B' : List Nat} (ks : KS (fun a => 10752 ≤ a) w.B B') (hb : byOk B') {dm' : Nat → Bool} {ev' : Nat → Nat → Option (Nat × Nat)} (mt : MT T nc B' dm' ev') : WR T nc ⟨B', w.cs⟩ on m dm' ev' Z :=
 ⟨⟨mt.len, hb, h.ok.2.2⟩, h.n8, mt, fun k hk => WtK.congr (w' := ⟨B', w.cs⟩) (h.wt k hk) rfl rfl (ks.mono fun a ha => by omega) (ok_at h.ok hk).2.2, h.cf, by rw [← h.zz]; exact ks.drop_ fun i hi => by omega⟩
theorem WR.queue (h : WR T nc w on m dm ev Z) {j : Nat} (hj : j < 32) (E : List Nat) : WR T nc ⟨stW w.B j E 4, w.cs⟩ on m dm ev Z := by
 have ks := stW_ks h.ok.1 hj E (k := 4) (Nat.le_refl _)
 exact h.newB (ks.mono fun i hi => by omega) (stW_ok h.ok.2.1) (h.mt.ks ks (fun a h1 h2 => by omega) h.n8)
theorem WR.set (h : WR T nc w on m dm ev Z) {k n : Nat} (hk : k < nc) (hn : n < 512) (v : Bool) : WR T nc (w.set k (8192 + (n : Int)) v) on (fun j i => if j = k ∧ i = n then v else m j i) dm ev Z := by
 have ks := set_ks h.ok hk hn v
 refine ⟨SW.set_ok h.ok hk (by omega) v, h.n8, h.mt.ks ks (fun a h1 h2 => by omega) h.n8, fun j hj => wt_set h.ok hk hn v hj (h.wt j hj), fun j hj => ?_, ?_⟩
 ·rw [set_C h.ok hk]; exact h.cf j hj
 ·rw [← h.zz]; exact ks.drop_ fun i hi => by omega
theorem WR.congr (h : WR T nc w on m dm ev Z) {on' : Nat → Bool} {m' : Nat → Nat → Bool} (h1 : ∀ k, k < nc → on' k = on k) (h2 : ∀ k n, k < nc → n < 512 → m' k n = m k n) : WR T nc w on' m' dm ev Z :=
 ⟨h.ok, h.n8, h.mt, fun k hk => by
  obtain ⟨a, b⟩ := h.wt k hk
  refine ⟨by rw [h1 k hk]; exact a, fun i hi => ?_⟩
  rw [h1 k hk, h2 k i hk hi]; exact b i hi, h.cf, h.zz⟩
theorem WR.evc (h : WR T nc w on m dm ev Z) {ev' : Nat → Nat → Option (Nat × Nat)} (h1 : ∀ d e, d < 32 → e < 16 → ev' d e = ev d e) : WR T nc w on m dm ev' Z := by
 obtain ⟨h2, h3, h4, h5, h6, h7⟩ := h
 refine ⟨h2, h3, ⟨h4.len, h4.prop, h4.lead, h4.coll, h4.dev, fun d e hd he hm => ?_, fun d e hd he hm => ?_⟩, h5, h6, h7⟩
 ·rw [h1 d e hd he]; exact h4.evt d e hd he hm
 ·rw [h1 d e hd he]; exact h4.non d e hd he hm
theorem wt_disA {w : SW} (hw : w.ok T nc) {k : Nat} (hk : k < nc) {o : Bool} {m : Nat → Bool} (h : WtK w k o m) : WtK (w.dis k) k false m := by
 have hlen : k < w.cs.length := by rw [hw.2.2.1]; exact hk
 obtain ⟨hU, _, hk8⟩ := ok_at hw hk
 obtain ⟨_, _, h5, h6⟩ := dis_fold (T := T) hk8 (xs := bitsU (w.at_ k).U) (s := ((w.at_ k).U, w.B)) (bitsU_lt hU) hw.1
 refine ⟨by unfold SW.dis; rw [at_set hlen, if_pos rfl], fun i hi => ?_⟩
 have hm : decide ((i : Int) ∈ bitsU (w.at_ k).U) = (o && m i) := by
  rw [← (h.2 i hi).1, Bool.eq_iff_iff, decide_eq_true_iff, bitsU_mem hU]
  constructor
  ·rintro ⟨i', _, e, h9⟩; obtain rfl : i = i' := by omega
   exact h9
  ·intro h9; exact ⟨i, hi, rfl, h9⟩
 unfold SW.dis
 rw [at_set hlen, if_pos rfl]
 simp only
 refine ⟨?_, ?_⟩
 ·have := h5 i
  simp only [hm, (h.2 i hi).1] at this
  show hasS (disV k (w.at_ k).U w.B).1 i = _
  unfold disV
  rw [this]; cases m i <;> cases o <;> rfl
 ·have := h6 k i hk8 hi
  simp only [hm, (h.2 i hi).2] at this
  show bitP (disV k (w.at_ k).U w.B).2 k i = _
  unfold disV
  rw [this]; cases o <;> simp
theorem WR.dis (h : WR T nc w on m dm ev Z) {k : Nat} (hk : k < nc) : WR T nc (w.dis k) (fun j => if j = k then false else on j) m dm ev Z := by
 have ks := dis_ks h.ok hk
 refine ⟨SW.dis_ok h.ok hk, h.n8, h.mt.ks ks (fun a h1 h2 => by omega) h.n8, fun j hj => ?_, fun j hj => ?_, ?_⟩
 ·by_cases e : j = k
  ·subst e; rw [if_pos rfl]; exact wt_disA h.ok hk (h.wt j hj)
  ·rw [if_neg e]; exact wt_dis_ne h.ok hk hj e (h.wt j hj)
 ·rw [dis_C h.ok hk]; exact h.cf j hj
 ·rw [← h.zz]; exact ks.drop_ fun i hi => by omega
theorem WR.en (h : WR T nc w on m dm ev Z) {k : Nat} (hk : k < nc) : WR T nc (w.en k) (fun j => if j = k then true else on j) m dm ev Z := by
 obtain ⟨ks, h2, h3, h4, h5⟩ := en_spec h.ok hk h.mt.prop (fun _ => h.cf k hk)
 refine ⟨SW.en_ok h.ok hk, h.n8, h.mt.ks ks (fun a h1 h2 => by omega) h.n8, fun j hj => ?_, fun j hj => ?_, ?_⟩
 ·by_cases e : j = k
  ·subst e; rw [if_pos rfl]; exact h4 _ _ (h.wt j hj)
  ·rw [if_neg e]; exact h5 j _ _ hj e (h.wt j hj)
 ·by_cases e : j = k
  ·rw [e]; exact h2
  ·rw [h3 j e]; exact h.cf j hj
 ·rw [← h.zz]; exact ks.drop_ fun i hi => by omega
theorem inv_at {w : SW} (hw : w.ok T nc) {k : Nat} (hk : k < nc) (n : Int) (j : Nat) : ((w.inv k n).at_ j).on = (w.at_ j).on ∧ ((w.inv k n).at_ j).U = (w.at_ j).U := by
 have hlen : k < w.cs.length := by rw [hw.2.2.1]; exact hk
 unfold SW.inv
 rw [at_set hlen]
 split
 ·rename_i e; rw [e]; exact ⟨rfl, rfl⟩
 ·exact ⟨rfl, rfl⟩
theorem WR.inv (h : WR T nc w on m dm ev Z) {k n : Nat} (hk : k < nc) (hn : n < 512) : WR T nc (w.inv k (8192 + (n : Int))) on m dm ev Z := by
 have hlen : k < w.cs.length := by rw [h.ok.2.2.1]; exact hk
 refine ⟨SW.inv_ok h.ok hk _, h.n8, h.mt, fun j hj => WtK.congr (h.wt j hj) (inv_at h.ok hk _ j).1 (inv_at h.ok hk _ j).2 (KS.refl _ _) (ok_at h.ok hj).2.2, fun j hj => ?_, h.zz⟩
 unfold SW.inv
 rw [at_set hlen]
 split
 ·rename_i e
  subst e
  intro i hi
  obtain ⟨hx, he⟩ := idx_n hn
  unfold invV
  rw [hx, if_pos rfl, he, getD_set (by rw [(ok_at h.ok hk).2.1]; exact hn)]
  split
  ·exact h.mt.prop n hn
  ·exact h.cf j hj i hi
 ·exact h.cf j hj
theorem WR.move (h : WR T nc w on m dm ev Z) {a t n : Nat} (ha : a < nc) (ht : t < nc) (hn : n < 512) (hu : ∀ j, j < nc → j ≠ a → m j n = false) : WR T nc (w.move (8192 + (n : Int)) a t) on (fun j i => if i = n then (j == t && m a n) else m j i) dm ev Z := by
 have hh := (h.wt a ha).has hn
 unfold SW.move SW.moves
 rw [(idx_n hn).1, hh, Bool.and_true]
 by_cases e : a = t
 ·subst e
  rw [if_neg (by simp)]
  refine h.congr (fun _ _ => rfl) fun j i hj hi => ?_
  by_cases e2 : i = n
  ·subst e2
   rw [if_pos rfl]
   by_cases e3 : j = a
   ·subst e3; simp
   ·rw [hu j hj e3]; simp [e3]
  ·rw [if_neg e2]
 ·cases hm : m a n with
  | false =>
   rw [if_neg (by simp)]
   refine h.congr (fun _ _ => rfl) fun j i hj hi => ?_
   by_cases e2 : i = n
   ·subst e2
    rw [if_pos rfl, Bool.and_false]
    by_cases e3 : j = a
    ·subst e3; rw [hm]
    ·rw [hu j hj e3]
   ·rw [if_neg e2]
  | true =>
   rw [if_pos (by simp [e])]
   refine ((h.set ha hn false).set ht hn true).congr (fun _ _ => rfl) fun j i hj hi => ?_
   by_cases e2 : i = n
   ·subst e2
    simp only [and_true, if_true, Bool.and_true]
    by_cases e3 : j = t
    ·rw [if_pos e3]; simp [e3]
    ·rw [if_neg e3]
     by_cases e4 : j = a
     ·rw [if_pos e4]; simp [e3]
     ·rw [if_neg e4, hu j hj e4]; simp [e3]
   ·rw [if_neg e2, if_neg (by omega), if_neg (by omega)]
theorem WR.mapd (h : WR T nc w on m dm ev Z) {d : Nat} (hd : d < 32) (hm : dm d = false) :
  (doV 64 w (cmMapd d)).2 = 0 ∧ WR T nc (doV 64 w (cmMapd d)).1 on m (fun a => if a = d then true else dm a) ev Z := by
 obtain ⟨h1, h2⟩ := h.mt.map hd hm h.n8
 have hl := h.ok.1
 have ht := h.mt.tab hd
 rw [hm] at ht
 have h128 : (8 * evN 3).toNat = 128 := rfl
 have hbad : badW w.B.length true 3 (2048 + 256 * (d : Int)) = false := by
  have h8 : (8 * evN 3) = 128 := rfl
  unfold badW holdsV meetV fairV
  rw [h8]
  simp only [Bool.true_and, Bool.or_eq_false_iff, Bool.not_eq_false', Bool.and_eq_true, decide_eq_true_eq, Bool.and_eq_false_iff, decide_eq_false_iff_not]
  refine ⟨by omega, .inr (.inr ?_), .inr (.inr ?_), .inr (.inr ?_)⟩
  ·rw [if_neg (by omega)]; omega
  ·rw [if_neg (by omega)]; omega
  ·rw [if_neg (by omega)]; omega
 have hw1 : 2048 + 256 * d + 128 ≤ w.B.length := by omega
 have hs : slotA (wipeN w.B (2048 + 256 * d) 128) 1024 256 64 (d : Int) = some (1280 + 8 * d) :=
  slot_ld (T := T) (by rw [wipe_len hw1]; exact hl) (fun k hk => by rw [(KS.wipe hw1).rd fun i h3 h4 => by omega]; exact h.mt.lead k hk) hd
 have hdo : doV 64 w (cmMapd d) = (⟨wrN (wipeN w.B (2048 + 256 * d) 128) (1280 + 8 * d) 8 (devN 3 (2048 + 256 * d)), w.cs⟩, 0) := by
  unfold doV
  rw [if_neg (by rw [enc_mapd hd]; simp)]
  rw [show (cmMapd (d : Int)).1 = 8 from rfl, if_pos rfl]
  unfold mapdV cmMapd
  simp only
  rw [ht]
  simp only [if_false, ne_eq, not_true]
  rw [hbad, if_neg (by simp)]
  have hfg : fgA (false, 0, 0) w = w := rfl
  simp only [Bool.false_eq_true, if_false]
  rw [hfg]
  unfold wpV
  rw [if_pos rfl, h128, show (2048 + 256 * (d : Int)).toNat = 2048 + 256 * d by omega]
  unfold tabPut
  rw [hs]
  simp only [if_true]
  rw [show (2048 + 256 * (d : Int)).toNat = 2048 + 256 * d by omega]
  rfl
 rw [hdo]
 refine ⟨rfl, h.newB (h2.mono fun a ha => by omega) ?_ h1⟩
 exact wrN_ok _ _ _ (wipe_ok h.ok.2.1)
theorem WR.mapti (h : WR T nc w on m dm ev Z) {d e n c : Nat} (hd : d < 32) (he : e < 16) (hn : n < 512) (hc : c < nc) (hm : dm d = true) (hv : ev d e = none) :
  (doV 64 w (cmMapti d e (8192 + (n : Int)) c)).2 = 0 ∧ WR T nc (doV 64 w (cmMapti d e (8192 + (n : Int)) c)).1 on m dm (fun a b => if a = d ∧ b = e then some (n, c) else ev a b) Z := by
 have h8 := h.n8
 have hl := h.ok.1
 have hdv := h.mt.device hd hm
 have hrt := h.mt.rt_none hd he hm hv
 have htg := h.mt.tg h8 hc
 have hsd := h.mt.side h8 hc
 have hcl := h.ok.2.2.1
 have hdo : doV 64 w (cmMapti d e (8192 + (n : Int)) c) = (⟨wrN w.B (2048 + 256 * d + 8 * e) 8 (routeN c (8192 + n)), (w.inv c (8192 + (n : Int))).cs⟩, 0) := by
  unfold doV
  rw [if_neg (by rw [enc_mapti hd he hn (by omega)]; simp)]
  rw [show (cmMapti (d : Int) e (8192 + (n : Int)) c).1 = 10 from rfl, if_neg (by decide), if_neg (by decide), if_pos rfl]
  unfold maptiV cmMapti
  simp only
  rw [hdv]
  simp only [ne_eq, not_true, if_false]
  rw [hrt]
  simp only [ne_eq, not_true, if_false]
  rw [if_neg (by omega), htg]
  simp only [ne_eq, not_true, if_false]
  have hfo : fgO (true, 3, ((2048 + 256 * d : Nat) : Int)) w ((e : Int), ((0, 0, false) : Rt)) = w := rfl
  rw [hfo]
  unfold invS
  rw [hcl, hsd]
  simp only
  have hB : (w.inv c (8192 + (n : Int))).B = w.B := rfl
  unfold devSet
  rw [hB, evA_3 (by omega) (by omega) hd he]
  simp only [Bool.true_eq_false, if_false]
  rw [if_pos (by omega)]
 rw [hdo]
 have h2 : 2048 + 256 * d + 8 * e + 8 ≤ w.B.length := by omega
 have ks := KS.wr (v := routeN c (8192 + n)) h2
 exact ⟨rfl, (h.inv hc hn).newB (ks.mono fun a ha => by omega) (wrN_ok _ _ _ h.ok.2.1) (h.mt.wev hd he hm (o := some (n, c)) ⟨hn, hc, rfl⟩ h8)⟩
theorem WR.movi (h : WR T nc w on m dm ev Z) {d e n a t : Nat} (hd : d < 32) (he : e < 16) (ht : t < nc) (hv : ev d e = some (n, a)) (hu : ∀ j, j < nc → j ≠ a → m j n = false) :
  (doV 64 w (cmMovi d e t)).2 = 0 ∧ WR T nc (doV 64 w (cmMovi d e t)).1 on (fun j i => if i = n then (j == t && m a n) else m j i) dm (fun a b => if a = d ∧ b = e then some (n, t) else ev a b) Z := by
 have h8 := h.n8
 have hl := h.ok.1
 obtain ⟨hm, hn, ha, hrt⟩ := h.mt.rt_some h8 hd he hv
 have hev := h.mt.event h8 hd he hv
 have hst := h.mt.side h8 ht
 have hsa := h.mt.side h8 ha
 have hcl := h.ok.2.2.1
 have hw1 := (h.move ha ht hn hu).inv ht hn
 have hdv := hw1.mt.device hd hm
 have hl1 := hw1.ok.1
 have hdo : doV 64 w (cmMovi d e t) = (⟨wrN ((w.move (8192 + (n : Int)) a t).inv t (8192 + (n : Int))).B (2048 + 256 * d + 8 * e) 8 (routeN t (8192 + n)), ((w.move (8192 + (n : Int)) a t).inv t (8192 + (n : Int))).cs⟩, 0) := by
  unfold doV
  rw [if_neg (by rw [enc_movi hd he (by omega)]; simp)]
  rw [show (cmMovi (d : Int) e t).1 = 1 from rfl, if_neg (by decide), if_neg (by decide), if_neg (by decide), if_neg (by decide), if_pos rfl]
  unfold moviV cmMovi
  simp only
  rw [hev]
  simp only [ne_eq, not_true, if_false]
  rw [hcl, hst]
  simp only
  have hmo : mvO w (a : Int) (8192 + (n : Int)) t = w.move (8192 + (n : Int)) a t := by unfold mvO; rw [hcl, hsa]
  rw [hmo, hdv]
  simp only
  unfold devSet
  rw [evA_3 (by omega) (by omega) hd he]
  simp only [Bool.true_eq_false, if_false]
  rw [if_pos (by omega)]
 rw [hdo]
 have h2 : 2048 + 256 * d + 8 * e + 8 ≤ ((w.move (8192 + (n : Int)) a t).inv t (8192 + (n : Int))).B.length := by omega
 have ks := KS.wr (v := routeN t (8192 + n)) h2
 exact ⟨rfl, hw1.newB (ks.mono fun a ha => by omega) (wrN_ok _ _ _ hw1.ok.2.1) (hw1.mt.wev hd he hm (o := some (n, t)) ⟨hn, ht, rfl⟩ h8)⟩
theorem WR.disc (h : WR T nc w on m dm ev Z) {d e n a : Nat} (hd : d < 32) (he : e < 16) (hv : ev d e = some (n, a)) :
  (doV 64 w (cmDisc d e)).2 = 0 ∧ WR T nc (doV 64 w (cmDisc d e)).1 on (fun j i => if j = a ∧ i = n then false else m j i) dm (fun a b => if a = d ∧ b = e then none else ev a b) Z := by
 have h8 := h.n8
 have hl := h.ok.1
 obtain ⟨hm, hn, ha, hrt⟩ := h.mt.rt_some h8 hd he hv
 have hev := h.mt.event h8 hd he hv
 have hsa := h.mt.side h8 ha
 have hcl := h.ok.2.2.1
 have hw1 := h.set ha hn false
 have hdv := h.mt.device hd hm
 have hl1 := hw1.ok.1
 have hdo : doV 64 w (cmDisc d e) = (⟨wrN (w.set a (8192 + (n : Int)) false).B (2048 + 256 * d + 8 * e) 8 0, (w.set a (8192 + (n : Int)) false).cs⟩, 0) := by
  unfold doV
  rw [if_neg (by rw [enc_disc hd he]; simp)]
  rw [show (cmDisc (d : Int) e).1 = 15 from rfl, if_neg (by decide), if_neg (by decide), if_neg (by decide), if_neg (by decide), if_neg (by decide), if_pos rfl]
  unfold discardV cmDisc
  simp only
  rw [hev]
  simp only [ne_eq, not_true, if_false]
  rw [hdv]
  unfold fgV fgW
  simp only
  rw [hcl, hsa]
  simp only
  unfold devSet
  rw [evA_3 (by omega) (by omega) hd he]
  simp only [if_true]
 rw [hdo]
 have h2 : 2048 + 256 * d + 8 * e + 8 ≤ (w.set a (8192 + (n : Int)) false).B.length := by omega
 have ks := KS.wr (v := 0) h2
 exact ⟨rfl, hw1.newB (ks.mono fun a ha => by omega) (wrN_ok _ _ _ hw1.ok.2.1) (hw1.mt.wev hd he hm (o := none) rfl h8)⟩
theorem WR.msg (h : WR T nc w on m dm ev Z) {d e n a : Nat} (hd : d < 32) (he : e < 16) (hv : ev d e = some (n, a)) : messageV 64 w true d e = (w.set a (8192 + (n : Int)) true, 0) := by
 have h8 := h.n8
 obtain ⟨hm, hn, ha, hrt⟩ := h.mt.rt_some h8 hd he hv
 unfold messageV waitsV
 rw [if_pos rfl, h.mt.event h8 hd he hv]
 simp only [ne_eq, not_true, if_false]
 rw [h.ok.2.2.1, h.mt.side h8 ha]
 simp only
 rw [(idx_n hn).1, if_pos rfl]
end
end Go.Proofs.YtakkogdmlbkdaaaGreatDoor.Sl.It
namespace Go.Proofs.YtakkogdmlbkdaaaGreatDoor.Sl.It
variable {T nc ns : Nat}
def shE (h a : Bool) : Br.En := (((false, h, false, a), true, 1, 160), (0, false))
structure DR (ns nc : Nat) (D : DS) (high act asl : List Bool) : Prop where
 o1 : D.o1 = true
 own : ∀ x ∈ D.xs, x.es = ownK 16
 xl : D.xs.length = nc
 sl : ∀ k : Nat, k < nc → asleepV D.xs k = asl.getD k false
 len : D.sh.length = ns
 sh : ∀ i, i < ns → D.sh[i]? = some (shE (high.getD i false) (act.getD i false))
theorem take_own (o0 : Bool) : (seenA (ownK 16)).filter (takeP o0 true) = [] := by
 cases o0 <;> decide +kernel
theorem allV_mem : ∀ {first : Int} {es : List Br.En} {p : Int × Br.En}, p ∈ Br.allV first es ↔ ∃ k : Nat, es[k]? = some p.2 ∧ p.1 = first + k
 | _, [], p => by simp [Br.allV]
 | first, e :: r, p => by
  unfold Br.allV
  rw [List.mem_cons, allV_mem]
  constructor
  ·rintro (rfl | ⟨k, h1, h2⟩)
   ·exact ⟨0, rfl, by simp⟩
   ·exact ⟨k + 1, by simpa using h1, by rw [h2]; push_cast; omega⟩
  ·rintro ⟨k, h1, h2⟩
   cases k with
   | zero => left; cases p; simp at h1 h2; rw [h1, h2]
   | succ k => exact .inr ⟨k, by simpa using h1, by rw [h2]; push_cast; omega⟩
theorem allV_inc : ∀ (first : Int) (es : List Br.En), (Br.allV first es).Pairwise (fun p q => p.1 < q.1)
 | _, [] => List.Pairwise.nil
 | first, e :: r => by
  unfold Br.allV
  refine List.Pairwise.cons (fun p hp => ?_) (allV_inc (first + 1) r)
  obtain ⟨k, _, h⟩ := allV_mem.1 hp
  rw [h]; simp only; omega
section
variable {D : DS} {high act asl : List Bool}
theorem DR.tgt (h : DR ns nc D high act asl) (h1 : 1 ≤ nc) {i : Nat} (hi : i < ns) : Sl.targetV D.sh D.xs (32 + (i : Int)) = 0 := by
 unfold Sl.targetV Br.atE
 rw [if_pos (by omega), show ((32 : Int) + i - 32).toNat = i by omega, h.sh i hi, h.xl]
 have : rightV nc 0 = true := by unfold rightV; simp; omega
 simp [shE, this]
theorem DR.seenB_ (h : DR ns nc D high act asl) (h1 : 1 ≤ nc) (k : Nat) : seenB D.sh D.xs k (Br.allV 32 D.sh) = if k = 0 then (Br.allV 32 D.sh).map (fun p => (p.1, p.2.1)) else [] := by
 have ht : ∀ p ∈ Br.allV 32 D.sh, Sl.targetV D.sh D.xs p.1 = 0 := fun p hp => by
  obtain ⟨i, h2, h3⟩ := allV_mem.1 hp
  have hi : i < ns := by rw [← h.len]; exact (List.getElem?_eq_some_iff.1 h2).1
  rw [h3]; exact h.tgt h1 hi
 unfold seenB
 split
 ·rename_i e
  subst e
  rw [List.filter_eq_self.2 fun p hp => by simp [ht p hp]]
 ·rename_i e
  rw [List.filter_eq_nil_iff.2 fun p hp => by simp [ht p hp]; omega]; rfl
theorem DR.ready (h : DR ns nc D high act asl) (h1 : 1 ≤ nc) {k : Nat} (hk : k < nc) (ha : asl.getD k false = false) : D.readyV k = if k = 0 then ((Br.allV 32 D.sh).map (fun p => (p.1, p.2.1))).filter (takeP D.o0 true) else [] := by
 obtain ⟨x, hx⟩ : ∃ x, D.xs[k]? = some x := ⟨_, List.getElem?_eq_getElem (by rw [h.xl]; exact hk)⟩
 have hr : rightV D.xs.length (k : Int) = true := by unfold rightV; rw [h.xl]; simp; omega
 unfold DS.readyV
 rw [h.sl k hk, ha, if_neg (by simp)]
 unfold DS.seenV
 rw [hr, if_pos rfl, Int.toNat_natCast, hx]
 simp only
 rw [h.seenB_ h1, List.filter_append, h.own x (List.mem_of_getElem? hx), h.o1, take_own, List.nil_append]
 split
 ·rfl
 ·rfl
theorem bestS_keep {p : Int × Ln} {z : Int} (hp : p.2.2.2.2 = 160) (hz : z < p.1) : bestS (z, 160, 1, true) p = (z, 160, 1, true) := by
 unfold bestS beforeV
 simp only [hp]
 rw [if_neg (by simp; omega)]
theorem best_keep {z : Int} : ∀ {ps : List (Int × Ln)}, (∀ p ∈ ps, p.2.2.2.2 = 160 ∧ z < p.1) → ps.foldl bestS (z, 160, 1, true) = (z, 160, 1, true)
 | [], _ => rfl
 | p :: ps, h => by
  rw [List.foldl_cons, bestS_keep (h p (by simp)).1 (h p (by simp)).2]
  exact best_keep fun q hq => h q (by simp [hq])
def hiO (ns : Nat) (high act : List Bool) (k : Nat) : Option Nat := if k = 0 then (List.range ns).find? (fun k => high.getD k false && !act.getD k false) else none
theorem DR.best (h : DR ns nc D high act asl) (h1 : 1 ≤ nc) {k : Nat} (hk : k < nc) : bestL (D.readyV k) = if asl.getD k false then ((0, 0, 0, false) : Cd) else match hiO ns high act k with
  | some i => (32 + (i : Int), 160, 1, true)
  | none => (0, 0, 0, false) := by
 cases ha : asl.getD k false with
 | true =>
  have : D.readyV k = [] := by unfold DS.readyV; rw [h.sl k hk, ha, if_pos rfl]
  rw [this, if_pos rfl]; rfl
 | false =>
  rw [if_neg (show ¬ (false = true) by simp), h.ready h1 hk ha]
  unfold hiO
  by_cases e : k = 0
  ·rw [if_pos e, if_pos e]
   have hmem : ∀ p : Int × Ln, p ∈ ((Br.allV 32 D.sh).map (fun p => (p.1, p.2.1))).filter (takeP D.o0 true) ↔ ∃ i : Nat, i < ns ∧ p = (32 + (i : Int), (shE (high.getD i false) (act.getD i false)).1) ∧ (high.getD i false && !act.getD i false) = true := by
    intro p
    rw [List.mem_filter, List.mem_map]
    constructor
    ·rintro ⟨⟨q, hq, rfl⟩, ht⟩
     obtain ⟨i, h2, h3⟩ := allV_mem.1 hq
     have hi : i < ns := by rw [← h.len]; exact (List.getElem?_eq_some_iff.1 h2).1
     rw [h.sh i hi] at h2
     have h2 := Option.some.inj h2
     rw [← h2] at ht ⊢
     refine ⟨i, hi, by rw [h3], ?_⟩
     have h4 : takeP D.o0 true (q.1, (shE (high.getD i false) (act.getD i false)).1) = (high.getD i false && !act.getD i false) := by
      unfold takeP shE readyI pendI
      simp
     rw [← h4]; exact ht
    ·rintro ⟨i, hi, rfl, h9⟩
     refine ⟨⟨(32 + (i : Int), shE (high.getD i false) (act.getD i false)), allV_mem.2 ⟨i, h.sh i hi, rfl⟩, rfl⟩, ?_⟩
     unfold takeP shE readyI pendI
     simpa using h9
   have hinc : (((Br.allV 32 D.sh).map (fun p => (p.1, p.2.1))).filter (takeP D.o0 true)).Pairwise (fun p q => p.1 < q.1) :=
    List.Pairwise.filter _ (show ((Br.allV 32 D.sh).map (fun p => (p.1, p.2.1))).Pairwise (fun p q => p.1 < q.1) from List.pairwise_map.2 (allV_inc 32 D.sh))
   generalize ((Br.allV 32 D.sh).map (fun p => (p.1, p.2.1))).filter (takeP D.o0 true) = ps at hmem hinc ⊢
   cases ps with
   | nil =>
    have : (List.range ns).find? (fun k => high.getD k false && !act.getD k false) = none := by
     rw [List.find?_eq_none]
     intro i hi h9
     have := (hmem (32 + (i : Int), (shE (high.getD i false) (act.getD i false)).1)).2 ⟨i, by simpa using hi, rfl, h9⟩
     cases this
    rw [this]; rfl
   | cons p r =>
    rw [List.pairwise_cons] at hinc
    obtain ⟨i, hi, rfl, h9⟩ := (hmem p).1 (by simp)
    have hfi : (List.range ns).find? (fun k => high.getD k false && !act.getD k false) = some i := by
     rw [List.find?_range_eq_some]
     refine ⟨h9, by simpa using hi, fun j hj => ?_⟩
     cases h8 : (high.getD j false && !act.getD j false) with
     | false => rfl
     | true =>
      have := (hmem (32 + (j : Int), (shE (high.getD j false) (act.getD j false)).1)).2 ⟨j, by omega, rfl, h8⟩
      rcases List.mem_cons.1 this with h7 | h7
      ·simp only [Prod.mk.injEq] at h7; omega
      ·have := hinc.1 _ h7
       simp only at this; omega
    rw [hfi]
    unfold bestL
    rw [List.foldl_cons]
    have hf : bestS (0, 0, 0, false) (32 + (i : Int), (shE (high.getD i false) (act.getD i false)).1) = (32 + (i : Int), 160, 1, true) := rfl
    rw [hf]
    refine best_keep fun q hq => ⟨?_, hinc.1 q hq⟩
    obtain ⟨j, _, rfl, _⟩ := (hmem q).1 (by simp [hq])
    rfl
  ·rw [if_neg e, if_neg e]; rfl
theorem DR.do_at (h : DR ns nc D high act asl) (h1 : 1 ≤ nc) {k i : Nat} (hk : k < nc) (hi : i < ns) (a : Int) : D.doV k (32 + (i : Int)) a = ({ D with sh := D.sh.set i ((stepI (false, high.getD i false, false, act.getD i false) a, true, 1, 160), (0, false)) }, 0) := by
 have hr : rightV D.xs.length (k : Int) = true := by unfold rightV; rw [h.xl]; simp; omega
 unfold DS.doV
 rw [hr, if_pos rfl, if_neg (by omega)]
 unfold Br.doV Br.atE
 rw [if_pos (by omega), show ((32 : Int) + i - 32).toNat = i by omega, h.sh i hi]
 rfl
theorem DR.do_no (h : DR ns nc D high act asl) (h1 : 1 ≤ nc) {k : Nat} (hk : k < nc) {id : Int} (h2 : 32 ≤ id) (h3 : id - 32 ≥ ns) (a : Int) : D.doV k id a = (D, 90) := by
 have hr : rightV D.xs.length (k : Int) = true := by unfold rightV; rw [h.xl]; simp; omega
 have hn : Br.doV 32 D.sh id a = (D.sh, 90) := by
  unfold Br.doV Br.atE
  rw [if_pos (by omega), List.getElem?_eq_none (by rw [h.len]; omega)]
 unfold DS.doV
 rw [hr, if_pos rfl, if_neg (by omega), hn]
theorem DR.set (h : DR ns nc D high act asl) {i : Nat} (hi : i < ns) {high' act' : List Bool} (h2 : ∀ j, j < ns → j ≠ i → high'.getD j false = high.getD j false ∧ act'.getD j false = act.getD j false) {e : Br.En} (he : e = shE (high'.getD i false) (act'.getD i false)) :
  DR ns nc { D with sh := D.sh.set i e } high' act' asl := by
 refine ⟨h.o1, h.own, h.xl, h.sl, by simp; exact h.len, fun j hj => ?_⟩
 by_cases e2 : j = i
 ·subst e2
  simp only
  rw [List.getElem?_set_self (by rw [h.len]; exact hj), he]
 ·simp only
  rw [List.getElem?_set_ne (by omega), h.sh j hj, (h2 j hj e2).1, (h2 j hj e2).2]
theorem getB_set {l : List Bool} {k j : Nat} {x : Bool} (hk : k < l.length) : (l.set k x).getD j false = if j = k then x else l.getD j false := getD_set hk
theorem DR.wire (h : DR ns nc D high act asl) (h1 : 1 ≤ nc) (hl : high.length = ns) {i : Nat} (hi : i < ns) (v : Bool) : (D.doV 0 (32 + (i : Int)) (if v then 1 else 2)).2 = 0 ∧ DR ns nc (D.doV 0 (32 + (i : Int)) (if v then 1 else 2)).1 (high.set i v) act asl := by
 rw [show (0 : Int) = ((0 : Nat) : Int) by rfl, h.do_at h1 (by omega) hi]
 refine ⟨rfl, h.set hi (fun j hj hne => ⟨by rw [getB_set (by omega), if_neg hne], rfl⟩) ?_⟩
 rw [getB_set (by omega), if_pos rfl]
 cases v <;> rfl
theorem DR.endd (h : DR ns nc D high act asl) (h1 : 1 ≤ nc) (hl : act.length = ns) {i : Nat} (hi : i < ns) : (D.doV 0 (32 + (i : Int)) 6).2 = 0 ∧ DR ns nc (D.doV 0 (32 + (i : Int)) 6).1 high (act.set i false) asl := by
 rw [show (0 : Int) = ((0 : Nat) : Int) by rfl, h.do_at h1 (by omega) hi]
 refine ⟨rfl, h.set hi (fun j hj hne => ⟨rfl, by rw [getB_set (by omega), if_neg hne]⟩) ?_⟩
 rw [getB_set (by omega), if_pos rfl]
 rfl
theorem DR.ack (h : DR ns nc D high act asl) (h1 : 1 ≤ nc) (hl : act.length = ns) {k i : Nat} (hk : k < nc) (hi : i < ns) (h2 : (high.getD i false && !act.getD i false) = true) : DR ns nc (D.doV k (32 + (i : Int)) 5).1 high (act.set i true) asl := by
 rw [h.do_at h1 hk hi]
 refine h.set hi (fun j hj hne => ⟨rfl, by rw [getB_set (by omega), if_neg hne]⟩) ?_
 rw [getB_set (by omega), if_pos rfl]
 simp only [Bool.and_eq_true, Bool.not_eq_true'] at h2
 rw [h2.1, h2.2]
 rfl
theorem DR.pow (h : DR ns nc D high act asl) (hl : asl.length = nc) {k : Nat} (hk : k < nc) (on : Bool) : (D.wrOwnV k 3 0 0 (if on then 0 else 2)).2 = 0 ∧ DR ns nc (D.wrOwnV k 3 0 0 (if on then 0 else 2)).1 high act (asl.set k (!on)) := by
 obtain ⟨x, hx⟩ : ∃ x, D.xs[k]? = some x := ⟨_, List.getElem?_eq_getElem (by rw [h.xl]; exact hk)⟩
 have hr : rightV D.xs.length (k : Int) = true := by unfold rightV; rw [h.xl]; simp; omega
 unfold DS.wrOwnV
 rw [hr, if_pos rfl, Int.toNat_natCast, hx]
 simp only [if_true]
 refine ⟨trivial, h.o1, fun y hy => ?_, by simp; exact h.xl, fun j hj => ?_, h.len, h.sh⟩
 ·simp only at hy
  rcases List.mem_or_eq_of_mem_set hy with h2 | h2
  ·exact h.own y h2
  ·rw [h2]; exact h.own x (List.mem_of_getElem? hx)
 ·rw [getB_set (by omega)]
  have h3 := h.sl j hj
  unfold asleepV at h3 ⊢
  simp only [List.length_set, Int.toNat_natCast] at h3 ⊢
  have hrj : rightV D.xs.length (j : Int) = true := by unfold rightV; rw [h.xl]; simp; omega
  rw [hrj, if_pos rfl] at h3 ⊢
  by_cases e : j = k
  ·subst e
   rw [if_pos rfl, List.getElem?_set_self (by rw [h.xl]; exact hj)]
   cases on <;> rfl
  ·rw [if_neg e, List.getElem?_set_ne (by omega)]; exact h3
theorem DR.like_ (h : DR ns nc D high act asl) {E : DS} (hl : E.like D) : DR ns nc E high act asl := by
 obtain ⟨h0, h1, h2, h3⟩ := hl
 have hlen : E.xs.length = D.xs.length := by have := congrArg List.length h3; simpa using this
 refine ⟨by rw [h1]; exact h.o1, fun x hx => ?_, by rw [hlen]; exact h.xl, fun k hk => ?_, by rw [h2]; exact h.len, by rw [h2]; exact h.sh⟩
 ·obtain ⟨k, hk⟩ := List.getElem?_of_mem hx
  have h4 : (E.xs.map plX)[k]? = some (plX x) := by rw [List.getElem?_map, hk]; rfl
  rw [h3, List.getElem?_map] at h4
  cases hd : D.xs[k]? with
  | none => rw [hd] at h4; cases h4
  | some y =>
   rw [hd] at h4
   have h5 : plX y = plX x := by simpa using h4
   have h6 : y.es = x.es := congrArg Prod.fst h5
   rw [← h6]; exact h.own y (List.mem_of_getElem? hd)
 ·rw [← h.sl k hk]
  unfold asleepV
  rw [hlen]
  have h4 : (E.xs.map plX)[k]? = (D.xs.map plX)[k]? := by rw [h3]
  rw [List.getElem?_map, List.getElem?_map] at h4
  rw [Int.toNat_natCast]
  cases hd : D.xs[k]? with
  | none =>
   rw [hd] at h4
   cases he : E.xs[k]? with
   | none => rfl
   | some y => rw [he] at h4; cases h4
  | some y =>
   rw [hd] at h4
   cases he : E.xs[k]? with
   | none => rw [he] at h4; cases h4
   | some z =>
    rw [he] at h4
    have h5 : plX z = plX y := by simpa using h4
    have h6 : z.sl = y.sl := congrArg Prod.snd h5
    simp only [h6]
end
def okS (k i : Nat) (e : Br.En) : Prop := e.1.1 = (false, false, false, false) ∧ e.2 = (0, false) ∧ (e.1.2.1 = true ∨ e.1.2.1 = false) ∧ (e.1.2.2.1 = 1 ∨ e.1.2.2.1 = 0) ∧ (e.1.2.2.2 = 160 ∨ e.1.2.2.2 = 0) ∧ (i < k → e.1.2 = (true, 1, 160))
theorem dist_p : ∀ k, k < 64 → distV (1024 + ((32 + k) / 4 * 4 : Nat)) 4 = ((11, (((32 + k) / 4 * 4 : Nat) : Int), 4), 0) := by decide +kernel
theorem dist_g : ∀ k, k < 64 → distV (128 + ((32 + k) / 32 * 4 : Nat)) 4 = ((4, (((32 + k) / 32 * 32 : Nat) : Int), 32), 0) := by decide +kernel
theorem dist_e : ∀ k, k < 64 → distV (256 + ((32 + k) / 32 * 4 : Nat)) 4 = ((5, (((32 + k) / 32 * 32 : Nat) : Int), 32), 0) := by decide +kernel
theorem fld_p : ∀ j : Nat, j < 4 → fieldV 2694881440 11 4 j = 160 := by decide +kernel
theorem fld_1 : ∀ j : Nat, j < 32 → fieldV 4294967295 4 32 j = 1 := by decide +kernel
theorem fld_2 : ∀ j : Nat, j < 32 → fieldV 4294967295 5 32 j = 1 := by decide +kernel
theorem wr_all {D : DS} {off : Int} {r : Int} {f c : Nat} {v : Nat} {z : Int} (hd : distV off 4 = ((r, (f : Int), (c : Int)), 0)) (hr : r ≠ 1 ∧ r ≠ 13) (hf : f < 1000) (hc : c ≤ 64) (hz : ∀ j : Nat, j < c → fieldV v r c j = z) {i : Nat} {e : Br.En} (he : D.sh[i]? = some e) :
  (D.wrV off 4 v).1.o1 = D.o1 ∧ (D.wrV off 4 v).1.xs = D.xs ∧ (D.wrV off 4 v).1.sh.length = D.sh.length ∧ (D.wrV off 4 v).1.sh[i]? = some (if f ≤ 32 + i ∧ 32 + i < f + c then (Br.updE (32 + (i : Int)) r z e).1 else e) := by
 have hcn : cntV (c : Int) = c := by unfold cntV; omega
 have hw : (D.wrV off 4 v).1 = { D with sh := (Br.wrK 32 D.sh r f c v c).1 } := by
  unfold DS.wrV
  rw [hd]
  simp only [ne_eq, not_true, if_false, hr.1, hr.2, hcn]
 rw [hw]
 refine ⟨rfl, rfl, by simp only; rw [Br.wrK_len], ?_⟩
 simp only
 rw [Br.wrK_at (N := c) (fun k hk => by rw [wrap_id (by omega) (by omega)]) c (Nat.le_refl _) i e he]
 congr 1
 by_cases h : f ≤ 32 + i ∧ 32 + i < f + c
 ·rw [if_pos (by omega), if_pos h]
  rw [show (32 : Int) + i - (f : Int) = ((32 + i - f : Nat) : Int) by omega, hz _ (by omega)]
 ·rw [if_neg (by omega), if_neg h]
theorem upd_p {k i : Nat} {e : Br.En} (h : okS k i e) : okS k i (Br.updE (32 + (i : Int)) 11 160 e).1 ∧ (Br.updE (32 + (i : Int)) 11 160 e).1.1.2.2.2 = 160 ∧ (Br.updE (32 + (i : Int)) 11 160 e).1.1.2.1 = e.1.2.1 ∧ (Br.updE (32 + (i : Int)) 11 160 e).1.1.2.2.1 = e.1.2.2.1 := by
 obtain ⟨⟨st, en, gr, pr⟩, tx⟩ := e
 obtain ⟨h1, h2, h3, h4, h5, h6⟩ := h
 simp only at h1 h2 h3 h4 h5 h6
 subst h1
 subst h2
 have hw : writtenV (32 + (i : Int)) ((false, false, false, false), en, gr, pr) 11 160 = ((false, false, false, false), en, gr, 160) := by
  unfold writtenV
  simp only [show ¬ (11 : Int) = 4 by decide, show ¬ (11 : Int) = 5 by decide, show ¬ (11 : Int) = 6 by decide, show ¬ ((11 : Int) = 7 ∨ (11 : Int) = 8 ∨ (11 : Int) = 9 ∨ (11 : Int) = 10) by decide, if_false, if_true]
  have : realV (IntKind.i64.wrap 160) = 160 := by decide +kernel
  rw [this]
 unfold Br.updE
 simp only [hw]
 have hre : realV 160 = 160 := by decide +kernel
 split
 ·rename_i e1
  simp only [Prod.mk.injEq, true_and] at e1
  subst e1
  exact ⟨⟨rfl, rfl, h3, h4, .inl rfl, h6⟩, rfl, rfl, rfl⟩
 ·rw [if_neg (by rcases h4 with h | h <;> subst h <;> simp)]
  simp only [hre]
  refine ⟨⟨rfl, rfl, h3, h4, .inl rfl, fun hi => ?_⟩, trivial, trivial, trivial⟩
  have h7 := h6 hi
  simp only [Prod.mk.injEq] at h7 ⊢
  exact ⟨h7.1, h7.2.1, trivial⟩
theorem upd_g {k i : Nat} {e : Br.En} (h : okS k i e) : okS k i (Br.updE (32 + (i : Int)) 4 1 e).1 ∧ (Br.updE (32 + (i : Int)) 4 1 e).1.1.2.2.1 = 1 ∧ (Br.updE (32 + (i : Int)) 4 1 e).1.1.2.1 = e.1.2.1 ∧ (Br.updE (32 + (i : Int)) 4 1 e).1.1.2.2.2 = e.1.2.2.2 := by
 obtain ⟨⟨st, en, gr, pr⟩, tx⟩ := e
 obtain ⟨h1, h2, h3, h4, h5, h6⟩ := h
 simp only at h1 h2 h3 h4 h5 h6
 subst h1
 subst h2
 have hw : writtenV (32 + (i : Int)) ((false, false, false, false), en, gr, pr) 4 1 = ((false, false, false, false), en, 1, pr) := by
  unfold writtenV
  rw [if_pos rfl]
  have : IntKind.i64.wrap 1 = 1 := by decide +kernel
  rw [this]
 have hre : realV pr = pr := by rcases h5 with h | h <;> subst h <;> decide +kernel
 unfold Br.updE
 simp only [hw]
 split
 ·rename_i e1
  simp only [Prod.mk.injEq, true_and, and_true] at e1
  subst e1
  exact ⟨⟨rfl, rfl, h3, .inl rfl, h5, h6⟩, rfl, rfl, rfl⟩
 ·rw [if_neg (by rcases h5 with h | h <;> subst h <;> simp)]
  simp only [hre]
  refine ⟨⟨rfl, rfl, h3, .inl rfl, h5, fun hi => ?_⟩, trivial, trivial, trivial⟩
  have h7 := h6 hi
  simp only [Prod.mk.injEq] at h7 ⊢
  exact ⟨h7.1, trivial, h7.2.2⟩
theorem upd_e {k i : Nat} {e : Br.En} (h : okS k i e) : okS k i (Br.updE (32 + (i : Int)) 5 1 e).1 ∧ (Br.updE (32 + (i : Int)) 5 1 e).1.1.2.1 = true ∧ (Br.updE (32 + (i : Int)) 5 1 e).1.1.2.2.1 = e.1.2.2.1 ∧ (Br.updE (32 + (i : Int)) 5 1 e).1.1.2.2.2 = e.1.2.2.2 := by
 obtain ⟨⟨st, en, gr, pr⟩, tx⟩ := e
 obtain ⟨h1, h2, h3, h4, h5, h6⟩ := h
 simp only at h1 h2 h3 h4 h5 h6
 subst h1
 subst h2
 have hw : writtenV (32 + (i : Int)) ((false, false, false, false), en, gr, pr) 5 1 = ((false, false, false, false), true, gr, pr) := by
  unfold writtenV
  rw [if_neg (by decide), if_pos rfl]
  simp
 have hre : realV pr = pr := by rcases h5 with h | h <;> subst h <;> decide +kernel
 unfold Br.updE
 simp only [hw]
 split
 ·rename_i e1
  simp only [Prod.mk.injEq, true_and, and_true] at e1
  subst e1
  exact ⟨⟨rfl, rfl, .inl rfl, h4, h5, h6⟩, rfl, rfl, rfl⟩
 ·rw [if_neg (by rcases h5 with h | h <;> subst h <;> rcases h4 with h | h <;> subst h <;> simp)]
  simp only [hre]
  refine ⟨⟨rfl, rfl, .inl rfl, h4, h5, fun hi => ?_⟩, trivial, trivial, trivial⟩
  have h7 := h6 hi
  simp only [Prod.mk.injEq] at h7 ⊢
  exact ⟨trivial, h7.2.1, h7.2.2⟩
theorem boot_D {D : DS} {c s : Nat} (hD : newD D c s) (hs : s ≤ 64) : ∀ k, k ≤ s → (bootD D k).o1 = true ∧ (bootD D k).xs = D.xs ∧ (bootD D k).sh.length = s ∧ ∀ i, i < s → ∃ e, (bootD D k).sh[i]? = some e ∧ okS k i e
 | 0, _ => by
  obtain ⟨h1, h2, h3, h4, h5⟩ := hD
  have h0 : bootD D 0 = { D with o0 := false, o1 := true } := by
   show (D.wrV 0 4 2).1 = _
   have : distV 0 4 = ((1, 0, 0), 0) := by decide +kernel
   unfold DS.wrV
   rw [this]; rfl
  rw [h0]
  refine ⟨rfl, rfl, by simp only; rw [h3, List.length_replicate], fun i hi => ⟨(Br.zeroE.1, (0, false)), by simp only; rw [h3, List.getElem?_replicate, if_pos hi], rfl, rfl, .inr rfl, .inr rfl, .inr rfl, fun h => absurd h (by omega)⟩⟩
 | k + 1, hk => by
  obtain ⟨a1, a2, a3, a4⟩ := boot_D hD hs k (by omega)
  rw [bootD_s]
  generalize bootD D k = D0 at a1 a2 a3 a4 ⊢
  have hp := fun i e he => wr_all (D := D0) (r := 11) (f := (32 + k) / 4 * 4) (c := 4) (v := 2694881440) (z := 160) (dist_p k (by omega)) (by decide) (by omega) (by omega) fld_p (i := i) (e := e) he
  obtain ⟨e0, he0, _⟩ := a4 0 (by omega)
  obtain ⟨b1, b2, b3, _⟩ := hp 0 e0 he0
  generalize (D0.wrV (1024 + ((32 + k) / 4 * 4 : Nat)) 4 2694881440).1 = D1 at hp b1 b2 b3 ⊢
  have c4 : ∀ i, i < s → ∃ e, D1.sh[i]? = some e ∧ okS k i e ∧ (i = k → e.1.2.2.2 = 160) := fun i hi => by
   obtain ⟨e, he, ho⟩ := a4 i hi
   obtain ⟨_, _, _, h4⟩ := hp i e he
   refine ⟨_, h4, ?_⟩
   obtain ⟨u1, u2, u3, u4⟩ := upd_p ho
   split
   ·exact ⟨u1, fun _ => u2⟩
   ·exact ⟨ho, fun h => absurd h (by omega)⟩
  have hg := fun i e he => wr_all (D := D1) (r := 4) (f := (32 + k) / 32 * 32) (c := 32) (v := 4294967295) (z := 1) (dist_g k (by omega)) (by decide) (by omega) (by omega) fld_1 (i := i) (e := e) he
  obtain ⟨e1, he1, _⟩ := c4 0 (by omega)
  obtain ⟨d1, d2, d3, _⟩ := hg 0 e1 he1
  generalize (D1.wrV (128 + ((32 + k) / 32 * 4 : Nat)) 4 4294967295).1 = D2 at hg d1 d2 d3 ⊢
  have f4 : ∀ i, i < s → ∃ e, D2.sh[i]? = some e ∧ okS k i e ∧ (i = k → e.1.2.2.2 = 160 ∧ e.1.2.2.1 = 1) := fun i hi => by
   obtain ⟨e, he, ho, hp2⟩ := c4 i hi
   obtain ⟨_, _, _, h4⟩ := hg i e he
   refine ⟨_, h4, ?_⟩
   obtain ⟨u1, u2, u3, u4⟩ := upd_g ho
   split
   ·exact ⟨u1, fun h => ⟨by rw [u4]; exact hp2 h, u2⟩⟩
   ·exact ⟨ho, fun h => absurd h (by omega)⟩
  have he3 := fun i e he => wr_all (D := D2) (r := 5) (f := (32 + k) / 32 * 32) (c := 32) (v := 4294967295) (z := 1) (dist_e k (by omega)) (by decide) (by omega) (by omega) fld_2 (i := i) (e := e) he
  obtain ⟨e2, he2, _⟩ := f4 0 (by omega)
  obtain ⟨g1, g2, g3, _⟩ := he3 0 e2 he2
  refine ⟨by rw [g1, d1, b1, a1], by rw [g2, d2, b2, a2], by rw [g3, d3, b3, a3], fun i hi => ?_⟩
  obtain ⟨e, he, ho, hp2⟩ := f4 i hi
  obtain ⟨_, _, _, h4⟩ := he3 i e he
  refine ⟨_, h4, ?_⟩
  obtain ⟨u1, u2, u3, u4⟩ := upd_e ho
  have hfin : ∀ {e : Br.En}, okS k i e → (i = k → e.1.2 = (true, 1, 160)) → okS (k + 1) i e := fun h h9 => ⟨h.1, h.2.1, h.2.2.1, h.2.2.2.1, h.2.2.2.2.1, fun hlt => by
   rcases Nat.lt_succ_iff_lt_or_eq.1 hlt with h7 | h7
   ·exact h.2.2.2.2.2 h7
   ·exact h9 h7⟩
  split
  ·refine hfin u1 fun h => ?_
   obtain ⟨q1, q2⟩ := hp2 h
   rw [← u3] at q2
   rw [← u4] at q1
   generalize (Br.updE (32 + (i : Int)) 5 1 e).1 = E at u2 q1 q2 ⊢
   obtain ⟨⟨st, en, gr, pr⟩, tx⟩ := E
   simp only at u2 q1 q2 ⊢
   rw [u2, q1, q2]
  ·exact hfin ho fun h => absurd h (by omega)
theorem boot_DR {D : DS} {c s : Nat} (hD : newD D c s) (h1 : 1 ≤ c) (hs : s ≤ 64) : DR s c (bootD D s) (List.replicate s false) (List.replicate s false) (List.replicate c false) := by
 obtain ⟨a1, a2, a3, a4⟩ := boot_D hD hs s (Nat.le_refl _)
 obtain ⟨_, _, _, h4, h5⟩ := hD
 refine ⟨a1, fun x hx => ?_, by rw [a2]; exact h4, fun k hk => ?_, a3, fun i hi => ?_⟩
 ·rw [a2] at hx; exact (h5 x hx).1
 ·rw [a2]
  unfold asleepV
  have hr : rightV D.xs.length (k : Int) = true := by unfold rightV; rw [h4]; simp; omega
  obtain ⟨x, hx⟩ : ∃ x, D.xs[k]? = some x := ⟨_, List.getElem?_eq_getElem (by rw [h4]; exact hk)⟩
  rw [hr, if_pos rfl, Int.toNat_natCast, hx, List.getD_eq_getElem?_getD, List.getElem?_replicate, if_pos hk]
  exact (h5 x (List.mem_of_getElem? hx)).2
 ·obtain ⟨e, he, ho⟩ := a4 i hi
  rw [he, List.getD_eq_getElem?_getD, List.getElem?_replicate, if_pos hi]
  obtain ⟨q1, q2, _, _, _, q3⟩ := ho
  have q3 := q3 hi
  obtain ⟨⟨st, en, gr, pr⟩, tx⟩ := e
  simp only [Prod.mk.injEq] at q1 q2 q3
  obtain ⟨h7, h8, h9⟩ := q3
  subst h7 h8 h9
  congr 1
  unfold shE
  simp [q1, q2]
end Go.Proofs.YtakkogdmlbkdaaaGreatDoor.Sl.It
namespace Go.Proofs.YtakkogdmlbkdaaaGreatDoor.Sl.It
variable {T nc ns : Nat}
theorem may_lt {d e : Int} (h : mayE d e = true) : 0 ≤ d ∧ d < 32 ∧ 0 ≤ e ∧ e < 16 := by
 unfold mayE at h
 simp only [Bool.and_eq_true, decide_eq_true_eq] at h
 omega
theorem may_of {d e : Int} (h : 0 ≤ d ∧ d < 32 ∧ 0 ≤ e ∧ e < 16) : mayE d e = true := by
 unfold mayE
 simp only [Bool.and_eq_true, decide_eq_true_eq]
 omega
theorem ky_may {d e : Int} (h : mayE d e = true) : kyV d e = 16 * d + e := by
 have := may_lt h
 unfold kyV
 rw [wrap_id (x := d * 16) (by omega) (by omega), wrap_id (by omega) (by omega)]; omega
theorem ky_inj {d e d' e' : Int} (h : mayE d e = true) (h' : mayE d' e' = true) (hk : kyV d e = kyV d' e') : d = d' ∧ e = e' := by
 have := may_lt h; have := may_lt h'
 rw [ky_may h, ky_may h'] at hk; omega
theorem inc_int : ∀ {l : List Int} {lo hi : Int}, l.Pairwise (· < ·) → (∀ x ∈ l, lo ≤ x ∧ x < hi) → (l.length : Int) ≤ max 0 (hi - lo)
 | [], _, _, _, _ => by simp; omega
 | a :: l, lo, hi, h, hn => by
  rw [List.pairwise_cons] at h
  have ha := hn a (by simp)
  have := inc_int (l := l) (lo := a + 1) (hi := hi) h.2 fun x hx => ⟨by have := h.1 x hx; omega, (hn x (List.mem_cons_of_mem _ hx)).2⟩
  rw [List.length_cons]; push_cast; omega
theorem bk_len {bs : List (Int × Int)} (h : BkOk bs) (hk : ∀ p ∈ bs, 0 ≤ p.1 ∧ p.1 < 512) : bs.length ≤ 512 := by
 have h1 : (bs.map (·.1)).Pairwise (· < ·) := List.pairwise_map.2 h.1
 have h2 := inc_int (lo := 0) (hi := 512) h1 fun x hx => by
  obtain ⟨p, hp, rfl⟩ := List.mem_map.1 hx
  exact hk p hp
 rw [List.length_map] at h2; omega
def Uni (de ev : List Int) : Prop := ∀ n, n < 512 → 0 ≤ de.getD n 0 → mayE (de.getD n 0) (ev.getD n 0) = true ∧ ∀ j, j < 512 → de.getD j 0 = de.getD n 0 → ev.getD j 0 = ev.getD n 0 → j = n
theorem fnd_iff {de ev : List Int} (hu : Uni de ev) {d e : Int} {n : Nat} : fnd de ev d e = some n ↔ mayE d e = true ∧ n < 512 ∧ de.getD n 0 = d ∧ ev.getD n 0 = e := by
 constructor
 ·intro h
  obtain ⟨h1, h2, h3, h4, _⟩ := fnd_eq h
  exact ⟨h1, h2, h3, h4⟩
 ·rintro ⟨h1, h2, h3, h4⟩
  refine fnd_yes h1 h2 (by rw [beq_iff_eq.2 h3, beq_iff_eq.2 h4]; rfl) fun j hj => ?_
  have hd := may_lt h1
  have h5 := (hu n h2 (by omega)).2 j (by omega)
  rw [Bool.and_eq_false_iff]
  by_cases e1 : de.getD j 0 = d
  ·refine .inr ?_
   rw [beq_eq_false_iff_ne]
   intro e2
   have := h5 (by rw [e1, h3]) (by rw [e2, h4])
   omega
  ·exact .inl (by rw [beq_eq_false_iff_ne]; exact e1)
theorem fnd_not' {de ev : List Int} {d e : Int} (h : fnd de ev d e = none) (hm : mayE d e = true) {j : Nat} (hj : j < 512) (h1 : de.getD j 0 = d) (h2 : ev.getD j 0 = e) : False := by
 have := fnd_not h hm j hj
 rw [beq_iff_eq.2 h1, beq_iff_eq.2 h2] at this
 cases this
theorem opt_ext {α : Type} {a b : Option α} (h : ∀ x, a = some x ↔ b = some x) : a = b := by
 cases a with
 | none => cases b with
  | none => rfl
  | some y => exact absurd ((h y).2 rfl) (by simp)
 | some x => exact ((h x).1 rfl).symm
theorem getI_set {l : List Int} {k j : Nat} {x : Int} (hk : k < l.length) : (l.set k x).getD j 0 = if j = k then x else l.getD j 0 := getD_set hk
section
variable {de ev : List Int} (hd : de.length = 512) (he : ev.length = 512) (hu : Uni de ev)
include hd he hu
theorem uni_bind {d e : Int} (hm : mayE d e = true) (hf : fnd de ev d e = none) {i : Nat} (hi : i < 512) : Uni (de.set i d) (ev.set i e) := by
 intro n hn5 h0
 rw [getI_set (by omega), getI_set (by omega)] at *
 by_cases e1 : n = i
 ·rw [if_pos e1, if_pos e1]
  refine ⟨hm, fun j hj hjd hje => ?_⟩
  rw [getI_set (by omega)] at hjd hje
  by_cases e2 : j = i
  ·omega
  ·rw [if_neg e2] at hjd hje
   exact (fnd_not' hf hm hj hjd hje).elim
 ·rw [if_neg e1] at h0
  rw [if_neg e1, if_neg e1]
  obtain ⟨h1, h2⟩ := hu n hn5 h0
  refine ⟨h1, fun j hj hjd hje => ?_⟩
  rw [getI_set (by omega)] at hjd hje
  by_cases e2 : j = i
  ·rw [if_pos e2] at hjd hje
   exact (fnd_not' hf hm hn5 hjd.symm hje.symm).elim
  ·rw [if_neg e2] at hjd hje
   exact h2 j hj hjd hje
theorem fnd_bind {d e : Int} (hm : mayE d e = true) (hf : fnd de ev d e = none) {i : Nat} (hi : i < 512) (hneg : de.getD i 0 < 0) (d' e' : Int) : fnd (de.set i d) (ev.set i e) d' e' = if d' = d ∧ e' = e then some i else fnd de ev d' e' := by
 have hu2 := uni_bind hd he hu hm hf hi
 apply opt_ext
 intro n
 rw [fnd_iff hu2, getI_set (by omega), getI_set (by omega)]
 by_cases e1 : d' = d ∧ e' = e
 ·rw [if_pos e1]
  obtain ⟨rfl, rfl⟩ := e1
  constructor
  ·rintro ⟨_, h2, h3, h4⟩
   by_cases e2 : n = i
   ·rw [e2]
   ·rw [if_neg e2] at h3 h4
    exact (fnd_not' hf hm h2 h3 h4).elim
  ·intro h
   cases h
   exact ⟨hm, hi, by rw [if_pos rfl], by rw [if_pos rfl]⟩
 ·rw [if_neg e1, fnd_iff hu]
  by_cases e2 : n = i
  ·subst e2
   rw [if_pos rfl, if_pos rfl]
   constructor
   ·rintro ⟨_, _, h3, h4⟩; exact absurd ⟨h3.symm, h4.symm⟩ e1
   ·rintro ⟨h1, _, h3, _⟩
    have := may_lt h1; omega
  ·rw [if_neg e2, if_neg e2]
theorem uni_free {i : Nat} (hi : i < 512) : Uni (de.set i (-1)) (ev.set i (-1)) := by
 intro n hn5 h0
 rw [getI_set (by omega), getI_set (by omega)] at *
 by_cases e1 : n = i
 ·rw [if_pos e1] at h0; omega
 ·rw [if_neg e1] at h0
  rw [if_neg e1, if_neg e1]
  obtain ⟨h1, h2⟩ := hu n hn5 h0
  refine ⟨h1, fun j hj hjd hje => ?_⟩
  rw [getI_set (by omega)] at hjd hje
  by_cases e2 : j = i
  ·rw [if_pos e2] at hjd; omega
  ·rw [if_neg e2] at hjd hje
   exact h2 j hj hjd hje
theorem fnd_free {d e : Int} {i : Nat} (hf : fnd de ev d e = some i) (d' e' : Int) : fnd (de.set i (-1)) (ev.set i (-1)) d' e' = if d' = d ∧ e' = e then none else fnd de ev d' e' := by
 obtain ⟨hm, hi, h3, h4⟩ := (fnd_iff hu).1 hf
 have hu2 := uni_free hd he hu hi
 apply opt_ext
 intro n
 rw [fnd_iff hu2, getI_set (by omega), getI_set (by omega)]
 by_cases e1 : d' = d ∧ e' = e
 ·rw [if_pos e1]
  obtain ⟨rfl, rfl⟩ := e1
  constructor
  ·rintro ⟨h5, h6, h7, h8⟩
   by_cases e2 : n = i
   ·rw [if_pos e2] at h7
    have := may_lt h5; omega
   ·rw [if_neg e2] at h7 h8
    have := (fnd_iff hu).2 ⟨h5, h6, h7, h8⟩
    rw [hf] at this; cases this; exact absurd rfl e2
  ·intro h; cases h
 ·rw [if_neg e1, fnd_iff hu]
  by_cases e2 : n = i
  ·subst e2
   rw [if_pos rfl, if_pos rfl]
   constructor
   ·rintro ⟨h5, _, h7, _⟩
    have := may_lt h5; omega
   ·rintro ⟨h1, _, h7, h8⟩
    exact absurd ⟨by rw [← h7, h3], by rw [← h8, h4]⟩ e1
  ·rw [if_neg e2, if_neg e2]
end
structure SR (S : Sh) (de ev : List Int) : Prop where
 bn : BkOk S.ns
 bk : BkOk S.ks
 kn : ∀ p ∈ S.ns, 0 ≤ p.1 ∧ p.1 < 512
 kk : ∀ p ∈ S.ks, 0 ≤ p.1 ∧ p.1 < 512
 dl : de.length = 512
 el : ev.length = 512
 un : Uni de ev
 ns : ∀ d e, mayE d e = true → getB S.ns (kyV d e) = (fnd de ev d e).map (fun n => (n : Int))
 ks : ∀ n : Nat, n < 512 → getB S.ks (n : Int) = if 0 ≤ de.getD n 0 then some (kyV (de.getD n 0) (ev.getD n 0)) else none
section
variable {S : Sh} {de ev : List Int}
theorem SR.ok (h : SR S de ev) : S.ok := ⟨⟨h.bn, bk_len h.bn h.kn⟩, h.bk, bk_len h.bk h.kk⟩
theorem SR.num (h : SR S de ev) (d e : Int) : S.num d e = (fnd de ev d e).map (fun n => (n : Int)) := by
 unfold Sh.num
 cases hm : mayE d e with
 | true => rw [if_pos rfl, h.ns d e hm]
 | false => rw [if_neg (by simp), fnd_no hm]; rfl
theorem SR.sv (h : SR S de ev) : ∀ k n, getB S.ns k = some n → 0 ≤ n ∧ n < 512 := fun k n hg => by
 have hk := h.kn _ ((get_mem h.bn.1).1 hg)
 simp only at hk
 have hm : mayE (k / 16) (k % 16) = true := may_of (by omega)
 have h2 := h.ns _ _ hm
 rw [ky_may hm, show 16 * (k / 16) + k % 16 = k by omega, hg] at h2
 cases hf : fnd de ev (k / 16) (k % 16) with
 | none => rw [hf] at h2; cases h2
 | some m =>
  rw [hf] at h2
  have := (fnd_eq hf).2.1
  simp at h2; omega
theorem SR.least (h : SR S de ev) : match frI de with
  | some i => leastK S.ks = i
  | none => leastK S.ks = 512 := by
 cases hi : frI de with
 | some i =>
  obtain ⟨h1, h2, h3⟩ := frI_eq hi
  simp only
  refine least_eq (fun m hm => ?_) ?_
  ·rw [h.ks m (by omega), if_pos (by have := h3 m hm; omega)]; rfl
  ·rw [h.ks i h1, if_neg (by omega)]
 | none =>
  have h3 := frI_not hi
  simp only
  refine least_eq (fun m hm => ?_) ?_
  ·rw [h.ks m (by omega), if_pos (by have := h3 m (by omega); omega)]; rfl
  ·cases hg : getB S.ks ((512 : Nat) : Int) with
   | none => rfl
   | some v =>
    have := h.kk _ ((get_mem h.bk.1).1 hg)
    simp only at this; omega
theorem SR.bind (h : SR S de ev) {d e : Int} (hm : mayE d e = true) (hf : fnd de ev d e = none) {i : Nat} (hi : frI de = some i) : S.bind d e = (((i : Int), 0), ⟨putB S.ns (kyV d e) i, putB S.ks i (kyV d e)⟩) ∧ SR ⟨putB S.ns (kyV d e) i, putB S.ks i (kyV d e)⟩ (de.set i d) (ev.set i e) := by
 have hl := h.least
 rw [hi] at hl
 simp only at hl
 obtain ⟨i5, ineg, _⟩ := frI_eq hi
 have hg : getB S.ns (kyV d e) = none := by rw [h.ns d e hm, hf]; rfl
 have hg2 : getB S.ks (i : Int) = none := by rw [h.ks i i5, if_neg (by omega)]
 have hb : S.bind d e = (((i : Int), 0), ⟨putB S.ns (kyV d e) i, putB S.ks i (kyV d e)⟩) := by
  unfold Sh.bind
  rw [hm, if_pos rfl, hg]
  simp only
  rw [hl, if_pos i5]
 have l1 := bk_len h.bn h.kn
 have l2 := bk_len h.bk h.kk
 have hd := may_lt hm
 have hkk := ky_may hm
 refine ⟨hb, put_ok h.bn _ hg (by omega), put_ok h.bk _ hg2 (by omega), fun p hp => ?_, fun p hp => ?_, by simp; exact h.dl, by simp; exact h.el, uni_bind h.dl h.el h.un hm hf i5, fun d' e' hm' => ?_, fun n hn => ?_⟩
 ·rcases put_mem.1 hp with rfl | hp
  ·simp only; omega
  ·exact h.kn p hp
 ·rcases put_mem.1 hp with rfl | hp
  ·simp only; omega
  ·exact h.kk p hp
 ·rw [get_put h.bn _ hg (by omega), fnd_bind h.dl h.el h.un hm hf i5 ineg]
  by_cases e1 : d' = d ∧ e' = e
  ·obtain ⟨rfl, rfl⟩ := e1
   rw [if_pos rfl, if_pos ⟨rfl, rfl⟩]; rfl
  ·rw [if_neg e1, if_neg (fun hk => e1 (ky_inj hm' hm hk)), h.ns d' e' hm']
 ·rw [get_put h.bk _ hg2 (by omega), getI_set (by rw [h.dl]; exact i5), getI_set (by rw [h.el]; exact i5)]
  by_cases e1 : n = i
  ·subst e1
   rw [if_pos rfl, if_pos rfl, if_pos rfl, if_pos (by omega)]
  ·rw [if_neg (by omega), if_neg e1, if_neg e1, h.ks n hn]
theorem SR.full (h : SR S de ev) {d e : Int} (hm : mayE d e = true) (hf : fnd de ev d e = none) (hi : frI de = none) : S.bind d e = ((0, 2), S) := by
 have hl := h.least
 rw [hi] at hl
 simp only at hl
 have hg : getB S.ns (kyV d e) = none := by rw [h.ns d e hm, hf]; rfl
 unfold Sh.bind
 rw [hm, if_pos rfl, hg]
 simp only
 rw [hl, if_neg (by omega)]
theorem SR.free (h : SR S de ev) {d e : Int} {n : Nat} (hf : fnd de ev d e = some n) : S.free d e = (((n : Int), 0), ⟨delB S.ns (kyV d e), delB S.ks n⟩) ∧ SR ⟨delB S.ns (kyV d e), delB S.ks n⟩ (de.set n (-1)) (ev.set n (-1)) := by
 obtain ⟨hm, h5, h3, h4⟩ := (fnd_iff h.un).1 hf
 have hg : getB S.ns (kyV d e) = some (n : Int) := by rw [h.ns d e hm, hf]; rfl
 have hfr : S.free d e = (((n : Int), 0), ⟨delB S.ns (kyV d e), delB S.ks n⟩) := by
  unfold Sh.free
  rw [hm, if_pos rfl, hg]
 refine ⟨hfr, del_ok h.bn _, del_ok h.bk _, fun p hp => h.kn p (del_mem.1 hp).1, fun p hp => h.kk p (del_mem.1 hp).1, by simp; exact h.dl, by simp; exact h.el, uni_free h.dl h.el h.un h5, fun d' e' hm' => ?_, fun j hj => ?_⟩
 ·rw [get_del h.bn, fnd_free h.dl h.el h.un hf]
  by_cases e1 : d' = d ∧ e' = e
  ·obtain ⟨rfl, rfl⟩ := e1
   rw [if_pos rfl, if_pos ⟨rfl, rfl⟩]; rfl
  ·rw [if_neg e1, if_neg (fun hk => e1 (ky_inj hm' hm hk)), h.ns d' e' hm']
 ·rw [get_del h.bk, getI_set (by rw [h.dl]; exact h5), getI_set (by rw [h.el]; exact h5)]
  by_cases e1 : j = n
  ·subst e1
   rw [if_pos rfl, if_pos rfl, if_neg (by omega)]
  ·rw [if_neg (by omega), if_neg e1, if_neg e1, h.ks j hj]
theorem SR.free_no (h : SR S de ev) {d e : Int} (hf : fnd de ev d e = none) : S.free d e = ((0, if mayE d e then 250 else 1), S) := by
 unfold Sh.free
 cases hm : mayE d e with
 | true => rw [if_pos rfl, h.ns d e hm, hf]; rfl
 | false => rfl
theorem sr_new : SR ⟨[], []⟩ (List.replicate 512 (-1)) (List.replicate 512 (-1)) := by
 have hg : ∀ n, n < 512 → (List.replicate 512 (-1 : Int)).getD n 0 = -1 := fun n hn => by rw [List.getD_eq_getElem?_getD, List.getElem?_replicate, if_pos hn]; rfl
 refine ⟨⟨List.Pairwise.nil, by simp⟩, ⟨List.Pairwise.nil, by simp⟩, fun p hp => by simp at hp, fun p hp => by simp at hp, List.length_replicate, List.length_replicate, fun n hn h0 => by rw [hg n hn] at h0; omega, fun d e hm => ?_, fun n hn => ?_⟩
 ·rw [fnd_none fun hm j hj => ?_]
  ·rfl
  ·rw [hg j hj]
   have := may_lt hm
   rw [show (-1 == d) = false from beq_eq_false_iff_ne.2 (by omega), Bool.false_and]
 ·rw [hg n hn, if_neg (by omega)]; rfl
end
end Go.Proofs.YtakkogdmlbkdaaaGreatDoor.Sl.It
namespace Go.Proofs.YtakkogdmlbkdaaaGreatDoor.Sl.It
attribute [local irreducible] invK enK enV waitL
variable {T nc ns : Nat}
def F0 : Fc := facB fc0
theorem F0_ok : FcOk F0 := writeF_ok (writeF_ok (writeF_ok (by refine ⟨?_, ?_, ?_, ?_, ?_⟩ <;> decide) _ _) _ _) _ _
theorem F0_take : F0.takes 160 1 true 1 = true ∧ (F0.takeF 160 1 true 1).dropF 1 = F0 := ⟨by decide +kernel, by kernel_rfl⟩
theorem F0_no : F0.takes 0 0 false 1 = false := by decide +kernel
def onF (R : Rx) (k : Nat) : Bool := !R.asl.getD k false
def evO (R : Rx) (d e : Nat) : Option (Nat × Nat) := (fnd R.de R.ev (d : Int) (e : Int)).map fun n => (n, (R.core.getD n 0).toNat)
structure Rel (T ns nc : Nat) (x : Hx) (R : Rx) (dm : Nat → Bool) (Z : List Nat) : Prop where
 rx : R.ok ns nc
 n1 : 1 ≤ nc
 st : x.iw.st = false
 ij : x.iw.i = x.j
 j32 : x.j < 32
 wr : WR T nc x.iw.w (onF R) R.msB dm (evO R) Z
 dr : DR ns nc x.D R.high R.act R.asl
 fl : x.fs.length = nc
 fs : ∀ k, k < nc → x.fs[k]? = some F0
 sr : SR x.S R.de R.ev
 co : ∀ n, n < 512 → ∃ c : Nat, R.core.getD n 0 = (c : Int) ∧ c < nc
 wa : ∀ n, n < 512 → R.wait.getD n false = true → 0 ≤ R.de.getD n 0
theorem Rx.ms (R : Rx) (c n : Nat) : R.msB c n = (decide (0 ≤ R.de.getD n 0) && (R.core.getD n 0 == (c : Int) && R.wait.getD n false)) := rfl
theorem okd_of {D : DS} {high act asl : List Bool} (h : DR ns nc D high act asl) (h1 : 1 ≤ nc) (h8 : nc ≤ 8) (h64 : ns ≤ 64) : ∃ Q, OkD Q D := by
 refine ⟨⟨⟨0, none, 0, none, 0⟩, none, 0, none, 0, none, 0, none, 0, List.replicate nc ⟨0, none, 0, none, 0⟩⟩, by rw [h.xl]; exact h1, by rw [h.xl]; exact h8, fun x hx => by rw [h.own x hx]; exact ⟨ownK_len 16, ownK_ok 16⟩, by rw [h.len]; exact h64, fun e he => ?_, by simp; exact h.xl.symm, fun e he => ?_⟩
 ·obtain ⟨i, hi⟩ := List.getElem?_of_mem he
  have hlt : i < ns := by rw [← h.len]; exact (List.getElem?_eq_some_iff.1 hi).1
  rw [h.sh i hlt] at hi
  have := Option.some.inj hi
  rw [← this]
  exact ⟨by show (0 : Int) ≤ 1; decide, by show (1 : Int) ≤ 1; decide, by show (0 : Int) ≤ 160; decide, by show (160 : Int) ≤ 255; decide, by show realV 160 = 160; decide +kernel⟩
 ·obtain ⟨i, hi⟩ := List.getElem?_of_mem he
  have hlt : i < ns := by rw [← h.len]; exact (List.getElem?_eq_some_iff.1 hi).1
  rw [h.sh i hlt] at hi
  have := Option.some.inj hi
  rw [← this]
  exact ⟨by show (0 : Int) ≤ 0; decide, by show (0 : Int) ≤ 255; decide⟩
section
variable {x : Hx} {R : Rx} {dm : Nat → Bool} {Z : List Nat}
theorem Rel.hx (h : Rel T ns nc x R dm Z) : x.ok T nc := by
 refine ⟨⟨h.wr.ok, by rw [h.ij]; exact h.j32⟩, h.j32, fun k hk b hb => ?_, h.sr.ok, h.sr.sv, h.fl, fun f hf => ?_, okd_of h.dr h.n1 h.wr.n8 h.rx.n64, h.dr.xl, h.n1, h.wr.n8⟩
 ·obtain ⟨i, hi⟩ := List.getElem?_of_mem hb
  have hl := (ok_at h.wr.ok hk).2.1
  have hlt : i < 512 := by rw [← hl]; exact (List.getElem?_eq_some_iff.1 hi).1
  have h9 := h.wr.cf k hk i hlt
  rw [List.getD_eq_getElem?_getD, hi] at h9
  simp at h9; omega
 ·obtain ⟨i, hi⟩ := List.getElem?_of_mem hf
  have hlt : i < nc := by rw [← h.fl]; exact (List.getElem?_eq_some_iff.1 hi).1
  rw [h.fs i hlt] at hi
  rw [← Option.some.inj hi]; exact F0_ok
theorem Rel.num (h : Rel T ns nc x R dm Z) (d e : Int) : x.S.num d e = (fnd R.de R.ev d e).map (fun n => (n : Int)) := h.sr.num d e
theorem nat_of_may {d e : Int} (h : mayE d e = true) : ∃ a b : Nat, d = a ∧ e = b ∧ a < 32 ∧ b < 16 := by
 have := may_lt h
 exact ⟨d.toNat, e.toNat, by omega, by omega, by omega, by omega⟩
theorem ev_some {a b n c : Nat} (hf : fnd R.de R.ev (a : Int) (b : Int) = some n) (hc : R.core.getD n 0 = (c : Int)) : evO R a b = some (n, c) := by
 unfold evO
 rw [hf]
 simp only [Option.map_some, hc, Int.toNat_natCast]
theorem cmd_eq {x : Hx} (hB : okT T x.iw.w.B.length) (hj : x.j < 32) (hi : x.iw.i = x.j) (hst : x.iw.st = false) {c : Cm} (he : (encV c).2 = 0) (hd : (doV 64 ⟨stW x.iw.w.B x.j (encV c).1 4, x.iw.w.cs⟩ c).2 = 0) :
  x.cmd c = { x with iw := ⟨(doV 64 ⟨stW x.iw.w.B x.j (encV c).1 4, x.iw.w.cs⟩ c).1, false, (x.j + 1) % 32⟩, j := (x.j + 1) % 32 } ∧ x.cmdE c = 0 := by
 have h := cmd_run hB hj hi hst he hd
 unfold Hx.cmd Hx.cmdE
 rw [h]
 exact ⟨rfl, rfl⟩
theorem Rel.bind (h : Rel T ns nc x R dm Z) (d e c : Int) : ∃ dm', Rel T ns nc (x.bnd nc d e c) (R.bindV nc d e c).1 dm' Z ∧ x.bndR nc d e c = (R.bindV nc d e c).2 := by
 have h8 := h.wr.n8
 have hBl := h.wr.ok.1
 have hcl := h.rx.core
 have hwl := h.rx.wait
 unfold Hx.bnd Hx.bndR Rx.bindV
 cases hr : rightV nc c with
 | false => exact ⟨dm, h, rfl⟩
 | true =>
  obtain ⟨k, rfl, hk⟩ : ∃ k : Nat, c = k ∧ k < nc := ⟨c.toNat, by simp [rightV] at hr; omega, by simp [rightV] at hr; omega⟩
  simp only [if_true]
  rw [h.num]
  cases hm : mayE d e with
  | false =>
   rw [fnd_no hm]
   have hb : x.S.bind d e = ((0, 1), x.S) := by unfold Sh.bind; rw [hm]; rfl
   simp only [Option.map_none, hb]
   exact ⟨dm, h, rfl⟩
  | true =>
   obtain ⟨a, b, rfl, rfl, ha, hb⟩ := nat_of_may hm
   cases hf : fnd R.de R.ev (a : Int) (b : Int) with
   | some n =>
    obtain ⟨_, hn, hd3, he3⟩ := (fnd_iff h.sr.un).1 hf
    obtain ⟨q, hq, hqn⟩ := h.co n hn
    have hev := ev_some hf hq
    have hu : ∀ j, j < nc → j ≠ q → R.msB j n = false := fun j hj hne => by
     rw [R.ms, hq, show ((q : Int) == (j : Int)) = false from beq_eq_false_iff_ne.2 (by omega)]; simp
    obtain ⟨e1, w1⟩ := (h.wr.queue h.j32 (encV (cmMovi a b k)).1).movi ha hb hk hev hu
    obtain ⟨e2, e3⟩ := cmd_eq (x := x) (T := T) hBl h.j32 h.ij h.st (enc_movi ha hb (by omega)) e1
    simp only [Option.map_some, if_true]
    rw [e3, e2]
    refine ⟨dm, ⟨⟨h.rx.de, h.rx.ev, by simp; exact hcl, hwl, h.rx.high, h.rx.act, h.rx.asl, h.rx.n64, h.rx.n8⟩, h.n1, rfl, rfl, Nat.mod_lt _ (by omega), ?_, h.dr, h.fl, h.fs, h.sr, fun i hi => ?_, h.wa⟩, rfl⟩
    ·refine (w1.congr (fun _ _ => rfl) fun j i hj hi => ?_).evc fun d' e' hd' he' => ?_
     ·rw [R.ms, Rx.ms]
      simp only
      rw [getI_set (by omega)]
      by_cases e9 : i = n
      ·subst e9
       rw [if_pos rfl, if_pos rfl, hq, beq_self_eq_true, Bool.true_and]
       have : ((k : Int) == (j : Int)) = (j == k) := by rw [Bool.eq_iff_iff]; simp; omega
       rw [this]
       cases decide (0 ≤ R.de.getD i 0) <;> cases (j == k) <;> rfl
      ·rw [if_neg e9, if_neg e9]; rfl
     ·unfold evO
      simp only
      by_cases e9 : d' = a ∧ e' = b
      ·obtain ⟨rfl, rfl⟩ := e9
       rw [if_pos ⟨rfl, rfl⟩, hf]
       simp only [Option.map_some]
       rw [getI_set (by omega), if_pos rfl, Int.toNat_natCast]
      ·rw [if_neg e9]
       cases hf2 : fnd R.de R.ev (d' : Int) (e' : Int) with
       | none => rfl
       | some n2 =>
        simp only [Option.map_some]
        rw [getI_set (by omega), if_neg]
        rintro rfl
        obtain ⟨_, _, h6, h7⟩ := (fnd_iff h.sr.un).1 hf2
        exact e9 ⟨by omega, by omega⟩
    ·rw [getI_set (by omega)]
     split
     ·exact ⟨k, rfl, hk⟩
     ·exact h.co i hi
   | none =>
    simp only [Option.map_none, if_true]
    cases hi : frI R.de with
    | none =>
     rw [h.sr.full hm hf hi]
     exact ⟨dm, h, rfl⟩
    | some i =>
     obtain ⟨i5, ineg, _⟩ := frI_eq hi
     obtain ⟨hb1, hsr⟩ := h.sr.bind hm hf hi
     rw [hb1]
     simp only [ne_eq, not_true, if_false]
     -- ahead of the last command
     obtain ⟨y, dm1, hy, hdm, hyw, hyr⟩ : ∃ (y : Hx) (dm1 : Nat → Bool), x.bnd1 a b = y ∧ dm1 a = true ∧ WR T nc y.iw.w (onF R) R.msB dm1 (evO R) Z ∧ (y.iw.st = false ∧ y.iw.i = y.j ∧ y.j < 32 ∧ y.D = x.D ∧ y.fs = x.fs ∧ y.S = ⟨putB x.S.ns (kyV a b) i, putB x.S.ks i (kyV a b)⟩) := by
      unfold Hx.bnd1
      rw [hb1, h.wr.mt.tab ha]
      simp only
      cases hdm : dm a with
      | true =>
       rw [if_pos rfl, if_pos rfl]
       exact ⟨_, dm, rfl, hdm, h.wr, h.st, h.ij, h.j32, rfl, rfl, rfl⟩
      | false =>
       simp only [Bool.false_eq_true, if_false]
       obtain ⟨e1, w1⟩ := (h.wr.queue h.j32 (encV (cmMapd a)).1).mapd ha hdm
       obtain ⟨e2, e3⟩ := cmd_eq (x := ({ x with S := ⟨putB x.S.ns (kyV a b) i, putB x.S.ks i (kyV a b)⟩ } : Hx)) (T := T) hBl h.j32 h.ij h.st (enc_mapd ha) e1
       rw [e2]
       exact ⟨_, _, rfl, by simp, w1, rfl, rfl, Nat.mod_lt _ (by omega), rfl, rfl, rfl⟩
     rw [hy]
     obtain ⟨y1, y2, y3, y4, y5, y6⟩ := hyr
     have hev : evO R a b = none := by unfold evO; rw [hf]; rfl
     obtain ⟨e1, w1⟩ := (hyw.queue y3 (encV (cmMapti a b (8192 + (i : Int)) k)).1).mapti ha hb i5 hk hdm hev
     obtain ⟨e2, e3⟩ := cmd_eq (x := y) (T := T) hyw.ok.1 y3 y2 y1 (enc_mapti ha hb i5 (by omega)) e1
     rw [e3, e2]
     refine ⟨dm1, ⟨⟨by simp; exact h.rx.de, by simp; exact h.rx.ev, by simp; exact hcl, by simp; exact hwl, h.rx.high, h.rx.act, h.rx.asl, h.rx.n64, h.rx.n8⟩, h.n1, rfl, rfl, Nat.mod_lt _ (by omega), ?_, by show DR ns nc y.D _ _ _; rw [y4]; exact h.dr, by show y.fs.length = nc; rw [y5]; exact h.fl, by show ∀ k, k < nc → y.fs[k]? = some F0; rw [y5]; exact h.fs, by show SR y.S _ _; rw [y6]; exact hsr, fun n hn => ?_, fun n hn hw => ?_⟩, rfl⟩
     ·refine (w1.congr (fun _ _ => rfl) fun j n hj hn => ?_).evc fun d' e' hd' he' => ?_
      ·rw [R.ms, Rx.ms]
       simp only
       rw [getI_set (by rw [h.rx.de]; exact i5), getI_set (by omega), getB_set (by omega)]
       by_cases e9 : n = i
       ·subst e9
        rw [if_pos rfl, if_pos rfl, if_pos rfl]
        have : R.wait.getD n false = false := by
         cases hw : R.wait.getD n false with
         | false => rfl
         | true => have := h.wa n hn hw; omega
        rw [this]; simp
       ·rw [if_neg e9, if_neg e9, if_neg e9]
      ·unfold evO
       simp only
       rw [fnd_bind h.rx.de h.rx.ev h.sr.un hm hf i5 ineg]
       by_cases e9 : d' = a ∧ e' = b
       ·obtain ⟨rfl, rfl⟩ := e9
        rw [if_pos ⟨rfl, rfl⟩, if_pos ⟨rfl, rfl⟩]
        simp only [Option.map_some]
        rw [getI_set (by omega), if_pos rfl, Int.toNat_natCast]
       ·rw [if_neg e9, if_neg (fun hh => e9 ⟨by omega, by omega⟩)]
        cases hf2 : fnd R.de R.ev (d' : Int) (e' : Int) with
        | none => rfl
        | some n2 =>
         simp only [Option.map_some]
         rw [getI_set (by omega), if_neg]
         rintro rfl
         obtain ⟨h5, _, h6, h7⟩ := (fnd_iff h.sr.un).1 hf2
         have := may_lt h5; omega
     ·simp only
      rw [getI_set (by omega)]
      split
      ·exact ⟨k, rfl, hk⟩
      ·exact h.co n hn
     ·simp only at hw ⊢
      rw [getB_set (by omega)] at hw
      rw [getI_set (by rw [h.rx.de]; exact i5)]
      by_cases e9 : n = i
      ·rw [if_pos e9] at hw; cases hw
      ·rw [if_neg e9] at hw
       rw [if_neg e9]; exact h.wa n hn hw
theorem Rel.unb (h : Rel T ns nc x R dm Z) (d e : Int) : ∃ dm', Rel T ns nc (x.unb d e) (R.unbV d e).1 dm' Z ∧ x.unbE d e = (R.unbV d e).2 := by
 have h8 := h.wr.n8
 have hBl := h.wr.ok.1
 have hcl := h.rx.core
 have hwl := h.rx.wait
 unfold Hx.unb Hx.unbE Rx.unbV
 cases hf : fnd R.de R.ev d e with
 | none =>
  rw [h.sr.free_no hf]
  cases hm : mayE d e with
  | true => exact ⟨dm, h, rfl⟩
  | false => exact ⟨dm, h, rfl⟩
 | some n =>
  obtain ⟨hm, hn, hd3, he3⟩ := (fnd_iff h.sr.un).1 hf
  obtain ⟨a, b, rfl, rfl, ha, hb⟩ := nat_of_may hm
  obtain ⟨q, hq, hqn⟩ := h.co n hn
  obtain ⟨hfr, hsr⟩ := h.sr.free hf
  rw [hfr, hm]
  simp only [ne_eq, not_true, if_false, if_true]
  have hev := ev_some hf hq
  obtain ⟨e1, w1⟩ := (h.wr.queue h.j32 (encV (cmDisc a b)).1).disc ha hb hev
  obtain ⟨e2, e3⟩ := cmd_eq (x := ({ x with S := ⟨delB x.S.ns (kyV a b), delB x.S.ks n⟩ } : Hx)) (T := T) hBl h.j32 h.ij h.st (enc_disc ha hb) e1
  have e4 : x.cmdE (cmDisc a b) = 0 := e3
  rw [e4, e2]
  refine ⟨dm, ⟨⟨by simp; exact h.rx.de, by simp; exact h.rx.ev, hcl, by simp; exact hwl, h.rx.high, h.rx.act, h.rx.asl, h.rx.n64, h.rx.n8⟩, h.n1, rfl, rfl, Nat.mod_lt _ (by omega), ?_, h.dr, h.fl, h.fs, hsr, h.co, fun i hi hw => ?_⟩, rfl⟩
  ·refine (w1.congr (fun _ _ => rfl) fun j i hj hi => ?_).evc fun d' e' hd' he' => ?_
   ·rw [R.ms, Rx.ms]
    simp only
    rw [getI_set (by rw [h.rx.de]; exact hn), getB_set (by omega)]
    by_cases e9 : i = n
    ·subst e9
     rw [if_pos rfl, if_pos rfl]
     by_cases e8 : j = q
     ·rw [if_pos ⟨e8, rfl⟩]; simp
     ·rw [if_neg (fun hh => e8 hh.1), hq, show ((q : Int) == (j : Int)) = false from beq_eq_false_iff_ne.2 (by omega)]; simp
    ·rw [if_neg e9, if_neg e9, if_neg (fun hh => e9 hh.2)]
   ·unfold evO
    simp only
    rw [fnd_free h.rx.de h.rx.ev h.sr.un hf]
    by_cases e9 : d' = a ∧ e' = b
    ·obtain ⟨rfl, rfl⟩ := e9
     rw [if_pos ⟨rfl, rfl⟩, if_pos ⟨rfl, rfl⟩]; rfl
    ·rw [if_neg e9, if_neg (fun hh => e9 ⟨by omega, by omega⟩)]
  ·simp only at hw ⊢
   rw [getB_set (by omega)] at hw
   rw [getI_set (by rw [h.rx.de]; exact hn)]
   by_cases e9 : i = n
   ·rw [if_pos e9] at hw; cases hw
   ·rw [if_neg e9] at hw
    rw [if_neg e9]; exact h.wa i hi hw
theorem Rel.setw (h : Rel T ns nc x R dm Z) {n q : Nat} (hn : n < 512) (hq : R.core.getD n 0 = (q : Int)) (hqn : q < nc) (v : Bool) (hv : 0 ≤ R.de.getD n 0) :
  Rel T ns nc (x.setW (x.iw.w.set q (8192 + (n : Int)) v)) { R with wait := R.wait.set n v } dm Z := by
 have hwl := h.rx.wait
 refine ⟨⟨h.rx.de, h.rx.ev, h.rx.core, by simp; exact hwl, h.rx.high, h.rx.act, h.rx.asl, h.rx.n64, h.rx.n8⟩, h.n1, h.st, h.ij, h.j32, ?_, h.dr, h.fl, h.fs, h.sr, h.co, fun i hi hw => ?_⟩
 ·refine (h.wr.set hqn hn v).congr (fun _ _ => rfl) fun j i hj hi => ?_
  rw [R.ms, Rx.ms]
  simp only
  rw [getB_set (by omega)]
  by_cases e9 : i = n
  ·subst e9
   rw [if_pos rfl, hq]
   by_cases e8 : j = q
   ·rw [if_pos ⟨e8, rfl⟩, e8, beq_self_eq_true, decide_eq_true hv]; simp
   ·rw [if_neg (fun hh => e8 hh.1), show ((q : Int) == (j : Int)) = false from beq_eq_false_iff_ne.2 (by omega)]; simp
  ·rw [if_neg e9, if_neg (fun hh => e9 hh.2)]
 ·simp only at hw ⊢
  rw [getB_set (by omega)] at hw
  by_cases e9 : i = n
  ·rw [e9]; exact hv
  ·rw [if_neg e9] at hw; exact h.wa i hi hw
theorem Rel.msg (h : Rel T ns nc x R dm Z) (d e : Int) : Rel T ns nc (x.msg d e).1 (R.msgV d e).1 dm Z ∧ (x.msg d e).2 = (R.msgV d e).2 := by
 unfold Hx.msg Rx.msgV
 rw [h.num]
 cases hf : fnd R.de R.ev d e with
 | none => exact ⟨h, rfl⟩
 | some n =>
  obtain ⟨hm, hn, hd3, he3⟩ := (fnd_iff h.sr.un).1 hf
  obtain ⟨a, b, rfl, rfl, ha, hb⟩ := nat_of_may hm
  obtain ⟨q, hq, hqn⟩ := h.co n hn
  simp only [Option.map_some, Option.isSome_some, if_true]
  rw [h.wr.msg ha hb (ev_some hf hq)]
  exact ⟨h.setw hn hq hqn true (by omega), rfl⟩
theorem Rel.wtk (h : Rel T ns nc x R dm Z) (d e : Int) : Hx.wtK nc x.iw.w (x.S.num d e) = (R.wts d e).map (fun n => (R.core.getD n 0).toNat) := by
 rw [h.num]
 unfold Rx.wts Hx.wtK
 cases hf : fnd R.de R.ev d e with
 | none => rfl
 | some n =>
  obtain ⟨hm, hn, hd3, he3⟩ := (fnd_iff h.sr.un).1 hf
  obtain ⟨q, hq, hqn⟩ := h.co n hn
  have := may_lt hm
  simp only [Option.map_some]
  have hh : ∀ k, k < nc → x.iw.w.has k (8192 + (n : Int)) = R.msB k n := fun k hk => (h.wr.wt k hk).has hn
  cases hw : R.wait.getD n false with
  | false =>
   simp only [Bool.false_eq_true, if_false, Option.map_none]
   refine find_none fun j hj => ?_
   rw [hh j hj, R.ms, hw]; simp
  | true =>
   simp only [if_true, Option.map_some]
   rw [hq, Int.toNat_natCast]
   refine find_some hqn ?_ fun j hj => ?_
   ·rw [hh q hqn, R.ms, hw, hq, decide_eq_true (show 0 ≤ R.de.getD n 0 by omega), beq_self_eq_true]; rfl
   ·rw [hh j (by omega), R.ms, hq, show ((q : Int) == (j : Int)) = false from beq_eq_false_iff_ne.2 (by omega)]; simp
theorem Rel.wtv (h : Rel T ns nc x R dm Z) (d e : Int) : wtV (Hx.wtK nc x.iw.w (x.S.num d e)) = R.wtsV d e := by
 rw [h.wtk]
 unfold Rx.wtsV
 cases hw : R.wts d e with
 | none => rfl
 | some n =>
  have hf : fnd R.de R.ev d e = some n := by
   unfold Rx.wts at hw
   cases hh : fnd R.de R.ev d e with
   | none => rw [hh] at hw; cases hw
   | some m => rw [hh] at hw; simp only at hw; split at hw <;> cases hw; rfl
  obtain ⟨q, hq, hqn⟩ := h.co n ((fnd_iff h.sr.un).1 hf).2.1
  simp only [Option.map_some, hq, Int.toNat_natCast]
  rfl
theorem Rx.wts_some {R : Rx} {d e : Int} {n : Nat} (hw : R.wts d e = some n) : fnd R.de R.ev d e = some n ∧ R.wait.getD n false = true := by
 unfold Rx.wts at hw
 cases hh : fnd R.de R.ev d e with
 | none => rw [hh] at hw; cases hw
 | some m =>
  rw [hh] at hw
  simp only at hw
  split at hw
  ·rename_i h9
   cases hw
   exact ⟨rfl, h9⟩
  ·cases hw
theorem Rel.pull (h : Rel T ns nc x R dm Z) (d e : Int) : Rel T ns nc (x.pull nc d e) (R.pullV d e) dm Z ∧ (Hx.wtK nc x.iw.w (x.S.num d e)).isSome = (R.wts d e).isSome := by
 have hk := h.wtk d e
 unfold Hx.pull Rx.pullV
 rw [hk]
 cases hw : R.wts d e with
 | none => exact ⟨h, rfl⟩
 | some n =>
  obtain ⟨hf, _⟩ := Rx.wts_some hw
  obtain ⟨hm, hn, hd3, he3⟩ := (fnd_iff h.sr.un).1 hf
  obtain ⟨q, hq, hqn⟩ := h.co n hn
  have := may_lt hm
  simp only [Option.map_some]
  rw [h.num, hf, hq, Int.toNat_natCast]
  exact ⟨h.setw hn hq hqn false (by omega), rfl⟩
theorem Rel.setD_ (h : Rel T ns nc x R dm Z) {D : DS} {high act : List Bool} (hd : DR ns nc D high act R.asl) (h1 : high.length = ns) (h2 : act.length = ns) : Rel T ns nc (x.setD D) { R with high := high, act := act } dm Z :=
 ⟨⟨h.rx.de, h.rx.ev, h.rx.core, h.rx.wait, h1, h2, h.rx.asl, h.rx.n64, h.rx.n8⟩, h.n1, h.st, h.ij, h.j32, h.wr, hd, h.fl, h.fs, h.sr, h.co, h.wa⟩
theorem shr_cases (ns : Nat) (id : Int) : (id < 32 ∧ shrI ns id = -1) ∨ (32 ≤ id ∧ id - 32 ≥ ns ∧ shrI ns id = -1) ∨ ∃ k : Nat, k < ns ∧ id = 32 + (k : Int) ∧ shrI ns id = k := by
 unfold shrI
 by_cases h1 : id < 32
 ·exact .inl ⟨h1, by rw [if_pos (.inl h1)]⟩
 ·by_cases h2 : id - 32 ≥ ns
  ·exact .inr (.inl ⟨by omega, h2, by rw [if_pos (.inr h2)]⟩)
  ·refine .inr (.inr ⟨(id - 32).toNat, by omega, by omega, ?_⟩)
   rw [if_neg (by omega)]; omega
theorem Rel.wire (h : Rel T ns nc x R dm Z) (id : Int) (v : Bool) : Rel T ns nc (if id < 32 then x else x.setD (x.D.doV 0 id (if v then 1 else 2)).1) (R.wireV ns id v).1 dm Z ∧ (if id < 32 then 90 else (x.D.doV 0 id (if v then 1 else 2)).2) = (R.wireV ns id v).2 := by
 unfold Rx.wireV
 rcases shr_cases ns id with ⟨h1, h2⟩ | ⟨h1, h3, h2⟩ | ⟨k, hk, rfl, h2⟩
 ·rw [h2, if_pos (show (-1 : Int) < 0 by decide), if_pos h1, if_pos h1]
  exact ⟨h, rfl⟩
 ·have hn := h.dr.do_no h.n1 (k := 0) (by have := h.n1; omega) h1 h3 (if v then 1 else 2)
  rw [h2, if_pos (show (-1 : Int) < 0 by decide), if_neg (show ¬ id < 32 by omega), if_neg (show ¬ id < 32 by omega)]
  rw [show (0 : Int) = ((0 : Nat) : Int) by rfl, hn]
  exact ⟨h, rfl⟩
 ·obtain ⟨e1, e2⟩ := h.dr.wire h.n1 h.rx.high hk v
  rw [h2, if_neg (show ¬ (k : Int) < 0 by omega), if_neg (show ¬ 32 + (k : Int) < 32 by omega), if_neg (show ¬ 32 + (k : Int) < 32 by omega), Int.toNat_natCast]
  exact ⟨h.setD_ e2 (by simp; exact h.rx.high) h.rx.act, e1⟩
theorem Rel.end_ (h : Rel T ns nc x R dm Z) (id : Int) : Rel T ns nc (if id < 32 then x else x.setD (x.D.doV 0 id 6).1) (R.endV ns id).1 dm Z ∧ (if id < 32 then 90 else (x.D.doV 0 id 6).2) = (R.endV ns id).2 := by
 unfold Rx.endV
 rcases shr_cases ns id with ⟨h1, h2⟩ | ⟨h1, h3, h2⟩ | ⟨k, hk, rfl, h2⟩
 ·rw [h2, if_pos (show (-1 : Int) < 0 by decide), if_pos h1, if_pos h1]
  exact ⟨h, rfl⟩
 ·have hn := h.dr.do_no h.n1 (k := 0) (by have := h.n1; omega) h1 h3 6
  rw [h2, if_pos (show (-1 : Int) < 0 by decide), if_neg (show ¬ id < 32 by omega), if_neg (show ¬ id < 32 by omega)]
  rw [show (0 : Int) = ((0 : Nat) : Int) by rfl, hn]
  exact ⟨h, rfl⟩
 ·obtain ⟨e1, e2⟩ := h.dr.endd h.n1 h.rx.act hk
  rw [h2, if_neg (show ¬ (k : Int) < 0 by omega), if_neg (show ¬ 32 + (k : Int) < 32 by omega), if_neg (show ¬ 32 + (k : Int) < 32 by omega), Int.toNat_natCast]
  exact ⟨h.setD_ e2 h.rx.high (by simp; exact h.rx.act), e1⟩
theorem Rel.pow (h : Rel T ns nc x R dm Z) (k : Int) (on : Bool) : Rel T ns nc (if rightV nc k then x.pow k.toNat on else x) (R.powV nc k on).1 dm Z ∧ (if rightV nc k then 0 else 130) = (R.powV nc k on).2 := by
 unfold Rx.powV
 cases hr : rightV nc k with
 | false => exact ⟨h, rfl⟩
 | true =>
  obtain ⟨k, rfl, hk⟩ : ∃ n : Nat, k = n ∧ n < nc := ⟨k.toNat, by simp [rightV] at hr; omega, by simp [rightV] at hr; omega⟩
  simp only [if_true, Int.toNat_natCast]
  refine ⟨⟨⟨h.rx.de, h.rx.ev, h.rx.core, h.rx.wait, h.rx.high, h.rx.act, by simp; exact h.rx.asl, h.rx.n64, h.rx.n8⟩, h.n1, h.st, h.ij, h.j32, ?_, (h.dr.pow h.rx.asl hk on).2, h.fl, h.fs, h.sr, h.co, h.wa⟩, trivial⟩
  unfold Hx.pow
  have hal := h.rx.asl
  cases on with
  | true =>
   refine (h.wr.en hk).congr (fun j hj => ?_) fun _ _ _ _ => rfl
   unfold onF
   rw [getB_set (by omega)]
   by_cases e : j = k
   ·rw [if_pos e, if_pos e]; rfl
   ·rw [if_neg e, if_neg e]
  | false =>
   refine (h.wr.dis hk).congr (fun j hj => ?_) fun _ _ _ _ => rfl
   unfold onF
   rw [getB_set (by omega)]
   by_cases e : j = k
   ·rw [if_pos e, if_pos e]; rfl
   ·rw [if_neg e, if_neg e]
end
end Go.Proofs.YtakkogdmlbkdaaaGreatDoor.Sl.It
namespace Go.Proofs.YtakkogdmlbkdaaaGreatDoor.Sl.It
attribute [local irreducible] invK enK enV waitL
variable {T nc ns : Nat}
section
variable {x : Hx} {R : Rx} {dm : Nat → Bool} {Z : List Nat}
theorem Rel.bestI (h : Rel T ns nc x R dm Z) {k : Nat} (hk : k < nc) : bestC (x.iw.w.at_ k).C (x.iw.w.at_ k).U = if R.asl.getD k false then ((0, 0, 0, false) : Cd) else match R.msT k with
  | some n => (8192 + (n : Int), 160, 1, true)
  | none => (0, 0, 0, false) := by
 obtain ⟨h1, h2⟩ := h.wr.wt k hk
 obtain ⟨hU, _, _⟩ := ok_at h.wr.ok hk
 unfold onF at h2
 cases ha : R.asl.getD k false with
 | true =>
  rw [ha] at h2
  rw [if_pos rfl]
  exact best_none hU fun i hi => by rw [(h2 i hi).1]; rfl
 | false =>
  rw [ha] at h2
  rw [if_neg (show ¬ (false = true) by simp)]
  have h3 : ∀ i, i < 512 → hasS (x.iw.w.at_ k).U i = R.msB k i := fun i hi => by rw [(h2 i hi).1]; rfl
  unfold Rx.msT
  cases hf : (List.range 512).find? (R.msB k) with
  | none =>
   rw [List.find?_eq_none] at hf
   refine best_none hU fun i hi => ?_
   rw [h3 i hi]
   exact Bool.eq_false_iff.2 (hf i (by simpa using hi))
  | some n =>
   rw [List.find?_range_eq_some] at hf
   obtain ⟨f1, f2, f3⟩ := hf
   have hn : n < 512 := by simpa using f2
   refine best_some (h.wr.cf k hk) hU (by rw [h3 n hn]; exact f1) fun i hi => ?_
   rw [h3 i (by omega)]
   have := f3 i hi
   rwa [Bool.not_eq_true'] at this
theorem hiT_hiO (R : Rx) (k : Nat) : R.hiT ns k = hiO ns R.high R.act k := rfl
theorem hiT_eq {R : Rx} {k i : Nat} (h : R.hiT ns k = some i) : k = 0 ∧ i < ns ∧ (R.high.getD i false && !R.act.getD i false) = true := by
 unfold Rx.hiT at h
 split at h
 ·rename_i e
  rw [List.find?_range_eq_some] at h
  exact ⟨e, by simpa using h.2.1, h.1⟩
 ·cases h
theorem msT_eq {R : Rx} {k n : Nat} (h : R.msT k = some n) : n < 512 ∧ R.msB k n = true ∧ ∀ j, j < n → R.msB k j = false := by
 unfold Rx.msT at h
 rw [List.find?_range_eq_some] at h
 refine ⟨by simpa using h.2.1, h.1, fun j hj => ?_⟩
 have := h.2.2 j hj
 rwa [Bool.not_eq_true'] at this
theorem Rel.top (h : Rel T ns nc x R dm Z) {k : Nat} (hk : k < nc) : x.top k = if R.asl.getD k false then ((0, 0, 0, false) : Cd) else match R.hiT ns k with
  | some i => (32 + (i : Int), 160, 1, true)
  | none => match R.msT k with
   | some n => (8192 + (n : Int), 160, 1, true)
   | none => (0, 0, 0, false) := by
 unfold Hx.top
 rw [h.dr.best h.n1 hk, h.bestI hk, ← hiT_hiO]
 cases ha : R.asl.getD k false with
 | true => rfl
 | false =>
  simp only [Bool.false_eq_true, if_false]
  cases hh : R.hiT ns k with
  | none => rfl
  | some i =>
   have hi := (hiT_eq hh).2.1
   have h64 := h.rx.n64
   cases hm : R.msT k with
   | none => rfl
   | some n =>
    simp only
    unfold topC beforeV
    simp only [Bool.not_true, Bool.false_or, Bool.true_and]
    rw [if_neg]
    simp only [Bool.or_eq_true, decide_eq_true_eq, Bool.and_eq_true, beq_iff_eq, not_or, not_and]
    exact ⟨by omega, fun _ => by omega⟩
theorem Rel.bnds (h : Rel T ns nc x R dm Z) : ∀ n : Nat, n < nc → 0 ≤ (x.top n).2.1 ∧ (x.top n).2.1 ≤ 255 ∧ 0 ≤ (x.top n).2.2.1 ∧ (x.top n).2.2.1 ≤ 1 ∧ (x.top n).1 ≤ 100000 := fun k hk => by
 rw [h.top hk]
 have h64 := h.rx.n64
 split
 ·simp
 ·split
  ·rename_i i hh
   have := (hiT_eq hh).2.1
   simp only; omega
  ·split
   ·rename_i n hh
    have := (msT_eq hh).1
    simp only; omega
   ·simp
theorem Rel.face (h : Rel T ns nc x R dm Z) {k : Nat} (hk : k < nc) : x.face k = F0 := by unfold Hx.face; rw [h.fs k hk]; rfl
theorem Rel.take (h : Rel T ns nc x R dm Z) (k : Int) : Rel T ns nc (x.takeR nc k).1 (R.takeV ns nc k).1 dm Z ∧ (x.takeR nc k).2 = ibV (R.takeV ns nc k).2 := by
 unfold Hx.takeR Rx.takeV
 cases hr : rightV nc k with
 | false => exact ⟨h, rfl⟩
 | true =>
  obtain ⟨k, rfl, hk⟩ : ∃ n : Nat, k = n ∧ n < nc := ⟨k.toNat, by simp [rightV] at hr; omega, by simp [rightV] at hr; omega⟩
  have ht := h.top hk
  have hf := h.face hk
  have hfs : x.fs.set k F0 = x.fs := set_same_ (h.fs k hk)
  simp only [if_true, Int.toNat_natCast, Bool.true_and]
  cases ha : R.asl.getD k false with
  | true =>
   rw [ha, if_pos rfl] at ht
   have htk : x.tks k = false := by unfold Hx.tks; rw [ht, hf]; exact F0_no
   rw [htk]
   exact ⟨h, rfl⟩
  | false =>
   rw [ha, if_neg (show ¬ (false = true) by simp)] at ht
   simp only [Bool.not_false, if_true]
   unfold Rx.takeN
   cases hh : R.hiT ns k with
   | some i =>
    obtain ⟨rfl, hi, hb⟩ := hiT_eq hh
    have h64 := h.rx.n64
    rw [hh] at ht
    simp only at ht
    have htk : x.tks 0 = true := by unfold Hx.tks; rw [ht, hf]; exact F0_take.1
    rw [htk]
    simp only [if_true]
    have hto : x.took 0 = x.setD (x.D.doV (0 : Nat) (32 + (i : Int)) 5).1 := by
     unfold Hx.took
     rw [ht, hf]
     simp only
     rw [if_neg (by omega), show (160 : Int).toNat = 160 from rfl, show (1 : Int).toNat = 1 from rfl, F0_take.2, hfs]
     rfl
    rw [hto, ht]
    exact ⟨h.setD_ (h.dr.ack h.n1 h.rx.act hk hi hb) h.rx.high (by simp; exact h.rx.act), rfl⟩
   | none =>
    rw [hh] at ht
    simp only at ht
    cases hm : R.msT k with
    | some n =>
     obtain ⟨hn, hb, _⟩ := msT_eq hm
     obtain ⟨q, hq, hqn⟩ := h.co n hn
     rw [R.ms] at hb
     simp only [Bool.and_eq_true, decide_eq_true_eq, beq_iff_eq] at hb
     obtain rfl : q = k := by have := hb.2.1; omega
     rw [hm] at ht
     simp only at ht
     have htk : x.tks q = true := by unfold Hx.tks; rw [ht, hf]; exact F0_take.1
     rw [htk]
     simp only [if_true]
     have hto : x.took q = x.setW (x.iw.w.set q (8192 + (n : Int)) false) := by
      unfold Hx.took
      rw [ht, hf]
      simp only
      rw [if_pos (by omega), show (160 : Int).toNat = 160 from rfl, show (1 : Int).toNat = 1 from rfl, F0_take.2, hfs]
      rfl
     rw [hto, ht]
     exact ⟨h.setw hn hq hqn false hb.1, rfl⟩
    | none =>
     rw [hm] at ht
     simp only at ht
     have htk : x.tks k = false := by unfold Hx.tks; rw [ht, hf]; exact F0_no
     rw [htk]
     exact ⟨h, rfl⟩
theorem Rel.copy (h : Rel T ns nc x R dm Z) {E : DS} (hl : E.like x.D) : Rel T ns nc (x.setD E) R dm Z := h.setD_ (h.dr.like_ hl) h.rx.high h.rx.act
theorem Rel.awake (h : Rel T ns nc x R dm Z) (k : Int) : (!asleepV x.D.xs k) = (rightV nc k && !R.asl.getD k.toNat false) := by
 cases hr : rightV nc k with
 | false =>
  unfold asleepV
  rw [h.dr.xl, hr]; rfl
 | true =>
  obtain ⟨k, rfl, hk⟩ : ∃ n : Nat, k = n ∧ n < nc := ⟨k.toNat, by simp [rightV] at hr; omega, by simp [rightV] at hr; omega⟩
  rw [h.dr.sl k hk]; rfl
end
end Go.Proofs.YtakkogdmlbkdaaaGreatDoor.Sl.It
namespace Go.Proofs.YtakkogdmlbkdaaaGreatDoor.Sl.It
attribute [local irreducible] invK enK enV waitL
variable {T nc ns : Nat}
theorem bootF_at {nc : Nat} : ∀ j, j ≤ nc → ∀ k, k < nc → (bootF (List.replicate nc fc0) j)[k]? = some (if k < j then F0 else fc0)
 | 0, _, k, hk => by
  show (List.replicate nc fc0)[k]? = _
  rw [List.getElem?_replicate, if_pos hk, if_neg (by omega)]
 | j + 1, hj, k, hk => by
  have ih := bootF_at (nc := nc) j (by omega)
  have hl : (bootF (List.replicate nc fc0) j).length = nc := by rw [bootF_len, List.length_replicate]
  have hb : bootF (List.replicate nc fc0) (j + 1) = (bootF (List.replicate nc fc0) j).set j (facB (((bootF (List.replicate nc fc0) j)[j]?).getD fc0)) := rfl
  rw [hb]
  by_cases e : k = j
  ·subst e
   rw [List.getElem?_set_self (by omega), ih k hk, if_neg (by omega), if_pos (by omega)]; rfl
  ·rw [List.getElem?_set_ne (by omega), ih k hk]
   by_cases e2 : k < j
   ·rw [if_pos e2, if_pos (by omega)]
   ·rw [if_neg e2, if_neg (by omega)]
theorem prop_spec {B : List Nat} (hB : okT T B.length) : ∀ k, k ≤ 512 → KS (fun a => a < 10240 ∨ 10752 ≤ a) B (propF B k) ∧ ∀ i, i < k → rdN (propF B k) (10240 + i) 1 = 161
 | 0, _ => by rw [propF_0]; exact ⟨KS.refl _ _, fun i hi => absurd hi (by omega)⟩
 | k + 1, hk => by
  obtain ⟨h1, h2⟩ := prop_spec hB k (by omega)
  rw [propF_s]
  have hl : 10240 + k + 1 ≤ (propF B k).length := by rw [h1.1]; omega
  refine ⟨h1.trans ((KS.wr hl).mono fun a ha => by omega), fun i hi => ?_⟩
  by_cases e : i = k
  ·subst e; rw [rd_wr _ hl]
  ·rw [rd_apart _ hl (by omega)]; exact h2 i (by omega)
theorem leads_spec {B : List Nat} (hB : okT T B.length) : ∀ k, k ≤ 4 → KS (fun a => a < 1024 ∨ 1056 ≤ a) B (leadsF B k) ∧ ∀ i, i < k → rdN (leadsF B k) (1024 + 8 * i) 8 = 2 ^ 63 + 1280 + 64 * i
 | 0, _ => ⟨KS.refl _ _, fun i hi => absurd hi (by omega)⟩
 | k + 1, hk => by
  obtain ⟨h1, h2⟩ := leads_spec hB k (by omega)
  have hb : leadsF B (k + 1) = leadV (leadsF B k) k := rfl
  rw [hb]
  unfold leadV
  have hl : 1024 + 8 * k + 8 ≤ (leadsF B k).length := by rw [h1.1]; omega
  refine ⟨h1.trans ((KS.wr hl).mono fun a ha => by omega), fun i hi => ?_⟩
  by_cases e : i = k
  ·subst e
   rw [rd_wr _ hl, show (256 : Nat) ^ 8 = 2 ^ 64 by decide]; omega
  ·rw [rd_apart _ hl (by omega)]; exact h2 i (by omega)
theorem en_boot {w : SW} (hw : w.ok T nc) (hp : prB w.B) (h0 : ∀ k, k < nc → WtK w k false (fun _ => false)) : ∀ j, j ≤ nc → (bootE w j).ok T nc ∧ KS (fun a => a < 10752 ∨ 11264 ≤ a) w.B (bootE w j).B ∧
  (∀ k, k < nc → WtK (bootE w j) k (decide (k < j)) (fun _ => false)) ∧ ∀ k, k < j → prC ((bootE w j).at_ k).C
 | 0, _ => ⟨hw, KS.refl _ _, fun k hk => by rw [decide_eq_false (by omega)]; exact h0 k hk, fun k hk => absurd hk (by omega)⟩
 | j + 1, hj => by
  obtain ⟨h1, h2, h3, h4⟩ := en_boot hw hp h0 j (by omega)
  have hb : bootE w (j + 1) = (bootE w j).en j := rfl
  have hoff : ((bootE w j).at_ j).on = false := by rw [(h3 j (by omega)).1]; simp
  obtain ⟨e1, e2, e3, e4, e5⟩ := en_spec h1 (k := j) (by omega) (hp.ks h2 fun a h5 h6 => by omega) (fun h => by rw [hoff] at h; cases h)
  rw [hb]
  refine ⟨SW.en_ok h1 (by omega), h2.trans e1, fun k hk => ?_, fun k hk => ?_⟩
  ·by_cases e : k = j
   ·subst e
    rw [decide_eq_true (by omega)]; exact e4 _ _ (h3 k hk)
   ·have : decide (k < j + 1) = decide (k < j) := by rw [Bool.eq_iff_iff]; simp; omega
    rw [this]; exact e5 k _ _ hk e (h3 k hk)
  ·by_cases e : k = j
   ·subst e; exact e2
   ·rw [e3 k e]; exact h4 k (by omega)
theorem do_mapc {w : SW} (hl : okT T w.B.length) (hcl : w.cs.length = nc) (h8 : nc ≤ 8) {k : Nat} (hk : k < nc) : doV 64 w (cmMapc k) = (⟨wrN w.B (1792 + 8 * k) 8 (2 ^ 63 + k), w.cs⟩, 0) := by
 have hr := mwr_8 (B := w.B) (a := 1792) (s := 64) (o := 8 * k) (by omega) (by omega) (by omega) (by omega) (2 ^ 63 + k)
 unfold doV
 rw [if_neg (by rw [enc_mapc (by omega)]; simp)]
 rw [show (cmMapc (k : Int)).1 = 9 from rfl, if_neg (by decide), if_pos rfl]
 unfold mapcV cmMapc
 simp only
 rw [if_neg (by omega)]
 unfold setTg
 rw [if_neg (by omega), if_neg (by omega)]
 simp only [if_true, Int.toNat_natCast]
 rw [show ((k : Int) * 8) = ((8 * k : Nat) : Int) by omega, show (1792 : Int) = ((1792 : Nat) : Int) by rfl, show (64 : Int) = ((64 : Nat) : Int) by rfl, hr]
 simp
theorem mapc_spec {w : SW} (hw : w.ok T nc) (h8 : nc ≤ 8) : ∀ k, k ≤ nc → ∃ B, mapcF (⟨w, false, 0⟩, 0) k = (⟨⟨B, w.cs⟩, false, k⟩, k) ∧ byOk B ∧ KS (fun a => (1024 ≤ a ∧ a < 1792) ∨ 1856 ≤ a) w.B B ∧ ∀ i, i < k → rdN B (1792 + 8 * i) 8 = 2 ^ 63 + i
 | 0, _ => ⟨w.B, rfl, hw.2.1, KS.refl _ _, fun i hi => absurd hi (by omega)⟩
 | k + 1, hk => by
  obtain ⟨B, h1, h2, h3, h4⟩ := mapc_spec hw h8 k (by omega)
  have hB : okT T B.length := by rw [h3.1]; exact hw.1
  have hm : mapcF (⟨w, false, 0⟩, 0) (k + 1) = ((cmdV (mapcF (⟨w, false, 0⟩, 0) k).2 (mapcF (⟨w, false, 0⟩, 0) k).1 (cmMapc k)).1, (cmdV (mapcF (⟨w, false, 0⟩, 0) k).2 (mapcF (⟨w, false, 0⟩, 0) k).1 (cmMapc k)).2.1) := rfl
  rw [hm, h1]
  simp only
  have ks := stW_ks hB (j := k) (by omega) (encV (cmMapc k)).1 (k := 4) (Nat.le_refl _)
  have hB2 : okT T (stW B k (encV (cmMapc k)).1 4).length := by rw [ks.1]; exact hB
  have hd := do_mapc (w := ⟨stW B k (encV (cmMapc k)).1 4, w.cs⟩) (T := T) hB2 hw.2.2.1 h8 (k := k) (by omega)
  have hr := cmd_run (x := ⟨⟨B, w.cs⟩, false, k⟩) (T := T) hB (j := k) (by omega) rfl rfl (c := cmMapc k) (enc_mapc (k := k) (by omega)) (by rw [hd])
  rw [hr]
  simp only
  rw [hd]
  have hl : 1792 + 8 * k + 8 ≤ (stW B k (encV (cmMapc k)).1 4).length := by omega
  have kw : KS (fun a => (1024 ≤ a ∧ a < 1792) ∨ 1856 ≤ a) (stW B k (encV (cmMapc k)).1 4) (wrN (stW B k (encV (cmMapc k)).1 4) (1792 + 8 * k) 8 (2 ^ 63 + k)) := (KS.wr hl).mono fun a ha => by omega
  refine ⟨_, by rw [Nat.mod_eq_of_lt (show k + 1 < 32 by omega)], wrN_ok _ _ _ (stW_ok h2), (h3.trans (ks.mono fun a ha => by omega)).trans kw, fun i hi => ?_⟩
  by_cases e : i = k
  ·subst e
   rw [rd_wr _ hl, show (256 : Nat) ^ 8 = 2 ^ 64 by decide]; omega
  ·rw [rd_apart _ hl (by omega), ks.rd fun a h5 h6 => by omega]; exact h4 i (by omega)
theorem rep_get {α : Type} {n k : Nat} (a d : α) (h : k < n) : (List.replicate n a).getD k d = a := by rw [List.getD_eq_getElem?_getD, List.getElem?_replicate, if_pos h]; rfl
theorem new_rel {D : DS} {c s z : Nat} (hD : newD D c s) (hc1 : 1 ≤ c) (hc8 : c ≤ 8) (hs : s ≤ 64) (hz1 : 11264 ≤ z) (hz2 : z ≤ 131072) :
  Rel z s c (bootX ⟨List.replicate z 0, List.replicate c pcN⟩ (List.replicate c fc0) ⟨[], []⟩ D c s) (rx0 s c) (fun _ => false) ((List.replicate z 0).drop 11264) := by
 have hB0 : okT z (List.replicate z 0).length := ⟨List.length_replicate, hz1, by omega⟩
 have hb0 : byOk (List.replicate z 0) := fun b hb => by have := List.eq_of_mem_replicate hb; omega
 have hZ : ∀ a w, rdN (List.replicate z 0) a w = 0 := fun a w => rd_zero z a w
 have hat : ∀ k, k < c → (List.replicate c pcN).getD k pc0 = pcN := fun k hk => rep_get _ _ hk
 generalize hBZ : List.replicate z 0 = BZ at hB0 hb0 hZ ⊢
 obtain ⟨p1, p2⟩ := prop_spec hB0 512 (Nat.le_refl _)
 obtain ⟨p3, p4⟩ := propF_ok hB0 hb0 512 (Nat.le_refl _)
 generalize hBP : propF BZ 512 = BP at p1 p2 p3 p4
 have hw1 : (⟨BP, List.replicate c pcN⟩ : SW).ok z c := ⟨p3, p4, pcs0 c hc8⟩
 have h0 : ∀ k, k < c → WtK ⟨BP, List.replicate c pcN⟩ k false (fun _ => false) := fun k hk => by
  have ha : (⟨BP, List.replicate c pcN⟩ : SW).at_ k = pcN := hat k hk
  refine ⟨by rw [ha]; rfl, fun i hi => ?_⟩
  rw [ha]
  refine ⟨by unfold hasS wAt pcN; simp, ?_⟩
  unfold bitP byP
  rw [p1.rd fun a h5 h6 => by omega, hZ]
  simp
 obtain ⟨b1, b2, b3, b4⟩ := en_boot hw1 p2 h0 c (Nat.le_refl _)
 generalize hWE : bootE ⟨BP, List.replicate c pcN⟩ c = WE at b1 b2 b3 b4
 obtain ⟨l1, l2⟩ := leads_spec b1.1 4 (Nat.le_refl _)
 obtain ⟨l3, l4⟩ := leadsF_ok b1.1 b1.2.1 4 (Nat.le_refl _)
 generalize hBL : leadsF WE.B 4 = BL at l1 l2 l3 l4
 have hw2 : (⟨BL, WE.cs⟩ : SW).ok z c := ⟨l3, l4, b1.2.2⟩
 obtain ⟨BM, m1, m2, m3, m4⟩ := mapc_spec hw2 hc8 c (Nat.le_refl _)
 have hbx : bootX ⟨BZ, List.replicate c pcN⟩ (List.replicate c fc0) ⟨[], []⟩ D c s = ⟨⟨⟨BM, WE.cs⟩, false, c⟩, c, bootD D s, ⟨[], []⟩, bootF (List.replicate c fc0) c⟩ := by
  unfold bootX
  simp only [hBP, hWE, hBL, m1]
 rw [hbx]
 have kAll : KS (fun a => (1280 ≤ a ∧ a < 1792) ∨ (1856 ≤ a ∧ a < 10240) ∨ 11264 ≤ a) BZ BM :=
  ((p1.mono fun a ha => by omega).trans (b2.mono fun a ha => by omega)).trans ((l1.mono fun a ha => by omega).trans (m3.mono fun a ha => by omega))
 have kPend : KS (fun a => 10752 ≤ a ∧ a < 11264) WE.B BM := (l1.mono fun a ha => by omega).trans (m3.mono fun a ha => by omega)
 have hBM : okT z BM.length := by rw [m3.1]; exact l3
 have hasl : ∀ k, k < c → (List.replicate c false).getD k false = false := fun k hk => rep_get _ _ hk
 refine ⟨rx0_ok hs hc8, hc1, rfl, rfl, by simp only; omega, ⟨⟨hBM, m2, b1.2.2⟩, hc8, ⟨hBM, fun i hi => ?_, fun k hk => ?_, m4, fun d hd => ?_, fun d e hd he hm => absurd hm (by simp), fun d e hd he _ => ?_⟩, fun k hk => ?_, fun k hk => b4 k hk, kAll.drop_ fun i hi => by omega⟩,
  boot_DR hD hc1 hs, by simp only; rw [bootF_len, List.length_replicate], fun k hk => by simp only; rw [bootF_at c (Nat.le_refl _) k hk, if_pos hk], sr_new, fun n hn => ⟨0, ?_, by omega⟩, fun n hn hw => ?_⟩
 ·have k2 : KS (fun a => 10240 ≤ a ∧ a < 10752) BP BM := (b2.mono fun a ha => by omega).trans ((l1.mono fun a ha => by omega).trans (m3.mono fun a ha => by omega))
  simp only
  rw [k2.rd fun a h5 h6 => by omega]; exact p2 i hi
 ·have k2 : KS (fun a => 1024 ≤ a ∧ a < 1056) BL BM := m3.mono fun a ha => by omega
  simp only
  rw [k2.rd fun a h5 h6 => by omega]; exact l2 k hk
 ·simp only
  rw [kAll.rd fun a h5 h6 => by omega, hZ]; rfl
 ·unfold evO
  have hf : fnd (rx0 s c).de (rx0 s c).ev (d : Int) (e : Int) = none := by
   refine fnd_none fun hm j hj => ?_
   rw [show (rx0 s c).de = List.replicate 512 (-1) from rfl, rep_get _ _ hj, show ((-1 : Int) == (d : Int)) = false from beq_eq_false_iff_ne.2 (by omega), Bool.false_and]
  rw [hf]; rfl
 ·have hon : onF (rx0 s c) k = true := by unfold onF; rw [show (rx0 s c).asl = List.replicate c false from rfl, hasl k hk]; rfl
  rw [hon]
  have h5 := b3 k hk
  rw [decide_eq_true hk] at h5
  have h6 := WtK.congr (w' := ⟨BM, WE.cs⟩) h5 rfl rfl kPend (by omega)
  refine ⟨h6.1, fun i hi => ?_⟩
  have h7 := h6.2 i hi
  have h8 : (rx0 s c).msB k i = false := by
   rw [Rx.ms, show (rx0 s c).de = List.replicate 512 (-1) from rfl, rep_get _ _ hi]; rfl
  rw [h8]; exact h7
 ·rw [show (rx0 s c).core = List.replicate 512 0 from rfl, rep_get _ _ hn]; rfl
 ·rw [show (rx0 s c).wait = List.replicate 512 false from rfl, rep_get _ _ hn] at hw; cases hw
end Go.Proofs.YtakkogdmlbkdaaaGreatDoor.Sl.It
