/-
  Part 6 of the proof: contracts of the code's functions, and what is plain.
-/
import Derived.Test.YtakkogdmlbkdaaaGreatDoorM5
import Derived.Test.YtakkogdmlbkdaaaGreatDoorM2
import Derived.Test.YtakkogdmlbkdaaaGreatDoorRows
import Derived.LaidLaws
import Derived.LaidMore
import Derived.LaidHandle
import Derived.MakeChecks
import Derived.OpenShut
import Derived.Test.YtakkogdmlbkdaaaGreatDoorM4
import Derived.Laws.BytesArg
set_option linter.unusedVariables false
set_option linter.unusedSimpArgs false
set_option maxRecDepth 10000
open Go Go.RowKit Go.Proofs
namespace Go.Proofs.YtakkogdmlbkdaaaGreatDoor.Sl.It
attribute [local irreducible] CW Tri OW
@[reducible] def pk28 : List (Nat × Plan) := [(7, [(0, 0, []), (1, 0, []), (2, 0, []), (4, 0, []), (5, 0, []), (6, 0, []), (7, 0, []), (8, 0, []), (9, 0, []), (10, 0, []), (3, 1, [2, 7, 10]), (11, 1, [2, 7, 10]), (12, 0, []), (13, 0, [])]), (9, [(0, 0, []), (1, 0, []), (2, 0, []), (4, 0, []), (5, 0, []), (6, 0, []), (7, 0, []), (8, 0, []), (9, 0, []), (10, 0, []), (3, 1, [2, 7, 10]), (11, 1, [2, 7, 10]), (12, 0, []), (13, 0, [])]), (11, [(0, 0, []), (1, 0, []), (2, 0, []), (4, 0, []), (5, 0, []), (6, 0, []), (7, 0, []), (8, 0, []), (9, 0, []), (10, 0, []), (3, 1, [2, 7, 10]), (11, 1, [2, 7, 10]), (12, 0, []), (13, 0, [])]), (13, [(0, 0, []), (1, 0, []), (2, 0, []), (3, 0, []), (4, 0, []), (6, 0, []), (7, 0, []), (8, 0, []), (9, 0, []), (10, 0, []), (5, 1, [2, 4, 8, 10]), (11, 1, [2, 4, 8, 10]), (12, 0, []), (13, 0, [])]), (19, [(0, 0, []), (1, 0, []), (2, 0, []), (4, 0, []), (5, 0, []), (6, 0, []), (3, 1, [2, 6]), (7, 1, [2, 6]), (8, 0, []), (9, 0, [])]), (21, [(0, 0, []), (1, 0, []), (2, 0, []), (3, 0, []), (4, 0, []), (6, 0, []), (7, 0, []), (8, 0, []), (9, 0, []), (10, 0, []), (5, 1, [2, 4, 8, 10]), (11, 1, [2, 4, 8, 10]), (12, 0, []), (13, 0, [])])]
attribute [local irreducible] invK enK enV waitL
variable {T nc ns : Nat}
abbrev At := Int × Int × Int × Int × Bool
@[reducible] def atC (a : At) : List Value := [.int .i64 a.1, .int .i64 a.2.1, .int .i64 a.2.2.1, .int .i64 a.2.2.2.1, .bool a.2.2.2.2]
def Hx.act (nc : Nat) (x : Hx) (a : At) : Hx :=
 if a.1 = 1 then x.bnd nc a.2.2.1 a.2.2.2.1 a.2.1
 else if a.1 = 2 then x.unb a.2.2.1 a.2.2.2.1
 else if a.1 = 3 then (x.msg a.2.2.1 a.2.2.2.1).1
 else if a.1 = 4 then x.pull nc a.2.2.1 a.2.2.2.1
 else if a.1 = 5 then (if a.2.1 < 32 then x else x.setD (x.D.doV 0 a.2.1 (if a.2.2.2.2 then 1 else 2)).1)
 else if a.1 = 6 then (x.takeR nc a.2.1).1
 else if a.1 = 7 then (if a.2.1 < 32 then x else x.setD (x.D.doV 0 a.2.1 6).1)
 else if a.1 = 8 then (if rightV nc a.2.1 then x.pow a.2.1.toNat a.2.2.2.2 else x)
 else x
def Rx.actR (ns nc : Nat) (R : Rx) (a : At) : Rx :=
 if a.1 = 1 then (R.bindV nc a.2.2.1 a.2.2.2.1 a.2.1).1
 else if a.1 = 2 then (R.unbV a.2.2.1 a.2.2.2.1).1
 else if a.1 = 3 then (R.msgV a.2.2.1 a.2.2.2.1).1
 else if a.1 = 4 then R.pullV a.2.2.1 a.2.2.2.1
 else if a.1 = 5 then (R.wireV ns a.2.1 a.2.2.2.2).1
 else if a.1 = 6 then (R.takeV ns nc a.2.1).1
 else if a.1 = 7 then (R.endV ns a.2.1).1
 else if a.1 = 8 then (R.powV nc a.2.1 a.2.2.2.2).1
 else R
theorem Rel.act {x : Hx} {R : Rx} {dm : Nat → Bool} {Z : List Nat} (h : Rel T ns nc x R dm Z) (a : At) : ∃ dm', Rel T ns nc (x.act nc a) (R.actR ns nc a) dm' Z := by
 unfold Hx.act Rx.actR
 by_cases h1 : a.1 = 1
 ·rw [if_pos h1, if_pos h1]; obtain ⟨d, k, _⟩ := h.bind a.2.2.1 a.2.2.2.1 a.2.1; exact ⟨d, k⟩
 rw [if_neg h1, if_neg h1]
 by_cases h2 : a.1 = 2
 ·rw [if_pos h2, if_pos h2]; obtain ⟨d, k, _⟩ := h.unb a.2.2.1 a.2.2.2.1; exact ⟨d, k⟩
 rw [if_neg h2, if_neg h2]
 by_cases h3 : a.1 = 3
 ·rw [if_pos h3, if_pos h3]; exact ⟨dm, (h.msg _ _).1⟩
 rw [if_neg h3, if_neg h3]
 by_cases h4 : a.1 = 4
 ·rw [if_pos h4, if_pos h4]; exact ⟨dm, (h.pull _ _).1⟩
 rw [if_neg h4, if_neg h4]
 by_cases h5 : a.1 = 5
 ·rw [if_pos h5, if_pos h5]; exact ⟨dm, (h.wire _ _).1⟩
 rw [if_neg h5, if_neg h5]
 by_cases h6 : a.1 = 6
 ·rw [if_pos h6, if_pos h6]; exact ⟨dm, (h.take _).1⟩
 rw [if_neg h6, if_neg h6]
 by_cases h7 : a.1 = 7
 ·rw [if_pos h7, if_pos h7]; exact ⟨dm, (h.end_ _).1⟩
 rw [if_neg h7, if_neg h7]
 by_cases h8 : a.1 = 8
 ·rw [if_pos h8, if_pos h8]; exact ⟨dm, (h.pow _ _).1⟩
 rw [if_neg h8, if_neg h8]
 exact ⟨dm, h⟩
set_option maxHeartbeats 8000000 in
theorem does28 (β : Base) (hG : TabOk β) (h r : Nat) {x : Hx} {R : Rx} {dm : Nat → Bool} {Z : List Nat} (hr : Rel T ns nc x R dm Z) (a : At) (ha : a.2.1 < 9223372036854775808) :
  Tri Tryz.prog β 28 [.pointer (some ⟨h, 0, none⟩), .pointer (some ⟨r, 0, none⟩), .agg (atC a).toArray] [hoA h nc x, rfA r ns nc R] (fun v L => v = .bool true ∧ L = [hoA h nc (x.act nc a), rfA r ns nc (R.actR ns nc a)]) := by
 obtain ⟨o, n, d, e, is⟩ := a
 simp only at ha
 have hx := hr.hx
 have k := hr.rx
 refine Tri.intro tt_ok Tryz.func28 rfl rfl Tryz.ntmps28 rfl fun F => ?_
 unfold Hx.act Rx.actR
 simp only
 by_cases h1 : o = 1
 ·subst h1
  have c1 := hbind30 β h x hx d e n
  have c2 := rbind65 β r k d e n
  obtain ⟨_, _, he⟩ := hr.bind d e n
  rw [he] at c1
  rw [if_pos rfl, if_pos rfl]
  generalize (R.bindV nc d e n).2 = y at c1 c2
  obtain ⟨y1, y2⟩ := y
  (refine G tt_ok pk28 ?_; repeat (refine G1 tt_ok pk28 ?_; intro _))
  refine ke rfl rfl (c1) ?_
  (refine G tt_ok pk28 ?_; repeat (refine G1 tt_ok pk28 ?_; intro _))
  refine ke rfl rfl (c2) ?_
  (refine G tt_ok pk28 ?_; repeat (refine G1 tt_ok pk28 ?_; intro _))
  rw [show (y1 == y1) = true by simp]
  (refine G tt_ok pk28 ?_; repeat (refine G1 tt_ok pk28 ?_; intro _))
  rw [show (y2 == y2) = true by simp]
  (refine G tt_ok pk28 ?_; repeat (refine G1 tt_ok pk28 ?_; intro _))
  exact CW.ret (fin_ret rfl (A := [hoA h nc (x.bnd nc d e n), rfA r ns nc (R.bindV nc d e n).1]) pk_ ⟨rfl, rfl⟩)
 rw [if_neg h1, if_neg h1]
 by_cases h2 : o = 2
 ·subst h2
  have c1 := hunbind33 β h x hx d e
  have c2 := runbind66 β r k d e
  obtain ⟨_, _, he⟩ := hr.unb d e
  rw [he] at c1
  rw [if_pos rfl, if_pos rfl]
  generalize (R.unbV d e).2 = y at c1 c2
  (refine G tt_ok pk28 ?_; repeat (refine G1 tt_ok pk28 ?_; intro _))
  refine ke rfl rfl (c1) ?_
  (refine G tt_ok pk28 ?_; repeat (refine G1 tt_ok pk28 ?_; intro _))
  refine ke rfl rfl (c2) ?_
  (refine G tt_ok pk28 ?_; repeat (refine G1 tt_ok pk28 ?_; intro _))
  rw [show (y == y) = true by simp]
  exact CW.ret (fin_ret rfl (A := [hoA h nc (x.unb d e), rfA r ns nc (R.unbV d e).1]) pk_ ⟨rfl, rfl⟩)
 rw [if_neg h2, if_neg h2]
 by_cases h3 : o = 3
 ·subst h3
  have c1 := hmessage21 β h x hx d e
  have c2 := rmessage67 β r k d e
  rw [(hr.msg d e).2] at c1
  rw [if_pos rfl, if_pos rfl]
  generalize (R.msgV d e).2 = y at c1 c2
  (refine G tt_ok pk28 ?_; repeat (refine G1 tt_ok pk28 ?_; intro _))
  refine ke rfl rfl (c1) ?_
  (refine G tt_ok pk28 ?_; repeat (refine G1 tt_ok pk28 ?_; intro _))
  refine ke rfl rfl (c2) ?_
  (refine G tt_ok pk28 ?_; repeat (refine G1 tt_ok pk28 ?_; intro _))
  rw [show (y == y) = true by simp]
  exact CW.ret (fin_ret rfl (A := [hoA h nc (x.msg d e).1, rfA r ns nc (R.msgV d e).1]) pk_ ⟨rfl, rfl⟩)
 rw [if_neg h3, if_neg h3]
 by_cases h4 : o = 4
 ·subst h4
  have c1 := hpull68 β h x hx d e
  have c2 := rpull69 β r k d e
  rw [(hr.pull d e).2] at c1
  rw [if_pos rfl, if_pos rfl]
  generalize (R.wts d e).isSome = y at c1 c2
  (refine G tt_ok pk28 ?_; repeat (refine G1 tt_ok pk28 ?_; intro _))
  refine ke rfl rfl (c1) ?_
  (refine G tt_ok pk28 ?_; repeat (refine G1 tt_ok pk28 ?_; intro _))
  refine ke rfl rfl (c2) ?_
  (refine G tt_ok pk28 ?_; repeat (refine G1 tt_ok pk28 ?_; intro _))
  rw [show (y == y) = true by simp]
  exact CW.ret (fin_ret rfl (A := [hoA h nc (x.pull nc d e), rfA r ns nc (R.pullV d e)]) pk_ ⟨rfl, rfl⟩)
 rw [if_neg h4, if_neg h4]
 by_cases h5 : o = 5
 ·subst h5
  have c1 := hwire19 (nc := nc) β h x n is ha
  have c2 := rwire70 β r k n ha is
  rw [(hr.wire n is).2] at c1
  rw [if_pos rfl, if_pos rfl]
  generalize (R.wireV ns n is).2 = y at c1 c2
  (refine G tt_ok pk28 ?_; repeat (refine G1 tt_ok pk28 ?_; intro _))
  refine ke rfl rfl (c1) ?_
  (refine G tt_ok pk28 ?_; repeat (refine G1 tt_ok pk28 ?_; intro _))
  refine ke rfl rfl (c2) ?_
  (refine G tt_ok pk28 ?_; repeat (refine G1 tt_ok pk28 ?_; intro _))
  rw [show (y == y) = true by simp]
  exact CW.ret (fin_ret rfl (A := [hoA h nc (if n < 32 then x else x.setD (x.D.doV 0 n (if is then 1 else 2)).1), rfA r ns nc (R.wireV ns n is).1]) pk_ ⟨rfl, rfl⟩)
 rw [if_neg h5, if_neg h5]
 by_cases h6 : o = 6
 ·subst h6
  have c1 := htake23 β hG h x hx n hr.bnds
  have c2 := rtake49 β r k n
  rw [(hr.take n).2] at c1
  rw [if_pos rfl, if_pos rfl]
  generalize (R.takeV ns nc n).2 = y at c1 c2
  obtain ⟨y1, y2⟩ := y
  (refine G tt_ok pk28 ?_; repeat (refine G1 tt_ok pk28 ?_; intro _))
  refine ke rfl rfl (c1) ?_
  (refine G tt_ok pk28 ?_; repeat (refine G1 tt_ok pk28 ?_; intro _))
  refine ke rfl rfl (c2) ?_
  (refine G tt_ok pk28 ?_; repeat (refine G1 tt_ok pk28 ?_; intro _))
  rw [show (y1 == y1) = true by simp]
  (refine G tt_ok pk28 ?_; repeat (refine G1 tt_ok pk28 ?_; intro _))
  rw [show (y2 == y2) = true by simp]
  (refine G tt_ok pk28 ?_; repeat (refine G1 tt_ok pk28 ?_; intro _))
  exact CW.ret (fin_ret rfl (A := [hoA h nc (x.takeR nc n).1, rfA r ns nc (R.takeV ns nc n).1]) pk_ ⟨rfl, rfl⟩)
 rw [if_neg h6, if_neg h6]
 by_cases h7 : o = 7
 ·subst h7
  have c1 := hend18 (nc := nc) β h x n ha
  have c2 := rend71 β r k n ha
  rw [(hr.end_ n).2] at c1
  rw [if_pos rfl, if_pos rfl]
  generalize (R.endV ns n).2 = y at c1 c2
  (refine G tt_ok pk28 ?_; repeat (refine G1 tt_ok pk28 ?_; intro _))
  refine ke rfl rfl (c1) ?_
  (refine G tt_ok pk28 ?_; repeat (refine G1 tt_ok pk28 ?_; intro _))
  refine ke rfl rfl (c2) ?_
  (refine G tt_ok pk28 ?_; repeat (refine G1 tt_ok pk28 ?_; intro _))
  rw [show (y == y) = true by simp]
  exact CW.ret (fin_ret rfl (A := [hoA h nc (if n < 32 then x else x.setD (x.D.doV 0 n 6).1), rfA r ns nc (R.endV ns n).1]) pk_ ⟨rfl, rfl⟩)
 rw [if_neg h7, if_neg h7]
 by_cases h8 : o = 8
 ·subst h8
  have c1 := hpower17 β hG h x hx n is
  have c2 := rpower72 β r k n is
  rw [(hr.pow n is).2] at c1
  rw [if_pos rfl, if_pos rfl]
  generalize (R.powV nc n is).2 = y at c1 c2
  (refine G tt_ok pk28 ?_; repeat (refine G1 tt_ok pk28 ?_; intro _))
  refine ke rfl rfl (c1) ?_
  (refine G tt_ok pk28 ?_; repeat (refine G1 tt_ok pk28 ?_; intro _))
  refine ke rfl rfl (c2) ?_
  (refine G tt_ok pk28 ?_; repeat (refine G1 tt_ok pk28 ?_; intro _))
  rw [show (y == y) = true by simp]
  exact CW.ret (fin_ret rfl (A := [hoA h nc (if rightV nc n then x.pow n.toNat is else x), rfA r ns nc (R.powV nc n is).1]) pk_ ⟨rfl, rfl⟩)
 rw [if_neg h8, if_neg h8]
 (refine G tt_ok pk28 ?_; repeat (refine G1 tt_ok pk28 ?_; intro _))
 rw [show (o == 1) = false from beq_eq_false_iff_ne.2 h1]
 (refine G tt_ok pk28 ?_; repeat (refine G1 tt_ok pk28 ?_; intro _))
 rw [show (o == 2) = false from beq_eq_false_iff_ne.2 h2]
 (refine G tt_ok pk28 ?_; repeat (refine G1 tt_ok pk28 ?_; intro _))
 rw [show (o == 3) = false from beq_eq_false_iff_ne.2 h3]
 (refine G tt_ok pk28 ?_; repeat (refine G1 tt_ok pk28 ?_; intro _))
 rw [show (o == 4) = false from beq_eq_false_iff_ne.2 h4]
 (refine G tt_ok pk28 ?_; repeat (refine G1 tt_ok pk28 ?_; intro _))
 rw [show (o == 5) = false from beq_eq_false_iff_ne.2 h5]
 (refine G tt_ok pk28 ?_; repeat (refine G1 tt_ok pk28 ?_; intro _))
 rw [show (o == 6) = false from beq_eq_false_iff_ne.2 h6]
 (refine G tt_ok pk28 ?_; repeat (refine G1 tt_ok pk28 ?_; intro _))
 rw [show (o == 7) = false from beq_eq_false_iff_ne.2 h7]
 (refine G tt_ok pk28 ?_; repeat (refine G1 tt_ok pk28 ?_; intro _))
 rw [show (o == 8) = false from beq_eq_false_iff_ne.2 h8]
 (refine G tt_ok pk28 ?_; repeat (refine G1 tt_ok pk28 ?_; intro _))
 exact CW.ret (fin_ret rfl (A := [hoA h nc x, rfA r ns nc R]) pk_ ⟨rfl, rfl⟩)
end Go.Proofs.YtakkogdmlbkdaaaGreatDoor.Sl.It
namespace Go.Proofs.YtakkogdmlbkdaaaGreatDoor.Sl.It
attribute [local irreducible] CW Tri OW
attribute [local irreducible] invK enK enV waitL fnd frI allD
variable {T nc ns : Nat}
end Go.Proofs.YtakkogdmlbkdaaaGreatDoor.Sl.It
namespace Go.Proofs.YtakkogdmlbkdaaaGreatDoor.Sl.It
attribute [local irreducible] CW Tri OW
@[reducible] def pk16 : List (Nat × Plan) := []
@[reducible] def pk20 : List (Nat × Plan) := []
attribute [local irreducible] invK enK enV waitL fnd frI allD
variable {T nc ns : Nat}
def Z0 : List Nat := (List.replicate 12000 0).drop 11264
theorem hnew_r (β : Base) {c s z : Nat} (hc1 : 1 ≤ c) (hc8 : c ≤ 8) (hs : s ≤ 64) (hz1 : 11264 ≤ z) (hz2 : z ≤ 131072) : Tri Tryz.prog β 11 [.int .i64 c, .int .i64 s, .int .i64 z] []
  (fun v L => ∃ h x, Rel z s c x (rx0 s c) (fun _ => false) ((List.replicate z 0).drop 11264) ∧ v = .tuple #[.pointer (some ⟨h, 0, none⟩), .int .i64 0] ∧ L = [hoA h c x]) := by
 refine Tri.mono (hnew11 β hc1 hc8 hs hz1 hz2) ?_
 rintro v L ⟨h, D, hD, rfl, rfl⟩
 exact ⟨h, _, new_rel hD hc1 hc8 hs hz1 hz2, rfl, rfl⟩
theorem u8_mod {a m : Nat} (ha : a < 256) (hm : 0 < m) (hm2 : m < 256) : IntKind.i64.wrap ((a : Int).tmod (m : Int)) = ((a % m : Nat) : Int) := by
 have h1 : a % m < 256 := by have := Nat.mod_le a m; omega
 have h2 : (a : Int).tmod (m : Int) = ((a % m : Nat) : Int) := by rw [Int.tmod_eq_emod_of_nonneg (by omega)]; omega
 rw [h2, wrap_id (by omega) (by omega)]
set_option maxHeartbeats 4000000 in
theorem both25 (β : Base) {c s : Nat} (hc : c < 256) (hs : s < 256) : Tri Tryz.prog β 25 [.int .u8 (c : Int), .int .u8 (s : Int)] []
  (fun v L => ∃ h r x, Rel 12000 (s % 65) (1 + c % 8) x (rx0 (s % 65) (1 + c % 8)) (fun _ => false) Z0 ∧ v = .tuple #[.pointer (some ⟨h, 0, none⟩), .pointer (some ⟨r, 0, none⟩)] ∧ L = [hoA h (1 + c % 8) x, rfA r (s % 65) (1 + c % 8) (rx0 (s % 65) (1 + c % 8))]) := by
 have c1 := hnew_r β (c := 1 + c % 8) (s := s % 65) (z := 12000) (by omega) (by omega) (by omega) (by omega) (by omega)
 have c2 := rnew12 β (nc := 1 + c % 8) (ns := s % 65) (z := 12000) (by omega) (by omega) (by omega) (by omega) (by omega)
 rw [show ((12000 : Nat) : Int) = 12000 from rfl] at c1 c2
 rw [show (List.replicate 12000 0).drop 11264 = Z0 from rfl] at c1
 have e1 := u8_mod (m := 8) hc (by omega) (by omega)
 have e2 := u8_mod (m := 65) hs (by omega) (by omega)
 have e3 : IntKind.i64.wrap (1 + ((c % 8 : Nat) : Int)) = ((1 + c % 8 : Nat) : Int) := by rw [wrap_id (by omega) (by omega)]; omega
 rw [show ((8 : Nat) : Int) = 8 from rfl] at e1
 rw [show ((65 : Nat) : Int) = 65 from rfl] at e2
 refine Tri.intro tt_ok Tryz.func25 rfl rfl Tryz.ntmps25 rfl fun F => ?_
 refine G tt_ok [] ?_
 rw [e1, e2, e3]
 (refine ka rfl rfl (c1) ?_; rintro _ _ ⟨h, x, hr, rfl, rfl⟩; refine w_ ?_)
 refine G tt_ok [] ?_
 rw [e1, e2, e3]
 (refine ka rfl rfl (c2) ?_; rintro _ _ ⟨r, rfl, rfl⟩; refine w_ ?_)
 refine G tt_ok [] ?_
 exact CW.ret (fin_ret rfl (A := [hoA h (1 + c % 8) x, rfA r (s % 65) (1 + c % 8) (rx0 (s % 65) (1 + c % 8))]) pk_ ⟨h, r, x, hr, rfl, rfl⟩)
def atOk (a : At) : Prop := -9223372036854775808 ≤ a.2.1 ∧ a.2.1 < 9223372036854775808
theorem at_cur {cs : List Value} {off n : Nat} {xs : List At} (h : (cs.drop off).take (n * 5) = xs.flatMap atC) {k : Nat} {a : At} (hk : xs[k]? = some a) : rdv ti25 cs (off + k * 5) = some (.agg (atC a).toArray) :=
 rd_enc (enc := atC) (fun _ => rfl) (ti := ti25) rfl rfl h hk
def Pld (ns nc : Nat) (x : Hx) : Prop := ∃ R dm, Rel 12000 ns nc x R dm Z0
set_option maxHeartbeats 4000000 in
theorem played16 (β : Base) (hG : TabOk β) {c s : Nat} (hc : c < 256) (hs : s < 256) {A : Atom} {q : Option Addr} {al : List At} (cp : Nat) (hS : SlR β A q al.length 5 (al.flatMap atC)) (hal : ∀ a ∈ al, atOk a) (hl : al.length ≤ 9223372036854775807) :
  Tri Tryz.prog β 16 [.int .u8 (c : Int), .int .u8 (s : Int), .slice q al.length cp] [A] (fun v L => ∃ h x, Pld (s % 65) (1 + c % 8) x ∧ v = .tuple #[.pointer (some ⟨h, 0, none⟩), .int .i64 ((1 + c % 8 : Nat) : Int)] ∧ L = [hoA h (1 + c % 8) x]) := by
 have c1 := both25 β hc hs
 have e1 := u8_mod (m := 8) hc (by omega) (by omega)
 have e3 : IntKind.i64.wrap (1 + ((c % 8 : Nat) : Int)) = ((1 + c % 8 : Nat) : Int) := by rw [wrap_id (by omega) (by omega)]; omega
 rw [show ((8 : Nat) : Int) = 8 from rfl] at e1
 have hat : ∀ k, k < al.length → ∃ a, al[k]? = some a ∧ atOk a := fun k hk => ⟨al[k], List.getElem?_eq_getElem hk, hal _ (List.getElem_mem hk)⟩
 refine Tri.intro tt_ok Tryz.func16 rfl rfl Tryz.ntmps16 rfl fun F => ?_
 generalize hn : al.length = n at hS hl hat ⊢
 refine G tt_ok pk16 ?_
 (refine ka rfl rfl (c1) ?_; rintro _ _ ⟨h, r, x0, hr0, rfl, rfl⟩; refine w_ ?_)
 refine G tt_ok pk16 ?_
 refine CW.loop (α := Nat × Hx × Rx × (Nat → Bool)) (fun y => y.1 ≤ n ∧ Rel 12000 (s % 65) (1 + c % 8) y.2.1 y.2.2.1 y.2.2.2 Z0) (fun y => [(10, .int .i64 y.1), (8, .pointer (some ⟨h, 0, none⟩)), (9, .pointer (some ⟨r, 0, none⟩)), (0, .int .u8 (c : Int)), (2, .slice q n cp)])
  (fun y => [hoA h (1 + c % 8) y.2.1, rfA r (s % 65) (1 + c % 8) y.2.2.1, A]) (fun y => n - y.1) (0, x0, _, _) ⟨Nat.zero_le _, hr0⟩ ⟨rfl, rfl, rfl, rfl, rfl, trivial⟩ pk_ ?_
 rintro ⟨k, x, R, dm⟩ ⟨hk, hr⟩
 simp only at hk hr ⊢
 refine G tt_ok pk16 ?_
 by_cases hlt : k < n
 ·rw [decide_eq_true (show (k : Int) < (n : Int) by omega)]
  have hwr : IntKind.i64.wrap ((k : Int) + 1) = ((k + 1 : Nat) : Int) := by rw [wrap_id (by omega) (by omega)]; simp
  obtain ⟨a, hka, hok⟩ := hat k hlt
  obtain ⟨dm', hr'⟩ := hr.act a
  have cd := does28 β hG h r hr a hok.2
  refine G tt_ok pk16 ?_
  (refine SQ.idxG tt_ok rfl rfl (hS) (by repeat (first | exact .h | apply AtA.t)) (k) (rfl) (hlt) rfl ?_)
  refine G tt_ok pk16 ?_
  (refine SQ.ldG tt_ok rfl rfl (hS) (by repeat (first | exact .h | apply AtA.t)) (by omega) (fun cur hcs => at_cur hcs hka) ?_)
  refine G tt_ok pk16 ?_
  refine ke rfl rfl (cd) ?_
  refine G tt_ok pk16 ?_
  exact ⟨(k + 1, x.act (1 + c % 8) a, R.actR (s % 65) (1 + c % 8) a, dm'), ⟨by simp only; omega, hr'⟩, by simp only; omega, ⟨by rw [← hwr]; rfl, rfl, rfl, rfl, rfl, trivial⟩, pk_⟩
 ·rw [decide_eq_false (show ¬ (k : Int) < (n : Int) by omega)]
  refine G tt_ok pk16 ?_
  refine CW.exit ?_
  refine G tt_ok pk16 ?_
  rw [e1, e3]
  exact CW.ret (fin_ret rfl (A := [hoA h (1 + c % 8) x]) pk_ ⟨h, x, ⟨R, dm, hr⟩, rfl, rfl⟩)
def Rx.cnt (ns nc : Nat) (id : Int) (c : Int) : Nat → Rx → Nat
 | 0, _ => 0
 | f + 1, R => if (R.takeV ns nc c).2.2 then (if (R.takeV ns nc c).2.1 = id then 1 else 0) + Rx.cnt ns nc id c f (R.takeV ns nc c).1 else 0
def Rx.fin (ns nc : Nat) (c : Int) : Nat → Rx → Rx
 | 0, R => R
 | f + 1, R => if (R.takeV ns nc c).2.2 then Rx.fin ns nc c f (R.takeV ns nc c).1 else R
theorem Rx.cnt_s (ns nc : Nat) (id c : Int) (f : Nat) (R : Rx) : Rx.cnt ns nc id c (f + 1) R = if (R.takeV ns nc c).2.2 then (if (R.takeV ns nc c).2.1 = id then 1 else 0) + Rx.cnt ns nc id c f (R.takeV ns nc c).1 else 0 := rfl
theorem Rx.fin_s (ns nc : Nat) (c : Int) (f : Nat) (R : Rx) : Rx.fin ns nc c (f + 1) R = if (R.takeV ns nc c).2.2 then Rx.fin ns nc c f (R.takeV ns nc c).1 else R := rfl
theorem Rx.cnt_0 (ns nc : Nat) (id c : Int) (R : Rx) : Rx.cnt ns nc id c 0 R = 0 := rfl
theorem Rx.fin_0 (ns nc : Nat) (c : Int) (R : Rx) : Rx.fin ns nc c 0 R = R := rfl
attribute [local irreducible] Rx.cnt Rx.fin
set_option maxHeartbeats 8000000 in
theorem takes20 (β : Base) (hG : TabOk β) (h : Nat) {x : Hx} {R : Rx} {dm : Nat → Bool} {Z : List Nat} (hr : Rel T ns nc x R dm Z) (id : Int) :
  Tri Tryz.prog β 20 [.pointer (some ⟨h, 0, none⟩), .int .i64 id] [hoA h nc x] (fun v L => ∃ x', Rel T ns nc x' (R.fin ns nc 0 700) dm Z ∧ v = .int .i64 ((R.cnt ns nc id 0 700 : Nat) : Int) ∧ L = [hoA h nc x']) := by
 obtain ⟨M, hM⟩ : ∃ M : Nat, M = 700 := ⟨_, rfl⟩
 refine Tri.intro tt_ok Tryz.func20 rfl rfl Tryz.ntmps20 rfl fun F => ?_
 rw [← hM]
 refine G tt_ok pk20 ?_
 refine CW.loop (α := Nat × Nat × Hx × Rx) (fun y => y.1 ≤ M ∧ y.2.1 ≤ y.1 ∧ Rel T ns nc y.2.2.1 y.2.2.2 dm Z ∧ y.2.1 + Rx.cnt ns nc id 0 (M - y.1) y.2.2.2 = R.cnt ns nc id 0 M ∧ Rx.fin ns nc 0 (M - y.1) y.2.2.2 = R.fin ns nc 0 M)
  (fun y => [(6, .int .i64 y.1), (5, .int .i64 y.2.1), (0, .pointer (some ⟨h, 0, none⟩)), (1, .int .i64 id)]) (fun y => [hoA h nc y.2.2.1]) (fun y => M - y.1) (0, 0, x, R) ⟨Nat.zero_le _, Nat.le_refl _, hr, by simp, rfl⟩ ⟨rfl, rfl, rfl, rfl, trivial⟩ pk_ ?_
 rintro ⟨i, n, z, S⟩ ⟨hi, hn, hz, hc, hf⟩
 simp only at hi hn hz hc hf ⊢
 generalize hzi : (i : Int) = ii
 refine G tt_ok pk20 ?_
 by_cases hlt : i < M
 ·rw [decide_eq_true (show ii < 700 by omega)]
  have hwi : IntKind.i64.wrap (ii + 1) = ((i + 1 : Nat) : Int) := by rw [wrap_id (by omega) (by omega)]; omega
  have hwn : IntKind.i64.wrap ((n : Int) + 1) = ((n + 1 : Nat) : Int) := by rw [wrap_id (by omega) (by omega)]; omega
  obtain ⟨hz2, he⟩ := hz.take 0
  have t1 := htake23 β hG h z hz.hx 0 hz.bnds
  rw [he] at t1
  rw [show M - i = (M - (i + 1)) + 1 by omega, Rx.cnt_s] at hc
  rw [show M - i = (M - (i + 1)) + 1 by omega, Rx.fin_s] at hf
  generalize hp : (S.takeV ns nc 0).2 = p at t1 hc hf
  obtain ⟨p1, p2⟩ := p
  simp only at hc hf
  refine G tt_ok pk20 ?_
  refine ke rfl rfl (t1) ?_
  refine G tt_ok pk20 ?_
  cases p2 with
  | true =>
   rw [if_pos rfl] at hc hf
   refine G tt_ok pk20 ?_
   by_cases hid : p1 = id
   ·rw [if_pos hid] at hc
    rw [show (p1 == id) = true from beq_iff_eq.2 hid]
    refine G tt_ok pk20 ?_
    exact ⟨(i + 1, n + 1, (z.takeR nc 0).1, (S.takeV ns nc 0).1), ⟨by simp only; omega, by simp only; omega, hz2, by simp only; omega, hf⟩, by simp only; omega, ⟨by rw [← hwi]; rfl, by rw [← hwn]; rfl, rfl, rfl, trivial⟩, pk_⟩
   ·rw [if_neg hid] at hc
    rw [show (p1 == id) = false from beq_eq_false_iff_ne.2 hid]
    refine G tt_ok pk20 ?_
    exact ⟨(i + 1, n, (z.takeR nc 0).1, (S.takeV ns nc 0).1), ⟨by simp only; omega, by simp only; omega, hz2, by simp only; omega, hf⟩, by simp only; omega, ⟨by rw [← hwi]; rfl, rfl, rfl, rfl, trivial⟩, pk_⟩
  | false =>
   rw [if_neg (by simp)] at hc hf
   refine G tt_ok pk20 ?_
   refine CW.exit ?_
   refine G tt_ok pk20 ?_
   rw [← hf, ← hc, Nat.add_zero]
   have hS : (S.takeV ns nc 0).1 = S := by
    unfold Rx.takeV Rx.takeN at hp ⊢
    split
    ·rename_i h1
     rw [if_pos h1] at hp
     cases h2 : S.hiT ns (Int.toNat 0) with
     | some j => rw [h2] at hp; cases hp
     | none =>
      rw [h2] at hp
      simp only at hp ⊢
      cases h3 : S.msT (Int.toNat 0) with
      | some j => rw [h3] at hp; cases hp
      | none => rfl
    ·rfl
   rw [hS] at hz2
   exact CW.ret (fin_ret rfl (A := [hoA h nc (z.takeR nc 0).1]) pk_ ⟨_, hz2, rfl, rfl⟩)
 ·rw [decide_eq_false (show ¬ ii < 700 by omega)]
  obtain rfl : i = M := by omega
  rw [Nat.sub_self, Rx.cnt_0, Nat.add_zero] at hc
  rw [Nat.sub_self, Rx.fin_0] at hf
  refine G tt_ok pk20 ?_
  refine CW.exit ?_
  refine G tt_ok pk20 ?_
  rw [← hf, ← hc]
  exact CW.ret (fin_ret rfl (A := [hoA h nc z]) pk_ ⟨_, hz, rfl, rfl⟩)
end Go.Proofs.YtakkogdmlbkdaaaGreatDoor.Sl.It
namespace Go.Proofs.YtakkogdmlbkdaaaGreatDoor.Sl.It
attribute [local irreducible] CW Tri OW
attribute [local irreducible] invK enK enV waitL
variable {T nc ns : Nat}
def eR1 : Rx := ((rx0 4 2).bindV 2 3 2 1).1
def eR2 : Rx := (eR1.msgV 3 2).1
def eR3 : Rx := (eR2.takeV 4 2 0).1
def eR4 : Rx := (eR3.bindV 2 3 2 0).1
def eR5 : Rx := (eR4.takeV 4 2 0).1
theorem e_1 : ((rx0 4 2).bindV 2 3 2 1).2 = (8192, 0) := by decide +kernel
theorem e_2 : (eR1.msgV 3 2).2 = 0 := by decide +kernel
theorem e_3 : eR2.wtsV 3 2 = .tuple #[.int .i64 1, .bool true] := by kernel_rfl
theorem e_4 : (eR2.takeV 4 2 0).2 = (0, false) := by decide +kernel
theorem e_5 : (eR3.bindV 2 3 2 0).2 = (8192, 0) := by decide +kernel
theorem e_6 : (eR4.takeV 4 2 0).2 = (8192, true) := by decide +kernel
theorem e_7 : (eR5.takeV 4 2 0).2 = (0, false) := by decide +kernel
set_option maxHeartbeats 8000000 in
theorem awake10 (β : Base) (hG : TabOk β) : Tri Tryz.prog β 10 [] [] (fun v L => v = .bool true ∧ L = []) := by
 have c1 := hnew_r β (c := 2) (s := 4) (z := 20000) (by omega) (by omega) (by omega) (by omega) (by omega)
 rw [show ((20000 : Nat) : Int) = 20000 from rfl] at c1
 generalize (List.replicate 20000 0).drop 11264 = Z at c1
 refine Tri.intro tt_ok Tryz.func10 rfl rfl Tryz.ntmps10 rfl fun F => ?_
 (refine G tt_ok [] ?_; repeat (refine G1 tt_ok [] ?_; intro _))
 (refine ka rfl rfl (c1) ?_; rintro _ _ ⟨h, x0, r0, rfl, rfl⟩; refine w_ ?_)
 (refine G tt_ok [] ?_; repeat (refine G1 tt_ok [] ?_; intro _))
 obtain ⟨d1, r1, a1⟩ := r0.bind 3 2 1
 have t1 := hbind30 β h x0 r0.hx 3 2 1
 rw [a1, e_1] at t1
 rw [show ((rx0 4 2).bindV 2 3 2 1).1 = eR1 from rfl] at r1
 refine ke rfl rfl (t1) ?_
 generalize x0.bnd 2 3 2 1 = x1 at r1 ⊢
 (refine G tt_ok [] ?_; repeat (refine G1 tt_ok [] ?_; intro _))
 have t2 := hmessage21 β h x1 r1.hx 3 2
 obtain ⟨r2, a2⟩ := r1.msg 3 2
 rw [a2, e_2] at t2
 rw [show (eR1.msgV 3 2).1 = eR2 from rfl] at r2
 refine ke rfl rfl (t2) ?_
 generalize (x1.msg 3 2).1 = x2 at r2 ⊢
 (refine G tt_ok [] ?_; repeat (refine G1 tt_ok [] ?_; intro _))
 have t3 := hwaits22 β h x2 r2.hx 3 2
 rw [r2.wtv, e_3] at t3
 refine ke rfl rfl (t3) ?_
 (refine G tt_ok [] ?_; repeat (refine G1 tt_ok [] ?_; intro _))
 have t4 := htake23 β hG h x2 r2.hx 0 r2.bnds
 obtain ⟨r3, a3⟩ := r2.take 0
 rw [a3, e_4] at t4
 rw [show (eR2.takeV 4 2 0).1 = eR3 from rfl] at r3
 refine ke rfl rfl (t4) ?_
 generalize (x2.takeR 2 0).1 = x3 at r3 ⊢
 (refine G tt_ok [] ?_; repeat (refine G1 tt_ok [] ?_; intro _))
 obtain ⟨d4, r4, a4⟩ := r3.bind 3 2 0
 have t5 := hbind30 β h x3 r3.hx 3 2 0
 rw [a4, e_5] at t5
 rw [show (eR3.bindV 2 3 2 0).1 = eR4 from rfl] at r4
 refine ke rfl rfl (t5) ?_
 generalize x3.bnd 2 3 2 0 = x4 at r4 ⊢
 (refine G tt_ok [] ?_; repeat (refine G1 tt_ok [] ?_; intro _))
 have t6 := htake23 β hG h x4 r4.hx 0 r4.bnds
 obtain ⟨r5, a5⟩ := r4.take 0
 rw [a5, e_6] at t6
 rw [show (eR4.takeV 4 2 0).1 = eR5 from rfl] at r5
 refine ke rfl rfl (t6) ?_
 generalize (x4.takeR 2 0).1 = x5 at r5 ⊢
 (refine G tt_ok [] ?_; repeat (refine G1 tt_ok [] ?_; intro _))
 have t7 := htake23 β hG h x5 r5.hx 0 r5.bnds
 obtain ⟨_, a6⟩ := r5.take 0
 rw [a6, e_7] at t7
 refine ke rfl rfl (t7) ?_
 (refine G tt_ok [] ?_; repeat (refine G1 tt_ok [] ?_; intro _))
 exact CW.ret (fin_ret rfl (A := []) (Ent.dropAll _) ⟨rfl, rfl⟩)
variable {T nc ns : Nat}
theorem countP_upd {p q : Nat → Bool} : ∀ {n j : Nat}, j < n → p j = true → q j = false → (∀ k, k < n → k ≠ j → q k = p k) → (List.range n).countP p = (List.range n).countP q + 1
 | 0, j, h, _, _, _ => absurd h (by omega)
 | n + 1, j, h, hp, hq, hk => by
  rw [List.range_succ, List.countP_append, List.countP_append, List.countP_singleton, List.countP_singleton]
  by_cases e : j = n
  ·subst e
   have : (List.range j).countP p = (List.range j).countP q := List.countP_congr fun k h9 => by
    have h8 : k < j := by simpa using h9
    rw [hk k (by omega) (by omega)]
   rw [this, hp, hq]; simp
  ·rw [countP_upd (n := n) (by omega) hp hq (fun k h8 h9 => hk k (by omega) h9), hk n (by omega) (by omega)]; omega
def Rx.mu (ns : Nat) (R : Rx) (c : Nat) : Nat := (if c = 0 then (List.range ns).countP (fun k => R.high.getD k false && !R.act.getD k false) else 0) + (List.range 512).countP (R.msB c)
theorem mu_le (ns : Nat) (R : Rx) (c : Nat) : R.mu ns c ≤ ns + 512 := by
 unfold Rx.mu
 have h1 := List.countP_le_length (p := R.msB c) (l := List.range 512)
 have h2 := List.countP_le_length (p := fun k => R.high.getD k false && !R.act.getD k false) (l := List.range ns)
 rw [List.length_range] at h1 h2
 split <;> omega
section
variable {R : Rx}
theorem take_cases (h : R.ok ns nc) (c : Nat) : (∃ i, c = 0 ∧ i < ns ∧ (R.high.getD i false && !R.act.getD i false) = true ∧ R.takeN ns c = ({ R with act := R.act.set i true }, (32 + (i : Int), true))) ∨
  (∃ n, n < 512 ∧ R.msB c n = true ∧ (c = 0 → ∀ i, i < ns → (R.high.getD i false && !R.act.getD i false) = false) ∧ R.takeN ns c = ({ R with wait := R.wait.set n false }, (8192 + (n : Int), true))) ∨
  ((c = 0 → ∀ i, i < ns → (R.high.getD i false && !R.act.getD i false) = false) ∧ (∀ n, n < 512 → R.msB c n = false) ∧ R.takeN ns c = (R, (0, false))) := by
 unfold Rx.takeN
 cases hh : R.hiT ns c with
 | some i =>
  obtain ⟨h1, h2, h3⟩ := hiT_eq hh
  exact .inl ⟨i, h1, h2, h3, rfl⟩
 | none =>
  have hno : c = 0 → ∀ i, i < ns → (R.high.getD i false && !R.act.getD i false) = false := fun h0 i hi => by
   unfold Rx.hiT at hh
   rw [if_pos h0, List.find?_eq_none] at hh
   exact Bool.eq_false_iff.2 (hh i (by simpa using hi))
  cases hm : R.msT c with
  | some n =>
   obtain ⟨h1, h2, _⟩ := msT_eq hm
   exact .inr (.inl ⟨n, h1, h2, hno, rfl⟩)
  | none =>
   refine .inr (.inr ⟨hno, fun n hn => ?_, rfl⟩)
   unfold Rx.msT at hm
   rw [List.find?_eq_none] at hm
   exact Bool.eq_false_iff.2 (hm n (by simpa using hn))
theorem mu_act (h : R.ok ns nc) {i : Nat} (hi : i < ns) (hb : (R.high.getD i false && !R.act.getD i false) = true) : R.mu ns 0 = Rx.mu ns { R with act := R.act.set i true } 0 + 1 := by
 unfold Rx.mu
 rw [if_pos rfl, if_pos rfl]
 have hl := h.act
 rw [countP_upd (n := ns) (j := i) (p := fun k => R.high.getD k false && !R.act.getD k false) (q := fun k => R.high.getD k false && !(R.act.set i true).getD k false) hi hb (by rw [getB_set (by omega), if_pos rfl]; simp) (fun k hk hne => by rw [getB_set (by omega), if_neg hne])]
 have : Rx.msB { R with act := R.act.set i true } 0 = R.msB 0 := rfl
 rw [this]; dsimp only; omega
theorem mu_wait (h : R.ok ns nc) {c n : Nat} (hn : n < 512) (hb : R.msB c n = true) : R.mu ns c = Rx.mu ns { R with wait := R.wait.set n false } c + 1 := by
 unfold Rx.mu
 have hl := h.wait
 rw [countP_upd (n := 512) (j := n) (p := R.msB c) (q := Rx.msB { R with wait := R.wait.set n false } c) hn hb (by rw [Rx.ms]; simp only; rw [getB_set (by omega), if_pos rfl]; simp) (fun k hk hne => by rw [Rx.ms, Rx.ms]; simp only; rw [getB_set (by omega), if_neg hne])]
 dsimp only; omega
theorem act_ok (h : R.ok ns nc) (i : Nat) (v : Bool) : Rx.ok ns nc { R with act := R.act.set i v } := ⟨h.de, h.ev, h.core, h.wait, h.high, by simp; exact h.act, h.asl, h.n64, h.n8⟩
theorem wait_ok (h : R.ok ns nc) (i : Nat) (v : Bool) : Rx.ok ns nc { R with wait := R.wait.set i v } := ⟨h.de, h.ev, h.core, by simp; exact h.wait, h.high, h.act, h.asl, h.n64, h.n8⟩
theorem takeV_n (h1 : 1 ≤ nc) (ha : R.asl.getD 0 false = false) : R.takeV ns nc 0 = R.takeN ns 0 := by
 unfold Rx.takeV
 have : rightV nc 0 = true := by unfold rightV; simp; omega
 rw [this, show (0 : Int).toNat = 0 from rfl, ha]; rfl
theorem cnt_spi (h1 : 1 ≤ nc) {i : Nat} (hi : i < ns) : ∀ (f : Nat) (R : Rx), R.ok ns nc → R.asl.getD 0 false = false → R.mu ns 0 ≤ f →
  Rx.cnt ns nc (32 + (i : Int)) 0 f R = (if (R.high.getD i false && !R.act.getD i false) = true then 1 else 0) ∧ (Rx.fin ns nc 0 f R).ok ns nc ∧ (Rx.fin ns nc 0 f R).high = R.high ∧ (Rx.fin ns nc 0 f R).asl = R.asl ∧
  (Rx.fin ns nc 0 f R).act.getD i false = (R.act.getD i false || (R.high.getD i false && !R.act.getD i false))
 | 0, R, h, ha, hm => by
  have hz : (R.high.getD i false && !R.act.getD i false) = false := by
   cases hb : (R.high.getD i false && !R.act.getD i false) with
   | false => rfl
   | true => rw [mu_act h hi hb] at hm; omega
  rw [Rx.cnt_0, Rx.fin_0, hz]
  exact ⟨by simp, h, rfl, rfl, by simp⟩
 | f + 1, R, h, ha, hm => by
  have h64 := h.n64
  rw [Rx.cnt_s, Rx.fin_s, takeV_n h1 ha]
  rcases take_cases h 0 with ⟨j, _, hj, hb, he⟩ | ⟨n, hn, hb, hno, he⟩ | ⟨hno, _, he⟩
  ·rw [he]
   simp only [if_true]
   have hm2 := mu_act h hj hb
   obtain ⟨a1, a2, a3, a4, a5⟩ := cnt_spi h1 hi f { R with act := R.act.set j true } (act_ok h j true) ha (by omega)
   rw [a1, a5]
   refine ⟨?_, a2, a3, a4, ?_⟩
   ·simp only
    rw [getB_set (by rw [h.act]; exact hj)]
    by_cases e : i = j
    ·subst e
     rw [if_pos rfl, if_pos rfl, hb]; simp
    ·rw [if_neg e, if_neg (by omega)]; omega
   ·simp only
    rw [getB_set (by rw [h.act]; exact hj)]
    by_cases e : i = j
    ·subst e
     rw [if_pos rfl, hb]; simp
    ·rw [if_neg e]
  ·rw [he]
   simp only [if_true]
   have hm2 := mu_wait (ns := ns) h hn hb
   obtain ⟨a1, a2, a3, a4, a5⟩ := cnt_spi h1 hi f { R with wait := R.wait.set n false } (wait_ok h n false) ha (by omega)
   rw [a1, a5]
   refine ⟨?_, a2, a3, a4, rfl⟩
   rw [if_neg (by omega), Nat.zero_add]
  ·rw [he]
   have hz := hno rfl i hi
   simp only [Bool.false_eq_true, if_false]
   rw [hz]
   exact ⟨by simp, h, trivial, trivial, by simp⟩
end
theorem shr_n {i : Nat} (hi : i < ns) : shrI ns (32 + (i : Int)) = (i : Int) := by
 rcases shr_cases ns (32 + (i : Int)) with ⟨h1, _⟩ | ⟨_, h1, _⟩ | ⟨k, _, h1, h2⟩
 ·omega
 ·omega
 ·rw [h2]; omega
theorem wire_n {R : Rx} {i : Nat} (hi : i < ns) (v : Bool) : R.wireV ns (32 + (i : Int)) v = ({ R with high := R.high.set i v }, 0) := by
 unfold Rx.wireV
 rw [shr_n hi, if_neg (by omega), Int.toNat_natCast]
theorem end_n {R : Rx} {i : Nat} (hi : i < ns) : R.endV ns (32 + (i : Int)) = ({ R with act := R.act.set i false }, 0) := by
 unfold Rx.endV
 rw [shr_n hi, if_neg (by omega), Int.toNat_natCast]
theorem pow_n {R : Rx} {k : Nat} (hk : k < nc) (v : Bool) : R.powV nc (k : Int) v = ({ R with asl := R.asl.set k (!v) }, 0) := by
 unfold Rx.powV
 have : rightV nc (k : Int) = true := by unfold rightV; simp; omega
 rw [this, if_pos rfl, Int.toNat_natCast]
set_option maxHeartbeats 8000000 in
theorem law_levels (β : Base) (hG : TabOk β) {s k : Nat} (hs : s < 256) (hk : k < 256) {A : Atom} {q : Option Addr} {al : List At} (cp : Nat) (hS : SlR β A q al.length 5 (al.flatMap atC)) (hal : ∀ a ∈ al, atOk a) (hl : al.length ≤ 9223372036854775807) :
  Tri Tryz.prog β 4 [.int .u8 (s : Int), .slice q al.length cp, .int .u8 (k : Int)] [A] (fun v L => v = .bool true ∧ L = []) := by
 have c0 := awake10 β hG
 have c1 := played16 β hG (c := 0) (s := s) (by omega) hs cp hS hal hl
 rw [show ((0 : Nat) : Int) = 0 from rfl] at c1
 have e2 := u8_mod (m := 65) hs (by omega) (by omega)
 rw [show ((65 : Nat) : Int) = 65 from rfl] at e2
 have hns64 : s % 65 ≤ 64 := by omega
 refine Tri.intro tt_ok Tryz.func4 rfl rfl Tryz.ntmps4 rfl fun F => ?_
 generalize s % 65 = ns at c1 e2 hns64
 simp only [Nat.zero_mod, Nat.add_zero] at c1
 refine G tt_ok [] ?_
 refine ke rfl rfl (c0) ?_
 refine G tt_ok [] ?_
 (refine ka rfl rfl (c1) ?_; rintro _ _ ⟨h, x, ⟨R, dm, hr⟩, rfl, rfl⟩; refine w_ ?_)
 refine G tt_ok [] ?_
 rw [e2]
 by_cases h0 : ns = 0
 ·subst h0
  refine G tt_ok [] ?_
  exact CW.ret (fin_ret rfl (A := []) (Ent.dropAll _) ⟨rfl, rfl⟩)
 ·rw [show (((ns : Nat) : Int) == 0) = false from beq_eq_false_iff_ne.2 (by omega)]
  have hkw : IntKind.i64.wrap (k : Int) = (k : Int) := wrap_id (by omega) (by omega)
  have hrem : ((k : Int).tmod (ns : Int)) = ((k % ns : Nat) : Int) := by rw [Int.tmod_eq_emod_of_nonneg (by omega)]; omega
  have hi : k % ns < ns := Nat.mod_lt _ (by omega)
  generalize k % ns = i at hrem hi
  refine G tt_ok [] ?_
  rw [hkw]
  refine SQ.div tt_ok rfl rfl (show (ns : Int) ≠ 0 by omega) (v := (i : Int)) (by simp only [Bool.false_eq_true, if_false]; exact hrem) ?_
  refine G tt_ok [] ?_
  rw [show IntKind.i64.wrap (32 + (i : Int)) = 32 + (i : Int) by rw [wrap_id (by omega) (by omega)]]
  have kR := hr.rx
  -- the processor wakes
  have t1 := hpower17 β hG h x hr.hx ((0 : Nat) : Int) true
  obtain ⟨r1, a1⟩ := hr.pow ((0 : Nat) : Int) true
  rw [a1, pow_n (by omega)] at t1
  rw [pow_n (by omega)] at r1
  rw [show ((0 : Nat) : Int) = 0 from rfl] at t1
  generalize (if rightV 1 ((0 : Nat) : Int) = true then x.pow ((0 : Nat) : Int).toNat true else x) = x1 at r1 t1
  refine ke rfl rfl (t1) ?_
  refine G tt_ok [] ?_
  have al0 : Rx.asl { R with asl := R.asl.set 0 (!true) } = R.asl.set 0 false := rfl
  have hz0 : (R.asl.set 0 false).getD 0 false = false := by rw [getB_set (by rw [kR.asl]; omega), if_pos rfl]
  generalize hR1 : ({ R with asl := R.asl.set 0 (!true) } : Rx) = R1 at r1 al0
  have z1 : R1.asl.getD 0 false = false := by rw [al0]; exact hz0
  -- its end
  have t2 := hend18 (nc := 1) β h x1 (32 + (i : Int)) (by omega)
  obtain ⟨r2, a2⟩ := r1.end_ (32 + (i : Int))
  rw [a2, end_n hi] at t2
  rw [end_n hi] at r2
  generalize (if 32 + (i : Int) < 32 then x1 else x1.setD (x1.D.doV 0 (32 + (i : Int)) 6).1) = x2 at r2 t2
  refine ke rfl rfl (t2) ?_
  refine G tt_ok [] ?_
  -- its line
  have t3 := hwire19 (nc := 1) β h x2 (32 + (i : Int)) true (by omega)
  obtain ⟨r3, a3⟩ := r2.wire (32 + (i : Int)) true
  rw [a3, wire_n hi] at t3
  rw [wire_n hi] at r3
  generalize (if 32 + (i : Int) < 32 then x2 else x2.setD (x2.D.doV 0 (32 + (i : Int)) (if true = true then 1 else 2)).1) = x3 at r3 t3
  refine ke rfl rfl (t3) ?_
  refine G tt_ok [] ?_
  have k1 := r1.rx
  have k2 := r2.rx
  have k3 := r3.rx
  have y1 : (R1.high.set i true).getD i false = true := by rw [getB_set (by rw [k1.high]; exact hi), if_pos rfl]
  have y2 : (R1.act.set i false).getD i false = false := by rw [getB_set (by rw [k1.act]; exact hi), if_pos rfl]
  -- taken
  have t4 := takes20 β hG h r3 (32 + (i : Int))
  obtain ⟨b1, b2, b3, b4, b5⟩ := cnt_spi (nc := 1) (by omega) hi 700 _ k3 z1 (Nat.le_trans (mu_le _ _ _) (by omega))
  rw [b1] at t4
  simp only [y1, y2, Bool.not_false, Bool.and_self, Bool.and_true, if_true] at t4 b3 b4 b5
  generalize Rx.fin ns 1 0 700 _ = R4 at t4 b2 b3 b4 b5
  (refine ka rfl rfl (t4) ?_; rintro _ _ ⟨x4, r4, rfl, rfl⟩; refine w_ ?_)
  refine G tt_ok [] ?_
  -- not again
  have t5 := takes20 β hG h r4 (32 + (i : Int))
  obtain ⟨d1, d2, d3, d4, d5⟩ := cnt_spi (nc := 1) (by omega) hi 700 _ b2 (by rw [b4]; exact z1) (Nat.le_trans (mu_le _ _ _) (by omega))
  rw [d1] at t5
  simp only [b5, Bool.or_true, Bool.false_or, Bool.or_self, Bool.not_true, Bool.and_false, Bool.false_eq_true, if_false] at t5 d5
  generalize Rx.fin ns 1 0 700 R4 = R5 at t5 d2 d3 d4 d5
  (refine ka rfl rfl (t5) ?_; rintro _ _ ⟨x5, r5, rfl, rfl⟩; refine w_ ?_)
  refine G tt_ok [] ?_
  have t6 := hend18 (nc := 1) β h x5 (32 + (i : Int)) (by omega)
  obtain ⟨r6, a6⟩ := r5.end_ (32 + (i : Int))
  rw [a6, end_n hi] at t6
  rw [end_n hi] at r6
  generalize (if 32 + (i : Int) < 32 then x5 else x5.setD (x5.D.doV 0 (32 + (i : Int)) 6).1) = x6 at r6 t6
  refine ke rfl rfl (t6) ?_
  refine G tt_ok [] ?_
  have k6 := r6.rx
  have y3 : (R5.act.set i false).getD i false = false := by rw [getB_set (by rw [d2.act]; exact hi), if_pos rfl]
  have y4 : R5.high.getD i false = true := by rw [d3, b3]; exact y1
  have t7 := takes20 β hG h r6 (32 + (i : Int))
  obtain ⟨f1, f2, f3, f4, f5⟩ := cnt_spi (nc := 1) (by omega) hi 700 _ k6 (by simp only; rw [d4, b4]; exact z1) (Nat.le_trans (mu_le _ _ _) (by omega))
  rw [f1] at t7
  simp only [y3, y4, Bool.not_false, Bool.and_self, Bool.and_true, if_true] at t7 f5
  generalize Rx.fin ns 1 0 700 _ = R7 at t7 f2 f3 f4 f5
  (refine ka rfl rfl (t7) ?_; rintro _ _ ⟨x7, r7, rfl, rfl⟩; refine w_ ?_)
  refine G tt_ok [] ?_
  have t8 := hend18 (nc := 1) β h x7 (32 + (i : Int)) (by omega)
  obtain ⟨r8, a8⟩ := r7.end_ (32 + (i : Int))
  rw [a8, end_n hi] at t8
  rw [end_n hi] at r8
  generalize (if 32 + (i : Int) < 32 then x7 else x7.setD (x7.D.doV 0 (32 + (i : Int)) 6).1) = x8 at r8 t8
  refine ke rfl rfl (t8) ?_
  refine G tt_ok [] ?_
  have t9 := hwire19 (nc := 1) β h x8 (32 + (i : Int)) false (by omega)
  obtain ⟨r9, a9⟩ := r8.wire (32 + (i : Int)) false
  rw [a9, wire_n hi] at t9
  rw [wire_n hi] at r9
  generalize (if 32 + (i : Int) < 32 then x8 else x8.setD (x8.D.doV 0 (32 + (i : Int)) (if false = true then 1 else 2)).1) = x9 at r9 t9
  refine ke rfl rfl (t9) ?_
  refine G tt_ok [] ?_
  have k9 := r9.rx
  have y5 : (R7.high.set i false).getD i false = false := by rw [getB_set (by rw [f2.high]; exact hi), if_pos rfl]
  have t10 := takes20 β hG h r9 (32 + (i : Int))
  obtain ⟨g1, _⟩ := cnt_spi (nc := 1) (by omega) hi 700 _ k9 (by simp only; rw [f4]; simp only; rw [d4, b4]; exact z1) (Nat.le_trans (mu_le _ _ _) (by omega))
  rw [g1] at t10
  simp only [y5, Bool.false_and, Bool.false_eq_true, if_false] at t10
  (refine ka rfl rfl (t10) ?_; rintro _ _ ⟨x10, r10, rfl, rfl⟩; refine w_ ?_)
  refine G tt_ok [] ?_
  exact CW.ret (fin_ret rfl (A := []) (Ent.dropAll _) ⟨rfl, rfl⟩)
end Go.Proofs.YtakkogdmlbkdaaaGreatDoor.Sl.It
namespace Go.Proofs.YtakkogdmlbkdaaaGreatDoor.Sl.It
set_option maxRecDepth 100000
theorem bys_get : ∀ (B : List Nat) (i : Nat), (bys B)[i]? = B[i]?.map fun b => Value.int .u8 (b : Int)
 | [], i => by simp [bys]
 | b :: r, 0 => rfl
 | b :: r, i + 1 => by
  have := bys_get r i
  show (bys r)[i]? = _
  rw [this]; rfl
@[reducible] def laidL : List (String × DataW Unit) := [("math/bits.deBruijn64tab", Rows.laid_math_bits_deBruijn64tab)]
theorem gTab : Tryz.prog.globalNamed "math/bits.deBruijn64tab" = some 0 := by kernel_rfl
theorem tTab : (Tryz.prog.globals[0]?).map (·.type) = some 313 := by kernel_rfl
theorem cTab : Tryz.prog.cellsOf 313 = 64 := by kernel_rfl
theorem cTab5 : Tryz.prog.cellsOf 5 = 1 := by kernel_rfl
theorem laid_is : (Rows.laid_math_bits_deBruijn64tab : DataW Unit) = .agg (tzT.map fun n : Nat => .lit (.int .u8 (n : Int))) := rfl
theorem tab_of_laid {W : World} (h : laidMetH Tryz.prog laidL W) : TabOk W := by
 rw [MakeChecks.laidMetH_plain _ _ _ (by kernel_rfl)] at h
 obtain ⟨ps, ⟨g, t, cs, fu, p, q, hg, ht, hv, hd, _, _⟩, _, _⟩ := h
 obtain rfl := Option.some.inj (gTab.symm.trans hg)
 obtain rfl := Option.some.inj (tTab.symm.trans ht)
 obtain ⟨xs, m, rfl, hx, hlen, hn, hel⟩ := DataW.trod_array Tryz.underlying313 hd
 rw [cTab] at hlen
 have hxs : xs.map (·.1) = tzT.map fun n : Nat => DataW.lit (.int .u8 (n : Int)) := by
  rw [laid_is] at hx
  injection hx with h1 _
  injection h1 with h1
  exact h1.symm
 have hcs : cs.toList = bys tzT := by
  apply List.ext_getElem?
  intro i
  rw [bys_get]
  by_cases hi : i < 64
  ·have h1 := hel i hi
   rw [cTab5] at h1
   obtain ⟨x, hx1⟩ : ∃ x, xs[i]? = some x := ⟨_, List.getElem?_eq_getElem (by rw [hn]; exact hi)⟩
   rw [hx1] at h1
   obtain ⟨n, e1, e2, _⟩ := DataW.trod_int Tryz.underlying5 h1
   have h2 : (xs.map (·.1))[i]? = some (.lit (.int .u8 n)) := by rw [List.getElem?_map, hx1, e2]; rfl
   rw [hxs, List.getElem?_map] at h2
   have h3 : cs.toList[i]? = some (.int .u8 n) := by
    have : ((cs.toList.drop (i * 1)).take 1)[0]? = some (.int .u8 n) := by rw [e1]; rfl
    rw [List.getElem?_take_of_lt (by omega), List.getElem?_drop] at this
    simpa using this
   rw [h3]
   cases hz : tzT[i]? with
   | none => rw [hz] at h2; cases h2
   | some z =>
    rw [hz] at h2
    simp only [Option.map_some, Option.some.injEq, DataW.lit.injEq, Lit.int.injEq, true_and] at h2
    rw [← h2]; rfl
  ·rw [List.getElem?_eq_none (by omega), List.getElem?_eq_none (by have : tzT.length = 64 := rfl; omega)]; rfl
 unfold World.var? at hv
 rw [gTab] at hv
 simp only [Option.bind_some] at hv
 cases hh : W.heap[0]? with
 | none => rw [hh] at hv; cases hv
 | some o =>
  rw [hh] at hv
  cases o with
  | cells c t fz =>
   simp only [Option.some.injEq] at hv
   subst hv
   refine ⟨(Array.getElem?_eq_some_iff.1 hh).1, t, fz, ?_⟩
   rw [hh, ← hcs]
  | _ => cases hv
noncomputable def laidWorld (os : Os) : World :=
 let w0 := World.holding Tryz.prog os ⟨#[], #[], []⟩
 { w0 with heap := w0.heap.modify 0 fun
   | .cells _ t frozen => .cells (bys tzT).toArray t frozen
   | o => o }
theorem laidWorld_met (os : Os) (args : Array Value) : laidMetH Tryz.prog laidL ((laidWorld os).forCall (fun _ _ => 0) ⟨#[], args, []⟩).memory := by
 rw [MakeChecks.laidMetH_plain _ _ _ (by kernel_rfl)]
 exact laidMet_of_run' 8 (by kernel_rfl) (by kernel_rfl)
end Go.Proofs.YtakkogdmlbkdaaaGreatDoor.Sl.It
namespace Go.Proofs.YtakkogdmlbkdaaaGreatDoor.Sl
section
variable {P : Program} {β : Base} {rnd : Option (Nat × Loop)} {N : Nat} {env : Env} {L : List Atom} {K : Env → List Atom → Prop} {ops : Array Oper} {T : TT}
end
end Go.Proofs.YtakkogdmlbkdaaaGreatDoor.Sl
