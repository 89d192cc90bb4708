/-
  Part 6 of the proof: contracts of the code's functions, and what is plain.
-/
import Derived.Test.YtakkogdmlbkdaaaGreatDoorM5
import Derived.Test.YtakkogdmlbkdaaaGreatDoorM2
import Derived.Test.YtakkogdmlbkdaaaGreatDoorRows
import Derived.LaidLaws
import Derived.LaidMore
import Derived.LaidHandle
import Derived.MakeChecks
import Derived.OpenShut
import Derived.Laws.BytesArg
set_option linter.unusedVariables false
set_option linter.unusedSimpArgs false
set_option maxRecDepth 10000
open Go Go.RowKit Go.Proofs
namespace Go.Proofs.YtakkogdmlbkdaaaGreatDoor.Sl.It
attribute [local irreducible] CW Tri OW
@[reducible] def pk28 : List (Nat × Plan) := [(7, [(0, 0, []), (1, 0, []), (2, 0, []), (4, 0, []), (5, 0, []), (6, 0, []), (7, 0, []), (8, 0, []), (9, 0, []), (10, 0, []), (3, 1, [2, 7, 10]), (11, 1, [2, 7, 10]), (12, 0, []), (13, 0, [])]), (9, [(0, 0, []), (1, 0, []), (2, 0, []), (4, 0, []), (5, 0, []), (6, 0, []), (7, 0, []), (8, 0, []), (9, 0, []), (10, 0, []), (3, 1, [2, 7, 10]), (11, 1, [2, 7, 10]), (12, 0, []), (13, 0, [])]), (11, [(0, 0, []), (1, 0, []), (2, 0, []), (4, 0, []), (5, 0, []), (6, 0, []), (7, 0, []), (8, 0, []), (9, 0, []), (10, 0, []), (3, 1, [2, 7, 10]), (11, 1, [2, 7, 10]), (12, 0, []), (13, 0, [])]), (13, [(0, 0, []), (1, 0, []), (2, 0, []), (3, 0, []), (4, 0, []), (6, 0, []), (7, 0, []), (8, 0, []), (9, 0, []), (10, 0, []), (5, 1, [2, 4, 8, 10]), (11, 1, [2, 4, 8, 10]), (12, 0, []), (13, 0, [])]), (19, [(0, 0, []), (1, 0, []), (2, 0, []), (4, 0, []), (5, 0, []), (6, 0, []), (3, 1, [2, 6]), (7, 1, [2, 6]), (8, 0, []), (9, 0, [])]), (21, [(0, 0, []), (1, 0, []), (2, 0, []), (3, 0, []), (4, 0, []), (6, 0, []), (7, 0, []), (8, 0, []), (9, 0, []), (10, 0, []), (5, 1, [2, 4, 8, 10]), (11, 1, [2, 4, 8, 10]), (12, 0, []), (13, 0, [])])]
attribute [local irreducible] invK enK enV waitL
variable {T nc ns : Nat}
abbrev At := Int × Int × Int × Int × Bool
@[reducible] def atC (a : At) : List Value := [.int .i64 a.1, .int .i64 a.2.1, .int .i64 a.2.2.1, .int .i64 a.2.2.2.1, .bool a.2.2.2.2]
def Hx.act (nc : Nat) (x : Hx) (a : At) : Hx :=
 if a.1 = 1 then x.bnd nc a.2.2.1 a.2.2.2.1 a.2.1
 else if a.1 = 2 then x.unb a.2.2.1 a.2.2.2.1
 else if a.1 = 3 then (x.msg a.2.2.1 a.2.2.2.1).1
 else if a.1 = 4 then x.pull nc a.2.2.1 a.2.2.2.1
 else if a.1 = 5 then (if a.2.1 < 32 then x else x.setD (x.D.doV 0 a.2.1 (if a.2.2.2.2 then 1 else 2)).1)
 else if a.1 = 6 then (x.takeR nc a.2.1).1
 else if a.1 = 7 then (if a.2.1 < 32 then x else x.setD (x.D.doV 0 a.2.1 6).1)
 else if a.1 = 8 then (if rightV nc a.2.1 then x.pow a.2.1.toNat a.2.2.2.2 else x)
 else x
def Rx.actR (ns nc : Nat) (R : Rx) (a : At) : Rx :=
 if a.1 = 1 then (R.bindV nc a.2.2.1 a.2.2.2.1 a.2.1).1
 else if a.1 = 2 then (R.unbV a.2.2.1 a.2.2.2.1).1
 else if a.1 = 3 then (R.msgV a.2.2.1 a.2.2.2.1).1
 else if a.1 = 4 then R.pullV a.2.2.1 a.2.2.2.1
 else if a.1 = 5 then (R.wireV ns a.2.1 a.2.2.2.2).1
 else if a.1 = 6 then (R.takeV ns nc a.2.1).1
 else if a.1 = 7 then (R.endV ns a.2.1).1
 else if a.1 = 8 then (R.powV nc a.2.1 a.2.2.2.2).1
 else R
theorem Rel.act {x : Hx} {R : Rx} {dm : Nat → Bool} {Z : List Nat} (h : Rel T ns nc x R dm Z) (a : At) : ∃ dm', Rel T ns nc (x.act nc a) (R.actR ns nc a) dm' Z := by
 unfold Hx.act Rx.actR
 by_cases h1 : a.1 = 1
 ·rw [if_pos h1, if_pos h1]; obtain ⟨d, k, _⟩ := h.bind a.2.2.1 a.2.2.2.1 a.2.1; exact ⟨d, k⟩
 rw [if_neg h1, if_neg h1]
 by_cases h2 : a.1 = 2
 ·rw [if_pos h2, if_pos h2]; obtain ⟨d, k, _⟩ := h.unb a.2.2.1 a.2.2.2.1; exact ⟨d, k⟩
 rw [if_neg h2, if_neg h2]
 by_cases h3 : a.1 = 3
 ·rw [if_pos h3, if_pos h3]; exact ⟨dm, (h.msg _ _).1⟩
 rw [if_neg h3, if_neg h3]
 by_cases h4 : a.1 = 4
 ·rw [if_pos h4, if_pos h4]; exact ⟨dm, (h.pull _ _).1⟩
 rw [if_neg h4, if_neg h4]
 by_cases h5 : a.1 = 5
 ·rw [if_pos h5, if_pos h5]; exact ⟨dm, (h.wire _ _).1⟩
 rw [if_neg h5, if_neg h5]
 by_cases h6 : a.1 = 6
 ·rw [if_pos h6, if_pos h6]; exact ⟨dm, (h.take _).1⟩
 rw [if_neg h6, if_neg h6]
 by_cases h7 : a.1 = 7
 ·rw [if_pos h7, if_pos h7]; exact ⟨dm, (h.end_ _).1⟩
 rw [if_neg h7, if_neg h7]
 by_cases h8 : a.1 = 8
 ·rw [if_pos h8, if_pos h8]; exact ⟨dm, (h.pow _ _).1⟩
 rw [if_neg h8, if_neg h8]
 exact ⟨dm, h⟩
set_option maxHeartbeats 8000000 in
theorem does28 (β : Base) (hG : TabOk β) (h r : Nat) {x : Hx} {R : Rx} {dm : Nat → Bool} {Z : List Nat} (hr : Rel T ns nc x R dm Z) (a : At) (ha : a.2.1 < 9223372036854775808) :
  Tri Tryz.prog β 28 [.pointer (some ⟨h, 0, none⟩), .pointer (some ⟨r, 0, none⟩), .agg (atC a).toArray] [hoA h nc x, rfA r ns nc R] (fun v L => v = .bool true ∧ L = [hoA h nc (x.act nc a), rfA r ns nc (R.actR ns nc a)]) := by
 obtain ⟨o, n, d, e, is⟩ := a
 simp only at ha
 have hx := hr.hx
 have k := hr.rx
 refine Tri.intro tt_ok Tryz.func28 rfl rfl Tryz.ntmps28 rfl fun F => ?_
 unfold Hx.act Rx.actR
 simp only
 by_cases h1 : o = 1
 ·subst h1
  have c1 := hbind30 β h x hx d e n
  have c2 := rbind65 β r k d e n
  obtain ⟨_, _, he⟩ := hr.bind d e n
  rw [he] at c1
  rw [if_pos rfl, if_pos rfl]
  generalize (R.bindV nc d e n).2 = y at c1 c2
  obtain ⟨y1, y2⟩ := y
  (refine G tt_ok pk28 ?_; repeat (refine G1 tt_ok pk28 ?_; intro _))
  refine ke rfl rfl (c1) ?_
  refine G tt_ok pk28 ?_
  refine ke rfl rfl (c2) ?_
  refine G tt_ok pk28 ?_
  rw [show (y1 == y1) = true by simp]
  refine G tt_ok pk28 ?_
  rw [show (y2 == y2) = true by simp]
  refine G tt_ok pk28 ?_
  exact CW.ret (fin_ret rfl (A := [hoA h nc (x.bnd nc d e n), rfA r ns nc (R.bindV nc d e n).1]) pk_ ⟨rfl, rfl⟩)
 rw [if_neg h1, if_neg h1]
 by_cases h2 : o = 2
 ·subst h2
  have c1 := hunbind33 β h x hx d e
  have c2 := runbind66 β r k d e
  obtain ⟨_, _, he⟩ := hr.unb d e
  rw [he] at c1
  rw [if_pos rfl, if_pos rfl]
  generalize (R.unbV d e).2 = y at c1 c2
  (refine G tt_ok pk28 ?_; repeat (refine G1 tt_ok pk28 ?_; intro _))
  refine ke rfl rfl (c1) ?_
  refine G tt_ok pk28 ?_
  refine ke rfl rfl (c2) ?_
  refine G tt_ok pk28 ?_
  rw [show (y == y) = true by simp]
  exact CW.ret (fin_ret rfl (A := [hoA h nc (x.unb d e), rfA r ns nc (R.unbV d e).1]) pk_ ⟨rfl, rfl⟩)
 rw [if_neg h2, if_neg h2]
 by_cases h3 : o = 3
 ·subst h3
  have c1 := hmessage21 β h x hx d e
  have c2 := rmessage67 β r k d e
  rw [(hr.msg d e).2] at c1
  rw [if_pos rfl, if_pos rfl]
  generalize (R.msgV d e).2 = y at c1 c2
  (refine G tt_ok pk28 ?_; repeat (refine G1 tt_ok pk28 ?_; intro _))
  refine ke rfl rfl (c1) ?_
  refine G tt_ok pk28 ?_
  refine ke rfl rfl (c2) ?_
  refine G tt_ok pk28 ?_
  rw [show (y == y) = true by simp]
  exact CW.ret (fin_ret rfl (A := [hoA h nc (x.msg d e).1, rfA r ns nc (R.msgV d e).1]) pk_ ⟨rfl, rfl⟩)
 rw [if_neg h3, if_neg h3]
 by_cases h4 : o = 4
 ·subst h4
  have c1 := hpull68 β h x hx d e
  have c2 := rpull69 β r k d e
  rw [(hr.pull d e).2] at c1
  rw [if_pos rfl, if_pos rfl]
  generalize (R.wts d e).isSome = y at c1 c2
  (refine G tt_ok pk28 ?_; repeat (refine G1 tt_ok pk28 ?_; intro _))
  refine ke rfl rfl (c1) ?_
  refine G tt_ok pk28 ?_
  refine ke rfl rfl (c2) ?_
  refine G tt_ok pk28 ?_
  rw [show (y == y) = true by simp]
  exact CW.ret (fin_ret rfl (A := [hoA h nc (x.pull nc d e), rfA r ns nc (R.pullV d e)]) pk_ ⟨rfl, rfl⟩)
 rw [if_neg h4, if_neg h4]
 by_cases h5 : o = 5
 ·subst h5
  have c1 := hwire19 (nc := nc) β h x n is ha
  have c2 := rwire70 β r k n ha is
  rw [(hr.wire n is).2] at c1
  rw [if_pos rfl, if_pos rfl]
  generalize (R.wireV ns n is).2 = y at c1 c2
  (refine G tt_ok pk28 ?_; repeat (refine G1 tt_ok pk28 ?_; intro _))
  refine ke rfl rfl (c1) ?_
  refine G tt_ok pk28 ?_
  refine ke rfl rfl (c2) ?_
  refine G tt_ok pk28 ?_
  rw [show (y == y) = true by simp]
  exact CW.ret (fin_ret rfl (A := [hoA h nc (if n < 32 then x else x.setD (x.D.doV 0 n (if is then 1 else 2)).1), rfA r ns nc (R.wireV ns n is).1]) pk_ ⟨rfl, rfl⟩)
 rw [if_neg h5, if_neg h5]
 by_cases h6 : o = 6
 ·subst h6
  have c1 := htake23 β hG h x hx n hr.bnds
  have c2 := rtake49 β r k n
  rw [(hr.take n).2] at c1
  rw [if_pos rfl, if_pos rfl]
  generalize (R.takeV ns nc n).2 = y at c1 c2
  obtain ⟨y1, y2⟩ := y
  (refine G tt_ok pk28 ?_; repeat (refine G1 tt_ok pk28 ?_; intro _))
  refine ke rfl rfl (c1) ?_
  refine G tt_ok pk28 ?_
  refine ke rfl rfl (c2) ?_
  refine G tt_ok pk28 ?_
  rw [show (y1 == y1) = true by simp]
  refine G tt_ok pk28 ?_
  rw [show (y2 == y2) = true by simp]
  refine G tt_ok pk28 ?_
  exact CW.ret (fin_ret rfl (A := [hoA h nc (x.takeR nc n).1, rfA r ns nc (R.takeV ns nc n).1]) pk_ ⟨rfl, rfl⟩)
 rw [if_neg h6, if_neg h6]
 by_cases h7 : o = 7
 ·subst h7
  have c1 := hend18 (nc := nc) β h x n ha
  have c2 := rend71 β r k n ha
  rw [(hr.end_ n).2] at c1
  rw [if_pos rfl, if_pos rfl]
  generalize (R.endV ns n).2 = y at c1 c2
  (refine G tt_ok pk28 ?_; repeat (refine G1 tt_ok pk28 ?_; intro _))
  refine ke rfl rfl (c1) ?_
  refine G tt_ok pk28 ?_
  refine ke rfl rfl (c2) ?_
  refine G tt_ok pk28 ?_
  rw [show (y == y) = true by simp]
  exact CW.ret (fin_ret rfl (A := [hoA h nc (if n < 32 then x else x.setD (x.D.doV 0 n 6).1), rfA r ns nc (R.endV ns n).1]) pk_ ⟨rfl, rfl⟩)
 rw [if_neg h7, if_neg h7]
 by_cases h8 : o = 8
 ·subst h8
  have c1 := hpower17 β hG h x hx n is
  have c2 := rpower72 β r k n is
  rw [(hr.pow n is).2] at c1
  rw [if_pos rfl, if_pos rfl]
  generalize (R.powV nc n is).2 = y at c1 c2
  (refine G tt_ok pk28 ?_; repeat (refine G1 tt_ok pk28 ?_; intro _))
  refine ke rfl rfl (c1) ?_
  refine G tt_ok pk28 ?_
  refine ke rfl rfl (c2) ?_
  refine G tt_ok pk28 ?_
  rw [show (y == y) = true by simp]
  exact CW.ret (fin_ret rfl (A := [hoA h nc (if rightV nc n then x.pow n.toNat is else x), rfA r ns nc (R.powV nc n is).1]) pk_ ⟨rfl, rfl⟩)
 rw [if_neg h8, if_neg h8]
 (refine G tt_ok pk28 ?_; repeat (refine G1 tt_ok pk28 ?_; intro _))
 rw [show (o == 1) = false from beq_eq_false_iff_ne.2 h1]
 refine G tt_ok pk28 ?_
 rw [show (o == 2) = false from beq_eq_false_iff_ne.2 h2]
 refine G tt_ok pk28 ?_
 rw [show (o == 3) = false from beq_eq_false_iff_ne.2 h3]
 refine G tt_ok pk28 ?_
 rw [show (o == 4) = false from beq_eq_false_iff_ne.2 h4]
 refine G tt_ok pk28 ?_
 rw [show (o == 5) = false from beq_eq_false_iff_ne.2 h5]
 refine G tt_ok pk28 ?_
 rw [show (o == 6) = false from beq_eq_false_iff_ne.2 h6]
 refine G tt_ok pk28 ?_
 rw [show (o == 7) = false from beq_eq_false_iff_ne.2 h7]
 refine G tt_ok pk28 ?_
 rw [show (o == 8) = false from beq_eq_false_iff_ne.2 h8]
 refine G tt_ok pk28 ?_
 exact CW.ret (fin_ret rfl (A := [hoA h nc x, rfA r ns nc R]) pk_ ⟨rfl, rfl⟩)
end Go.Proofs.YtakkogdmlbkdaaaGreatDoor.Sl.It
namespace Go.Proofs.YtakkogdmlbkdaaaGreatDoor.Sl.It
attribute [local irreducible] CW Tri OW
attribute [local irreducible] invK enK enV waitL fnd frI allD
variable {T nc ns : Nat}
end Go.Proofs.YtakkogdmlbkdaaaGreatDoor.Sl.It
namespace Go.Proofs.YtakkogdmlbkdaaaGreatDoor.Sl.It
attribute [local irreducible] CW Tri OW
@[reducible] def pk16 : List (Nat × Plan) := []
attribute [local irreducible] invK enK enV waitL fnd frI allD
variable {T nc ns : Nat}
def Z0 : List Nat := (List.replicate 12000 0).drop 11264
theorem hnew_r (β : Base) {c s z : Nat} (hc1 : 1 ≤ c) (hc8 : c ≤ 8) (hs : s ≤ 64) (hz1 : 11264 ≤ z) (hz2 : z ≤ 131072) : Tri Tryz.prog β 11 [.int .i64 c, .int .i64 s, .int .i64 z] []
  (fun v L => ∃ h x, Rel z s c x (rx0 s c) (fun _ => false) ((List.replicate z 0).drop 11264) ∧ v = .tuple #[.pointer (some ⟨h, 0, none⟩), .int .i64 0] ∧ L = [hoA h c x]) := by
 refine Tri.mono (hnew11 β hc1 hc8 hs hz1 hz2) ?_
 rintro v L ⟨h, D, hD, rfl, rfl⟩
 exact ⟨h, _, new_rel hD hc1 hc8 hs hz1 hz2, rfl, rfl⟩
theorem u8_mod {a m : Nat} (ha : a < 256) (hm : 0 < m) (hm2 : m < 256) : IntKind.i64.wrap ((a : Int).tmod (m : Int)) = ((a % m : Nat) : Int) := by
 have h1 : a % m < 256 := by have := Nat.mod_le a m; omega
 have h2 : (a : Int).tmod (m : Int) = ((a % m : Nat) : Int) := by rw [Int.tmod_eq_emod_of_nonneg (by omega)]; omega
 rw [h2, wrap_id (by omega) (by omega)]
set_option maxHeartbeats 4000000 in
theorem both25 (β : Base) {c s : Nat} (hc : c < 256) (hs : s < 256) : Tri Tryz.prog β 25 [.int .u8 (c : Int), .int .u8 (s : Int)] []
  (fun v L => ∃ h r x, Rel 12000 (s % 65) (1 + c % 8) x (rx0 (s % 65) (1 + c % 8)) (fun _ => false) Z0 ∧ v = .tuple #[.pointer (some ⟨h, 0, none⟩), .pointer (some ⟨r, 0, none⟩)] ∧ L = [hoA h (1 + c % 8) x, rfA r (s % 65) (1 + c % 8) (rx0 (s % 65) (1 + c % 8))]) := by
 have c1 := hnew_r β (c := 1 + c % 8) (s := s % 65) (z := 12000) (by omega) (by omega) (by omega) (by omega) (by omega)
 have c2 := rnew12 β (nc := 1 + c % 8) (ns := s % 65) (z := 12000) (by omega) (by omega) (by omega) (by omega) (by omega)
 rw [show ((12000 : Nat) : Int) = 12000 from rfl] at c1 c2
 rw [show (List.replicate 12000 0).drop 11264 = Z0 from rfl] at c1
 have e1 := u8_mod (m := 8) hc (by omega) (by omega)
 have e2 := u8_mod (m := 65) hs (by omega) (by omega)
 have e3 : IntKind.i64.wrap (1 + ((c % 8 : Nat) : Int)) = ((1 + c % 8 : Nat) : Int) := by rw [wrap_id (by omega) (by omega)]; omega
 rw [show ((8 : Nat) : Int) = 8 from rfl] at e1
 rw [show ((65 : Nat) : Int) = 65 from rfl] at e2
 refine Tri.intro tt_ok Tryz.func25 rfl rfl Tryz.ntmps25 rfl fun F => ?_
 refine G tt_ok [] ?_
 rw [e1, e2, e3]
 (refine ka rfl rfl (c1) ?_; rintro _ _ ⟨h, x, hr, rfl, rfl⟩; refine w_ ?_)
 refine G tt_ok [] ?_
 rw [e1, e2, e3]
 (refine ka rfl rfl (c2) ?_; rintro _ _ ⟨r, rfl, rfl⟩; refine w_ ?_)
 refine G tt_ok [] ?_
 exact CW.ret (fin_ret rfl (A := [hoA h (1 + c % 8) x, rfA r (s % 65) (1 + c % 8) (rx0 (s % 65) (1 + c % 8))]) pk_ ⟨h, r, x, hr, rfl, rfl⟩)
def atOk (a : At) : Prop := -9223372036854775808 ≤ a.2.1 ∧ a.2.1 < 9223372036854775808
theorem at_cur {cs : List Value} {off n : Nat} {xs : List At} (h : (cs.drop off).take (n * 5) = xs.flatMap atC) {k : Nat} {a : At} (hk : xs[k]? = some a) : rdv ti25 cs (off + k * 5) = some (.agg (atC a).toArray) :=
 rd_enc (enc := atC) (fun _ => rfl) (ti := ti25) rfl rfl h hk
def Pld (ns nc : Nat) (x : Hx) : Prop := ∃ R dm, Rel 12000 ns nc x R dm Z0
set_option maxHeartbeats 4000000 in
theorem played16 (β : Base) (hG : TabOk β) {c s : Nat} (hc : c < 256) (hs : s < 256) {A : Atom} {q : Option Addr} {al : List At} (cp : Nat) (hS : SlR β A q al.length 5 (al.flatMap atC)) (hal : ∀ a ∈ al, atOk a) (hl : al.length ≤ 9223372036854775807) :
  Tri Tryz.prog β 16 [.int .u8 (c : Int), .int .u8 (s : Int), .slice q al.length cp] [A] (fun v L => ∃ h x, Pld (s % 65) (1 + c % 8) x ∧ v = .tuple #[.pointer (some ⟨h, 0, none⟩), .int .i64 ((1 + c % 8 : Nat) : Int)] ∧ L = [hoA h (1 + c % 8) x]) := by
 have c1 := both25 β hc hs
 have e1 := u8_mod (m := 8) hc (by omega) (by omega)
 have e3 : IntKind.i64.wrap (1 + ((c % 8 : Nat) : Int)) = ((1 + c % 8 : Nat) : Int) := by rw [wrap_id (by omega) (by omega)]; omega
 rw [show ((8 : Nat) : Int) = 8 from rfl] at e1
 have hat : ∀ k, k < al.length → ∃ a, al[k]? = some a ∧ atOk a := fun k hk => ⟨al[k], List.getElem?_eq_getElem hk, hal _ (List.getElem_mem hk)⟩
 refine Tri.intro tt_ok Tryz.func16 rfl rfl Tryz.ntmps16 rfl fun F => ?_
 generalize hn : al.length = n at hS hl hat ⊢
 refine G tt_ok pk16 ?_
 (refine ka rfl rfl (c1) ?_; rintro _ _ ⟨h, r, x0, hr0, rfl, rfl⟩; refine w_ ?_)
 refine G tt_ok pk16 ?_
 refine CW.loop (α := Nat × Hx × Rx × (Nat → Bool)) (fun y => y.1 ≤ n ∧ Rel 12000 (s % 65) (1 + c % 8) y.2.1 y.2.2.1 y.2.2.2 Z0) (fun y => [(10, .int .i64 y.1), (8, .pointer (some ⟨h, 0, none⟩)), (9, .pointer (some ⟨r, 0, none⟩)), (0, .int .u8 (c : Int)), (2, .slice q n cp)])
  (fun y => [hoA h (1 + c % 8) y.2.1, rfA r (s % 65) (1 + c % 8) y.2.2.1, A]) (fun y => n - y.1) (0, x0, _, _) ⟨Nat.zero_le _, hr0⟩ ⟨rfl, rfl, rfl, rfl, rfl, trivial⟩ pk_ ?_
 rintro ⟨k, x, R, dm⟩ ⟨hk, hr⟩
 simp only at hk hr ⊢
 refine G tt_ok pk16 ?_
 by_cases hlt : k < n
 ·rw [decide_eq_true (show (k : Int) < (n : Int) by omega)]
  have hwr : IntKind.i64.wrap ((k : Int) + 1) = ((k + 1 : Nat) : Int) := by rw [wrap_id (by omega) (by omega)]; simp
  obtain ⟨a, hka, hok⟩ := hat k hlt
  obtain ⟨dm', hr'⟩ := hr.act a
  have cd := does28 β hG h r hr a hok.2
  refine G tt_ok pk16 ?_
  (refine SQ.idxG tt_ok rfl rfl (hS) (by repeat (first | exact .h | apply AtA.t)) (k) (rfl) (hlt) rfl ?_)
  refine G tt_ok pk16 ?_
  (refine SQ.ldG tt_ok rfl rfl (hS) (by repeat (first | exact .h | apply AtA.t)) (by omega) (fun cur hcs => at_cur hcs hka) ?_)
  refine G tt_ok pk16 ?_
  refine ke rfl rfl (cd) ?_
  refine G tt_ok pk16 ?_
  exact ⟨(k + 1, x.act (1 + c % 8) a, R.actR (s % 65) (1 + c % 8) a, dm'), ⟨by simp only; omega, hr'⟩, by simp only; omega, ⟨by rw [← hwr]; rfl, rfl, rfl, rfl, rfl, trivial⟩, pk_⟩
 ·rw [decide_eq_false (show ¬ (k : Int) < (n : Int) by omega)]
  refine G tt_ok pk16 ?_
  refine CW.exit ?_
  refine G tt_ok pk16 ?_
  rw [e1, e3]
  exact CW.ret (fin_ret rfl (A := [hoA h (1 + c % 8) x]) pk_ ⟨h, x, ⟨R, dm, hr⟩, rfl, rfl⟩)
theorem Rel.copyH {x : Hx} {R : Rx} {dm : Nat → Bool} {Z : List Nat} (hr : Rel T ns nc x R dm Z) (β : Base) (h : Nat) : Tri Tryz.prog β 31 [.pointer (some ⟨h, 0, none⟩)] [hoA h nc x] (fun v L => ∃ h' x', Rel T ns nc x' R dm Z ∧ v = .pointer (some ⟨h', 0, none⟩) ∧ L = [hoA h nc x, hoA h' nc x']) := by
 refine Tri.mono (hcopy31 β h x hr.hx) ?_
 rintro v L ⟨h', E, rfl, hl, rfl⟩
 exact ⟨h', _, hr.copy hl, rfl, rfl⟩
def Rx.cnt (ns nc : Nat) (id : Int) (c : Int) : Nat → Rx → Nat
 | 0, _ => 0
 | f + 1, R => if (R.takeV ns nc c).2.2 then (if (R.takeV ns nc c).2.1 = id then 1 else 0) + Rx.cnt ns nc id c f (R.takeV ns nc c).1 else 0
def Rx.fin (ns nc : Nat) (c : Int) : Nat → Rx → Rx
 | 0, R => R
 | f + 1, R => if (R.takeV ns nc c).2.2 then Rx.fin ns nc c f (R.takeV ns nc c).1 else R
attribute [local irreducible] Rx.cnt Rx.fin
end Go.Proofs.YtakkogdmlbkdaaaGreatDoor.Sl.It
namespace Go.Proofs.YtakkogdmlbkdaaaGreatDoor.Sl.It
attribute [local irreducible] CW Tri OW
attribute [local irreducible] invK enK enV waitL
variable {T nc ns : Nat}
def eR1 : Rx := ((rx0 4 2).bindV 2 3 2 1).1
def eR2 : Rx := (eR1.msgV 3 2).1
def eR3 : Rx := (eR2.takeV 4 2 0).1
def eR4 : Rx := (eR3.bindV 2 3 2 0).1
def eR5 : Rx := (eR4.takeV 4 2 0).1
theorem e_1 : ((rx0 4 2).bindV 2 3 2 1).2 = (8192, 0) := by decide +kernel
theorem e_2 : (eR1.msgV 3 2).2 = 0 := by decide +kernel
theorem e_3 : eR2.wtsV 3 2 = .tuple #[.int .i64 1, .bool true] := by kernel_rfl
theorem e_4 : (eR2.takeV 4 2 0).2 = (0, false) := by decide +kernel
theorem e_5 : (eR3.bindV 2 3 2 0).2 = (8192, 0) := by decide +kernel
theorem e_6 : (eR4.takeV 4 2 0).2 = (8192, true) := by decide +kernel
theorem e_7 : (eR5.takeV 4 2 0).2 = (0, false) := by decide +kernel
set_option maxHeartbeats 8000000 in
theorem awake10 (β : Base) (hG : TabOk β) : Tri Tryz.prog β 10 [] [] (fun v L => v = .bool true ∧ L = []) := by
 have c1 := hnew_r β (c := 2) (s := 4) (z := 20000) (by omega) (by omega) (by omega) (by omega) (by omega)
 rw [show ((20000 : Nat) : Int) = 20000 from rfl] at c1
 generalize (List.replicate 20000 0).drop 11264 = Z at c1
 refine Tri.intro tt_ok Tryz.func10 rfl rfl Tryz.ntmps10 rfl fun F => ?_
 refine G tt_ok [] ?_
 (refine ka rfl rfl (c1) ?_; rintro _ _ ⟨h, x0, r0, rfl, rfl⟩; refine w_ ?_)
 (refine G tt_ok [] ?_; repeat (refine G1 tt_ok [] ?_; intro _))
 obtain ⟨d1, r1, a1⟩ := r0.bind 3 2 1
 have t1 := hbind30 β h x0 r0.hx 3 2 1
 rw [a1, e_1] at t1
 rw [show ((rx0 4 2).bindV 2 3 2 1).1 = eR1 from rfl] at r1
 refine ke rfl rfl (t1) ?_
 generalize x0.bnd 2 3 2 1 = x1 at r1 ⊢
 refine G tt_ok [] ?_
 have t2 := hmessage21 β h x1 r1.hx 3 2
 obtain ⟨r2, a2⟩ := r1.msg 3 2
 rw [a2, e_2] at t2
 rw [show (eR1.msgV 3 2).1 = eR2 from rfl] at r2
 refine ke rfl rfl (t2) ?_
 generalize (x1.msg 3 2).1 = x2 at r2 ⊢
 refine G tt_ok [] ?_
 have t3 := hwaits22 β h x2 r2.hx 3 2
 rw [r2.wtv, e_3] at t3
 refine ke rfl rfl (t3) ?_
 refine G tt_ok [] ?_
 have t4 := htake23 β hG h x2 r2.hx 0 r2.bnds
 obtain ⟨r3, a3⟩ := r2.take 0
 rw [a3, e_4] at t4
 rw [show (eR2.takeV 4 2 0).1 = eR3 from rfl] at r3
 refine ke rfl rfl (t4) ?_
 generalize (x2.takeR 2 0).1 = x3 at r3 ⊢
 refine G tt_ok [] ?_
 obtain ⟨d4, r4, a4⟩ := r3.bind 3 2 0
 have t5 := hbind30 β h x3 r3.hx 3 2 0
 rw [a4, e_5] at t5
 rw [show (eR3.bindV 2 3 2 0).1 = eR4 from rfl] at r4
 refine ke rfl rfl (t5) ?_
 generalize x3.bnd 2 3 2 0 = x4 at r4 ⊢
 refine G tt_ok [] ?_
 have t6 := htake23 β hG h x4 r4.hx 0 r4.bnds
 obtain ⟨r5, a5⟩ := r4.take 0
 rw [a5, e_6] at t6
 rw [show (eR4.takeV 4 2 0).1 = eR5 from rfl] at r5
 refine ke rfl rfl (t6) ?_
 generalize (x4.takeR 2 0).1 = x5 at r5 ⊢
 refine G tt_ok [] ?_
 have t7 := htake23 β hG h x5 r5.hx 0 r5.bnds
 obtain ⟨_, a6⟩ := r5.take 0
 rw [a6, e_7] at t7
 refine ke rfl rfl (t7) ?_
 refine G tt_ok [] ?_
 exact CW.ret (fin_ret rfl (A := []) (Ent.dropAll _) ⟨rfl, rfl⟩)
variable {T nc ns : Nat}
section
variable {R : Rx}
end
theorem pow_n {R : Rx} {k : Nat} (hk : k < nc) (v : Bool) : R.powV nc (k : Int) v = ({ R with asl := R.asl.set k (!v) }, 0) := by
 unfold Rx.powV
 have : rightV nc (k : Int) = true := by unfold rightV; simp; omega
 rw [this, if_pos rfl, Int.toNat_natCast]
end Go.Proofs.YtakkogdmlbkdaaaGreatDoor.Sl.It
namespace Go.Proofs.YtakkogdmlbkdaaaGreatDoor.Sl.It
attribute [local irreducible] CW Tri OW
attribute [local irreducible] invK enK enV waitL
variable {T nc ns : Nat}
set_option maxHeartbeats 8000000 in
theorem law_sleeps (β : Base) (hG : TabOk β) {c s k : Nat} (hc : c < 256) (hs : s < 256) (hk : k < 256) {A : Atom} {q : Option Addr} {al : List At} (cp : Nat) (hS : SlR β A q al.length 5 (al.flatMap atC)) (hal : ∀ a ∈ al, atOk a) (hl : al.length ≤ 9223372036854775807) (d e : Int) :
  Tri Tryz.prog β 8 [.int .u8 (c : Int), .int .u8 (s : Int), .slice q al.length cp, evX d e, .int .u8 (k : Int)] [A] (fun v L => v = .bool true ∧ L = []) := by
 have c0 := awake10 β hG
 have c1 := played16 β hG hc hs cp hS hal hl
 refine Tri.intro tt_ok Tryz.func8 rfl rfl Tryz.ntmps8 rfl fun F => ?_
 have hn1 : 1 ≤ 1 + c % 8 := by omega
 have hn8 : 1 + c % 8 ≤ 8 := by omega
 generalize s % 65 = ns at c1
 generalize 1 + c % 8 = nc at c1 hn1 hn8
 (refine G tt_ok [] ?_; repeat (refine G1 tt_ok [] ?_; intro _))
 rename_i c8
 refine ke rfl rfl (c0) ?_
 refine G tt_ok [] ?_
 (refine ka rfl rfl (c1) ?_; rintro _ _ ⟨h, x, ⟨R, dm, hr⟩, rfl, rfl⟩; refine w_ ?_)
 refine G tt_ok [] ?_
 have hkw : IntKind.i64.wrap (k : Int) = (k : Int) := wrap_id (by omega) (by omega)
 have hrem : ((k : Int).tmod (nc : Int)) = ((k % nc : Nat) : Int) := by rw [Int.tmod_eq_emod_of_nonneg (by omega)]; omega
 have hi : k % nc < nc := Nat.mod_lt _ (by omega)
 generalize k % nc = i at hrem hi
 rw [hkw]
 refine SQ.div tt_ok rfl rfl (show (nc : Int) ≠ 0 by omega) (v := (i : Int)) (by simp only [Bool.false_eq_true, if_false]; exact hrem) ?_
 refine G tt_ok [] ?_
 have kR := hr.rx
 have hri : rightV nc (i : Int) = true := by unfold rightV; simp; omega
 -- it wakes
 have t1 := hpower17 β hG h x hr.hx (i : Int) true
 obtain ⟨r1, a1⟩ := hr.pow (i : Int) true
 rw [a1, pow_n hi] at t1
 rw [pow_n hi] at r1
 dsimp only at r1
 generalize (if rightV nc (i : Int) = true then x.pow (i : Int).toNat true else x) = x1 at r1 t1
 refine ke rfl rfl (t1) ?_
 refine G tt_ok [] ?_
 have t2 := r1.copyH β h
 (refine ka rfl rfl (t2) ?_; rintro _ _ ⟨g, y, ry, rfl, rfl⟩; refine w_ ?_)
 refine G tt_ok [] ?_
 have t3 := hwaits22 β h x1 r1.hx d e
 rw [r1.wtv] at t3
 have hw1 : Rx.wtsV { R with asl := R.asl.set i (!true) } d e = R.wtsV d e := rfl
 rw [hw1] at t3
 obtain ⟨y1, y2, hy⟩ : ∃ y1 y2, R.wtsV d e = ibV (y1, y2) := by
  unfold Rx.wtsV
  cases R.wts d e with
  | none => exact ⟨_, _, rfl⟩
  | some n => exact ⟨_, _, rfl⟩
 rw [hy] at t3
 refine ke rfl rfl (t3) ?_
 refine G tt_ok [] ?_
 -- it sleeps
 have t4 := hpower17 β hG h x1 r1.hx (i : Int) false
 obtain ⟨r2, a2⟩ := r1.pow (i : Int) false
 rw [a2, pow_n hi] at t4
 rw [pow_n hi] at r2
 dsimp only at r2
 generalize (if rightV nc (i : Int) = true then x1.pow (i : Int).toNat false else x1) = x2 at r2 t4
 refine ke rfl rfl (t4) ?_
 refine G tt_ok [] ?_
 have hl2 : i < (R.asl.set i (!true)).length := by rw [List.length_set, kR.asl]; exact hi
 have t5 := hawake32 (nc := nc) β h x2 (i : Int)
 rw [r2.awake, hri, Int.toNat_natCast] at t5
 dsimp only at t5
 rw [show ((R.asl.set i (!true)).set i (!false)).getD i false = true by rw [getB_set hl2, if_pos rfl]; rfl] at t5
 simp only [Bool.not_true, Bool.and_false] at t5
 refine ke rfl rfl (t5) ?_
 refine G tt_ok [] ?_
 have t6 := htake23 β hG h x2 r2.hx (i : Int) r2.bnds
 obtain ⟨r3, a3⟩ := r2.take (i : Int)
 have hnt : Rx.takeV ns nc { R with asl := (R.asl.set i (!true)).set i (!false) } (i : Int) = ({ R with asl := (R.asl.set i (!true)).set i (!false) }, (0, false)) := by
  unfold Rx.takeV
  rw [if_neg]
  rw [hri, Int.toNat_natCast]
  simp only
  rw [getB_set hl2, if_pos rfl]; simp
 rw [a3, hnt] at t6
 rw [hnt] at r3
 generalize (x2.takeR nc (i : Int)).1 = x3 at r3 t6
 refine ke rfl rfl (t6) ?_
 refine G tt_ok [] ?_
 have t7 := hwaits22 β h x3 r3.hx d e
 rw [r3.wtv] at t7
 have hw2 : Rx.wtsV { R with asl := (R.asl.set i (!true)).set i (!false) } d e = R.wtsV d e := rfl
 rw [hw2, hy] at t7
 refine ke rfl rfl (t7) ?_
 refine G tt_ok [] ?_
 rw [show (!(y2 == y2)) = false by cases y2 <;> rfl]
 refine G tt_ok [] ?_
 rw [show (y1 != y1) = false by simp]
 refine G tt_ok [] ?_
 -- it wakes again
 have t8 := hpower17 β hG h x3 r3.hx (i : Int) true
 obtain ⟨r4, a4⟩ := r3.pow (i : Int) true
 rw [a4, pow_n hi] at t8
 rw [pow_n hi] at r4
 dsimp only at r4
 rw [List.set_set, List.set_set] at r4
 generalize (if rightV nc (i : Int) = true then x3.pow (i : Int).toNat true else x3) = x4 at r4 t8
 refine ke rfl rfl (t8) ?_
 refine G tt_ok [] ?_
 have t9 := hawake32 (nc := nc) β h x4 (i : Int)
 rw [r4.awake, hri, Int.toNat_natCast] at t9
 have hl3 : i < R.asl.length := by rw [kR.asl]; exact hi
 dsimp only at t9
 rw [show (R.asl.set i (!true)).getD i false = false by rw [getB_set hl3, if_pos rfl]; rfl] at t9
 simp only [Bool.not_false, Bool.and_true] at t9
 refine ke rfl rfl (t9) ?_
 refine G tt_ok [] ?_
 generalize ({ R with asl := R.asl.set i (!true) } : Rx) = R1 at r4 ry
 refine CW.loop (α := Nat × Hx × Hx × Rx) (fun z => z.1 ≤ 600 ∧ Rel 12000 ns nc z.2.1 z.2.2.2 dm Z0 ∧ Rel 12000 ns nc z.2.2.1 z.2.2.2 dm Z0) (fun z => [(22, .int .i64 z.1), (12, .pointer (some ⟨h, 0, none⟩)), (15, .pointer (some ⟨g, 0, none⟩)), (14, .int .i64 (i : Int))])
  (fun z => [hoA h nc z.2.1, hoA g nc z.2.2.1]) (fun z => 600 - z.1) (0, x4, y, R1) ⟨Nat.zero_le _, r4, ry⟩ ⟨rfl, rfl, rfl, rfl, trivial⟩ pk_ ?_
 rintro ⟨j, z, z', S⟩ ⟨hj, hz, hz'⟩
 simp only at hj hz hz' ⊢
 generalize hjj : (j : Int) = jj
 refine G tt_ok [] ?_
 by_cases hlt : j < 600
 ·rw [decide_eq_true (show jj < 600 by omega)]
  have hwj : IntKind.i64.wrap (jj + 1) = ((j + 1 : Nat) : Int) := by rw [wrap_id (by omega) (by omega)]; omega
  obtain ⟨b1, b2⟩ := hz.take (i : Int)
  obtain ⟨b3, b4⟩ := hz'.take (i : Int)
  have u1 := htake23 β hG h z hz.hx (i : Int) hz.bnds
  have u2 := htake23 β hG g z' hz'.hx (i : Int) hz'.bnds
  rw [b2] at u1
  rw [b4] at u2
  generalize (S.takeV ns nc (i : Int)).2 = p at u1 u2
  obtain ⟨p1, p2⟩ := p
  refine G tt_ok [] ?_
  refine ke rfl rfl (u1) ?_
  refine G tt_ok [] ?_
  refine ke rfl rfl (u2) ?_
  refine G tt_ok [] ?_
  rw [show (p1 != p1) = false by simp]
  refine G tt_ok [] ?_
  rw [show (!(p2 == p2)) = false by cases p2 <;> rfl]
  refine G tt_ok [] ?_
  cases p2 with
  | true =>
   refine G tt_ok [] ?_
   exact ⟨(j + 1, (z.takeR nc (i : Int)).1, (z'.takeR nc (i : Int)).1, (S.takeV ns nc (i : Int)).1), ⟨by simp only; omega, b1, b3⟩, by simp only; omega, ⟨by rw [← hwj]; rfl, rfl, rfl, rfl, trivial⟩, pk_⟩
  | false =>
   refine G tt_ok [] ?_
   refine CW.exit ?_
   refine G tt_ok [] ?_
   exact CW.ret (fin_ret rfl (A := []) (Ent.dropAll _) ⟨rfl, rfl⟩)
 ·rw [decide_eq_false (show ¬ jj < 600 by omega)]
  refine G tt_ok [] ?_
  refine CW.exit ?_
  refine G tt_ok [] ?_
  exact CW.ret (fin_ret rfl (A := []) (Ent.dropAll _) ⟨rfl, rfl⟩)
end Go.Proofs.YtakkogdmlbkdaaaGreatDoor.Sl.It
namespace Go.Proofs.YtakkogdmlbkdaaaGreatDoor.Sl.It
set_option maxRecDepth 100000
theorem bys_get : ∀ (B : List Nat) (i : Nat), (bys B)[i]? = B[i]?.map fun b => Value.int .u8 (b : Int)
 | [], i => by simp [bys]
 | b :: r, 0 => rfl
 | b :: r, i + 1 => by
  have := bys_get r i
  show (bys r)[i]? = _
  rw [this]; rfl
@[reducible] def laidL : List (String × DataW Unit) := [("math/bits.deBruijn64tab", Rows.laid_math_bits_deBruijn64tab)]
theorem gTab : Tryz.prog.globalNamed "math/bits.deBruijn64tab" = some 0 := by kernel_rfl
theorem tTab : (Tryz.prog.globals[0]?).map (·.type) = some 313 := by kernel_rfl
theorem cTab : Tryz.prog.cellsOf 313 = 64 := by kernel_rfl
theorem cTab5 : Tryz.prog.cellsOf 5 = 1 := by kernel_rfl
theorem laid_is : (Rows.laid_math_bits_deBruijn64tab : DataW Unit) = .agg (tzT.map fun n : Nat => .lit (.int .u8 (n : Int))) := rfl
theorem tab_of_laid {W : World} (h : laidMetH Tryz.prog laidL W) : TabOk W := by
 rw [MakeChecks.laidMetH_plain _ _ _ (by kernel_rfl)] at h
 obtain ⟨ps, ⟨g, t, cs, fu, p, q, hg, ht, hv, hd, _, _⟩, _, _⟩ := h
 obtain rfl := Option.some.inj (gTab.symm.trans hg)
 obtain rfl := Option.some.inj (tTab.symm.trans ht)
 obtain ⟨xs, m, rfl, hx, hlen, hn, hel⟩ := DataW.trod_array Tryz.underlying313 hd
 rw [cTab] at hlen
 have hxs : xs.map (·.1) = tzT.map fun n : Nat => DataW.lit (.int .u8 (n : Int)) := by
  rw [laid_is] at hx
  injection hx with h1 _
  injection h1 with h1
  exact h1.symm
 have hcs : cs.toList = bys tzT := by
  apply List.ext_getElem?
  intro i
  rw [bys_get]
  by_cases hi : i < 64
  ·have h1 := hel i hi
   rw [cTab5] at h1
   obtain ⟨x, hx1⟩ : ∃ x, xs[i]? = some x := ⟨_, List.getElem?_eq_getElem (by rw [hn]; exact hi)⟩
   rw [hx1] at h1
   obtain ⟨n, e1, e2, _⟩ := DataW.trod_int Tryz.underlying5 h1
   have h2 : (xs.map (·.1))[i]? = some (.lit (.int .u8 n)) := by rw [List.getElem?_map, hx1, e2]; rfl
   rw [hxs, List.getElem?_map] at h2
   have h3 : cs.toList[i]? = some (.int .u8 n) := by
    have : ((cs.toList.drop (i * 1)).take 1)[0]? = some (.int .u8 n) := by rw [e1]; rfl
    rw [List.getElem?_take_of_lt (by omega), List.getElem?_drop] at this
    simpa using this
   rw [h3]
   cases hz : tzT[i]? with
   | none => rw [hz] at h2; cases h2
   | some z =>
    rw [hz] at h2
    simp only [Option.map_some, Option.some.injEq, DataW.lit.injEq, Lit.int.injEq, true_and] at h2
    rw [← h2]; rfl
  ·rw [List.getElem?_eq_none (by omega), List.getElem?_eq_none (by have : tzT.length = 64 := rfl; omega)]; rfl
 unfold World.var? at hv
 rw [gTab] at hv
 simp only [Option.bind_some] at hv
 cases hh : W.heap[0]? with
 | none => rw [hh] at hv; cases hv
 | some o =>
  rw [hh] at hv
  cases o with
  | cells c t fz =>
   simp only [Option.some.injEq] at hv
   subst hv
   refine ⟨(Array.getElem?_eq_some_iff.1 hh).1, t, fz, ?_⟩
   rw [hh, ← hcs]
  | _ => cases hv
noncomputable def laidWorld (os : Os) : World :=
 let w0 := World.holding Tryz.prog os ⟨#[], #[], []⟩
 { w0 with heap := w0.heap.modify 0 fun
   | .cells _ t frozen => .cells (bys tzT).toArray t frozen
   | o => o }
theorem laidWorld_met (os : Os) (args : Array Value) : laidMetH Tryz.prog laidL ((laidWorld os).forCall (fun _ _ => 0) ⟨#[], args, []⟩).memory := by
 rw [MakeChecks.laidMetH_plain _ _ _ (by kernel_rfl)]
 exact laidMet_of_run' 8 (by kernel_rfl) (by kernel_rfl)
end Go.Proofs.YtakkogdmlbkdaaaGreatDoor.Sl.It
namespace Go.Proofs.YtakkogdmlbkdaaaGreatDoor.Sl
section
variable {P : Program} {β : Base} {rnd : Option (Nat × Loop)} {N : Nat} {env : Env} {L : List Atom} {K : Env → List Atom → Prop} {ops : Array Oper} {T : TT}
def cvE (T : TT) (N : Nat) (ops : Array Oper) (env : Env) (o : Oper) : Option (Nat × Addr × Nat) :=
 match dstE N ops env o with
 | some d => match o.op with
  | .convert src dst x => match T.get src, T.get dst, ev env x with
   | some i, some j, some (.slice (some a) n _) => match i.desc, j.desc with
    | .slice e, .string => match T.get e with
     | some ei => match ei.desc with
      | .int .u8 => some (d, a, n)
      | _ => none
     | none => none
    | _, _ => none
   | _, _, _ => none
  | _ => none
 | none => none
theorem cvE_run (hT : TTok P T) {o : Oper} {d b off n : Nat} (h : cvE T N ops env o = some (d, (⟨b, off, none⟩ : Addr), n)) : dstE N ops env o = some d ∧ ∀ (ρ : Operand → Value), (∀ x u, ev env x = some u → ρ x = u) → ∀ (w : World) (ns : List Int), ns.length = n → Reads β w b off (ns.map (Value.int .u8)) →
  (execOp ρ o).run P w = .ok (.value (.string (strOfNums ns))) w := by
 unfold cvE at h
 split at h <;> try (cases h; done)
 rename_i d' hde
 split at h <;> try (cases h; done)
 rename_i src dst x hop
 split at h <;> try (cases h; done)
 rename_i i j a n' c hi hj hx
 split at h <;> try (cases h; done)
 rename_i e h1 h2
 split at h <;> try (cases h; done)
 rename_i ei hei
 split at h <;> try (cases h; done)
 rename_i h3
 simp only [Option.some.injEq, Prod.mk.injEq] at h
 obtain ⟨rfl, rfl, rfl⟩ := h
 have u1 := (hT.get hi).1.1
 have u2 := (hT.get hj).1.1
 have u3 := (hT.get hei).1.1
 rw [h1] at u1
 rw [h2] at u2
 rw [h3] at u3
 obtain ⟨ds, op', type, pos, after, guard⟩ := o
 simp only at hop
 subst hop
 refine ⟨hde, fun ρ hρ w ns hl hr => ?_⟩
 have hc := run_convert_bytes_arg (P := P) w src e u1 u3 b off n' c ns hl (fun k hk => by
  have h4 := hr k (.int .u8 (ns.getD k 0)) (by rw [List.getElem?_map, List.getElem?_eq_getElem (by omega)]; simp [List.getD, List.getElem?_eq_getElem (show k < ns.length by omega)])
  rw [addr_add] at h4
  exact h4) dst u2
 simp only [execOp, hρ _ _ hx, Sem.run_bind, hc, Result.andThen]
 rfl
theorem SQ.bstr (hT : TTok P T) {s : Stp} {r : List Stp} {obs : Obs} {d b off n : Nat} (hk : s.k = 1) (h : cvE T N ops env s.o = some (d, (⟨b, off, none⟩ : Addr), n)) {A : Atom} {ns : List Int} (hS : SlR β A (some ⟨b, off, none⟩) n 1 (ns.map (Value.int .u8))) (ha : AtA A L) (hl : ns.length = n)
  (hwt : watchOk β obs L s.watch) (k : SQ P β rnd N T ops K r obs ((d, .string (strOfNums ns)) :: env) L) : SQ P β rnd N T ops K (s :: r) obs env L := by
 obtain ⟨hde, hr⟩ := cvE_run (P := P) (β := β) hT h
 obtain ⟨hw, hd, hdl⟩ := dstE_eq hde
 refine SQ.act hk hw fun fm n Qx ac w st => ?_
 obtain ⟨hen, Ds, hds, s0⟩ := st
 have hrd := reads_slr hS ha (by rw [List.length_map]; omega) _ w s0
 rw [hr ac.eval (fun x u hx => hen.eval hx) w ns hl hrd]
 exact ⟨_, _, ⟨by rw [hd]; exact hen.put hdl _, Ds, by rw [hd]; exact hds, s0⟩, hwt, k⟩
end
end Go.Proofs.YtakkogdmlbkdaaaGreatDoor.Sl
