/-
  Part 4 of the proof: contracts of the code's functions, and what is plain.
-/
import Derived.Test.YtakkogdmlbkdaaaGreatDoorM3
import Derived.Test.YtakkogdmlbkdaaaGreatDoorM2
import Derived.Test.YtakkogdmlbkdaaaGreatDoorL9
set_option linter.unusedVariables false
set_option linter.unusedSimpArgs false
set_option maxRecDepth 10000
open Go Go.RowKit Go.Proofs
namespace Go.Proofs.YtakkogdmlbkdaaaGreatDoor.Sl.It
attribute [local irreducible] CW Tri OW
@[reducible] def pk21 : List (Nat × Plan) := [(1, [(0, 0, []), (1, 0, []), (2, 0, []), (3, 0, []), (4, 0, []), (5, 1, [3, 4]), (6, 0, []), (7, 0, []), (8, 0, []), (9, 0, []), (10, 0, [])]), (4, [(0, 0, []), (1, 0, []), (2, 0, []), (3, 0, []), (4, 0, []), (5, 0, []), (6, 0, []), (7, 0, []), (8, 0, []), (9, 0, []), (10, 0, []), (11, 0, []), (12, 0, []), (13, 0, []), (14, 0, []), (15, 1, [6, 10, 12, 14]), (16, 0, [])])]
@[reducible] def pk22 : List (Nat × Plan) := [(1, [(0, 0, []), (1, 0, []), (2, 0, []), (3, 0, []), (4, 0, []), (5, 1, [3, 4]), (6, 0, []), (7, 0, []), (8, 0, []), (9, 0, []), (10, 0, [])])]
@[reducible] def pk68 : List (Nat × Plan) := [(3, [(0, 0, []), (1, 0, []), (2, 0, []), (3, 0, []), (4, 0, []), (5, 1, [3, 4]), (6, 0, []), (7, 0, []), (8, 0, []), (9, 0, []), (10, 0, [])]), (4, [(0, 0, []), (1, 0, []), (2, 0, []), (3, 0, []), (4, 0, []), (5, 0, []), (6, 0, []), (7, 0, []), (8, 0, []), (9, 0, []), (10, 0, []), (11, 0, []), (12, 0, []), (13, 1, [3, 6, 10])])]
attribute [local irreducible] invK enK enV waitL
variable {T nc : Nat}
theorem num_lt {x : Hx} (hx : x.ok T nc) {d e n : Int} (h : x.S.num d e = some n) : 0 ≤ n ∧ n < 512 := by
 unfold Sh.num at h
 split at h
 ·exact hx.sv _ _ h
 ·cases h
def Hx.msg (x : Hx) (d e : Int) : Hx × Int := if (x.S.num d e).isSome then (x.setW (messageV 64 x.iw.w true d e).1, (messageV 64 x.iw.w true d e).2) else (x, 250)
set_option maxHeartbeats 4000000 in
theorem hmessage21 (β : Base) (h : Nat) (x : Hx) (hx : x.ok T nc) (d e : Int) : Tri Tryz.prog β 21 [.pointer (some ⟨h, 0, none⟩), evX d e] [hoA h nc x] (fun v L => v = .int .i64 (x.msg d e).2 ∧ L = [hoA h nc (x.msg d e).1]) := by
 refine Tri.ho (enters_of Tryz.func21 (by kernel_rfl) rfl) fun a ha => ?_
 refine Tri.intro tt_ok Tryz.func21 rfl rfl Tryz.ntmps21 rfl fun F => ?_
 have hn := snum55 β a.sp hx.S d e
 unfold errO at hn
 have hm := message24 β (h, hH a nc) a.m a.g a.lc (lA_ts ha) (.inr rfl : (64 : Int) = 0 ∨ (64 : Int) = 64) hx.iw.1 true x.iw.st x.iw.i x.j d e
 unfold swA memA at hm
 unfold Hx.msg
 unfold hL hRow
 (refine G tt_ok pk21 ?_; repeat (refine G1 tt_ok pk21 ?_; intro _))
 refine ke rfl rfl (hn) ?_
 cases hs : x.S.num d e with
 | none =>
  refine G tt_ok pk21 ?_
  exact CW.ret (fin_ret rfl (A := [hoA h nc x]) (ho_pick ha (by unfold hL hRow; exact pk_)) ⟨rfl, rfl⟩)
 | some n =>
  rw [if_pos (by rfl)]
  refine G tt_ok pk21 ?_
  refine ke rfl rfl (hm) ?_
  refine G tt_ok pk21 ?_
  exact CW.ret (fin_ret rfl (A := [hoA h nc (x.setW (messageV 64 x.iw.w true d e).1)]) (ho_pick (a := a) ha (by unfold hL hRow Hx.setW; exact pk_)) ⟨rfl, rfl⟩)
def Hx.wtK (nc : Nat) (w : SW) (o : Option Int) : Option Nat := match o with
 | none => none
 | some n => (List.range nc).find? fun k => w.has k (8192 + n)
@[reducible] def wtV (o : Option Nat) : Value := .tuple #[.int .i64 ((o.getD 0 : Nat) : Int), .bool o.isSome]
theorem find_some {nc k : Nat} {p : Nat → Bool} (hk : k < nc) (hp : p k = true) (hb : ∀ j, j < k → p j = false) : (List.range nc).find? p = some k := by
 rw [List.find?_range_eq_some]
 exact ⟨hp, by simpa using hk, fun j hj => by simp [hb j hj]⟩
theorem find_none {nc : Nat} {p : Nat → Bool} (hb : ∀ j, j < nc → p j = false) : (List.range nc).find? p = none := by
 rw [List.find?_eq_none]
 intro j hj
 rw [hb j (by simpa using hj)]; simp
set_option maxHeartbeats 8000000 in
theorem hwaits22 (β : Base) (h : Nat) (x : Hx) (hx : x.ok T nc) (d e : Int) : Tri Tryz.prog β 22 [.pointer (some ⟨h, 0, none⟩), evX d e] [hoA h nc x] (fun v L => v = wtV (Hx.wtK nc x.iw.w (x.S.num d e)) ∧ L = [hoA h nc x]) := by
 refine Tri.ho (enters_of Tryz.func22 (by kernel_rfl) rfl) fun a ha => ?_
 refine Tri.intro tt_ok Tryz.func22 rfl rfl Tryz.ntmps22 rfl fun F => ?_
 have hn := snum55 β a.sp hx.S d e
 unfold errO at hn
 unfold hL hRow lA
 (refine G tt_ok pk22 ?_; repeat (refine G1 tt_ok pk22 ?_; intro _))
 rename_i c3
 refine ke rfl rfl (hn) ?_
 have hpl := ha.l
 have hn8 := hx.n8
 generalize hs : x.S.num d e = o
 refine G tt_ok pk22 ?_
 refine CW.loop (α := Nat) (fun k => k ≤ nc ∧ ∀ n, o = some n → ∀ j, j < k → x.iw.w.has j (8192 + n) = false) (fun k => [(24, .int .i64 k), (23, .int .i64 nc), (22, .slice a.lq nc a.lc), (0, .pointer (some ⟨h, 0, none⟩)), (6, .int .i64 (o.getD 0)), (7, .int .i64 (if o.isSome then 0 else 250)), (3, .pointer (some ⟨c3, 0, none⟩))])
  (fun k => [pt c3 [.int .i64 d, .int .i64 e], pt h (itH (hH a nc) true x.iw.st x.iw.i x.j 64), rowA a.lq nc (a.ps.flatMap ptC), colsA a.ps x.iw.w.cs, pt a.m [.slice (some ⟨a.g.1, 0, none⟩) x.iw.w.B.length (x.iw.w.B.length + a.g.2.length)], pt a.g.1 (bys x.iw.w.B ++ a.g.2), shA a.sp x.S, fA a nc x.fs, dpA a.dd x.D]) (fun k => nc - k) 0 ⟨by omega, fun _ _ j hj => by omega⟩ ⟨rfl, rfl, rfl, rfl, rfl, rfl, rfl, trivial⟩ pk_ ?_
 rintro k ⟨hk, hb⟩
 refine G tt_ok pk22 ?_
 by_cases hlt : k < nc
 ·rw [decide_eq_true (show (k : Int) < (nc : Int) by omega)]
  have hwr : IntKind.i64.wrap ((k : Int) + 1) = ((k + 1 : Nat) : Int) := by rw [wrap_id (by omega) (by omega)]; simp
  have hps : k < a.ps.length := by rw [hpl]; exact hlt
  refine G tt_ok pk22 ?_
  refine ir_ tt_ok rfl rfl (k) (rfl) rfl ?_ (hlt := hlt)
  refine G tt_ok pk22 ?_
  refine lr_ tt_ok rfl rfl (pt_row hps) ?_
  refine G tt_ok pk22 ?_
  cases o with
  | none =>
   refine G tt_ok pk22 ?_
   exact ⟨k + 1, ⟨by omega, fun n hn => by cases hn⟩, by omega, ⟨by rw [← hwr]; rfl, rfl, rfl, rfl, rfl, rfl, rfl, trivial⟩, pk_⟩
  | some n =>
   have hnn := num_lt hx hs
   have hh := has17C β a.m a.g a.ps hx.iw.1 hlt (n := 8192 + n) (by omega)
   unfold swA memA at hh
   refine G tt_ok pk22 ?_
   rw [show IntKind.i64.wrap (8192 + (some n).getD 0) = 8192 + n by show IntKind.i64.wrap (8192 + n) = _; rw [wrap_id (by omega) (by omega)]]
   refine ke rfl rfl (hh) ?_
   cases hw : x.iw.w.has k (8192 + n) with
   | true =>
    rw [show Hx.wtK nc x.iw.w (some n) = some k from find_some hlt hw (hb n rfl)]
    refine G tt_ok pk22 ?_
    exact CW.ret (fin_ret rfl (A := [hoA h nc x]) (ho_pick ha (by unfold hL hRow lA; exact pk_)) ⟨rfl, rfl⟩)
   | false =>
    refine G tt_ok pk22 ?_
    refine ⟨k + 1, ⟨by omega, fun m hm j hj => ?_⟩, by omega, ⟨by rw [← hwr]; rfl, rfl, rfl, rfl, rfl, rfl, rfl, trivial⟩, pk_⟩
    cases hm
    rcases Nat.lt_succ_iff_lt_or_eq.1 hj with h1 | h1
    ·exact hb n rfl j h1
    ·rw [h1]; exact hw
 ·rw [decide_eq_false (show ¬ (k : Int) < (nc : Int) by omega)]
  refine G tt_ok pk22 ?_
  refine CW.exit ?_
  refine G tt_ok pk22 ?_
  obtain rfl : k = nc := by omega
  have hnone : Hx.wtK k x.iw.w o = none := by
   unfold Hx.wtK
   cases o with
   | none => rfl
   | some n => exact find_none (hb n rfl)
  rw [hnone]
  exact CW.ret (fin_ret rfl (A := [hoA h k x]) (ho_pick ha (by unfold hL hRow lA; exact pk_)) ⟨rfl, rfl⟩)
def Hx.pull (nc : Nat) (x : Hx) (d e : Int) : Hx := match Hx.wtK nc x.iw.w (x.S.num d e) with
 | some k => x.setW (x.iw.w.set k (8192 + (x.S.num d e).getD 0) false)
 | none => x
theorem wtK_lt {nc : Nat} {w : SW} {o : Option Int} {k : Nat} (h : Hx.wtK nc w o = some k) : k < nc ∧ ∃ n, o = some n ∧ w.has k (8192 + n) = true := by
 unfold Hx.wtK at h
 cases o with
 | none => cases h
 | some n =>
  rw [List.find?_range_eq_some] at h
  exact ⟨by simpa using h.2.1, n, rfl, h.1⟩
set_option maxHeartbeats 4000000 in
theorem hpull68 (β : Base) (h : Nat) (x : Hx) (hx : x.ok T nc) (d e : Int) : Tri Tryz.prog β 68 [.pointer (some ⟨h, 0, none⟩), evX d e] [hoA h nc x] (fun v L => v = .bool (Hx.wtK nc x.iw.w (x.S.num d e)).isSome ∧ L = [hoA h nc (x.pull nc d e)]) := by
 refine Tri.intro tt_ok Tryz.func68 rfl rfl Tryz.ntmps68 rfl fun F => ?_
 have hw := hwaits22 β h x hx d e
 (refine G tt_ok pk68 ?_; repeat (refine G1 tt_ok pk68 ?_; intro _))
 rename_i c3
 refine ke rfl rfl (hw) ?_
 unfold Hx.pull
 cases hs : Hx.wtK nc x.iw.w (x.S.num d e) with
 | none =>
  refine G tt_ok pk68 ?_
  exact CW.ret (fin_ret rfl (A := [hoA h nc x]) pk_ ⟨rfl, rfl⟩)
 | some k =>
  obtain ⟨hlt, n, hn, _⟩ := wtK_lt hs
  have hnn := num_lt hx hn
  rw [hn]
  refine G tt_ok pk68 ?_
  refine SQ.ent [hoA h nc x, pt c3 [.int .i64 d, .int .i64 e]] pk_ ?_
  unfold hoA
  refine SQ.open_ fun a => ?_
  refine SQ.pure_ fun ha => ?_
  have hnm := snum55 β a.sp hx.S d e
  unfold errO at hnm
  rw [hn] at hnm
  have hps : k < a.ps.length := by rw [ha.l]; exact hlt
  have hset := set89C β a.m a.g a.ps hx.iw.1 hlt (n := 8192 + n) (by omega) false
  unfold swA memA at hset
  unfold hL hRow lA
  refine G tt_ok pk68 ?_
  refine ke rfl rfl (hnm) ?_
  refine G tt_ok pk68 ?_
  refine ir_ tt_ok rfl rfl (k) (rfl) rfl ?_ (hlt := hlt)
  refine G tt_ok pk68 ?_
  refine lr_ tt_ok rfl rfl (pt_row hps) ?_
  refine G tt_ok pk68 ?_
  rw [show IntKind.i64.wrap (8192 + (some n).getD 0) = 8192 + n by show IntKind.i64.wrap (8192 + n) = _; rw [wrap_id (by omega) (by omega)]]
  (refine ka rfl rfl (hset) ?_; rintro _ _ ⟨rfl, rfl⟩; refine ⟨(by repeat (first | exact trivial | refine ⟨trivial, ?_⟩ | refine ⟨rr_ (pt_row hps), ?_⟩ | refine ⟨wk (by repeat (first | exact .h | exact .q | apply At.t)) (by rfl), ?_⟩)), ?_⟩)
  refine G tt_ok pk68 ?_
  exact CW.ret (fin_ret rfl (A := [hoA h nc (x.setW (x.iw.w.set k (8192 + n) false))]) (ho_pick (a := a) ha (by unfold hL hRow lA Hx.setW; exact pk_)) ⟨rfl, rfl⟩)
end Go.Proofs.YtakkogdmlbkdaaaGreatDoor.Sl.It
namespace Go.Proofs.YtakkogdmlbkdaaaGreatDoor.Sl.It
attribute [local irreducible] CW Tri OW
@[reducible] def pk59 : List (Nat × Plan) := [(1, [(0, 0, []), (1, 0, []), (2, 0, []), (3, 0, []), (4, 0, []), (6, 0, []), (7, 0, []), (8, 0, []), (9, 0, []), (10, 0, []), (11, 0, []), (12, 0, []), (5, 1, [3, 9, 12]), (13, 1, [3, 9, 12]), (14, 2, []), (15, 2, []), (16, 1, []), (17, 1, [])])]
attribute [local irreducible] invK enK enV waitL
variable {T nc : Nat}
set_option maxHeartbeats 4000000 in
theorem best113C (β : Base) (hG : TabOk β) (m : Nat) (g : Gr) (ps : List Nat) {w : SW} (hw : w.ok T nc) {k : Nat} (hk : k < nc) (hb : byOk (w.at_ k).C) :
  Tri Tryz.prog β 113 [cpV ps k] (swA m g ps w) (fun v L => v = .agg (cdL (bestC (w.at_ k).C (w.at_ k).U)).toArray ∧ L = swA m g ps w) := by
 obtain ⟨hB, hbB, hc⟩ := hw
 obtain ⟨hU, hC, hk8⟩ := hc.2 k hk
 have T := fun p r S q c => best113 β hG p r S k q c (w.at_ k).on hU hC hb
 refine Tri.mono (Tri.colsE (fun p => [.pointer (some ⟨p, 0, none⟩)]) (V := .agg (cdL (bestC (w.at_ k).C (w.at_ k).U)).toArray) (c' := w.at_ k) (B' := w.B) (T 0 (0, []) 0 none 0).en (by have := hc.1; omega) ?_) ?_
 ·intro p r S q c
  unfold colA setL memA
  have T1 := T p r S q c
  unfold colA setL at T1
  refine Tri.post (T1.fr (F := [pt m [.slice (some ⟨g.1, 0, none⟩) w.B.length (w.B.length + g.2.length)], pt g.1 (bys w.B ++ g.2)])) ?_
  rintro v L ⟨A', ⟨rfl, rfl⟩, rfl⟩
  exact ⟨_, pk_, q, c, rfl, rfl⟩
 ·rintro v L ⟨rfl, rfl⟩
  rw [SW.same]
  exact ⟨rfl, rfl⟩
def topC (a b : Cd) : Cd := if (!a.2.2.2 || (b.2.2.2 && beforeV b.2.1 b.1 a.2.1 a.1)) = true then b else a
def Hx.top (x : Hx) (k : Nat) : Cd := topC (bestL (x.D.readyV k)) (bestC (x.iw.w.at_ k).C (x.iw.w.at_ k).U)
set_option maxHeartbeats 4000000 in
theorem htop59 (β : Base) (hG : TabOk β) (h : Nat) (x : Hx) (hx : x.ok T nc) {k : Nat} (hk : k < nc) (a : Ha) (ha : a.ok nc) : Tri Tryz.prog β 59 [.pointer (some ⟨h, 0, none⟩), .int .i64 k] (hL h a nc x) (fun v L => v = .agg (cdL (x.top k)).toArray ∧ L = hL h a nc x) := by
 refine Tri.intro tt_ok Tryz.func59 rfl rfl Tryz.ntmps59 rfl fun F => ?_
 obtain ⟨R, hD⟩ := hx.D
 have hd := Tri.pk1 (bestIs β a.dd R x.D hD k)
 have hb := best113C β hG a.m a.g a.ps hx.iw.1 hk (hx.cb k hk)
 unfold swA memA at hb
 have hps : k < a.ps.length := by rw [ha.l]; exact hk
 have hn0 := hx.n1
 unfold Hx.top
 generalize bestL (x.D.readyV k) = A at hd ⊢
 generalize bestC (x.iw.w.at_ k).C (x.iw.w.at_ k).U = C at hb ⊢
 obtain ⟨ai, ap, ag, ais⟩ := A
 obtain ⟨ci, cp, cg, cis⟩ := C
 unfold hL hRow lA dpA topC
 (refine G tt_ok pk59 ?_; repeat (refine G1 tt_ok pk59 ?_; intro _))
 refine ir_ tt_ok rfl rfl (k) (rfl) rfl ?_ (hlt := hk)
 refine G tt_ok pk59 ?_
 refine lr_ tt_ok rfl rfl (pt_row hps) ?_
 refine G tt_ok pk59 ?_
 (refine ka rfl rfl (hd) ?_; rintro _ _ ⟨rfl, rfl⟩; refine ⟨(by repeat (first | exact trivial | refine ⟨trivial, ?_⟩ | refine ⟨rr_ (pt_row hps), ?_⟩ | refine ⟨wk (by repeat (first | exact .h | exact .q | apply At.t)) (by rfl), ?_⟩)), ?_⟩)
 refine G tt_ok pk59 ?_
 (refine ka rfl rfl (hb) ?_; rintro _ _ ⟨rfl, rfl⟩; refine ⟨(by repeat (first | exact trivial | refine ⟨trivial, ?_⟩ | refine ⟨rr_ (pt_row hps), ?_⟩ | refine ⟨wk (by repeat (first | exact .h | exact .q | apply At.t)) (by rfl), ?_⟩)), ?_⟩)
 (refine G tt_ok pk59 ?_; repeat (refine G1 tt_ok pk59 ?_; intro _))
 cases ais with
 | false =>
  refine G tt_ok pk59 ?_
  exact CW.ret (fin_cells [_] ⟨cl_, trivial⟩ (A := hL h a nc x) (by unfold hL hRow lA dpA; exact pk_) ⟨rfl, rfl⟩)
 | true =>
  cases cis with
  | false =>
   refine G tt_ok pk59 ?_
   exact CW.ret (fin_cells [_] ⟨cl_, trivial⟩ (A := hL h a nc x) (by unfold hL hRow lA dpA; exact pk_) ⟨rfl, rfl⟩)
  | true =>
   refine G tt_ok pk59 ?_
   refine ke rfl rfl (before56' β cp ci ap ai) ?_
   cases hbf : beforeV cp ci ap ai with
   | true =>
    refine G tt_ok pk59 ?_
    exact CW.ret (fin_cells [_] ⟨cl_, trivial⟩ (A := hL h a nc x) (by unfold hL hRow lA dpA; exact pk_) ⟨by simp [hbf]; rfl, rfl⟩)
   | false =>
    refine G tt_ok pk59 ?_
    exact CW.ret (fin_cells [_] ⟨cl_, trivial⟩ (A := hL h a nc x) (by unfold hL hRow lA dpA; exact pk_) ⟨by simp [hbf]; rfl, rfl⟩)
end Go.Proofs.YtakkogdmlbkdaaaGreatDoor.Sl.It
namespace Go.Proofs.YtakkogdmlbkdaaaGreatDoor.Sl.It
attribute [local irreducible] CW Tri OW
@[reducible] def pk23 : List (Nat × Plan) := [(9, [(0, 0, []), (1, 0, []), (2, 0, []), (3, 0, []), (4, 0, []), (5, 0, []), (6, 0, []), (7, 0, []), (8, 0, []), (9, 0, []), (10, 0, []), (11, 0, []), (12, 1, [3, 6, 10])])]
attribute [local irreducible] invK enK enV waitL
variable {T nc : Nat}
def Hx.face (x : Hx) (k : Nat) : Fc := (x.fs[k]?).getD fc0
def Hx.tks (x : Hx) (k : Nat) : Bool := (x.face k).takes (x.top k).2.1.toNat (x.top k).2.2.1.toNat (x.top k).2.2.2 1
def Hx.took (x : Hx) (k : Nat) : Hx :=
 if (x.top k).1 ≥ 8192 then { x with fs := x.fs.set k (((x.face k).takeF (x.top k).2.1.toNat (x.top k).2.2.1.toNat (x.top k).2.2.2 1).dropF 1), iw := { x.iw with w := x.iw.w.set k (x.top k).1 false } }
 else { x with fs := x.fs.set k (((x.face k).takeF (x.top k).2.1.toNat (x.top k).2.2.1.toNat (x.top k).2.2.2 1).dropF 1), D := (x.D.doV k (x.top k).1 5).1 }
def Hx.takeR (nc : Nat) (x : Hx) (k : Int) : Hx × Value :=
 if rightV nc k then (if x.tks k.toNat then (x.took k.toNat, .tuple #[.int .i64 (x.top k.toNat).1, .bool true]) else (x, .tuple #[.int .i64 0, .bool false])) else (x, .tuple #[.int .i64 0, .bool false])
set_option maxHeartbeats 8000000 in
theorem htake23 (β : Base) (hG : TabOk β) (h : Nat) (x : Hx) (hx : x.ok T nc) (k : Int) (ht : ∀ n : Nat, n < nc → 0 ≤ (x.top n).2.1 ∧ (x.top n).2.1 ≤ 255 ∧ 0 ≤ (x.top n).2.2.1 ∧ (x.top n).2.2.1 ≤ 1 ∧ (x.top n).1 ≤ 100000) :
  Tri Tryz.prog β 23 [.pointer (some ⟨h, 0, none⟩), .int .i64 k] [hoA h nc x] (fun v L => v = (x.takeR nc k).2 ∧ L = [hoA h nc (x.takeR nc k).1]) := by
 refine Tri.ho (enters_of Tryz.func23 (by kernel_rfl) rfl) fun a ha => ?_
 refine Tri.intro tt_ok Tryz.func23 rfl rfl Tryz.ntmps23 rfl fun F => ?_
 have hc := cores41 (nc := nc) β h a x
 unfold Hx.takeR
 unfold hL
 by_cases h0 : k < 0
 ·have hr : rightV nc k = false := by simp [rightV]; omega
  rw [hr]
  refine G tt_ok pk23 ?_
  rw [decide_eq_true h0]
  refine G tt_ok pk23 ?_
  exact CW.ret (fin_ret rfl (A := [hoA h nc x]) (ho_pick ha (by unfold hL; exact pk_)) ⟨rfl, rfl⟩)
 ·by_cases hn : k ≥ nc
  ·have hr : rightV nc k = false := by simp [rightV]; omega
   rw [hr]
   refine G tt_ok pk23 ?_
   rw [decide_eq_false h0]
   refine G tt_ok pk23 ?_
   refine ke rfl rfl (hc) ?_
   refine G tt_ok pk23 ?_
   rw [decide_eq_true hn]
   refine G tt_ok pk23 ?_
   exact CW.ret (fin_ret rfl (A := [hoA h nc x]) (ho_pick ha (by unfold hL; exact pk_)) ⟨rfl, rfl⟩)
  ·obtain ⟨n, rfl⟩ : ∃ n : Nat, k = n := ⟨k.toNat, by omega⟩
   have hlt : n < nc := by omega
   have hr : rightV nc (n : Int) = true := by simp [rightV]; omega
   have hps : n < a.ps.length := by rw [ha.l]; exact hlt
   have hfl := hx.fl
   obtain ⟨f, hf⟩ : ∃ f, x.fs[n]? = some f := ⟨_, List.getElem?_eq_getElem (by omega)⟩
   have hfo := hx.fs f (List.mem_of_getElem? hf)
   have htp := htop59 β hG h x hx hlt a ha
   obtain ⟨t1, t2, t3, t4, t5⟩ := ht n hlt
   rw [hr]
   simp only [if_true, Int.toNat_natCast]
   unfold Hx.tks Hx.took
   have hface : x.face n = f := by unfold Hx.face; rw [hf]; rfl
   rw [hface]
   generalize htc : x.top n = c at htp t1 t2 t3 t4 t5 ⊢
   obtain ⟨id, p, g, is⟩ := c
   simp only at t1 t2 t3 t4 t5 htp ⊢
   obtain ⟨p, rfl⟩ : ∃ q : Nat, p = q := ⟨p.toNat, by omega⟩
   obtain ⟨g, rfl⟩ : ∃ q : Nat, g = q := ⟨g.toNat, by omega⟩
   simp only [Int.toNat_natCast]
   have hp : p ≤ 255 := by omega
   have hg : g ≤ 1 := by omega
   have htk := take64 β (q := a.fq) hf hfo id hp hg is (k := 1) (by omega)
   have hok2 := takeF_ok hfo hp g is 1
   have hset1 : (x.fs.set n (f.takeF p g is 1))[n]? = some (f.takeF p g is 1) := by rw [List.getElem?_set_self (by omega)]
   have hdr := drop69 β (q := a.fq) hset1 hok2 (k := 1) (by omega)
   rw [List.length_set, List.set_set] at hdr
   rw [hfl] at htk hdr
   have hset := set89C β a.m a.g a.ps hx.iw.1 hlt (n := id) (by omega) false
   unfold swA memA at hset
   have hdo := Tri.pk1 (do23 β a.dd x.D n id 5 (by omega))
   have hps2 := pt_row (k := n) hps
   unfold hL hRow lA fA at htp
   unfold hRow at hc ⊢
   unfold lA fA
   refine G tt_ok pk23 ?_
   rw [decide_eq_false h0]
   refine G tt_ok pk23 ?_
   refine ke rfl rfl (hc) ?_
   refine G tt_ok pk23 ?_
   rw [decide_eq_false hn]
   refine G tt_ok pk23 ?_
   refine ir_ tt_ok rfl rfl (n) (rfl) rfl ?_ (hlt := hlt)
   refine G tt_ok pk23 ?_
   refine ke rfl rfl (htp) ?_
   refine G tt_ok pk23 ?_
   refine ke rfl rfl (htk) ?_
   cases hts : f.takes p g is 1 with
   | false =>
    have hsame : f.takeF p g is 1 = f := by unfold Fc.takeF; rw [hts]; rfl
    have hs2 : x.fs.set n f = x.fs := set_same_ hf
    rw [hsame, hs2]
    refine G tt_ok pk23 ?_
    exact CW.ret (fin_ret rfl (A := [hoA h nc x]) (ho_pick ha (by unfold hL hRow lA fA; exact pk_)) ⟨rfl, rfl⟩)
   | true =>
    simp only [if_true]
    refine G tt_ok pk23 ?_
    refine ke rfl rfl (hdr) ?_
    by_cases h8 : id ≥ 8192
    ·rw [if_pos h8]
     refine G tt_ok pk23 ?_
     rw [decide_eq_true h8]
     refine G tt_ok pk23 ?_
     refine ir_ tt_ok rfl rfl (n) (rfl) rfl ?_ (hlt := hlt)
     refine G tt_ok pk23 ?_
     refine lr_ tt_ok rfl rfl (pt_row hps) ?_
     refine G tt_ok pk23 ?_
     (refine ka rfl rfl (hset) ?_; rintro _ _ ⟨rfl, rfl⟩; refine ⟨(by repeat (first | exact trivial | refine ⟨trivial, ?_⟩ | refine ⟨rr_ (pt_row hps), ?_⟩ | refine ⟨wk (by repeat (first | exact .h | exact .q | apply At.t)) (by rfl), ?_⟩)), ?_⟩)
     refine G tt_ok pk23 ?_
     refine CW.ret (fin_ret rfl (A := [hoA h nc { x with fs := x.fs.set n ((f.takeF p g is 1).dropF 1), iw := { x.iw with w := x.iw.w.set n id false } }]) (ho_pick (a := a) ha ?_) ⟨rfl, rfl⟩)
     unfold hL hRow lA fA
     exact pk_
    ·rw [if_neg h8]
     refine G tt_ok pk23 ?_
     rw [decide_eq_false h8]
     unfold dpA
     refine G tt_ok pk23 ?_
     refine ke rfl rfl (hdo) ?_
     refine G tt_ok pk23 ?_
     refine CW.ret (fin_ret rfl (A := [hoA h nc { x with fs := x.fs.set n ((f.takeF p g is 1).dropF 1), D := (x.D.doV n id 5).1 }]) (ho_pick (a := a) ha ?_) ⟨rfl, rfl⟩)
     unfold hL hRow lA fA dpA
     exact pk_
end Go.Proofs.YtakkogdmlbkdaaaGreatDoor.Sl.It
namespace Go.Proofs.YtakkogdmlbkdaaaGreatDoor.Sl.It
attribute [local irreducible] CW Tri OW
@[reducible] def pk33 : List (Nat × Plan) := [(1, [(0, 0, []), (1, 0, []), (2, 0, []), (3, 0, []), (4, 0, []), (5, 1, [3, 4]), (6, 0, []), (7, 0, []), (8, 0, []), (9, 0, []), (10, 0, [])])]
@[reducible] def pk30 : List (Nat × Plan) := [(3, [(0, 0, []), (1, 0, []), (2, 0, []), (3, 0, []), (4, 0, []), (5, 1, [3, 4]), (6, 0, []), (7, 0, []), (8, 0, []), (9, 0, []), (10, 0, [])]), (6, [(0, 0, []), (1, 0, []), (2, 0, []), (3, 0, []), (4, 0, []), (5, 1, [3, 4]), (6, 0, []), (7, 0, []), (8, 0, []), (9, 0, []), (10, 0, [])]), (9, [(0, 0, []), (1, 0, []), (2, 0, []), (3, 0, []), (4, 0, []), (5, 0, []), (6, 0, []), (7, 0, []), (8, 0, []), (9, 0, []), (10, 0, []), (11, 1, [4, 8, 10]), (12, 0, []), (13, 0, []), (14, 0, []), (15, 2, []), (16, 1, []), (17, 0, [])])]
attribute [local irreducible] invK enK enV waitL
variable {T nc : Nat}
def Hx.cmd (x : Hx) (c : Cm) : Hx := { x with iw := (cmdV x.j x.iw c).1, j := (cmdV x.j x.iw c).2.1 }
def Hx.cmdE (x : Hx) (c : Cm) : Int := (cmdV x.j x.iw c).2.2
theorem hcmd74 (β : Base) (h : Nat) (x : Hx) {w : IW} (hw : w.ok T nc) {j : Nat} (hj : j < 32) (c : Cm) (a : Ha) (ha : a.ok nc) :
  Tri Tryz.prog β 74 [.pointer (some ⟨h, 0, none⟩), .agg (cmC c).toArray] [pt h (itH (hH a nc) true w.st w.i j 64), rowA a.lq nc (a.ps.flatMap ptC), colsA a.ps w.w.cs, pt a.m [.slice (some ⟨a.g.1, 0, none⟩) w.w.B.length (w.w.B.length + a.g.2.length)], pt a.g.1 (bys w.w.B ++ a.g.2)]
   (fun u L => u = .int .i64 (cmdV j w c).2.2 ∧ L = [pt h (itH (hH a nc) true (cmdV j w c).1.st (cmdV j w c).1.i (cmdV j w c).2.1 64), rowA a.lq nc (a.ps.flatMap ptC), colsA a.ps (cmdV j w c).1.w.cs, pt a.m [.slice (some ⟨a.g.1, 0, none⟩) (cmdV j w c).1.w.B.length ((cmdV j w c).1.w.B.length + a.g.2.length)], pt a.g.1 (bys (cmdV j w c).1.w.B ++ a.g.2)]) := by
 have h1 := command74 β h a.m a.g a.lc (lA_ts ha) (.pointer (some ⟨a.dd, 0, none⟩)) (.slice a.fq nc a.fc) (.pointer (some ⟨a.sp, 0, none⟩)) hw hj c
 unfold swA memA lA at h1
 exact h1
def cmMovi (d e c : Int) : Cm := (1, d, e, 0, c, 0, 0, 0, false)
def cmMapti (d e n c : Int) : Cm := (10, d, e, n, c, 0, 0, 0, false)
def cmMapd (d : Int) : Cm := (8, d, 0, 0, 0, 0, 3, 2048 + 256 * d, true)
def cmDisc (d e : Int) : Cm := (15, d, e, 0, 0, 0, 0, 0, false)
def cmMapc (k : Int) : Cm := (9, 0, 0, 0, k, k, 0, 0, true)
theorem cmd_ok {x : Hx} (hx : x.ok T nc) (c : Cm) : (x.cmd c).iw.ok T nc ∧ (x.cmd c).j < 32 := cmdV_ok hx.iw hx.j c
def Hx.unb (x : Hx) (d e : Int) : Hx := if (x.S.free d e).1.2 ≠ 0 then x else ({ x with S := (x.S.free d e).2 } : Hx).cmd (cmDisc d e)
def Hx.unbE (x : Hx) (d e : Int) : Int := if (x.S.free d e).1.2 ≠ 0 then (x.S.free d e).1.2 else x.cmdE (cmDisc d e)
theorem free_same {S : Sh} {d e : Int} (h : (S.free d e).1.2 ≠ 0) : (S.free d e).2 = S := by
 unfold Sh.free at h ⊢
 cases hm : mayE d e with
 | false => rfl
 | true =>
  rw [hm, if_pos rfl] at h
  rw [if_pos rfl]
  cases hg : getB S.ns (kyV d e) with
  | none => rfl
  | some n => rw [hg] at h; exact absurd rfl h
theorem bind_same {S : Sh} {d e : Int} (h : (S.bind d e).1.2 ≠ 0) : (S.bind d e).2 = S := by
 unfold Sh.bind at h ⊢
 cases hm : mayE d e with
 | false => rfl
 | true =>
  rw [hm, if_pos rfl] at h
  rw [if_pos rfl]
  cases hg : getB S.ns (kyV d e) with
  | some n => rfl
  | none =>
   rw [hg] at h
   simp only at h ⊢
   by_cases hl : leastK S.ks < 512
   ·rw [if_pos hl] at h; exact absurd rfl h
   ·rw [if_neg hl]
set_option maxHeartbeats 4000000 in
theorem hunbind33 (β : Base) (h : Nat) (x : Hx) (hx : x.ok T nc) (d e : Int) : Tri Tryz.prog β 33 [.pointer (some ⟨h, 0, none⟩), evX d e] [hoA h nc x] (fun v L => v = .int .i64 (x.unbE d e) ∧ L = [hoA h nc (x.unb d e)]) := by
 refine Tri.ho (enters_of Tryz.func33 (by kernel_rfl) rfl) fun a ha => ?_
 refine Tri.intro tt_ok Tryz.func33 rfl rfl Tryz.ntmps33 rfl fun F => ?_
 have hf := sfree82 β a.sp hx.S d e
 have hc := hcmd74 β h x hx.iw hx.j (cmDisc d e) a ha
 have hsame := free_same (S := x.S) (d := d) (e := e)
 unfold Hx.unb Hx.unbE Hx.cmdE
 unfold hL hRow lA
 generalize x.S.free d e = r at hf hsame ⊢
 obtain ⟨⟨n, er⟩, S'⟩ := r
 simp only at hf hsame ⊢
 (refine G tt_ok pk33 ?_; repeat (refine G1 tt_ok pk33 ?_; intro _))
 refine ke rfl rfl (hf) ?_
 refine G tt_ok pk33 ?_
 by_cases he : er = 0
 ·subst he
  rw [if_neg (by simp), if_neg (by simp)]
  refine G tt_ok pk33 ?_
  refine ke rfl rfl (hc) ?_
  refine G tt_ok pk33 ?_
  exact CW.ret (fin_ret rfl (A := [hoA h nc (({ x with S := S' } : Hx).cmd (cmDisc d e))]) (ho_pick (a := a) ha (by unfold hL hRow lA Hx.cmd; exact pk_)) ⟨rfl, rfl⟩)
 ·rw [if_pos he, if_pos he]
  have := hsame he
  subst this
  rw [show (er != 0) = true by simp [he]]
  refine G tt_ok pk33 ?_
  exact CW.ret (fin_ret rfl (A := [hoA h nc x]) (ho_pick ha (by unfold hL hRow lA; exact pk_)) ⟨rfl, rfl⟩)
def Hx.bnd1 (x : Hx) (d e : Int) : Hx := if (tabGet x.iw.w.B 1024 256 64 d).1.1 then { x with S := (x.S.bind d e).2 } else ({ x with S := (x.S.bind d e).2 } : Hx).cmd (cmMapd d)
def Hx.bnd (nc : Nat) (x : Hx) (d e c : Int) : Hx :=
 if rightV nc c then (match x.S.num d e with
  | some n => x.cmd (cmMovi d e c)
  | none => if (x.S.bind d e).1.2 ≠ 0 then x else (x.bnd1 d e).cmd (cmMapti d e (8192 + (x.S.bind d e).1.1) c)) else x
def Hx.bndR (nc : Nat) (x : Hx) (d e c : Int) : Int × Int :=
 if rightV nc c then (match x.S.num d e with
  | some n => (8192 + n, x.cmdE (cmMovi d e c))
  | none => if (x.S.bind d e).1.2 ≠ 0 then (0, (x.S.bind d e).1.2) else (8192 + (x.S.bind d e).1.1, (x.bnd1 d e).cmdE (cmMapti d e (8192 + (x.S.bind d e).1.1) c))) else (0, 130)
theorem bind_ok {S : Sh} {d e : Int} (hn : S.num d e = none) (h : (S.bind d e).1.2 = 0) : 0 ≤ d ∧ d < 32 ∧ 0 ≤ e ∧ e < 16 ∧ 0 ≤ (S.bind d e).1.1 ∧ (S.bind d e).1.1 < 512 := by
 unfold Sh.num at hn
 unfold Sh.bind at h ⊢
 cases hm : mayE d e with
 | false => rw [hm] at h; simp at h
 | true =>
  rw [hm, if_pos rfl] at h hn
  rw [if_pos rfl]
  rw [hn] at h ⊢
  simp only at h ⊢
  by_cases hl : leastK S.ks < 512
  ·rw [if_pos hl]
   unfold mayE at hm
   simp only [Bool.and_eq_true, decide_eq_true_eq] at hm
   simp only
   omega
  ·rw [if_neg hl] at h; simp at h
set_option maxHeartbeats 8000000 in
theorem hbind30 (β : Base) (h : Nat) (x : Hx) (hx : x.ok T nc) (d e c : Int) : Tri Tryz.prog β 30 [.pointer (some ⟨h, 0, none⟩), evX d e, .int .i64 c] [hoA h nc x] (fun v L => v = pairI (x.bndR nc d e c) ∧ L = [hoA h nc (x.bnd nc d e c)]) := by
 refine Tri.ho (enters_of Tryz.func30 (by kernel_rfl) rfl) fun a ha => ?_
 refine Tri.intro tt_ok Tryz.func30 rfl rfl Tryz.ntmps30 rfl fun F => ?_
 have hc := cores41 (nc := nc) β h a x
 have hnm := snum55 β a.sp hx.S d e
 unfold errO at hnm
 unfold Hx.bnd Hx.bndR
 unfold hL
 by_cases h0 : c < 0
 ·have hr : rightV nc c = false := by simp [rightV]; omega
  rw [hr]
  (refine G tt_ok pk30 ?_; repeat (refine G1 tt_ok pk30 ?_; intro _))
  rw [decide_eq_true h0]
  refine G tt_ok pk30 ?_
  exact CW.ret (fin_ret rfl (A := [hoA h nc x]) (ho_pick ha (by unfold hL; exact pk_)) ⟨rfl, rfl⟩)
 ·by_cases hn : c ≥ nc
  ·have hr : rightV nc c = false := by simp [rightV]; omega
   rw [hr]
   (refine G tt_ok pk30 ?_; repeat (refine G1 tt_ok pk30 ?_; intro _))
   rw [decide_eq_false h0]
   refine G tt_ok pk30 ?_
   refine ke rfl rfl (hc) ?_
   refine G tt_ok pk30 ?_
   rw [decide_eq_true hn]
   refine G tt_ok pk30 ?_
   exact CW.ret (fin_ret rfl (A := [hoA h nc x]) (ho_pick ha (by unfold hL; exact pk_)) ⟨rfl, rfl⟩)
  ·have hr : rightV nc c = true := by simp [rightV]; omega
   rw [hr, if_pos rfl, if_pos rfl]
   unfold hRow at hc ⊢
   unfold lA
   (refine G tt_ok pk30 ?_; repeat (refine G1 tt_ok pk30 ?_; intro _))
   rw [decide_eq_false h0]
   refine G tt_ok pk30 ?_
   refine ke rfl rfl (hc) ?_
   refine G tt_ok pk30 ?_
   rw [decide_eq_false hn]
   refine G tt_ok pk30 ?_
   refine ke rfl rfl (hnm) ?_
   cases hs : x.S.num d e with
   | some n =>
    have hnn := num_lt hx hs
    have hcm := hcmd74 β h x hx.iw hx.j (cmMovi d e c) a ha
    unfold Hx.cmdE
    refine G tt_ok pk30 ?_
    rw [show IntKind.i64.wrap (8192 + (some n).getD 0) = 8192 + n by show IntKind.i64.wrap (8192 + n) = _; rw [wrap_id (by omega) (by omega)]]
    refine ke rfl rfl (hcm) ?_
    refine G tt_ok pk30 ?_
    exact CW.ret (fin_ret rfl (A := [hoA h nc (x.cmd (cmMovi d e c))]) (ho_pick (a := a) ha (by unfold hL hRow lA Hx.cmd; exact pk_)) ⟨rfl, rfl⟩)
   | none =>
    have hbd := sbind75 β a.sp hx.S d e
    have hsame := bind_same (S := x.S) (d := d) (e := e)
    have hbok := bind_ok hs
    simp only
    have hX : ∀ v, (tabGet x.iw.w.B 1024 256 64 d).1.1 = v → x.bnd1 d e = if v = true then { x with S := (x.S.bind d e).2 } else ({ x with S := (x.S.bind d e).2 } : Hx).cmd (cmMapd d) := fun v hv => by unfold Hx.bnd1; rw [hv]
    generalize hr9 : x.S.bind d e = r at hbd hsame hbok hX ⊢
    obtain ⟨⟨n, er⟩, S'⟩ := r
    simp only at hbd hsame hbok hX ⊢
    refine G tt_ok pk30 ?_
    refine ke rfl rfl (hbd) ?_
    refine G tt_ok pk30 ?_
    by_cases he : er = 0
    ·subst he
     obtain ⟨hd0, hd1, he0, he1, hn0, hn1⟩ := hbok rfl
     rw [if_neg (by simp), if_neg (by simp)]
     have hBl := hx.iw.1.1
     have hg := get75 β a.m a.g x.iw.w.B (by omega) hx.iw.1.2.1 (a := 1024) (s := 256) (.inr rfl : (64 : Int) = 0 ∨ (64 : Int) = 64) (by unfold holdsV; simp; omega) d
     unfold memA at hg
     refine G tt_ok pk30 ?_
     refine ke rfl rfl (hg) ?_
     (refine G tt_ok pk30 ?_; repeat (refine G1 tt_ok pk30 ?_; intro _))
     cases hv : (tabGet x.iw.w.B 1024 256 64 d).1.1 with
     | true =>
      have hcm := hcmd74 β h x hx.iw hx.j (cmMapti d e (8192 + n) c) a ha
      rw [hX true hv, if_pos rfl]
      unfold Hx.cmdE
      refine G tt_ok pk30 ?_
      rw [show IntKind.i64.wrap (8192 + n) = 8192 + n by rw [wrap_id (by omega) (by omega)]]
      refine ke rfl rfl (hcm) ?_
      refine G tt_ok pk30 ?_
      exact CW.ret (fin_ret rfl (A := [hoA h nc (({ x with S := S' } : Hx).cmd (cmMapti d e (8192 + n) c))]) (ho_pick (a := a) ha (by unfold hL hRow lA Hx.cmd; exact pk_)) ⟨rfl, rfl⟩)
     | false =>
      have hcm0 := hcmd74 β h x hx.iw hx.j (cmMapd d) a ha
      have hok1 := cmd_ok hx (cmMapd d)
      have hcm := hcmd74 β h x hok1.1 hok1.2 (cmMapti d e (8192 + n) c) a ha
      rw [hX false hv, if_neg (by simp)]
      unfold Hx.cmdE
      refine G tt_ok pk30 ?_
      rw [show IntKind.i64.wrap (256 * d) = 256 * d by rw [wrap_id (by omega) (by omega)], show IntKind.i64.wrap (2048 + 256 * d) = 2048 + 256 * d by rw [wrap_id (by omega) (by omega)]]
      refine ke rfl rfl (hcm0) ?_
      refine G tt_ok pk30 ?_
      rw [show IntKind.i64.wrap (8192 + n) = 8192 + n by rw [wrap_id (by omega) (by omega)]]
      refine ke rfl rfl (hcm) ?_
      refine G tt_ok pk30 ?_
      exact CW.ret (fin_ret rfl (A := [hoA h nc ((({ x with S := S' } : Hx).cmd (cmMapd d)).cmd (cmMapti d e (8192 + n) c))]) (ho_pick (a := a) ha (by unfold hL hRow lA Hx.cmd; exact pk_)) ⟨rfl, rfl⟩)
    ·rw [if_pos he, if_pos he]
     have := hsame he
     subst this
     rw [show (er != 0) = true by simp [he]]
     refine G tt_ok pk30 ?_
     exact CW.ret (fin_ret rfl (A := [hoA h nc x]) (ho_pick ha (by unfold hL hRow lA; exact pk_)) ⟨rfl, rfl⟩)
end Go.Proofs.YtakkogdmlbkdaaaGreatDoor.Sl.It
namespace Go.Proofs.YtakkogdmlbkdaaaGreatDoor.Sl.It
attribute [local irreducible] CW Tri OW
@[reducible] def pk31 : List (Nat × Plan) := [(2, [(0, 0, []), (1, 0, []), (2, 0, []), (3, 0, []), (5, 0, []), (6, 0, []), (7, 0, []), (8, 0, []), (10, 0, []), (11, 0, []), (12, 0, []), (13, 0, []), (4, 1, [3, 8, 13]), (9, 1, [3, 8, 13]), (14, 1, [3, 8, 13]), (15, 0, []), (16, 1, []), (17, 0, []), (18, 1, []), (19, 0, []), (20, 1, [])]), (4, [(0, 0, []), (1, 0, []), (2, 0, []), (3, 0, []), (4, 0, []), (5, 0, []), (6, 1, []), (7, 0, []), (8, 1, [])]), (8, [(0, 0, []), (1, 0, []), (2, 0, []), (3, 1, [1]), (4, 1, [1]), (5, 1, []), (6, 0, []), (7, 1, [])])]
attribute [local irreducible] invK enK enV waitL
variable {T nc : Nat}
theorem pk_fresh {p : Nat} {xs : List Value} {l : List Lp} : Ent [pt p xs, pkA colF l] [pureA (p ∉ l.map Lp.p), pt p xs, pkA colF l] := fun h s => by
 by_cases hm : p ∈ l.map Lp.p
 ·exfalso
  obtain ⟨x, hx, rfl⟩ := List.mem_map.1 hm
  obtain ⟨k, hk⟩ := List.getElem?_of_mem hx
  obtain ⟨h2, s2, _⟩ := Ent.cons (pt x.p xs) (pk_open (f := colF) hk) h s
  obtain ⟨a, b, ⟨t, rfl⟩, ⟨c, d, ⟨t2, rfl⟩, _, _, rfl⟩, dj, rfl⟩ := s2
  have := dj x.p
  rcases this with e | e
  ·simp [Hp.one] at e
  ·simp [Hp.add, Hp.one] at e
 ·exact Ent.pureA hm h s
theorem lcopyC (β : Base) (ps : List Nat) {cs : List Pc} (hcs : pcsOk nc cs) {k : Nat} (hk : k < nc) :
  Tri Tryz.prog β 80 [cpV ps k] [colsA ps cs] (fun v L => ∃ y : Lp, v = .pointer (some ⟨y.p, 0, none⟩) ∧ y.k = k ∧ y.pc = cs.getD k pc0 ∧ L = colsA ps cs :: colF y) := by
 obtain ⟨hU, hC, _⟩ := hcs.2 k hk
 refine Tri.mono (Tri.cols (A := []) (R := fun v c2 A' => c2 = cs.getD k pc0 ∧ ∃ y : Lp, v = .pointer (some ⟨y.p, 0, none⟩) ∧ y.k = k ∧ y.pc = cs.getD k pc0 ∧ A' = colF y) (ps := ps) (cs := cs) (k := k) (enters_of Tryz.func80 (by kernel_rfl) rfl) (by rw [hcs.1]; exact hk) ?_) ?_
 ·intro x hp hk' hpc
  rw [List.append_nil]
  have e1 : x.U = (cs.getD k pc0).U := by rw [← hpc]; rfl
  have e2 : x.C = (cs.getD k pc0).C := by rw [← hpc]; rfl
  have h := lcopy80 β x (by rw [e1]; exact hU) (by rw [e2]; exact hC)
  rw [hp] at h
  refine Tri.mono h ?_
  rintro v L ⟨y, rfl, h2, h3, rfl⟩
  exact ⟨x, colF y, rfl, hk', ⟨hpc, y, rfl, by rw [h2, hk'], by rw [h3, hpc], rfl⟩, rfl⟩
 ·rintro v L ⟨c', A', ⟨rfl, y, rfl, h2, h3, rfl⟩, rfl⟩
  exact ⟨y, rfl, h2, h3, by rw [set_get]⟩
theorem fc_len (f : Fc) : (fcC f).length = 8 := rfl
theorem one_fc (fs : List Fc) : ∀ u ∈ fs.flatMap fcC, u.oneCell' = true := one_flat (fun _ => rfl) fs
set_option maxHeartbeats 8000000 in
theorem hcopy31 (β : Base) (h : Nat) (x : Hx) (hx : x.ok T nc) : Tri Tryz.prog β 31 [.pointer (some ⟨h, 0, none⟩)] [hoA h nc x] (fun v L => ∃ h' E, v = .pointer (some ⟨h', 0, none⟩) ∧ DS.like E x.D ∧ L = [hoA h nc x, hoA h' nc (x.setD E)]) := by
 refine Tri.ho (enters_of Tryz.func31 (by kernel_rfl) rfl) fun a ha => ?_
 obtain ⟨m, dd, sp, g, fq, fc, lq, lc, ps⟩ := a
 refine Tri.intro tt_ok Tryz.func31 rfl rfl Tryz.ntmps31 rfl fun F => ?_
 obtain ⟨R, hD⟩ := hx.D
 have hBl := hx.iw.1.1
 have hcp := mcopy77 β m g (B := x.iw.w.B) (by omega) (by omega)
 unfold memA at hcp
 have hdc := copy24 β dd x.D hD.x8 hD.sh (fun y hy => (hD.es y hy).1)
 have hdc2 : Tri Tryz.prog β 78 [.pointer (some ⟨dd, 0, none⟩)] [dpA dd x.D] (fun v L => ∃ c E, v = .pointer (some ⟨c, 0, none⟩) ∧ E.like x.D ∧ L = [dpA c E, dpA dd x.D]) := by
  have h1 : Tri Tryz.prog β 78 [.pointer (some ⟨dd, 0, none⟩)] [packA (dA dd x.D)] _ := Tri.ent (by have := Ent.unpack (dA dd x.D) []; simpa using this) hdc
  refine Tri.post h1 ?_
  rintro v L ⟨c, E, rfl, rfl, hl⟩
  refine ⟨[dpA c E, dpA dd x.D], ?_, c, E, rfl, hl, rfl⟩
  unfold dpA
  refine (Ent.pack (dA c E) (dA dd x.D)).trans (Ent.cons _ ?_)
  have := Ent.pack (dA dd x.D) []; simpa using this
 have hsc := scopy79 β sp hx.S
 have hpl : ps.length = nc := ha.l
 have hn8 := hx.n8
 have hn1 := hx.n1
 have hfl := hx.fl
 have hcsl : x.iw.w.cs.length = nc := hx.iw.1.2.2.1
 have hffl : (x.fs.flatMap fcC).length = nc * 8 := by rw [flatE_len (sz := 8) fc_len, hfl]
 unfold hL hRow lA fA
 dsimp only [hH]
 refine CW.ent (rm_ (A := rowA fq nc (x.fs.flatMap fcC)) (row_is hn1)) (CW.pure_ fun hq => ?_)
 obtain ⟨gf, rfl⟩ : ∃ gf, fq = some ⟨gf, 0, none⟩ := ⟨_, hq⟩
 (refine G tt_ok pk31 ?_; repeat (refine G1 tt_ok pk31 ?_; intro _))
 rename_i h'
 (refine ka rfl rfl (hcp) ?_; rintro _ _ ⟨m', g', rfl, rfl⟩; refine w_ ?_)
 refine G tt_ok pk31 ?_
 (refine ka rfl rfl (hdc2) ?_; rintro _ _ ⟨dd', E, rfl, hlike, rfl⟩; refine w_ ?_)
 refine G tt_ok pk31 ?_
 (refine ka rfl rfl (hsc) ?_; rintro _ _ ⟨sp', rfl, rfl⟩; refine w_ ?_)
 refine G tt_ok pk31 ?_
 refine SQ.ent _ (own_nil 100 8) ?_
 refine SQ.appG (m := nc) (n := 0) (te := ti100) tt_ok rfl (by rfl) 0 rfl (A := rowA (some ⟨gf, 0, none⟩) nc (x.fs.flatMap fcC)) (news := x.fs.flatMap fcC) (sz := 8) (slr_row hffl) (by repeat (first | exact .h | apply AtA.t)) rfl hffl rfl (one_fc x.fs) (by omega) (by show (0 + nc) * ti100.bytes ≤ _; change (0 + nc) * 40 ≤ _; omega) (fun v' => ⟨trivial, ?_⟩)
 refine SQ.ent _ (Ent.head (own_shape _ _ _ _ _)) ?_
 refine SQ.open_ fun z => ?_
 obtain ⟨fq', fc'⟩ := z
 refine SQ.pure_ fun hv => ?_
 subst hv
 simp only
 rw [List.nil_append, show 0 + nc = nc from Nat.zero_add nc]
 refine G tt_ok pk31 ?_
 refine CW.ent ((own_nil 90 1).trans (pk_nil (f := colF))) ?_
 refine CW.loop (α := List Lp × Option Addr × Nat) (fun y => y.1.length ≤ nc ∧ y.1.map Lp.pc = x.iw.w.cs.take y.1.length ∧ y.1.map Lp.k = List.range y.1.length ∧ (y.1.map Lp.p).Nodup)
  (fun y => [(42, .int .i64 y.1.length), (41, .int .i64 nc), (40, .slice lq nc lc), (3, .pointer (some ⟨h', 0, none⟩))])
  (fun y => [pkA colF y.1, own 90 1 (.slice y.2.1 y.1.length y.2.2) y.1.length ((y.1.map Lp.p).flatMap ptC), pt h' (itH (.pointer (some ⟨m', 0, none⟩), .pointer (some ⟨dd', 0, none⟩), .slice fq' nc fc', .slice y.2.1 y.1.length y.2.2, .pointer (some ⟨sp', 0, none⟩)) true x.iw.st x.iw.i x.j 64),
   own 100 8 (.slice fq' nc fc') nc (x.fs.flatMap fcC), shA sp' x.S, dpA dd' E, pt m' [.slice (some ⟨g'.1, 0, none⟩) x.iw.w.B.length (x.iw.w.B.length + g'.2.length)], pt g'.1 (bys x.iw.w.B ++ g'.2),
   pt h (itH (.pointer (some ⟨m, 0, none⟩), .pointer (some ⟨dd, 0, none⟩), .slice (some ⟨gf, 0, none⟩) nc fc, .slice lq nc lc, .pointer (some ⟨sp, 0, none⟩)) true x.iw.st x.iw.i x.j 64), rowA lq nc (ps.flatMap ptC), colsA ps x.iw.w.cs, pt m [.slice (some ⟨g.1, 0, none⟩) x.iw.w.B.length (x.iw.w.B.length + g.2.length)], pt g.1 (bys x.iw.w.B ++ g.2), shA sp x.S, rowA (some ⟨gf, 0, none⟩) nc (x.fs.flatMap fcC), dpA dd x.D]) (fun y => nc - y.1.length) ([], none, 0) ⟨by simp, rfl, rfl, by simp⟩ ⟨rfl, rfl, rfl, rfl, trivial⟩ pk_ ?_
 rintro ⟨l, lq', lc'⟩ ⟨hl1, hl2, hl3, hl4⟩
 simp only at hl1 hl2 hl3 hl4 ⊢
 refine G tt_ok pk31 ?_
 by_cases hlt : l.length < nc
 ·rw [decide_eq_true (show (l.length : Int) < (nc : Int) by omega)]
  have hwr : IntKind.i64.wrap ((l.length : Int) + 1) = ((l.length + 1 : Nat) : Int) := by rw [wrap_id (by omega) (by omega)]; simp
  have hps : l.length < ps.length := by rw [hpl]; exact hlt
  have hlc := lcopyC β ps hx.iw.1.2.2 hlt
  generalize hk : l.length = k at hl1 hlt hwr hps hlc hl2 hl3 ⊢
  refine G tt_ok pk31 ?_
  refine ir_ tt_ok rfl rfl (k) (rfl) rfl ?_ (hlt := hlt)
  refine G tt_ok pk31 ?_
  refine lr_ tt_ok rfl rfl (pt_row hps) ?_
  refine G tt_ok pk31 ?_
  (refine ka rfl rfl (hlc) ?_; rintro _ _ ⟨⟨yp, yr, yS, yk, yq, yc, yon, yU, yC⟩, rfl, hy1, hy2, rfl⟩; refine w_ ?_)
  simp only at hy1
  subst hy1
  refine SQ.ent _ (tk_ (As := [pt yp (lpC yk yon yr yS), pkA colF l]) pk_fresh) ?_
  refine SQ.pure_ fun hfr => ?_
  refine G tt_ok pk31 ?_
  (refine SQ.built tt_ok rfl rfl (fun _ => w_ ?_))
  refine G tt_ok pk31 ?_
  (refine SQ.appA tt_ok rfl rfl (by repeat (first | exact Rm.h | apply Rm.t)) (by repeat (first | exact .h | exact .q | apply At.t)) ([.pointer (some ⟨yp, 0, none⟩)]) rfl rfl rfl (scal_eq rfl) (by omega) (by show (yk + 1) * 8 ≤ _; omega) (fun qa ca => w_ ?_))
  refine G tt_ok pk31 ?_
  have hcsk : x.iw.w.cs.take (yk + 1) = x.iw.w.cs.take yk ++ [x.iw.w.cs.getD yk pc0] := by
   rw [List.take_add_one, List.getD_eq_getElem?_getD, List.getElem?_eq_getElem (by omega)]; rfl
  have hlen : (l ++ [(⟨yp, yr, yS, yk, yq, yc, yon, yU, yC⟩ : Lp)]).length = yk + 1 := by simp [hk]
  refine ⟨(l ++ [⟨yp, yr, yS, yk, yq, yc, yon, yU, yC⟩], qa, ca), ⟨by simp only; rw [hlen]; omega, ?_, ?_, ?_⟩, by simp only; rw [hlen]; omega, ⟨by simp only; rw [hlen, ← hwr]; rfl, rfl, rfl, rfl, trivial⟩, ?_⟩
  ·simp only
   rw [hlen, hcsk, List.map_append, hl2]
   simp only [List.map_cons, List.map_nil, hy2]
  ·simp only
   rw [hlen, List.map_append, hl3, List.range_succ]; rfl
  ·simp only [List.map_append, List.map_cons, List.map_nil]
   exact List.nodup_append.2 ⟨hl4, by simp, fun b hb c hc => by simp only [List.mem_singleton] at hc; subst hc; intro e; subst e; exact hfr hb⟩
  ·simp only
   rw [hlen]
   simp only [List.map_append, List.map_cons, List.map_nil, List.flatMap_append]
   refine Ent.trans (M := (colF ⟨yp, yr, yS, yk, yq, yc, yon, yU, yC⟩ ++ [pkA colF l]) ++ _) ?_ (Ent.append pk_snoc (Ent.refl _))
   unfold colF colA setL
   exact pk_
 ·rw [decide_eq_false (show ¬ (l.length : Int) < (nc : Int) by omega)]
  refine G tt_ok pk31 ?_
  refine CW.exit ?_
  have hk : l.length = nc := by omega
  rw [hk] at hl2 hl3 ⊢
  rw [List.take_of_length_le (by omega)] at hl2
  refine G tt_ok pk31 ?_
  have hC : Ent [pkA colF l] [colsA (l.map Lp.p) x.iw.w.cs] := (Ent.pureA (L := [pkA colF l]) ⟨rfl, hl2, by rw [hl3, hcsl]⟩).trans (Ent.exA (f := fun l' : List Lp => [pureA (Cols (l.map Lp.p) x.iw.w.cs l'), pkA colF l']) l)
  have hok' : Ha.ok ⟨m', dd', sp', g', fq', fc', lq', lc', l.map Lp.p⟩ nc := ⟨by simp [hk], hl4⟩
  refine CW.ret (fin_ret rfl (A := [hoA h nc x, hoA h' nc (x.setD E)]) ?_ ⟨h', E, rfl, hlike, rfl⟩)
  refine Ent.trans (M := [pkA colF l] ++ ([own 90 1 (.slice lq' nc lc') nc ((l.map Lp.p).flatMap ptC)] ++ ([own 100 8 (.slice fq' nc fc') nc (x.fs.flatMap fcC)] ++ ([pt h' (itH (.pointer (some ⟨m', 0, none⟩), .pointer (some ⟨dd', 0, none⟩), .slice fq' nc fc', .slice lq' nc lc', .pointer (some ⟨sp', 0, none⟩)) true x.iw.st x.iw.i x.j 64), shA sp' x.S, dpA dd' E, pt m' [.slice (some ⟨g'.1, 0, none⟩) x.iw.w.B.length (x.iw.w.B.length + g'.2.length)], pt g'.1 (bys x.iw.w.B ++ g'.2)] ++ hL h ⟨m, dd, sp, g, some ⟨gf, 0, none⟩, fc, lq, lc, ps⟩ nc x)))) (by unfold hL hRow lA fA; exact pk_) ?_
  refine (Ent.append hC (Ent.append own_row (Ent.append own_row (Ent.refl _)))).trans ?_
  refine Ent.trans (M := hL h ⟨m, dd, sp, g, some ⟨gf, 0, none⟩, fc, lq, lc, ps⟩ nc x ++ hL h' ⟨m', dd', sp', g', fq', fc', lq', lc', l.map Lp.p⟩ nc (x.setD E)) (by unfold hL hRow lA fA Hx.setD; exact pk_) ?_
  exact Ent.append (ho_shut ha) (ho_shut hok')
end Go.Proofs.YtakkogdmlbkdaaaGreatDoor.Sl.It
namespace Go.Proofs.YtakkogdmlbkdaaaGreatDoor.Sl.It
attribute [local irreducible] CW Tri OW
@[reducible] def pk39 : List (Nat × Plan) := [(15, [(0, 0, []), (1, 0, []), (2, 0, []), (3, 0, []), (4, 0, []), (5, 0, []), (6, 0, []), (7, 0, []), (8, 0, []), (9, 0, []), (10, 0, []), (11, 1, [3, 6, 10])]), (27, [(0, 0, []), (1, 0, []), (2, 0, []), (3, 0, []), (4, 0, []), (5, 0, []), (6, 0, []), (7, 0, []), (8, 0, []), (9, 0, []), (10, 0, []), (11, 0, []), (12, 0, []), (13, 1, [4, 8])])]
attribute [local irreducible] invK enK enV waitL
variable {T nc : Nat}
def propF (B : List Nat) : Nat → List Nat
 | 0 => B
 | k + 1 => wrN (propF B k) (10240 + k) 1 161
theorem propF_0 (B : List Nat) : propF B 0 = B := rfl
theorem propF_s (B : List Nat) (k : Nat) : propF B (k + 1) = wrN (propF B k) (10240 + k) 1 161 := rfl
def bootD (D : DS) : Nat → DS
 | 0 => (D.wrV 0 4 2).1
 | k + 1 => ((((bootD D k).wrV (1024 + ((32 + k) / 4 * 4 : Nat)) 4 2694881440).1.wrV (128 + ((32 + k) / 32 * 4 : Nat)) 4 4294967295).1.wrV (256 + ((32 + k) / 32 * 4 : Nat)) 4 4294967295).1
theorem bootD_s (D : DS) (k : Nat) : bootD D (k + 1) = ((((bootD D k).wrV (1024 + ((32 + k) / 4 * 4 : Nat)) 4 2694881440).1.wrV (128 + ((32 + k) / 32 * 4 : Nat)) 4 4294967295).1.wrV (256 + ((32 + k) / 32 * 4 : Nat)) 4 4294967295).1 := rfl
def facB (f : Fc) : Fc := ((((f.writeF 6 248).1).writeF 9 2).1.writeF 11 1).1
def bootE (w : SW) : Nat → SW
 | 0 => w
 | k + 1 => (bootE w k).en k
def bootF (fs : List Fc) : Nat → List Fc
 | 0 => fs
 | k + 1 => (bootF fs k).set k (facB (((bootF fs k)[k]?).getD fc0))
def leadsF (B : List Nat) : Nat → List Nat
 | 0 => B
 | k + 1 => leadV (leadsF B k) k
def mapcF (x : IW × Nat) : Nat → IW × Nat
 | 0 => x
 | k + 1 => ((cmdV (mapcF x k).2 (mapcF x k).1 (cmMapc k)).1, (cmdV (mapcF x k).2 (mapcF x k).1 (cmMapc k)).2.1)
theorem propF_ok {B : List Nat} (hB : okT T B.length) (hb : byOk B) : ∀ k, k ≤ 512 → okT T (propF B k).length ∧ byOk (propF B k)
 | 0, _ => ⟨hB, hb⟩
 | k + 1, hk => by
  obtain ⟨h1, h2⟩ := propF_ok hB hb k (by omega)
  rw [propF_s]
  exact ⟨by rw [wrN_len _ (by omega)]; exact h1, wrN_ok _ _ _ h2⟩
attribute [local irreducible] propF
theorem leadsF_ok {B : List Nat} (hB : okT T B.length) (hb : byOk B) : ∀ k, k ≤ 4 → okT T (leadsF B k).length ∧ byOk (leadsF B k)
 | 0, _ => ⟨hB, hb⟩
 | k + 1, hk => by
  obtain ⟨h1, h2⟩ := leadsF_ok hB hb k (by omega)
  exact leadV_ok h1 h2 (by omega)
theorem bootE_ok {w : SW} (hw : w.ok T nc) : ∀ k, k ≤ nc → (bootE w k).ok T nc
 | 0, _ => hw
 | k + 1, hk => SW.en_ok (bootE_ok hw k (by omega)) (by omega)
theorem bootF_len (fs : List Fc) : ∀ k, (bootF fs k).length = fs.length
 | 0 => rfl
 | k + 1 => by unfold bootF; rw [List.length_set, bootF_len fs k]
theorem mapcF_ok {x : IW × Nat} (hx : x.1.ok T nc) (hj : x.2 < 32) : ∀ k, (mapcF x k).1.ok T nc ∧ (mapcF x k).2 < 32
 | 0 => ⟨hx, hj⟩
 | k + 1 => by
  obtain ⟨h1, h2⟩ := mapcF_ok hx hj k
  exact cmdV_ok h1 h2 _
def row0 (h : Nat) (a : Ha) (nc : Nat) : Atom := pt h [.pointer (some ⟨a.m, 0, none⟩), .pointer (some ⟨a.dd, 0, none⟩), .slice a.fq nc a.fc, .slice a.lq nc a.lc, .bool false, .bool false, .int .i64 0, .int .i64 0, .int .i64 0, .int .i64 0, .int .i64 0, .int .i64 0, .int .i64 0, .int .i64 0, .int .i64 0, .pointer (some ⟨a.sp, 0, none⟩)]
def rst (a : Ha) (nc : Nat) (w : SW) (fs : List Fc) (S : Sh) (D : DS) : List Atom := [lA a nc, colsA a.ps w.cs, pt a.m [.slice (some ⟨a.g.1, 0, none⟩) w.B.length (w.B.length + a.g.2.length)], pt a.g.1 (bys w.B ++ a.g.2), shA a.sp S, fA a nc fs, dpA a.dd D]
theorem quo4 {k : Nat} (h : k < 1000) : IntKind.i64.wrap (IntKind.i64.wrap (((32 + k : Nat) : Int).tdiv 4) * 4) = (((32 + k) / 4 * 4 : Nat) : Int) := by
 rw [Int.tdiv_eq_ediv_of_nonneg (by omega), wrap_id (x := ((32 + k : Nat) : Int) / 4) (by omega) (by omega), wrap_id (by omega) (by omega)]; omega
theorem quo32 {k : Nat} (h : k < 1000) : IntKind.i64.wrap (IntKind.i64.wrap (((32 + k : Nat) : Int).tdiv 32) * 4) = (((32 + k) / 32 * 4 : Nat) : Int) := by
 rw [Int.tdiv_eq_ediv_of_nonneg (by omega), wrap_id (x := ((32 + k : Nat) : Int) / 32) (by omega) (by omega), wrap_id (by omega) (by omega)]; omega
def bootX (w : SW) (fs : List Fc) (S : Sh) (D : DS) (nc s : Nat) : Hx :=
 ⟨(mapcF (⟨⟨leadsF (bootE ⟨propF w.B 512, w.cs⟩ nc).B 4, (bootE ⟨propF w.B 512, w.cs⟩ nc).cs⟩, false, 0⟩, 0) nc).1, (mapcF (⟨⟨leadsF (bootE ⟨propF w.B 512, w.cs⟩ nc).B 4, (bootE ⟨propF w.B 512, w.cs⟩ nc).cs⟩, false, 0⟩, 0) nc).2, bootD D s, S, bootF fs nc⟩
set_option maxHeartbeats 16000000 in
theorem boot39 (β : Base) (h : Nat) (a : Ha) (ha : a.ok nc) (hn1 : 1 ≤ nc) (hn8 : nc ≤ 8) {w : SW} (hw : w.ok T nc) {fs : List Fc} (hfs : fs.length = nc) (S : Sh) (D : DS) {s : Nat} (hs : s ≤ 64) :
  Tri Tryz.prog β 39 [.pointer (some ⟨h, 0, none⟩), .int .i64 s] (row0 h a nc :: rst a nc w fs S D) (fun v L => v = .tuple #[] ∧ L = hL h a nc (bootX w fs S D nc s)) := by
 obtain ⟨hB, hb, hc⟩ := id hw
 obtain ⟨M, hM⟩ : ∃ M : Nat, M = 512 := ⟨_, rfl⟩
 have hpl := ha.l
 refine Tri.intro tt_ok Tryz.func39 rfl rfl Tryz.ntmps39 rfl fun F => ?_
 unfold row0 rst
 refine G tt_ok pk39 ?_
 refine CW.loop (α := Nat) (fun k => k ≤ M) (fun k => [(9, .int .i64 k), (0, .pointer (some ⟨h, 0, none⟩)), (1, .int .i64 s)]) (fun k => row0 h a nc :: rst a nc ⟨propF w.B k, w.cs⟩ fs S D) (fun k => M - k) 0 (by omega) ⟨rfl, rfl, rfl, trivial⟩ (by rw [propF_0]; unfold row0 rst; exact pk_) ?_
 intro k hk
 obtain ⟨hB1, hb1⟩ := propF_ok hB hb k (by omega)
 unfold row0 rst
 simp only
 refine G tt_ok pk39 ?_
 by_cases hlt : k < M
 ·rw [decide_eq_true (show (k : Int) < 512 by omega)]
  have hwr : IntKind.i64.wrap ((k : Int) + 1) = ((k + 1 : Nat) : Int) := by rw [wrap_id (by omega) (by omega)]; simp
  have hww : memWr (propF w.B k) 10240 512 (k : Int) 1 161 = (propF w.B (k + 1), 0) := by
   unfold memWr
   rw [if_pos (acc_c hB1 (by omega)), propF_s, show (10240 + (k : Int)).toNat = 10240 + k by omega]
   rfl
  have hwt := write68 β a.m a.g (propF w.B k) (by omega) 10240 512 (k : Int) 1 161 (by omega)
  rw [hww] at hwt
  unfold memA at hwt
  refine G tt_ok pk39 ?_
  refine ke rfl rfl (hwt) ?_
  refine G tt_ok pk39 ?_
  exact ⟨k + 1, by omega, by omega, ⟨by rw [← hwr]; rfl, rfl, rfl, trivial⟩, pk_⟩
 ·rw [decide_eq_false (show ¬ (k : Int) < 512 by omega)]
  obtain rfl : k = M := by omega
  subst hM
  refine G tt_ok pk39 ?_
  refine CW.exit ?_
  have hd0 := Tri.pk1 (write32 β a.dd D 0 4 2 (by omega))
  unfold dpA
  refine G tt_ok pk39 ?_
  refine ke rfl rfl (hd0) ?_
  refine G tt_ok pk39 ?_
  refine CW.loop (α := Nat) (fun k => k ≤ s) (fun k => [(5, .int .i64 ((32 + k : Nat) : Int)), (0, .pointer (some ⟨h, 0, none⟩)), (1, .int .i64 s)]) (fun k => row0 h a nc :: rst a nc ⟨propF w.B 512, w.cs⟩ fs S (bootD D k)) (fun k => s - k) 0 (by omega) ⟨rfl, rfl, rfl, trivial⟩ (by unfold row0 rst dpA bootD; exact pk_) ?_
  clear hk hlt
  intro k hk
  unfold row0 rst
  simp only
  refine G tt_ok pk39 ?_
  rw [show IntKind.i64.wrap (32 + (s : Int)) = ((32 + s : Nat) : Int) by rw [wrap_id (by omega) (by omega)]; omega]
  by_cases hlt : k < s
  ·rw [decide_eq_true (show ((32 + k : Nat) : Int) < ((32 + s : Nat) : Int) by omega)]
   have hwr : IntKind.i64.wrap (((32 + k : Nat) : Int) + 1) = ((32 + (k + 1) : Nat) : Int) := by rw [wrap_id (by omega) (by omega)]; omega
   have w1 : IntKind.i64.wrap (1024 + (((32 + k) / 4 * 4 : Nat) : Int)) = 1024 + (((32 + k) / 4 * 4 : Nat) : Int) := by rw [wrap_id (by omega) (by omega)]
   have w2 : IntKind.i64.wrap (128 + (((32 + k) / 32 * 4 : Nat) : Int)) = 128 + (((32 + k) / 32 * 4 : Nat) : Int) := by rw [wrap_id (by omega) (by omega)]
   have w3 : IntKind.i64.wrap (256 + (((32 + k) / 32 * 4 : Nat) : Int)) = 256 + (((32 + k) / 32 * 4 : Nat) : Int) := by rw [wrap_id (by omega) (by omega)]
   have q1 := quo4 (k := k) (by omega)
   have q2 := quo32 (k := k) (by omega)
   generalize hD1 : bootD D k = D1
   have h1 := Tri.pk1 (write32 β a.dd D1 (1024 + ((32 + k) / 4 * 4 : Nat)) 4 2694881440 (by omega))
   have h2 := Tri.pk1 (write32 β a.dd (D1.wrV (1024 + ((32 + k) / 4 * 4 : Nat)) 4 2694881440).1 (128 + ((32 + k) / 32 * 4 : Nat)) 4 4294967295 (by omega))
   have h3 := Tri.pk1 (write32 β a.dd ((D1.wrV (1024 + ((32 + k) / 4 * 4 : Nat)) 4 2694881440).1.wrV (128 + ((32 + k) / 32 * 4 : Nat)) 4 4294967295).1 (256 + ((32 + k) / 32 * 4 : Nat)) 4 4294967295 (by omega))
   unfold dpA
   refine G tt_ok pk39 ?_
   rw [q1, w1]
   refine ke rfl rfl (h1) ?_
   refine G tt_ok pk39 ?_
   rw [q2, w2]
   refine ke rfl rfl (h2) ?_
   refine G tt_ok pk39 ?_
   rw [q2, w3]
   refine ke rfl rfl (h3) ?_
   refine G tt_ok pk39 ?_
   exact ⟨k + 1, by omega, by omega, ⟨by rw [← hwr]; rfl, rfl, rfl, trivial⟩, by rw [bootD_s, hD1]; exact pk_⟩
  ·rw [decide_eq_false (show ¬ ((32 + k : Nat) : Int) < ((32 + s : Nat) : Int) by omega)]
   obtain rfl : s = k := by omega
   refine G tt_ok pk39 ?_
   refine CW.exit ?_
   unfold lA fA
   refine G tt_ok pk39 ?_
   have hw1 : (⟨propF w.B 512, w.cs⟩ : SW).ok T nc := ⟨hB1, hb1, hc⟩
   generalize hW1 : (⟨propF w.B 512, w.cs⟩ : SW) = W1 at hw1
   refine CW.loop (α := Nat) (fun k => k ≤ nc) (fun k => [(63, .int .i64 k), (62, .int .i64 nc), (0, .pointer (some ⟨h, 0, none⟩))]) (fun k => row0 h a nc :: rst a nc (bootE W1 k) (bootF fs k) S (bootD D s)) (fun k => nc - k) 0 (by omega) ⟨rfl, rfl, rfl, trivial⟩ (by unfold row0 rst lA fA bootE bootF; rw [← hW1]; exact pk_) ?_
   clear hk hlt
   intro k hk
   unfold row0 rst lA fA
   refine G tt_ok pk39 ?_
   by_cases hlt : k < nc
   ·rw [decide_eq_true (show (k : Int) < (nc : Int) by omega)]
    have hwr : IntKind.i64.wrap ((k : Int) + 1) = ((k + 1 : Nat) : Int) := by rw [wrap_id (by omega) (by omega)]; simp
    have hps : k < a.ps.length := by rw [hpl]; exact hlt
    have hen := enable59C β a.m a.g a.ps (bootE_ok hw1 k hk) hlt
    unfold swA memA at hen
    have hflen : (bootF fs k).length = nc := by rw [bootF_len, hfs]
    obtain ⟨f0, hf0⟩ : ∃ f, (bootF fs k)[k]? = some f := ⟨_, List.getElem?_eq_getElem (by omega)⟩
    have hFs : bootF fs (k + 1) = (bootF fs k).set k (facB f0) := by show (bootF fs k).set k (facB (((bootF fs k)[k]?).getD fc0)) = _; rw [hf0]; rfl
    have hEs : bootE W1 (k + 1) = (bootE W1 k).en k := rfl
    generalize bootF fs k = Z at hflen hf0 hFs ⊢
    have k1 := write71 β (q := a.fq) hf0 6 (v := 248) (by omega)
    have s1 : (Z.set k (f0.writeF 6 248).1)[k]? = some (f0.writeF 6 248).1 := by rw [List.getElem?_set_self (by omega)]
    have k2 := write71 β (q := a.fq) s1 9 (v := 2) (by omega)
    rw [List.set_set, List.length_set] at k2
    have s2 : (Z.set k ((f0.writeF 6 248).1.writeF 9 2).1)[k]? = some ((f0.writeF 6 248).1.writeF 9 2).1 := by rw [List.getElem?_set_self (by omega)]
    have k3 := write71 β (q := a.fq) s2 11 (v := 1) (by omega)
    rw [List.set_set, List.length_set] at k3
    rw [hflen] at k1 k2 k3
    refine G tt_ok pk39 ?_
    refine ir_ tt_ok rfl rfl (k) (rfl) rfl ?_ (hlt := hlt)
    refine G tt_ok pk39 ?_
    refine lr_ tt_ok rfl rfl (pt_row hps) ?_
    refine G tt_ok pk39 ?_
    (refine ka rfl rfl (hen) ?_; rintro _ _ ⟨rfl, rfl⟩; refine ⟨(by repeat (first | exact trivial | refine ⟨trivial, ?_⟩ | refine ⟨rr_ (pt_row hps), ?_⟩ | refine ⟨wk (by repeat (first | exact .h | exact .q | apply At.t)) (by rfl), ?_⟩)), ?_⟩)
    refine G tt_ok pk39 ?_
    refine ir_ tt_ok rfl rfl (k) (rfl) rfl ?_ (hlt := hlt)
    refine G tt_ok pk39 ?_
    refine ke rfl rfl (k1) ?_
    refine G tt_ok pk39 ?_
    refine ir_ tt_ok rfl rfl (k) (rfl) rfl ?_ (hlt := hlt)
    refine G tt_ok pk39 ?_
    refine ke rfl rfl (k2) ?_
    refine G tt_ok pk39 ?_
    refine ir_ tt_ok rfl rfl (k) (rfl) rfl ?_ (hlt := hlt)
    refine G tt_ok pk39 ?_
    refine ke rfl rfl (k3) ?_
    refine G tt_ok pk39 ?_
    exact ⟨k + 1, by omega, by omega, ⟨by rw [← hwr]; rfl, rfl, rfl, trivial⟩, by rw [hEs, hFs]; unfold facB; exact pk_⟩
   ·rw [decide_eq_false (show ¬ (k : Int) < (nc : Int) by omega)]
    obtain rfl : nc = k := by omega
    refine G tt_ok pk39 ?_
    refine CW.exit ?_
    refine G tt_ok pk39 ?_
    refine ke rfl rfl (new56 β) ?_
    refine G tt_ok pk39 ?_
    have hW2 := bootE_ok hw1 nc (Nat.le_refl nc)
    have hW2e : bootE ⟨propF w.B 512, w.cs⟩ nc = bootE W1 nc := by rw [hW1]
    generalize hW2g : bootE W1 nc = W2 at hW2 hW2e ⊢
    obtain ⟨hB2, hb2, hc2⟩ := hW2
    refine CW.loop (α := Nat) (fun k => k ≤ 4) (fun k => [(7, .int .i64 ((8 * k : Nat) : Int)), (0, .pointer (some ⟨h, 0, none⟩))]) (fun k => pt h (itH (hH a nc) true false 0 0 64) :: rst a nc ⟨leadsF W2.B k, W2.cs⟩ (bootF fs nc) S (bootD D s)) (fun k => 4 - k) 0 (by omega) ⟨rfl, rfl, trivial⟩ (by unfold rst lA fA leadsF; exact pk_) ?_
    clear hk hlt
    intro k hk
    obtain ⟨hB3, hb3⟩ := leadsF_ok hB2 hb2 k hk
    unfold rst lA fA
    simp only
    refine G tt_ok pk39 ?_
    by_cases hlt : k < 4
    ·rw [decide_eq_true (show ((8 * k : Nat) : Int) < 32 by omega)]
     have hwr : IntKind.i64.wrap (((8 * k : Nat) : Int) + 8) = ((8 * (k + 1) : Nat) : Int) := by rw [wrap_id (by omega) (by omega)]; omega
     have hld := lead54 β a.m a.g (leadsF W2.B k) hB3 hlt
     unfold memA at hld
     have hLs : leadsF W2.B (k + 1) = leadV (leadsF W2.B k) k := rfl
     refine G tt_ok pk39 ?_
     rw [show IntKind.i64.wrap (1280 + IntKind.i64.wrap (((8 * k : Nat) : Int) * 8)) = ((1280 + 64 * k : Nat) : Int) by rw [wrap_id (x := ((8 * k : Nat) : Int) * 8) (by omega) (by omega), wrap_id (by omega) (by omega)]; omega]
     refine ke rfl rfl (hld) ?_
     refine G tt_ok pk39 ?_
     exact ⟨k + 1, by omega, by omega, ⟨by rw [← hwr]; rfl, rfl, trivial⟩, by rw [hLs]; exact pk_⟩
    ·rw [decide_eq_false (show ¬ ((8 * k : Nat) : Int) < 32 by omega)]
     obtain rfl : k = 4 := by omega
     refine G tt_ok pk39 ?_
     refine CW.exit ?_
     refine G tt_ok pk39 ?_
     have hx0 : (⟨⟨leadsF W2.B 4, W2.cs⟩, false, 0⟩ : IW).ok T nc := ⟨⟨hB3, hb3, hc2⟩, by show 0 < 32; omega⟩
     have hbx : bootX w fs S D nc s = ⟨(mapcF (⟨⟨leadsF W2.B 4, W2.cs⟩, false, 0⟩, 0) nc).1, (mapcF (⟨⟨leadsF W2.B 4, W2.cs⟩, false, 0⟩, 0) nc).2, bootD D s, S, bootF fs nc⟩ := by unfold bootX; rw [hW2e]
     rw [hbx]
     generalize hX0 : ((⟨⟨leadsF W2.B 4, W2.cs⟩, false, 0⟩ : IW), (0 : Nat)) = X0
     have hX1 : X0.1.ok T nc := by rw [← hX0]; exact hx0
     have hX2 : X0.2 < 32 := by rw [← hX0]; show 0 < 32; omega
     refine CW.loop (α := Nat) (fun k => k ≤ nc) (fun k => [(147, .int .i64 k), (146, .int .i64 nc), (0, .pointer (some ⟨h, 0, none⟩))]) (fun k => hL h a nc ⟨(mapcF X0 k).1, (mapcF X0 k).2, bootD D s, S, bootF fs nc⟩) (fun k => nc - k) 0 (by omega) ⟨rfl, rfl, rfl, trivial⟩ (by unfold hL hRow lA fA mapcF; rw [← hX0]; exact pk_) ?_
     clear hk hlt
     intro k hk
     obtain ⟨hm1, hm2⟩ := mapcF_ok hX1 hX2 k
     unfold hL hRow lA fA
     simp only
     refine G tt_ok pk39 ?_
     by_cases hlt : k < nc
     ·rw [decide_eq_true (show (k : Int) < (nc : Int) by omega)]
      have hwr : IntKind.i64.wrap ((k : Int) + 1) = ((k + 1 : Nat) : Int) := by rw [wrap_id (by omega) (by omega)]; simp
      have hcm := hcmd74 β h (bootX w fs S D nc s) hm1 hm2 (cmMapc k) a ha
      have hMs : mapcF X0 (k + 1) = ((cmdV (mapcF X0 k).2 (mapcF X0 k).1 (cmMapc k)).1, (cmdV (mapcF X0 k).2 (mapcF X0 k).1 (cmMapc k)).2.1) := rfl
      refine G tt_ok pk39 ?_
      refine ke rfl rfl (hcm) ?_
      refine G tt_ok pk39 ?_
      exact ⟨k + 1, by omega, by omega, ⟨by rw [← hwr]; rfl, rfl, rfl, trivial⟩, by rw [hMs]; exact pk_⟩
     ·rw [decide_eq_false (show ¬ (k : Int) < (nc : Int) by omega)]
      obtain rfl : nc = k := by omega
      refine G tt_ok pk39 ?_
      refine CW.exit ?_
      refine G tt_ok pk39 ?_
      exact fin_normal (vs := []) rfl (A := hL h a nc ⟨(mapcF X0 nc).1, (mapcF X0 nc).2, bootD D s, S, bootF fs nc⟩) (by unfold hL hRow lA fA; exact pk_) ⟨rfl, rfl⟩
end Go.Proofs.YtakkogdmlbkdaaaGreatDoor.Sl.It
namespace Go.Proofs.YtakkogdmlbkdaaaGreatDoor.Sl.It
attribute [local irreducible] CW Tri OW
@[reducible] def pk34 : List (Nat × Plan) := []
attribute [local irreducible] invK enK enV waitL propF
variable {T nc : Nat}
theorem mnew_no (β : Base) {n : Int} (hn : n > 131072) : Tri Tryz.prog β 34 [.int .i64 n] [] (fun v L => v = .tuple #[.pointer none, .int .i64 1] ∧ L = []) := by
 refine Tri.intro tt_ok Tryz.func34 rfl rfl Tryz.ntmps34 rfl fun F => ?_
 refine G tt_ok pk34 ?_
 rw [decide_eq_false (show ¬ n < 0 by omega)]
 refine G tt_ok pk34 ?_
 rw [decide_eq_true (show n > 131072 by omega)]
 refine G tt_ok pk34 ?_
 exact CW.ret (fin_ret rfl (A := []) pk_ ⟨rfl, rfl⟩)
theorem dnew_no (β : Base) {n s : Int} (h : n < 1 ∨ n > 8 ∨ s < 0 ∨ s > 64) : Tri Tryz.prog β 35 [.int .i64 n, .int .i64 s] [] (fun v L => v = .tuple #[.pointer none, .int .i64 1] ∧ L = []) := by
 refine Tri.intro tt_ok Tryz.func35 rfl rfl Tryz.ntmps35 rfl fun F => ?_
 refine G tt_ok [] ?_
 by_cases h1 : n < 1
 ·rw [decide_eq_true h1]
  refine G tt_ok [] ?_
  exact CW.ret (fin_ret rfl (A := []) pk_ ⟨rfl, rfl⟩)
 rw [decide_eq_false h1]
 refine G tt_ok [] ?_
 by_cases h2 : n > 8
 ·rw [decide_eq_true h2]
  refine G tt_ok [] ?_
  exact CW.ret (fin_ret rfl (A := []) pk_ ⟨rfl, rfl⟩)
 rw [decide_eq_false h2]
 refine G tt_ok [] ?_
 by_cases h3 : s < 0
 ·rw [decide_eq_true h3]
  refine G tt_ok [] ?_
  exact CW.ret (fin_ret rfl (A := []) pk_ ⟨rfl, rfl⟩)
 rw [decide_eq_false h3]
 refine G tt_ok [] ?_
 rw [decide_eq_true (show s > 64 by omega)]
 refine G tt_ok [] ?_
 exact CW.ret (fin_ret rfl (A := []) pk_ ⟨rfl, rfl⟩)
def newE (c s z : Int) : Int := if z < 11264 then 273 else if z > 131072 ∨ c < 1 ∨ c > 8 ∨ s < 0 ∨ s > 64 then 1 else 0
theorem hnew_no (β : Base) {c s z : Int} (h : newE c s z ≠ 0) : Tri Tryz.prog β 11 [.int .i64 c, .int .i64 s, .int .i64 z] [] (fun v L => v = .tuple #[.pointer none, .int .i64 (newE c s z)] ∧ L = []) := by
 refine Tri.intro tt_ok Tryz.func11 rfl rfl Tryz.ntmps11 rfl fun F => ?_
 unfold newE at h ⊢
 by_cases h0 : z < 11264
 ·rw [if_pos h0]
  refine G tt_ok [] ?_
  rw [decide_eq_true h0]
  refine G tt_ok [] ?_
  exact CW.ret (fin_ret rfl (A := []) pk_ ⟨rfl, rfl⟩)
 rw [if_neg h0] at h ⊢
 have h9 : z > 131072 ∨ c < 1 ∨ c > 8 ∨ s < 0 ∨ s > 64 := by
  by_cases h9 : z > 131072 ∨ c < 1 ∨ c > 8 ∨ s < 0 ∨ s > 64
  ·exact h9
  ·rw [if_neg h9] at h; exact absurd rfl h
 rw [if_pos h9]
 refine G tt_ok [] ?_
 rw [decide_eq_false h0]
 refine G tt_ok [] ?_
 by_cases h1 : z > 131072
 ·refine ke rfl rfl (mnew_no β h1) ?_
  refine G tt_ok [] ?_
  exact CW.ret (fin_ret rfl (A := []) pk_ ⟨rfl, rfl⟩)
 obtain ⟨n, rfl⟩ : ∃ n : Nat, z = n := ⟨z.toNat, by omega⟩
 (refine ka rfl rfl (new96 β (n := n) (by omega)) ?_; rintro _ _ ⟨m, g, rfl, rfl⟩; refine w_ ?_)
 refine G tt_ok [] ?_
 refine ke rfl rfl (dnew_no β (n := c) (s := s) (by omega)) ?_
 refine G tt_ok [] ?_
 exact CW.ret (fin_ret rfl (A := []) (Ent.dropAll _) ⟨rfl, rfl⟩)
end Go.Proofs.YtakkogdmlbkdaaaGreatDoor.Sl.It
namespace Go.Proofs.YtakkogdmlbkdaaaGreatDoor.Sl.It
attribute [local irreducible] CW Tri OW
@[reducible] def pk11 : List (Nat × Plan) := [(18, [(0, 0, []), (1, 0, []), (2, 0, []), (3, 0, []), (4, 0, []), (5, 1, [4]), (6, 1, [4]), (7, 1, []), (8, 0, []), (9, 0, []), (10, 1, [])])]
attribute [local irreducible] invK enK enV waitL propF
variable {T nc : Nat}
theorem pcs0 (nc : Nat) (hn : nc ≤ 8) : pcsOk nc (List.replicate nc pcN) := by
 refine ⟨List.length_replicate, fun k hk => ?_⟩
 have e : (List.replicate nc pcN).getD k pc0 = pcN := by rw [List.getD_eq_getElem?_getD, List.getElem?_replicate, if_pos hk]; rfl
 rw [e]
 exact ⟨⟨by simp [pcN], by simp [pcN]⟩, by simp [pcN], by omega⟩
set_option maxHeartbeats 16000000 in
theorem hnew11 (β : Base) {c s z : Nat} (hc1 : 1 ≤ c) (hc8 : c ≤ 8) (hs : s ≤ 64) (hz1 : 11264 ≤ z) (hz2 : z ≤ 131072) : Tri Tryz.prog β 11 [.int .i64 c, .int .i64 s, .int .i64 z] []
  (fun v L => ∃ h D, newD D c s ∧ v = .tuple #[.pointer (some ⟨h, 0, none⟩), .int .i64 0] ∧ L = [hoA h c (bootX ⟨List.replicate z 0, List.replicate c pcN⟩ (List.replicate c fc0) ⟨[], []⟩ D c s)]) := by
 have hB0 : okT z (List.replicate z 0).length := ⟨List.length_replicate, hz1, by omega⟩
 have hb0 : byOk (List.replicate z 0) := fun b hb => by have := List.eq_of_mem_replicate hb; omega
 have hmn := new96 β (n := z) (by omega)
 refine Tri.intro tt_ok Tryz.func11 rfl rfl Tryz.ntmps11 rfl fun F => ?_
 generalize hzi : (z : Int) = zi at hmn ⊢
 refine G tt_ok pk11 ?_
 rw [decide_eq_false (show ¬ zi < 11264 by omega)]
 refine G tt_ok pk11 ?_
 (refine ka rfl rfl (hmn) ?_; rintro _ _ ⟨m, g, rfl, rfl⟩; refine w_ ?_)
 refine G tt_ok pk11 ?_
 (refine ka rfl rfl (new11' β hc1 hc8 hs) ?_; rintro _ _ ⟨d, D, rfl, rfl, hD⟩; refine w_ ?_)
 (refine G tt_ok pk11 ?_; repeat (refine G1 tt_ok pk11 ?_; intro _))
 rename_i h
 (refine ka rfl rfl (snew36 β) ?_; rintro _ _ ⟨sp, rfl, rfl⟩; refine w_ ?_)
 refine SQ.ent _ (tk_ (As := dA d D) (by have := Ent.pack (dA d D) []; simpa using this)) ?_
 refine G tt_ok pk11 ?_
 generalize hB : List.replicate z 0 = B at hB0 hb0 ⊢
 refine CW.ent ((own_nil 100 8).trans ((own_nil 90 1).trans (pk_nil (f := colF)))) ?_
 refine CW.loop (α := List Lp × (Option Addr × Nat) × (Option Addr × Nat)) (fun y => y.1.length ≤ c ∧ y.1.map Lp.pc = List.replicate y.1.length pcN ∧ y.1.map Lp.k = List.range y.1.length ∧ (y.1.map Lp.p).Nodup)
  (fun y => [(46, .int .i64 y.1.length), (45, .int .i64 c), (8, .pointer (some ⟨m, 0, none⟩)), (11, .pointer (some ⟨h, 0, none⟩)), (1, .int .i64 s)])
  (fun y => [pkA colF y.1, own 90 1 (.slice y.2.1.1 y.1.length y.2.1.2) y.1.length ((y.1.map Lp.p).flatMap ptC), own 100 8 (.slice y.2.2.1 y.1.length y.2.2.2) y.1.length ((List.replicate y.1.length fc0).flatMap fcC),
   pt h [.pointer (some ⟨m, 0, none⟩), .pointer (some ⟨d, 0, none⟩), .slice y.2.2.1 y.1.length y.2.2.2, .slice y.2.1.1 y.1.length y.2.1.2, .bool false, .bool false, .int .i64 0, .int .i64 0, .int .i64 0, .int .i64 0, .int .i64 0, .int .i64 0, .int .i64 0, .int .i64 0, .int .i64 0, .pointer (some ⟨sp, 0, none⟩)],
   shA sp ⟨[], []⟩, packA (dA d D), pt m [.slice (some ⟨g.1, 0, none⟩) B.length (B.length + g.2.length)], pt g.1 (bys B ++ g.2)]) (fun y => c - y.1.length) ([], (none, 0), (none, 0)) ⟨by simp, rfl, rfl, by simp⟩ ⟨rfl, rfl, rfl, rfl, rfl, trivial⟩ (by unfold memA; exact pk_) ?_
 rintro ⟨l, ⟨lq, lc⟩, ⟨fq, fc⟩⟩ ⟨hl1, hl2, hl3, hl4⟩
 simp only at hl1 hl2 hl3 hl4 ⊢
 refine G tt_ok pk11 ?_
 by_cases hlt : l.length < c
 ·rw [decide_eq_true (show (l.length : Int) < (c : Int) by omega)]
  have hwr : IntKind.i64.wrap ((l.length : Int) + 1) = ((l.length + 1 : Nat) : Int) := by rw [wrap_id (by omega) (by omega)]; simp
  generalize hk : l.length = k at hl1 hlt hwr hl2 hl3 ⊢
  have hln := new57 β m g (k := k) (by omega) B hB0
  unfold memA at hln
  refine G tt_ok pk11 ?_
  rw [show IntKind.i64.wrap (10752 + IntKind.i64.wrap (64 * (k : Int))) = ((10752 + 64 * k : Nat) : Int) by rw [wrap_id (x := 64 * (k : Int)) (by omega) (by omega), wrap_id (by omega) (by omega)]; omega]
  (refine ka rfl rfl (hln) ?_; rintro _ _ ⟨p, r, S, rfl, rfl⟩; refine w_ ?_)
  refine SQ.ent _ (tk_ (As := [pt p (lpC k false r S), pkA colF l]) pk_fresh) ?_
  refine SQ.pure_ fun hfr => ?_
  refine G tt_ok pk11 ?_
  (refine SQ.built tt_ok rfl rfl (fun _ => w_ ?_))
  refine G tt_ok pk11 ?_
  (refine SQ.appA tt_ok rfl rfl (by repeat (first | exact Rm.h | apply Rm.t)) (by repeat (first | exact .h | exact .q | apply At.t)) ([.pointer (some ⟨p, 0, none⟩)]) rfl rfl rfl (scal_eq rfl) (by omega) (by show (k + 1) * 8 ≤ _; omega) (fun qa ca => w_ ?_))
  refine G tt_ok pk11 ?_
  refine ke rfl rfl (fnew73 β) ?_
  refine G tt_ok pk11 ?_
  (refine SQ.built tt_ok rfl rfl (fun _ => w_ ?_))
  refine G tt_ok pk11 ?_
  (refine SQ.appA tt_ok rfl rfl (by repeat (first | exact Rm.h | apply Rm.t)) (by repeat (first | exact .h | exact .q | apply At.t)) (fcC fc0) rfl rfl rfl (scal_eq rfl) (by omega) (by show (k + 1) * 40 ≤ _; omega) (fun qb cb => w_ ?_))
  refine G tt_ok pk11 ?_
  have hlen : (l ++ [(⟨p, r, S, k, none, 0, false, [], List.replicate 512 0⟩ : Lp)]).length = k + 1 := by simp [hk]
  refine ⟨(l ++ [⟨p, r, S, k, none, 0, false, [], List.replicate 512 0⟩], (qa, ca), (qb, cb)), ⟨by simp only; rw [hlen]; omega, ?_, ?_, ?_⟩, by simp only; rw [hlen]; omega, ⟨by simp only; rw [hlen, ← hwr]; rfl, rfl, rfl, rfl, rfl, trivial⟩, ?_⟩
  ·simp only
   rw [hlen, List.map_append, hl2, show List.replicate (k + 1) pcN = List.replicate k pcN ++ [pcN] from List.replicate_succ']; rfl
  ·simp only
   rw [hlen, List.map_append, hl3, List.range_succ]; rfl
  ·simp only [List.map_append, List.map_cons, List.map_nil]
   exact List.nodup_append.2 ⟨hl4, by simp, fun b hb c hc => by simp only [List.mem_singleton] at hc; subst hc; intro e; subst e; exact hfr hb⟩
  ·simp only
   rw [hlen]
   rw [show List.replicate (k + 1) fc0 = List.replicate k fc0 ++ [fc0] from List.replicate_succ']
   simp only [List.map_append, List.map_cons, List.map_nil, List.flatMap_append]
   refine Ent.trans (M := (colF ⟨p, r, S, k, none, 0, false, [], List.replicate 512 0⟩ ++ [pkA colF l]) ++ _) ?_ (Ent.append pk_snoc (Ent.refl _))
   unfold colF colA setL
   exact pk_
 ·rw [decide_eq_false (show ¬ (l.length : Int) < (c : Int) by omega)]
  refine G tt_ok pk11 ?_
  refine CW.exit ?_
  have hk : l.length = c := by omega
  rw [hk] at hl2 hl3 ⊢
  have hC : Ent [pkA colF l] [colsA (l.map Lp.p) (List.replicate c pcN)] := (Ent.pureA (L := [pkA colF l]) ⟨rfl, hl2, by rw [hl3, List.length_replicate]⟩).trans (Ent.exA (f := fun l' : List Lp => [pureA (Cols (l.map Lp.p) (List.replicate c pcN) l'), pkA colF l']) l)
  have hok' : Ha.ok ⟨m, d, sp, g, fq, fc, lq, lc, l.map Lp.p⟩ c := ⟨by simp [hk], hl4⟩
  have hbt := boot39 β h ⟨m, d, sp, g, fq, fc, lq, lc, l.map Lp.p⟩ hok' hc1 hc8 (w := ⟨B, List.replicate c pcN⟩) ⟨hB0, hb0, pcs0 c hc8⟩ (fs := List.replicate c fc0) List.length_replicate ⟨[], []⟩ D hs
  refine CW.ent (L' := row0 h ⟨m, d, sp, g, fq, fc, lq, lc, l.map Lp.p⟩ c :: rst ⟨m, d, sp, g, fq, fc, lq, lc, l.map Lp.p⟩ c ⟨B, List.replicate c pcN⟩ (List.replicate c fc0) ⟨[], []⟩ D) ?_ ?_
  ·refine Ent.trans (M := [pkA colF l] ++ ([own 90 1 (.slice lq c lc) c ((l.map Lp.p).flatMap ptC)] ++ ([own 100 8 (.slice fq c fc) c ((List.replicate c fc0).flatMap fcC)] ++ [pt h [.pointer (some ⟨m, 0, none⟩), .pointer (some ⟨d, 0, none⟩), .slice fq c fc, .slice lq c lc, .bool false, .bool false, .int .i64 0, .int .i64 0, .int .i64 0, .int .i64 0, .int .i64 0, .int .i64 0, .int .i64 0, .int .i64 0, .int .i64 0, .pointer (some ⟨sp, 0, none⟩)],
    shA sp ⟨[], []⟩, packA (dA d D), pt m [.slice (some ⟨g.1, 0, none⟩) B.length (B.length + g.2.length)], pt g.1 (bys B ++ g.2)]))) pk_ ?_
   refine (Ent.append hC (Ent.append own_row (Ent.append own_row (Ent.refl _)))).trans ?_
   unfold row0 rst lA fA dpA
   exact pk_
  refine G tt_ok pk11 ?_
  refine ke rfl rfl (hbt) ?_
  refine G tt_ok pk11 ?_
  refine CW.ret (fin_ret rfl (A := [hoA h c (bootX ⟨B, List.replicate c pcN⟩ (List.replicate c fc0) ⟨[], []⟩ D c s)]) (ho_pick hok' pk_) ⟨h, D, hD, rfl, rfl⟩)
end Go.Proofs.YtakkogdmlbkdaaaGreatDoor.Sl.It
namespace Go.Proofs.YtakkogdmlbkdaaaGreatDoor.Sl.It
attribute [local irreducible] CW Tri OW
structure Da where
 s : Nat
 dq : Option Addr
 dc : Nat
 eq : Option Addr
 ec : Nat
 hq : Option Addr
 hc : Nat
 aq : Option Addr
 ac : Nat
 sq : Option Addr
 sc : Nat
structure Rx where
 de : List Int
 ev : List Int
 core : List Int
 wait : List Bool
 high : List Bool
 act : List Bool
 asl : List Bool
structure Rx.ok (ns nc : Nat) (R : Rx) : Prop where
 de : R.de.length = 512
 ev : R.ev.length = 512
 core : R.core.length = 512
 wait : R.wait.length = 512
 high : R.high.length = ns
 act : R.act.length = ns
 asl : R.asl.length = nc
 n64 : ns ≤ 64
 n8 : nc ≤ 8
@[reducible] def bS (l : List Bool) : List Value := l.map Value.bool
def rowR (a : Da) (ns nc : Nat) (core : List Int) (wait : List Bool) : List Value :=
 .pointer (some ⟨a.s, 0, none⟩) :: (iS core ++ (bS wait ++ [.slice a.hq ns a.hc, .slice a.aq ns a.ac, .slice a.sq nc a.sc]))
def rfL (r : Nat) (a : Da) (ns nc : Nat) (R : Rx) : List Atom :=
 [pt r (rowR a ns nc R.core R.wait), pt a.s [.slice a.dq 512 a.dc, .slice a.eq 512 a.ec], rowA a.dq 512 (iS R.de), rowA a.eq 512 (iS R.ev), rowA a.hq ns (bS R.high), rowA a.aq ns (bS R.act), rowA a.sq nc (bS R.asl)]
def rfA (r ns nc : Nat) (R : Rx) : Atom := exA fun a : Da => rfL r a ns nc R
theorem rf_shut {r : Nat} {a : Da} {ns nc : Nat} {R : Rx} : Ent (rfL r a ns nc R) [rfA r ns nc R] := Ent.exA (f := fun a : Da => rfL r a ns nc R) a
theorem rf_pick {L : List Atom} {r : Nat} {a : Da} {ns nc : Nat} {R : Rx} (e : Ent L (rfL r a ns nc R)) : Ent L [rfA r ns nc R] := e.trans rf_shut
theorem flat1 (C : List Value) : C.flatMap (fun v => [v]) = C := by simp
theorem rd3 {C : List Value} {k : Nat} {z : Int} (h : C[k]? = some (.int .i64 z)) (X : List Value) : rdv ti3 (C ++ X) (0 + k * 1) = some (.int .i64 z) := by
 have := rd_partR (enc := fun v : Value => [v]) (sz := 1) (fun _ => rfl) h 0 (off := 0 + k * 1) (i := ti3) rfl (by decide) (by omega) (by decide) X
 rwa [flat1] at this
theorem rd4 {C : List Value} {k : Nat} {z : Bool} (h : C[k]? = some (.bool z)) (X : List Value) : rdv ti4 (C ++ X) (0 + k * 1) = some (.bool z) := by
 have := rd_partR (enc := fun v : Value => [v]) (sz := 1) (fun _ => rfl) h 0 (off := 0 + k * 1) (i := ti4) rfl (by decide) (by omega) (by decide) X
 rwa [flat1] at this
theorem rd106 {C : List Value} {k : Nat} {q : Option Addr} {n c : Nat} (h : C[k]? = some (.slice q n c)) (X : List Value) : rdv ti106 (C ++ X) (0 + k * 1) = some (.slice q n c) := by
 have := rd_partR (enc := fun v : Value => [v]) (sz := 1) (fun _ => rfl) h 0 (off := 0 + k * 1) (i := ti106) rfl (by decide) (by omega) (by decide) X
 rwa [flat1] at this
theorem wr3 {C : List Value} {k : Nat} {y : Value} (h : C[k]? = some y) (z : Int) (X : List Value) : wrv ti3 (C ++ X) (0 + k * 1) (.int .i64 z) = some (C.set k (.int .i64 z) ++ X) := by
 have := wr_encR (enc := fun v : Value => [v]) (sz := 1) (fun _ => rfl) h 0 (off := 0 + k * 1) (i := ti3) (e' := Value.int .i64 z) (v := Value.int .i64 z) (by decide) rfl rfl (by omega) X
 rwa [flat1, flat1] at this
theorem wr4 {C : List Value} {k : Nat} {y : Value} (h : C[k]? = some y) (z : Bool) (X : List Value) : wrv ti4 (C ++ X) (0 + k * 1) (.bool z) = some (C.set k (.bool z) ++ X) := by
 have := wr_encR (enc := fun v : Value => [v]) (sz := 1) (fun _ => rfl) h 0 (off := 0 + k * 1) (i := ti4) (e' := Value.bool z) (v := Value.bool z) (by decide) rfl rfl (by omega) X
 rwa [flat1, flat1] at this
theorem iS_at {l : List Int} {k : Nat} (h : k < l.length) : (iS l)[k]? = some (.int .i64 (l.getD k 0)) := getD_i h
theorem bS_at {l : List Bool} {k : Nat} (h : k < l.length) : (bS l)[k]? = some (.bool (l.getD k false)) := by
 rw [List.getElem?_map, List.getElem?_eq_getElem h, List.getD_eq_getElem?_getD, List.getElem?_eq_getElem h]; rfl
theorem iS_set (l : List Int) (k : Nat) (z : Int) : (iS l).set k (.int .i64 z) = iS (l.set k z) := by unfold iS; rw [List.map_set]
theorem bS_set (l : List Bool) (k : Nat) (z : Bool) : (bS l).set k (.bool z) = bS (l.set k z) := by unfold bS; rw [List.map_set]
section
variable {a : Da} {ns nc : Nat} {core : List Int} {wait : List Bool}
theorem row_core (hc : core.length = 512) {n : Nat} (hn : n < 512) : (rowR a ns nc core wait)[1 + n]? = some (.int .i64 (core.getD n 0)) := by
 unfold rowR
 rw [Nat.add_comm, List.getElem?_cons_succ, List.getElem?_append_left (by simp; omega), iS_at (by omega)]
theorem row_wait (hc : core.length = 512) (hw : wait.length = 512) {n : Nat} (hn : n < 512) : (rowR a ns nc core wait)[513 + n]? = some (.bool (wait.getD n false)) := by
 unfold rowR
 rw [show 513 + n = (512 + n) + 1 by omega, List.getElem?_cons_succ, List.getElem?_append_right (by simp; omega), List.getElem?_append_left (by simp; omega)]
 rw [show 512 + n - (iS core).length = n by simp; omega, bS_at (by omega)]
theorem row_sl (hc : core.length = 512) (hw : wait.length = 512) {n : Nat} (hn : n < 3) : (rowR a ns nc core wait)[1025 + n]? = ([.slice a.hq ns a.hc, .slice a.aq ns a.ac, .slice a.sq nc a.sc] : List Value)[n]? := by
 unfold rowR
 rw [show 1025 + n = (1024 + n) + 1 by omega, List.getElem?_cons_succ, List.getElem?_append_right (by simp; omega), List.getElem?_append_right (by simp; omega)]
 rw [show 1024 + n - (iS core).length - (bS wait).length = n by simp; omega]
theorem rd_core (hc : core.length = 512) {n : Nat} (hn : n < 512) : rdv ti3 (rowR a ns nc core wait) (1 + n * 1) = some (.int .i64 (core.getD n 0)) := by
 have := rd3 (row_core (a := a) (ns := ns) (nc := nc) (wait := wait) hc hn) []
 rw [List.append_nil] at this
 rwa [show 1 + n * 1 = 0 + (1 + n) * 1 by omega]
theorem rd_wait (hc : core.length = 512) (hw : wait.length = 512) {n : Nat} (hn : n < 512) : rdv ti4 (rowR a ns nc core wait) (513 + n * 1) = some (.bool (wait.getD n false)) := by
 have := rd4 (row_wait (a := a) (ns := ns) (nc := nc) hc hw hn) []
 rw [List.append_nil] at this
 rwa [show 513 + n * 1 = 0 + (513 + n) * 1 by omega]
theorem rd_hi (hc : core.length = 512) (hw : wait.length = 512) : rdv ti106 (rowR a ns nc core wait) 1025 = some (.slice a.hq ns a.hc) := by
 have := rd106 (row_sl (a := a) (ns := ns) (nc := nc) hc hw (n := 0) (by omega)) []
 rwa [List.append_nil] at this
theorem rd_ac (hc : core.length = 512) (hw : wait.length = 512) : rdv ti106 (rowR a ns nc core wait) 1026 = some (.slice a.aq ns a.ac) := by
 have := rd106 (row_sl (a := a) (ns := ns) (nc := nc) hc hw (n := 1) (by omega)) []
 rwa [List.append_nil] at this
theorem rd_as (hc : core.length = 512) (hw : wait.length = 512) : rdv ti106 (rowR a ns nc core wait) 1027 = some (.slice a.sq nc a.sc) := by
 have := rd106 (row_sl (a := a) (ns := ns) (nc := nc) hc hw (n := 2) (by omega)) []
 rwa [List.append_nil] at this
theorem wr_core (hc : core.length = 512) {n : Nat} (hn : n < 512) (z : Int) : wrv ti3 (rowR a ns nc core wait) (1 + n * 1) (.int .i64 z) = some (rowR a ns nc (core.set n z) wait) := by
 have := wr3 (row_core (a := a) (ns := ns) (nc := nc) (wait := wait) hc hn) z []
 rw [List.append_nil, List.append_nil] at this
 rw [show 1 + n * 1 = 0 + (1 + n) * 1 by omega, this]
 unfold rowR
 rw [Nat.add_comm 1 n, List.set_cons_succ, List.set_append_left _ _ (by simp; omega), iS_set]
theorem wr_wait (hc : core.length = 512) (hw : wait.length = 512) {n : Nat} (hn : n < 512) (z : Bool) : wrv ti4 (rowR a ns nc core wait) (513 + n * 1) (.bool z) = some (rowR a ns nc core (wait.set n z)) := by
 have := wr4 (row_wait (a := a) (ns := ns) (nc := nc) hc hw hn) z []
 rw [List.append_nil, List.append_nil] at this
 rw [show 513 + n * 1 = 0 + (513 + n) * 1 by omega, this]
 unfold rowR
 rw [show 513 + n = (512 + n) + 1 by omega, List.set_cons_succ, List.set_append_right _ _ (by simp; omega), List.set_append_left _ _ (by simp; omega)]
 rw [show 512 + n - (iS core).length = n by simp; omega, bS_set]
end
end Go.Proofs.YtakkogdmlbkdaaaGreatDoor.Sl.It
namespace Go.Proofs.YtakkogdmlbkdaaaGreatDoor.Sl.It
attribute [local irreducible] CW Tri OW
@[reducible] def pk93 : List (Nat × Plan) := []
@[reducible] def pk44 : List (Nat × Plan) := []
@[reducible] def pk120 : List (Nat × Plan) := []
def fnd (de ev : List Int) (d e : Int) : Option Nat := if mayE d e then (List.range 512).find? (fun i => de.getD i 0 == d && ev.getD i 0 == e) else none
theorem fnd_no {de ev : List Int} {d e : Int} (h : mayE d e = false) : fnd de ev d e = none := by unfold fnd; rw [h]; rfl
theorem fnd_yes {de ev : List Int} {d e : Int} (h : mayE d e = true) {k : Nat} (hk : k < 512) (hp : (de.getD k 0 == d && ev.getD k 0 == e) = true) (hb : ∀ j, j < k → (de.getD j 0 == d && ev.getD j 0 == e) = false) : fnd de ev d e = some k := by
 unfold fnd
 rw [h, if_pos rfl, List.find?_range_eq_some]
 exact ⟨hp, by simpa using hk, fun j hj => by simp only [hb j hj]; rfl⟩
theorem fnd_none {de ev : List Int} {d e : Int} (hb : mayE d e = true → ∀ j, j < 512 → (de.getD j 0 == d && ev.getD j 0 == e) = false) : fnd de ev d e = none := by
 unfold fnd
 split
 ·rename_i h
  rw [List.find?_eq_none]
  intro j hj
  rw [hb h j (by simpa using hj)]; simp
 ·rfl
theorem fnd_eq {de ev : List Int} {d e : Int} {k : Nat} (h : fnd de ev d e = some k) : mayE d e = true ∧ k < 512 ∧ de.getD k 0 = d ∧ ev.getD k 0 = e ∧ ∀ j, j < k → (de.getD j 0 == d && ev.getD j 0 == e) = false := by
 unfold fnd at h
 split at h
 ·rename_i hm
  rw [List.find?_range_eq_some] at h
  obtain ⟨h1, h2, h3⟩ := h
  simp only [Bool.and_eq_true, beq_iff_eq] at h1
  refine ⟨hm, by simpa using h2, h1.1, h1.2, fun j hj => ?_⟩
  have := h3 j hj
  rwa [Bool.not_eq_true'] at this
 ·cases h
theorem fnd_not {de ev : List Int} {d e : Int} (h : fnd de ev d e = none) (hm : mayE d e = true) : ∀ j, j < 512 → (de.getD j 0 == d && ev.getD j 0 == e) = false := by
 unfold fnd at h
 rw [hm, if_pos rfl, List.find?_eq_none] at h
 intro j hj
 exact Bool.eq_false_iff.2 (h j (by simpa using hj))
attribute [local irreducible] fnd
def fndI (o : Option Nat) : Int := match o with
 | some n => n
 | none => -1
theorem rmay148 (β : Base) (d e : Int) : Tri Tryz.prog β 148 [.int .i64 d, .int .i64 e] [] (fun v L => v = .bool (mayE d e) ∧ L = []) := by
 refine Tri.intro tt_ok Tryz.func148 rfl rfl Tryz.ntmps148 rfl fun F => ?_
 unfold mayE
 (repeat' (first | refine CW.seq ?_ | refine CW.region tt_ok rfl ?_ | refine CW.block ?_ | refine CW.skip ?_ | refine SQ.nil ?_ | refine SQ.pures1 tt_ok rfl ?_ | refine SQ.pure1 tt_ok rfl ?_ | refine SQ.new _ _ rfl rfl (fun _ => ?_) | refine SQ.ldA tt_ok rfl rfl (by repeat (first | exact .h | exact .q | apply At.t)) (by rfl) ?_ | refine SQ.stA tt_ok rfl rfl (by repeat (first | apply Up.h | apply Up.t)) (by rfl) (by rfl) (by repeat (first | exact trivial | refine ⟨trivial, ?_⟩ | refine ⟨wk (by repeat (first | exact .h | exact .q | apply At.t)) (by rfl), ?_⟩)) ?_ | refine CW.cond_tt rfl ?_ | refine CW.cond_ff rfl ?_ | ((first | refine CW.cond rfl (fun hc => ?_) (fun hc => ?_) | refine SQ.gsplit rfl (fun hc => ?_) (fun hc => ?_)) <;> try (exfalso; simp_all; done))))
 all_goals exact CW.ret (fin_ret rfl (A := []) pk_ ⟨by (show Value.bool _ = Value.bool _); congr 1; rw [Bool.eq_iff_iff]; simp_all <;> omega, rfl⟩)
def sdL (s : Nat) (dq : Option Addr) (dc : Nat) (eq : Option Addr) (ec : Nat) (de ev : List Int) : List Atom := [pt s [.slice dq 512 dc, .slice eq 512 ec], rowA dq 512 (iS de), rowA eq 512 (iS ev)]
set_option maxHeartbeats 4000000 in
theorem rfind93 (β : Base) (s : Nat) (dq : Option Addr) (dc : Nat) (eq : Option Addr) (ec : Nat) {de ev : List Int} (hd : de.length = 512) (he : ev.length = 512) (d e : Int) :
  Tri Tryz.prog β 93 [.pointer (some ⟨s, 0, none⟩), .int .i64 d, .int .i64 e] (sdL s dq dc eq ec de ev) (fun v L => v = .int .i64 (fndI (fnd de ev d e)) ∧ L = sdL s dq dc eq ec de ev) := by
 refine Tri.intro tt_ok Tryz.func93 rfl rfl Tryz.ntmps93 rfl fun F => ?_
 obtain ⟨M, hM⟩ : ∃ M : Nat, M = 512 := ⟨_, rfl⟩
 unfold sdL
 refine G tt_ok pk93 ?_
 refine CW.loop (α := Nat) (fun k => k ≤ M ∧ (mayE d e = true → ∀ j, j < k → (de.getD j 0 == d && ev.getD j 0 == e) = false)) (fun k => [(7, .int .i64 k), (0, .pointer (some ⟨s, 0, none⟩)), (1, .int .i64 d), (2, .int .i64 e)])
  (fun k => [pt s [.slice dq 512 dc, .slice eq 512 ec], rowA dq 512 (iS de), rowA eq 512 (iS ev)]) (fun k => M - k) 0 ⟨by omega, fun _ j hj => by omega⟩ ⟨rfl, rfl, rfl, rfl, trivial⟩ pk_ ?_
 rintro k ⟨hk, hb⟩
 refine G tt_ok pk93 ?_
 by_cases hlt : k < M
 ·rw [decide_eq_true (show (k : Int) < ((512 : Nat) : Int) by omega)]
  have hwr : IntKind.i64.wrap ((k : Int) + 1) = ((k + 1 : Nat) : Int) := by rw [wrap_id (by omega) (by omega)]; simp
  have hl : k < 512 := by omega
  have r1 := rd3 (iS_at (l := de) (k := k) (by omega))
  have r2 := rd3 (iS_at (l := ev) (k := k) (by omega))
  refine G tt_ok pk93 ?_
  refine ke rfl rfl (rmay148 β d e) ?_
  cases hm : mayE d e with
  | false =>
   refine G tt_ok pk93 ?_
   exact ⟨k + 1, ⟨by omega, fun h => by simp at h⟩, by omega, ⟨by rw [← hwr]; rfl, rfl, rfl, rfl, trivial⟩, pk_⟩
  | true =>
   have hb2 := hb hm
   refine G tt_ok pk93 ?_
   refine ir_ tt_ok rfl rfl (k) (rfl) rfl ?_ (hlt := hl)
   refine G tt_ok pk93 ?_
   refine lr_ tt_ok rfl rfl (r1) ?_
   refine G tt_ok pk93 ?_
   by_cases hd2 : de.getD k 0 = d
   ·rw [show (de.getD k 0 == d) = true from beq_iff_eq.2 hd2]
    refine G tt_ok pk93 ?_
    refine ir_ tt_ok rfl rfl (k) (rfl) rfl ?_ (hlt := hl)
    refine G tt_ok pk93 ?_
    refine lr_ tt_ok rfl rfl (r2) ?_
    refine G tt_ok pk93 ?_
    by_cases he2 : ev.getD k 0 = e
    ·rw [show (ev.getD k 0 == e) = true from beq_iff_eq.2 he2]
     refine G tt_ok pk93 ?_
     rw [fnd_yes hm hl (by rw [beq_iff_eq.2 hd2, beq_iff_eq.2 he2]; rfl) hb2]
     exact CW.ret (fin_ret rfl (A := [pt s [.slice dq 512 dc, .slice eq 512 ec], rowA dq 512 (iS de), rowA eq 512 (iS ev)]) pk_ ⟨rfl, rfl⟩)
    ·rw [show (ev.getD k 0 == e) = false from beq_eq_false_iff_ne.2 he2]
     refine G tt_ok pk93 ?_
     refine ⟨k + 1, ⟨by omega, fun _ j hj => ?_⟩, by omega, ⟨by rw [← hwr]; rfl, rfl, rfl, rfl, trivial⟩, pk_⟩
     rcases Nat.lt_succ_iff_lt_or_eq.1 hj with h1 | h1
     ·exact hb2 j h1
     ·subst h1; rw [beq_eq_false_iff_ne.2 he2, Bool.and_false]
   ·rw [show (de.getD k 0 == d) = false from beq_eq_false_iff_ne.2 hd2]
    refine G tt_ok pk93 ?_
    refine ⟨k + 1, ⟨by omega, fun _ j hj => ?_⟩, by omega, ⟨by rw [← hwr]; rfl, rfl, rfl, rfl, trivial⟩, pk_⟩
    rcases Nat.lt_succ_iff_lt_or_eq.1 hj with h1 | h1
    ·exact hb2 j h1
    ·subst h1; rw [beq_eq_false_iff_ne.2 hd2, Bool.false_and]
 ·rw [decide_eq_false (show ¬ (k : Int) < ((512 : Nat) : Int) by omega)]
  refine G tt_ok pk93 ?_
  refine CW.exit ?_
  refine G tt_ok pk93 ?_
  rw [fnd_none (fun h j hj => hb h j (by omega))]
  exact CW.ret (fin_ret rfl (A := [pt s [.slice dq 512 dc, .slice eq 512 ec], rowA dq 512 (iS de), rowA eq 512 (iS ev)]) pk_ ⟨rfl, rfl⟩)
section
variable {ns nc : Nat}
theorem rthere44 (β : Base) (r : Nat) (a : Da) {core : List Int} {wait : List Bool} (hc : core.length = 512) (hw : wait.length = 512) (k : Int) : Tri Tryz.prog β 44 [.pointer (some ⟨r, 0, none⟩), .int .i64 k] [pt r (rowR a ns nc core wait)] (fun v L => v = .bool (rightV nc k) ∧ L = [pt r (rowR a ns nc core wait)]) := by
 refine Tri.intro tt_ok Tryz.func44 rfl rfl Tryz.ntmps44 rfl fun F => ?_
 have h5 := rd_as (a := a) (ns := ns) (nc := nc) hc hw
 unfold rightV
 generalize rowR a ns nc core wait = C at h5 ⊢
 refine G tt_ok pk44 ?_
 by_cases h0 : k ≥ 0
 ·rw [decide_eq_true h0]
  refine G tt_ok pk44 ?_
  (refine SQ.ldA tt_ok rfl rfl (by repeat (first | exact .h | exact .q | apply At.t)) (h5) ?_)
  refine G tt_ok pk44 ?_
  exact CW.ret (fin_ret rfl (A := [pt r C]) pk_ ⟨rfl, rfl⟩)
 ·rw [decide_eq_false h0]
  refine G tt_ok pk44 ?_
  exact CW.ret (fin_ret rfl (A := [pt r C]) pk_ ⟨rfl, rfl⟩)
def shrI (ns : Nat) (id : Int) : Int := if id < 32 ∨ id - 32 ≥ ns then -1 else id - 32
theorem rshared120 (β : Base) (r : Nat) (a : Da) {core : List Int} {wait : List Bool} (hc : core.length = 512) (hw : wait.length = 512) (id : Int) (hid : id < 9223372036854775808) : Tri Tryz.prog β 120 [.pointer (some ⟨r, 0, none⟩), .int .i64 id] [pt r (rowR a ns nc core wait)] (fun v L => v = .int .i64 (shrI ns id) ∧ L = [pt r (rowR a ns nc core wait)]) := by
 refine Tri.intro tt_ok Tryz.func120 rfl rfl Tryz.ntmps120 rfl fun F => ?_
 have h5 := rd_hi (a := a) (ns := ns) (nc := nc) hc hw
 generalize rowR a ns nc core wait = C at h5 ⊢
 unfold shrI
 refine G tt_ok pk120 ?_
 by_cases h0 : id < 32
 ·rw [decide_eq_true h0, if_pos (.inl h0)]
  refine G tt_ok pk120 ?_
  exact CW.ret (fin_ret rfl (A := [pt r C]) pk_ ⟨rfl, rfl⟩)
 ·rw [decide_eq_false h0]
  have hw2 : IntKind.i64.wrap (id - 32) = id - 32 := by rw [wrap_id (by omega) (by omega)]
  refine G tt_ok pk120 ?_
  (refine SQ.ldA tt_ok rfl rfl (by repeat (first | exact .h | exact .q | apply At.t)) (h5) ?_)
  refine G tt_ok pk120 ?_
  rw [hw2]
  by_cases h1 : id - 32 ≥ ns
  ·rw [decide_eq_true h1, if_pos (.inr h1)]
   refine G tt_ok pk120 ?_
   exact CW.ret (fin_ret rfl (A := [pt r C]) pk_ ⟨rfl, rfl⟩)
  ·rw [decide_eq_false h1, if_neg (by omega)]
   refine G tt_ok pk120 ?_
   rw [hw2]
   exact CW.ret (fin_ret rfl (A := [pt r C]) pk_ ⟨rfl, rfl⟩)
end
end Go.Proofs.YtakkogdmlbkdaaaGreatDoor.Sl.It
namespace Go.Proofs.YtakkogdmlbkdaaaGreatDoor.Sl.It
attribute [local irreducible] CW Tri OW
@[reducible] def pk119 : List (Nat × Plan) := []
@[reducible] def pk118 : List (Nat × Plan) := []
attribute [local irreducible] fnd
def frI (de : List Int) : Option Nat := (List.range 512).find? (fun i => decide (de.getD i 0 < 0))
theorem frI_yes {de : List Int} {k : Nat} (hk : k < 512) (hp : de.getD k 0 < 0) (hb : ∀ j, j < k → ¬ de.getD j 0 < 0) : frI de = some k := by
 unfold frI
 rw [List.find?_range_eq_some]
 exact ⟨decide_eq_true hp, by simpa using hk, fun j hj => by simp only [decide_eq_false (hb j hj)]; rfl⟩
theorem frI_no {de : List Int} (hb : ∀ j, j < 512 → ¬ de.getD j 0 < 0) : frI de = none := by
 unfold frI
 rw [List.find?_eq_none]
 intro j hj
 rw [decide_eq_false (hb j (by simpa using hj))]; simp
theorem frI_eq {de : List Int} {k : Nat} (h : frI de = some k) : k < 512 ∧ de.getD k 0 < 0 ∧ ∀ j, j < k → ¬ de.getD j 0 < 0 := by
 unfold frI at h
 rw [List.find?_range_eq_some] at h
 obtain ⟨h1, h2, h3⟩ := h
 refine ⟨by simpa using h2, by simpa only [decide_eq_true_eq] using h1, fun j hj => ?_⟩
 have := h3 j hj
 rw [Bool.not_eq_true'] at this
 exact of_decide_eq_false this
theorem frI_not {de : List Int} (h : frI de = none) : ∀ j, j < 512 → ¬ de.getD j 0 < 0 := by
 unfold frI at h
 rw [List.find?_eq_none] at h
 intro j hj hn
 exact h j (by simpa using hj) (decide_eq_true hn)
attribute [local irreducible] frI
def rbV (de ev : List Int) (d e : Int) : (Int × Int) × List Int × List Int :=
 if mayE d e then match fnd de ev d e with
  | some n => (((n : Int), 0), de, ev)
  | none => match frI de with
   | some i => (((i : Int), 0), de.set i d, ev.set i e)
   | none => ((0, 2), de, ev)
 else ((0, 1), de, ev)
def rfV (de ev : List Int) (d e : Int) : (Int × Int) × List Int × List Int :=
 if mayE d e then match fnd de ev d e with
  | some n => (((n : Int), 0), de.set n (-1), ev.set n (-1))
  | none => ((0, 250), de, ev)
 else ((0, 1), de, ev)
set_option maxHeartbeats 4000000 in
theorem rfree119 (β : Base) (s : Nat) (dq : Option Addr) (dc : Nat) (eq : Option Addr) (ec : Nat) {de ev : List Int} (hd : de.length = 512) (he : ev.length = 512) (d e : Int) :
  Tri Tryz.prog β 119 [.pointer (some ⟨s, 0, none⟩), .int .i64 d, .int .i64 e] (sdL s dq dc eq ec de ev) (fun v L => v = pairI (rfV de ev d e).1 ∧ L = sdL s dq dc eq ec (rfV de ev d e).2.1 (rfV de ev d e).2.2) := by
 refine Tri.intro tt_ok Tryz.func119 rfl rfl Tryz.ntmps119 rfl fun F => ?_
 have hf := rfind93 β s dq dc eq ec hd he d e
 unfold rfV
 unfold sdL at hf ⊢
 refine G tt_ok pk119 ?_
 refine ke rfl rfl (rmay148 β d e) ?_
 cases hm : mayE d e with
 | false =>
  refine G tt_ok pk119 ?_
  exact CW.ret (fin_ret rfl (A := [pt s [.slice dq 512 dc, .slice eq 512 ec], rowA dq 512 (iS de), rowA eq 512 (iS ev)]) pk_ ⟨rfl, rfl⟩)
 | true =>
  refine G tt_ok pk119 ?_
  refine ke rfl rfl (hf) ?_
  cases hn : fnd de ev d e with
  | none =>
   refine G tt_ok pk119 ?_
   exact CW.ret (fin_ret rfl (A := [pt s [.slice dq 512 dc, .slice eq 512 ec], rowA dq 512 (iS de), rowA eq 512 (iS ev)]) pk_ ⟨rfl, rfl⟩)
  | some n =>
   have hl := (fnd_eq hn).2.1
   have w1 := wr3 (iS_at (l := de) (k := n) (by omega)) (-1)
   have w2 := wr3 (iS_at (l := ev) (k := n) (by omega)) (-1)
   rw [iS_set] at w1 w2
   unfold fndI
   refine G tt_ok pk119 ?_
   rw [decide_eq_false (show ¬ (n : Int) < 0 by omega)]
   refine G tt_ok pk119 ?_
   refine ir_ tt_ok rfl rfl (n) (rfl) rfl ?_ (hlt := hl)
   refine G tt_ok pk119 ?_
   refine sr_ tt_ok rfl rfl (w1) ?_
   refine G tt_ok pk119 ?_
   refine ir_ tt_ok rfl rfl (n) (rfl) rfl ?_ (hlt := hl)
   refine G tt_ok pk119 ?_
   refine sr_ tt_ok rfl rfl (w2) ?_
   refine G tt_ok pk119 ?_
   exact CW.ret (fin_ret rfl (A := [pt s [.slice dq 512 dc, .slice eq 512 ec], rowA dq 512 (iS (de.set n (-1))), rowA eq 512 (iS (ev.set n (-1)))]) pk_ ⟨rfl, rfl⟩)
set_option maxHeartbeats 4000000 in
theorem rbind118 (β : Base) (s : Nat) (dq : Option Addr) (dc : Nat) (eq : Option Addr) (ec : Nat) {de ev : List Int} (hd : de.length = 512) (he : ev.length = 512) (d e : Int) :
  Tri Tryz.prog β 118 [.pointer (some ⟨s, 0, none⟩), .int .i64 d, .int .i64 e] (sdL s dq dc eq ec de ev) (fun v L => v = pairI (rbV de ev d e).1 ∧ L = sdL s dq dc eq ec (rbV de ev d e).2.1 (rbV de ev d e).2.2) := by
 refine Tri.intro tt_ok Tryz.func118 rfl rfl Tryz.ntmps118 rfl fun F => ?_
 have hf := rfind93 β s dq dc eq ec hd he d e
 obtain ⟨M, hM⟩ : ∃ M : Nat, M = 512 := ⟨_, rfl⟩
 unfold rbV
 unfold sdL at hf ⊢
 refine G tt_ok pk118 ?_
 refine ke rfl rfl (rmay148 β d e) ?_
 cases hm : mayE d e with
 | false =>
  refine G tt_ok pk118 ?_
  exact CW.ret (fin_ret rfl (A := [pt s [.slice dq 512 dc, .slice eq 512 ec], rowA dq 512 (iS de), rowA eq 512 (iS ev)]) pk_ ⟨rfl, rfl⟩)
 | true =>
  refine G tt_ok pk118 ?_
  refine ke rfl rfl (hf) ?_
  cases hn : fnd de ev d e with
  | some n =>
   unfold fndI
   refine G tt_ok pk118 ?_
   rw [decide_eq_true (show (n : Int) ≥ 0 by omega)]
   refine G tt_ok pk118 ?_
   exact CW.ret (fin_ret rfl (A := [pt s [.slice dq 512 dc, .slice eq 512 ec], rowA dq 512 (iS de), rowA eq 512 (iS ev)]) pk_ ⟨rfl, rfl⟩)
  | none =>
   unfold fndI
   refine G tt_ok pk118 ?_
   refine CW.loop (α := Nat) (fun k => k ≤ M ∧ ∀ j, j < k → ¬ de.getD j 0 < 0) (fun k => [(9, .int .i64 k), (0, .pointer (some ⟨s, 0, none⟩)), (1, .int .i64 d), (2, .int .i64 e)])
    (fun k => [pt s [.slice dq 512 dc, .slice eq 512 ec], rowA dq 512 (iS de), rowA eq 512 (iS ev)]) (fun k => M - k) 0 ⟨by omega, fun j hj => by omega⟩ ⟨rfl, rfl, rfl, rfl, trivial⟩ pk_ ?_
   rintro k ⟨hk, hb⟩
   refine G tt_ok pk118 ?_
   by_cases hlt : k < M
   ·rw [decide_eq_true (show (k : Int) < ((512 : Nat) : Int) by omega)]
    have hwr : IntKind.i64.wrap ((k : Int) + 1) = ((k + 1 : Nat) : Int) := by rw [wrap_id (by omega) (by omega)]; simp
    have hl : k < 512 := by omega
    have r1 := rd3 (iS_at (l := de) (k := k) (by omega))
    have w1 := wr3 (iS_at (l := de) (k := k) (by omega)) d
    have w2 := wr3 (iS_at (l := ev) (k := k) (by omega)) e
    rw [iS_set] at w1 w2
    refine G tt_ok pk118 ?_
    refine ir_ tt_ok rfl rfl (k) (rfl) rfl ?_ (hlt := hl)
    refine G tt_ok pk118 ?_
    refine lr_ tt_ok rfl rfl (r1) ?_
    refine G tt_ok pk118 ?_
    by_cases hneg : de.getD k 0 < 0
    ·rw [decide_eq_true hneg, frI_yes hl hneg hb]
     refine G tt_ok pk118 ?_
     refine ir_ tt_ok rfl rfl (k) (rfl) rfl ?_ (hlt := hl)
     refine G tt_ok pk118 ?_
     refine sr_ tt_ok rfl rfl (w1) ?_
     refine G tt_ok pk118 ?_
     refine ir_ tt_ok rfl rfl (k) (rfl) rfl ?_ (hlt := hl)
     refine G tt_ok pk118 ?_
     refine sr_ tt_ok rfl rfl (w2) ?_
     refine G tt_ok pk118 ?_
     exact CW.ret (fin_ret rfl (A := [pt s [.slice dq 512 dc, .slice eq 512 ec], rowA dq 512 (iS (de.set k d)), rowA eq 512 (iS (ev.set k e))]) pk_ ⟨rfl, rfl⟩)
    ·rw [decide_eq_false hneg]
     refine G tt_ok pk118 ?_
     refine ⟨k + 1, ⟨by omega, fun j hj => ?_⟩, by omega, ⟨by rw [← hwr]; rfl, rfl, rfl, rfl, trivial⟩, pk_⟩
     rcases Nat.lt_succ_iff_lt_or_eq.1 hj with h1 | h1
     ·exact hb j h1
     ·subst h1; exact hneg
   ·rw [decide_eq_false (show ¬ (k : Int) < ((512 : Nat) : Int) by omega)]
    refine G tt_ok pk118 ?_
    refine CW.exit ?_
    refine G tt_ok pk118 ?_
    rw [frI_no (fun j hj => hb j (by omega))]
    exact CW.ret (fin_ret rfl (A := [pt s [.slice dq 512 dc, .slice eq 512 ec], rowA dq 512 (iS de), rowA eq 512 (iS ev)]) pk_ ⟨rfl, rfl⟩)
end Go.Proofs.YtakkogdmlbkdaaaGreatDoor.Sl.It
namespace Go.Proofs.YtakkogdmlbkdaaaGreatDoor.Sl
section
variable {P : Program} {β : Base} {rnd : Option (Nat × Loop)} {N : Nat} {env : Env} {L : List Atom} {K : Env → List Atom → Prop} {ops : Array Oper} {T : TT}
def bldE (T : TT) (N : Nat) (ops : Array Oper) (env : Env) (o : Oper) : Option (Nat × TI × List (Nat × Operand)) :=
 match dstE N ops env o with
 | some d => match o.op with
  | .build t parts => match T.get t with
   | some ti => match ti.desc with
    | .struct _ => some (d, ti, parts.toList)
    | _ => none
   | none => none
  | _ => none
 | none => none
theorem SQ.bld (hT : TTok P T) {s : Stp} {r : List Stp} {obs : Obs} {d : Nat} {ti : TI} {ps : List (Nat × Operand)} {cs : List Value} (hk : Nat.ble s.k 1 = true) (h : bldE T N ops env s.o = some (d, ti, ps))
  (hf : fillN env ti.places ps (vcells ti.zero) some = some cs) (kk : SQ P β rnd N T ops K r obs ((d, .agg cs.toArray) :: env) L) : SQ P β rnd N T ops K (s :: r) obs env L := by
 unfold bldE at h
 split at h <;> try (cases h; done)
 rename_i d' hde
 obtain ⟨hw, hd, hdl⟩ := dstE_eq hde
 split at h <;> try (cases h; done)
 rename_i t parts hop
 split at h <;> try (cases h; done)
 rename_i i hi
 split at h <;> try (cases h; done)
 rename_i fs hdesc
 cases h
 have hti := hT.get hi
 have hu := hti.1.1
 obtain ⟨j, hj, _, _, hz⟩ := hti.info
 have hp := hti.2
 rw [hdesc] at hu hp
 simp only [placesOf] at hp
 refine SQ.val' hk hw hd hdl (fun ρ hρ w => ?_) kk
 obtain ⟨cs', h1, h2⟩ := fillN_eq hρ hf
 cases h2
 obtain ⟨si, ⟨dst, op, type, pos, after, guard⟩, se, sw⟩ := s
 simp only at hop
 subst hop
 have hb : P.built t (parts.map fun (x : Nat × Operand) => (x.1, ρ x.2)).toList = some cs.toArray := by
  simp only [Program.built, hj, hu, hz, hp]
  rw [← vcells_eq] at h1
  simpa using h1
 simp only [execOp, Sem.run_bind, run_build w t _ _ hb, Result.andThen, Sem.run_pure]
def bxE (T : TT) (N : Nat) (ops : Array Oper) (env : Env) (o : Oper) : Option (Nat × Value) :=
 match dstE N ops env o with
 | some d => match o.op with
  | .box t x => match ev env x with
   | some v => some (d, v)
   | none => none
  | _ => none
 | none => none
theorem SQ.boxL {s : Stp} {r : List Stp} {obs : Obs} {d : Nat} {v : Value} {cs : List Value} (hk : Nat.beq s.k 0 = false) (h : bxE T N ops env s.o = some (d, v)) (hc : vcells v = cs)
  (k : ∀ b, SQ P β rnd N T ops K r obs ((d, .pointer (some ⟨b, 0, none⟩)) :: env) (pt b cs :: L)) : SQ P β rnd N T ops K (s :: r) obs env L := by
 refine SQ.new d cs hk ?_ k
 unfold bxE at h
 unfold alE
 split at h <;> try (cases h; done)
 rename_i d' hde
 rw [hde]
 split at h <;> try (cases h; done)
 rename_i t x hop
 rw [hop]
 split at h <;> try (cases h; done)
 rename_i v' hv
 cases h
 simp only [hv, force_eq]
 rw [hc]
theorem rdv_arr {i : TI} {A C X : List Value} {off : Nat} (ha : aggD i.desc = true) (ho : off = A.length) (hl : C.length = i.size) : rdv i (A ++ (C ++ X)) off = some (.agg C.toArray) := by
 simp only [rdv, ha, takeN_eq, dropN_eq]
 subst ho
 rw [List.drop_left, if_pos (by simp; omega), ← hl, List.take_left]
end
end Go.Proofs.YtakkogdmlbkdaaaGreatDoor.Sl
namespace Go.Proofs.YtakkogdmlbkdaaaGreatDoor.Sl
theorem Tri.rf {P : Program} {β : Base} {g : FuncId} {args : List Value} {r ns nc : Nat} {R : It.Rx} {A : List Atom} {Q : Value → List Atom → Prop} (hE : Enters P g) (h : ∀ a : It.Da, Tri P β g args (It.rfL r a ns nc R ++ A) Q) : Tri P β g args (It.rfA r ns nc R :: A) Q := Tri.exI hE h
end Go.Proofs.YtakkogdmlbkdaaaGreatDoor.Sl
namespace Go.Proofs.YtakkogdmlbkdaaaGreatDoor.Sl.It
attribute [local irreducible] CW Tri OW
@[reducible] def pk70 : List (Nat × Plan) := []
@[reducible] def pk71 : List (Nat × Plan) := []
@[reducible] def pk72 : List (Nat × Plan) := []
@[reducible] def pk67 : List (Nat × Plan) := []
@[reducible] def pk66 : List (Nat × Plan) := []
@[reducible] def pk65 : List (Nat × Plan) := []
@[reducible] def pk47 : List (Nat × Plan) := []
@[reducible] def pk69 : List (Nat × Plan) := [(3, [(0, 0, []), (1, 0, []), (2, 0, []), (3, 0, []), (4, 0, []), (5, 0, []), (6, 0, []), (8, 0, []), (9, 0, []), (7, 1, [4]), (10, 0, []), (11, 1, [])])]
attribute [local irreducible] fnd frI
variable {ns nc : Nat}
def Rx.wts (R : Rx) (d e : Int) : Option Nat := match fnd R.de R.ev d e with
 | some n => if R.wait.getD n false then some n else none
 | none => none
def Rx.bindV (nc : Nat) (R : Rx) (d e c : Int) : Rx × (Int × Int) :=
 if rightV nc c then
  if mayE d e then match fnd R.de R.ev d e with
   | some n => ({ R with core := R.core.set n c }, (8192 + (n : Int), 0))
   | none => match frI R.de with
    | some i => ({ R with de := R.de.set i d, ev := R.ev.set i e, core := R.core.set i c, wait := R.wait.set i false }, (8192 + (i : Int), 0))
    | none => (R, (0, 2))
  else (R, (0, 1))
 else (R, (0, 130))
def Rx.unbV (R : Rx) (d e : Int) : Rx × Int :=
 if mayE d e then match fnd R.de R.ev d e with
  | some n => ({ R with de := R.de.set n (-1), ev := R.ev.set n (-1), wait := R.wait.set n false }, 0)
  | none => (R, 250)
 else (R, 1)
def Rx.msgV (R : Rx) (d e : Int) : Rx × Int := match fnd R.de R.ev d e with
 | some n => ({ R with wait := R.wait.set n true }, 0)
 | none => (R, 250)
def Rx.wtsV (R : Rx) (d e : Int) : Value := match R.wts d e with
 | some n => .tuple #[.int .i64 (R.core.getD n 0), .bool true]
 | none => .tuple #[.int .i64 0, .bool false]
def Rx.pullV (R : Rx) (d e : Int) : Rx := match R.wts d e with
 | some n => { R with wait := R.wait.set n false }
 | none => R
def Rx.wireV (ns : Nat) (R : Rx) (id : Int) (v : Bool) : Rx × Int := if shrI ns id < 0 then (R, 90) else ({ R with high := R.high.set (shrI ns id).toNat v }, 0)
def Rx.endV (ns : Nat) (R : Rx) (id : Int) : Rx × Int := if shrI ns id < 0 then (R, 90) else ({ R with act := R.act.set (shrI ns id).toNat false }, 0)
def Rx.powV (nc : Nat) (R : Rx) (k : Int) (on : Bool) : Rx × Int := if rightV nc k then ({ R with asl := R.asl.set k.toNat (!on) }, 0) else (R, 130)
theorem shr_lt {ns : Nat} {id : Int} (h : ¬ shrI ns id < 0) : ∃ k : Nat, shrI ns id = k ∧ k < ns := by
 unfold shrI at h ⊢
 split at h
 ·exact absurd (by decide) h
 ·rw [if_neg (by assumption)]
  exact ⟨(id - 32).toNat, by omega, by omega⟩
theorem wr_b {l : List Bool} {k : Nat} (hk : k < l.length) (z : Bool) : ∀ X, wrv ti4 (bS l ++ X) (0 + k * 1) (.bool z) = some (bS (l.set k z) ++ X) := fun X => by
 rw [← bS_set]; exact wr4 (bS_at hk) z X
theorem rd_b {l : List Bool} {k : Nat} (hk : k < l.length) : ∀ X, rdv ti4 (bS l ++ X) (0 + k * 1) = some (.bool (l.getD k false)) := rd4 (bS_at hk)
set_option maxHeartbeats 4000000 in
theorem rwire70 (β : Base) (r : Nat) {R : Rx} (h : R.ok ns nc) (id : Int) (hid : id < 9223372036854775808) (v : Bool) : Tri Tryz.prog β 70 [.pointer (some ⟨r, 0, none⟩), .int .i64 id, .bool v] [rfA r ns nc R] (fun u L => u = .int .i64 (R.wireV ns id v).2 ∧ L = [rfA r ns nc (R.wireV ns id v).1]) := by
 refine Tri.rf (enters_of Tryz.func70 (by kernel_rfl) rfl) fun a => ?_
 refine Tri.intro tt_ok Tryz.func70 rfl rfl Tryz.ntmps70 rfl fun F => ?_
 have hs := rshared120 (ns := ns) (nc := nc) β r a h.core h.wait id hid
 have h5 := rd_hi (a := a) (ns := ns) (nc := nc) h.core h.wait
 unfold Rx.wireV
 unfold rfL
 by_cases hn : shrI ns id < 0
 ·rw [if_pos hn]
  refine G tt_ok pk70 ?_
  refine ke rfl rfl (hs) ?_
  refine G tt_ok pk70 ?_
  rw [decide_eq_true hn]
  refine G tt_ok pk70 ?_
  exact CW.ret (fin_ret rfl (A := [rfA r ns nc R]) (rf_pick (a := a) (by unfold rfL; exact pk_)) ⟨rfl, rfl⟩)
 ·rw [if_neg hn]
  obtain ⟨k, hk, hlt⟩ := shr_lt hn
  have hkl : k < R.high.length := by rw [h.high]; exact hlt
  rw [hk] at hs hn ⊢
  simp only [Int.toNat_natCast]
  refine G tt_ok pk70 ?_
  refine ke rfl rfl (hs) ?_
  refine G tt_ok pk70 ?_
  rw [decide_eq_false hn]
  refine G tt_ok pk70 ?_
  (refine SQ.ldA tt_ok rfl rfl (by repeat (first | exact .h | exact .q | apply At.t)) (h5) ?_)
  refine G tt_ok pk70 ?_
  refine ir_ tt_ok rfl rfl (k) (rfl) rfl ?_ (hlt := hlt)
  refine G tt_ok pk70 ?_
  refine sr_ tt_ok rfl rfl (wr_b hkl v) ?_
  refine G tt_ok pk70 ?_
  exact CW.ret (fin_ret rfl (A := [rfA r ns nc { R with high := R.high.set k v }]) (rf_pick (a := a) (by unfold rfL; exact pk_)) ⟨rfl, rfl⟩)
set_option maxHeartbeats 4000000 in
theorem rend71 (β : Base) (r : Nat) {R : Rx} (h : R.ok ns nc) (id : Int) (hid : id < 9223372036854775808) : Tri Tryz.prog β 71 [.pointer (some ⟨r, 0, none⟩), .int .i64 id] [rfA r ns nc R] (fun u L => u = .int .i64 (R.endV ns id).2 ∧ L = [rfA r ns nc (R.endV ns id).1]) := by
 refine Tri.rf (enters_of Tryz.func71 (by kernel_rfl) rfl) fun a => ?_
 refine Tri.intro tt_ok Tryz.func71 rfl rfl Tryz.ntmps71 rfl fun F => ?_
 have hs := rshared120 (ns := ns) (nc := nc) β r a h.core h.wait id hid
 have h5 := rd_ac (a := a) (ns := ns) (nc := nc) h.core h.wait
 unfold Rx.endV
 unfold rfL
 by_cases hn : shrI ns id < 0
 ·rw [if_pos hn]
  refine G tt_ok pk71 ?_
  refine ke rfl rfl (hs) ?_
  refine G tt_ok pk71 ?_
  rw [decide_eq_true hn]
  refine G tt_ok pk71 ?_
  exact CW.ret (fin_ret rfl (A := [rfA r ns nc R]) (rf_pick (a := a) (by unfold rfL; exact pk_)) ⟨rfl, rfl⟩)
 ·rw [if_neg hn]
  obtain ⟨k, hk, hlt⟩ := shr_lt hn
  have hkl : k < R.act.length := by rw [h.act]; exact hlt
  rw [hk] at hs hn ⊢
  simp only [Int.toNat_natCast]
  refine G tt_ok pk71 ?_
  refine ke rfl rfl (hs) ?_
  refine G tt_ok pk71 ?_
  rw [decide_eq_false hn]
  refine G tt_ok pk71 ?_
  (refine SQ.ldA tt_ok rfl rfl (by repeat (first | exact .h | exact .q | apply At.t)) (h5) ?_)
  refine G tt_ok pk71 ?_
  refine ir_ tt_ok rfl rfl (k) (rfl) rfl ?_ (hlt := hlt)
  refine G tt_ok pk71 ?_
  refine sr_ tt_ok rfl rfl (wr_b hkl false) ?_
  refine G tt_ok pk71 ?_
  exact CW.ret (fin_ret rfl (A := [rfA r ns nc { R with act := R.act.set k false }]) (rf_pick (a := a) (by unfold rfL; exact pk_)) ⟨rfl, rfl⟩)
set_option maxHeartbeats 4000000 in
theorem rpower72 (β : Base) (r : Nat) {R : Rx} (h : R.ok ns nc) (k : Int) (on : Bool) : Tri Tryz.prog β 72 [.pointer (some ⟨r, 0, none⟩), .int .i64 k, .bool on] [rfA r ns nc R] (fun u L => u = .int .i64 (R.powV nc k on).2 ∧ L = [rfA r ns nc (R.powV nc k on).1]) := by
 refine Tri.rf (enters_of Tryz.func72 (by kernel_rfl) rfl) fun a => ?_
 refine Tri.intro tt_ok Tryz.func72 rfl rfl Tryz.ntmps72 rfl fun F => ?_
 have hs := rthere44 (ns := ns) (nc := nc) β r a h.core h.wait k
 have h5 := rd_as (a := a) (ns := ns) (nc := nc) h.core h.wait
 unfold Rx.powV
 unfold rfL
 cases hr : rightV nc k with
 | false =>
  rw [hr] at hs
  refine G tt_ok pk72 ?_
  refine ke rfl rfl (hs) ?_
  refine G tt_ok pk72 ?_
  exact CW.ret (fin_ret rfl (A := [rfA r ns nc R]) (rf_pick (a := a) (by unfold rfL; exact pk_)) ⟨rfl, rfl⟩)
 | true =>
  rw [hr] at hs
  obtain ⟨n, rfl⟩ : ∃ n : Nat, k = n := ⟨k.toNat, by simp [rightV] at hr; omega⟩
  have hlt : n < nc := by simp [rightV] at hr; omega
  have hkl : n < R.asl.length := by rw [h.asl]; exact hlt
  simp only [if_true, Int.toNat_natCast]
  refine G tt_ok pk72 ?_
  refine ke rfl rfl (hs) ?_
  refine G tt_ok pk72 ?_
  (refine SQ.ldA tt_ok rfl rfl (by repeat (first | exact .h | exact .q | apply At.t)) (h5) ?_)
  refine G tt_ok pk72 ?_
  refine ir_ tt_ok rfl rfl (n) (rfl) rfl ?_ (hlt := hlt)
  refine G tt_ok pk72 ?_
  refine sr_ tt_ok rfl rfl (wr_b hkl (!on)) ?_
  refine G tt_ok pk72 ?_
  exact CW.ret (fin_ret rfl (A := [rfA r ns nc { R with asl := R.asl.set n (!on) }]) (rf_pick (a := a) (by unfold rfL; exact pk_)) ⟨rfl, rfl⟩)
set_option maxHeartbeats 4000000 in
theorem rmessage67 (β : Base) (r : Nat) {R : Rx} (h : R.ok ns nc) (d e : Int) : Tri Tryz.prog β 67 [.pointer (some ⟨r, 0, none⟩), .int .i64 d, .int .i64 e] [rfA r ns nc R] (fun u L => u = .int .i64 (R.msgV d e).2 ∧ L = [rfA r ns nc (R.msgV d e).1]) := by
 refine Tri.rf (enters_of Tryz.func67 (by kernel_rfl) rfl) fun a => ?_
 refine Tri.intro tt_ok Tryz.func67 rfl rfl Tryz.ntmps67 rfl fun F => ?_
 have hf := rfind93 β a.s a.dq a.dc a.eq a.ec h.de h.ev d e
 unfold sdL at hf
 unfold Rx.msgV
 unfold rfL
 refine G tt_ok pk67 ?_
 refine ke rfl rfl (hf) ?_
 cases hn : fnd R.de R.ev d e with
 | none =>
  unfold fndI
  refine G tt_ok pk67 ?_
  exact CW.ret (fin_ret rfl (A := [rfA r ns nc R]) (rf_pick (a := a) (by unfold rfL; exact pk_)) ⟨rfl, rfl⟩)
 | some n =>
  have hl := (fnd_eq hn).2.1
  have w1 := wr_wait (a := a) (ns := ns) (nc := nc) h.core h.wait hl true
  unfold fndI
  refine G tt_ok pk67 ?_
  rw [decide_eq_false (show ¬ (n : Int) < 0 by omega)]
  refine G tt_ok pk67 ?_
  refine SQ.idx tt_ok rfl rfl n rfl hl (o' := 513 + n * 1) rfl ?_
  refine G tt_ok pk67 ?_
  (refine SQ.stA tt_ok rfl rfl (by repeat (first | apply Up.h | apply Up.t)) (by rfl) (w1) (by repeat (first | exact trivial | refine ⟨trivial, ?_⟩ | refine ⟨wk (by repeat (first | exact .h | exact .q | apply At.t)) (by rfl), ?_⟩)) ?_)
  refine G tt_ok pk67 ?_
  exact CW.ret (fin_ret rfl (A := [rfA r ns nc { R with wait := R.wait.set n true }]) (rf_pick (a := a) (by unfold rfL; exact pk_)) ⟨rfl, rfl⟩)
set_option maxHeartbeats 4000000 in
theorem runbind66 (β : Base) (r : Nat) {R : Rx} (h : R.ok ns nc) (d e : Int) : Tri Tryz.prog β 66 [.pointer (some ⟨r, 0, none⟩), .int .i64 d, .int .i64 e] [rfA r ns nc R] (fun u L => u = .int .i64 (R.unbV d e).2 ∧ L = [rfA r ns nc (R.unbV d e).1]) := by
 refine Tri.rf (enters_of Tryz.func66 (by kernel_rfl) rfl) fun a => ?_
 refine Tri.intro tt_ok Tryz.func66 rfl rfl Tryz.ntmps66 rfl fun F => ?_
 have hf := rfree119 β a.s a.dq a.dc a.eq a.ec h.de h.ev d e
 unfold sdL rfV at hf
 unfold Rx.unbV
 unfold rfL
 refine G tt_ok pk66 ?_
 cases hm : mayE d e with
 | false =>
  simp only [hm, eq_self, if_true, Bool.false_eq_true, if_false] at hf
  refine ke rfl rfl (hf) ?_
  refine G tt_ok pk66 ?_
  exact CW.ret (fin_ret rfl (A := [rfA r ns nc R]) (rf_pick (a := a) (by unfold rfL; exact pk_)) ⟨rfl, rfl⟩)
 | true =>
  simp only [hm, eq_self, if_true, Bool.false_eq_true, if_false] at hf
  cases hn : fnd R.de R.ev d e with
  | none =>
   simp only [hn, eq_self, if_true, Bool.false_eq_true, if_false] at hf
   refine ke rfl rfl (hf) ?_
   refine G tt_ok pk66 ?_
   exact CW.ret (fin_ret rfl (A := [rfA r ns nc R]) (rf_pick (a := a) (by unfold rfL; exact pk_)) ⟨rfl, rfl⟩)
  | some n =>
   simp only [hn, eq_self, if_true, Bool.false_eq_true, if_false] at hf
   have hl := (fnd_eq hn).2.1
   have w1 := wr_wait (a := a) (ns := ns) (nc := nc) h.core h.wait hl false
   refine ke rfl rfl (hf) ?_
   refine G tt_ok pk66 ?_
   refine SQ.idx tt_ok rfl rfl n rfl hl (o' := 513 + n * 1) rfl ?_
   refine G tt_ok pk66 ?_
   (refine SQ.stA tt_ok rfl rfl (by repeat (first | apply Up.h | apply Up.t)) (by rfl) (w1) (by repeat (first | exact trivial | refine ⟨trivial, ?_⟩ | refine ⟨wk (by repeat (first | exact .h | exact .q | apply At.t)) (by rfl), ?_⟩)) ?_)
   refine G tt_ok pk66 ?_
   exact CW.ret (fin_ret rfl (A := [rfA r ns nc { R with de := R.de.set n (-1), ev := R.ev.set n (-1), wait := R.wait.set n false }]) (rf_pick (a := a) (by unfold rfL; exact pk_)) ⟨rfl, rfl⟩)
set_option maxHeartbeats 4000000 in
theorem rbind65 (β : Base) (r : Nat) {R : Rx} (h : R.ok ns nc) (d e c : Int) : Tri Tryz.prog β 65 [.pointer (some ⟨r, 0, none⟩), .int .i64 d, .int .i64 e, .int .i64 c] [rfA r ns nc R] (fun u L => u = pairI (R.bindV nc d e c).2 ∧ L = [rfA r ns nc (R.bindV nc d e c).1]) := by
 refine Tri.rf (enters_of Tryz.func65 (by kernel_rfl) rfl) fun a => ?_
 refine Tri.intro tt_ok Tryz.func65 rfl rfl Tryz.ntmps65 rfl fun F => ?_
 have hs := rthere44 (ns := ns) (nc := nc) β r a h.core h.wait c
 have hf := rfind93 β a.s a.dq a.dc a.eq a.ec h.de h.ev d e
 have hb := rbind118 β a.s a.dq a.dc a.eq a.ec h.de h.ev d e
 unfold sdL at hf hb
 unfold rbV at hb
 unfold Rx.bindV
 unfold rfL
 cases hr : rightV nc c with
 | false =>
  rw [hr] at hs
  refine G tt_ok pk65 ?_
  refine ke rfl rfl (hs) ?_
  refine G tt_ok pk65 ?_
  exact CW.ret (fin_ret rfl (A := [rfA r ns nc R]) (rf_pick (a := a) (by unfold rfL; exact pk_)) ⟨rfl, rfl⟩)
 | true =>
  rw [hr] at hs
  refine G tt_ok pk65 ?_
  refine ke rfl rfl (hs) ?_
  refine G tt_ok pk65 ?_
  refine ke rfl rfl (hf) ?_
  refine G tt_ok pk65 ?_
  cases hm : mayE d e with
  | false =>
   simp only [hm, eq_self, if_true, Bool.false_eq_true, if_false] at hb
   refine ke rfl rfl (hb) ?_
   refine G tt_ok pk65 ?_
   exact CW.ret (fin_ret rfl (A := [rfA r ns nc R]) (rf_pick (a := a) (by unfold rfL; exact pk_)) ⟨rfl, rfl⟩)
  | true =>
   simp only [hm, eq_self, if_true, Bool.false_eq_true, if_false] at hb
   cases hn : fnd R.de R.ev d e with
   | some n =>
    simp only [hn, eq_self, if_true, Bool.false_eq_true, if_false] at hb
    have hl := (fnd_eq hn).2.1
    have w1 := wr_core (a := a) (ns := ns) (nc := nc) (wait := R.wait) h.core hl c
    unfold fndI
    refine ke rfl rfl (hb) ?_
    refine G tt_ok pk65 ?_
    rw [decide_eq_false (show ¬ (n : Int) < 0 by omega)]
    refine SQ.idx tt_ok rfl rfl n rfl hl (o' := 1 + n * 1) rfl ?_
    refine G tt_ok pk65 ?_
    (refine SQ.stA tt_ok rfl rfl (by repeat (first | apply Up.h | apply Up.t)) (by rfl) (w1) (by repeat (first | exact trivial | refine ⟨trivial, ?_⟩ | refine ⟨wk (by repeat (first | exact .h | exact .q | apply At.t)) (by rfl), ?_⟩)) ?_)
    refine G tt_ok pk65 ?_
    rw [show IntKind.i64.wrap (8192 + (n : Int)) = 8192 + (n : Int) by rw [wrap_id (by omega) (by omega)]]
    exact CW.ret (fin_ret rfl (A := [rfA r ns nc { R with core := R.core.set n c }]) (rf_pick (a := a) (by unfold rfL; exact pk_)) ⟨rfl, rfl⟩)
   | none =>
    simp only [hn, eq_self, if_true, Bool.false_eq_true, if_false] at hb
    cases hi : frI R.de with
    | none =>
     simp only [hi, eq_self, if_true, Bool.false_eq_true, if_false] at hb
     refine ke rfl rfl (hb) ?_
     refine G tt_ok pk65 ?_
     exact CW.ret (fin_ret rfl (A := [rfA r ns nc R]) (rf_pick (a := a) (by unfold rfL; exact pk_)) ⟨rfl, rfl⟩)
    | some i =>
     simp only [hi, eq_self, if_true, Bool.false_eq_true, if_false] at hb
     have hl := (frI_eq hi).1
     have w1 := wr_core (a := a) (ns := ns) (nc := nc) (wait := R.wait) h.core hl c
     have hc2 : (R.core.set i c).length = 512 := by rw [List.length_set]; exact h.core
     have w2 := wr_wait (a := a) (ns := ns) (nc := nc) hc2 h.wait hl false
     unfold fndI
     refine ke rfl rfl (hb) ?_
     refine G tt_ok pk65 ?_
     refine SQ.idx tt_ok rfl rfl i rfl hl (o' := 1 + i * 1) rfl ?_
     refine G tt_ok pk65 ?_
     (refine SQ.stA tt_ok rfl rfl (by repeat (first | apply Up.h | apply Up.t)) (by rfl) (w1) (by repeat (first | exact trivial | refine ⟨trivial, ?_⟩ | refine ⟨wk (by repeat (first | exact .h | exact .q | apply At.t)) (by rfl), ?_⟩)) ?_)
     refine G tt_ok pk65 ?_
     refine SQ.idx tt_ok rfl rfl i rfl hl (o' := 513 + i * 1) rfl ?_
     refine G tt_ok pk65 ?_
     (refine SQ.stA tt_ok rfl rfl (by repeat (first | apply Up.h | apply Up.t)) (by rfl) (w2) (by repeat (first | exact trivial | refine ⟨trivial, ?_⟩ | refine ⟨wk (by repeat (first | exact .h | exact .q | apply At.t)) (by rfl), ?_⟩)) ?_)
     refine G tt_ok pk65 ?_
     rw [show IntKind.i64.wrap (8192 + (i : Int)) = 8192 + (i : Int) by rw [wrap_id (by omega) (by omega)]]
     exact CW.ret (fin_ret rfl (A := [rfA r ns nc { R with de := R.de.set i d, ev := R.ev.set i e, core := R.core.set i c, wait := R.wait.set i false }]) (rf_pick (a := a) (by unfold rfL; exact pk_)) ⟨rfl, rfl⟩)
set_option maxHeartbeats 4000000 in
theorem rwaits47 (β : Base) (r : Nat) {R : Rx} (h : R.ok ns nc) (d e : Int) : Tri Tryz.prog β 47 [.pointer (some ⟨r, 0, none⟩), .int .i64 d, .int .i64 e] [rfA r ns nc R] (fun u L => u = R.wtsV d e ∧ L = [rfA r ns nc R]) := by
 refine Tri.rf (enters_of Tryz.func47 (by kernel_rfl) rfl) fun a => ?_
 refine Tri.intro tt_ok Tryz.func47 rfl rfl Tryz.ntmps47 rfl fun F => ?_
 have hf := rfind93 β a.s a.dq a.dc a.eq a.ec h.de h.ev d e
 unfold sdL at hf
 unfold Rx.wtsV Rx.wts
 unfold rfL
 refine G tt_ok pk47 ?_
 refine ke rfl rfl (hf) ?_
 cases hn : fnd R.de R.ev d e with
 | none =>
  unfold fndI
  refine G tt_ok pk47 ?_
  exact CW.ret (fin_ret rfl (A := [rfA r ns nc R]) (rf_pick (a := a) (by unfold rfL; exact pk_)) ⟨rfl, rfl⟩)
 | some n =>
  have hl := (fnd_eq hn).2.1
  have r1 := rd_wait (a := a) (ns := ns) (nc := nc) h.core h.wait hl
  have r2 := rd_core (a := a) (ns := ns) (nc := nc) (wait := R.wait) h.core hl
  unfold fndI
  refine G tt_ok pk47 ?_
  rw [decide_eq_false (show ¬ (n : Int) < 0 by omega)]
  refine G tt_ok pk47 ?_
  refine SQ.idx tt_ok rfl rfl n rfl hl (o' := 513 + n * 1) rfl ?_
  refine G tt_ok pk47 ?_
  (refine SQ.ldA tt_ok rfl rfl (by repeat (first | exact .h | exact .q | apply At.t)) (r1) ?_)
  simp only
  cases hw : R.wait.getD n false with
  | false =>
   refine G tt_ok pk47 ?_
   exact CW.ret (fin_ret rfl (A := [rfA r ns nc R]) (rf_pick (a := a) (by unfold rfL; exact pk_)) ⟨rfl, rfl⟩)
  | true =>
   refine G tt_ok pk47 ?_
   refine SQ.idx tt_ok rfl rfl n rfl hl (o' := 1 + n * 1) rfl ?_
   refine G tt_ok pk47 ?_
   (refine SQ.ldA tt_ok rfl rfl (by repeat (first | exact .h | exact .q | apply At.t)) (r2) ?_)
   refine G tt_ok pk47 ?_
   exact CW.ret (fin_ret rfl (A := [rfA r ns nc R]) (rf_pick (a := a) (by unfold rfL; exact pk_)) ⟨rfl, rfl⟩)
set_option maxHeartbeats 4000000 in
theorem rpull69 (β : Base) (r : Nat) {R : Rx} (h : R.ok ns nc) (d e : Int) : Tri Tryz.prog β 69 [.pointer (some ⟨r, 0, none⟩), .int .i64 d, .int .i64 e] [rfA r ns nc R] (fun u L => u = .bool (R.wts d e).isSome ∧ L = [rfA r ns nc (R.pullV d e)]) := by
 refine Tri.intro tt_ok Tryz.func69 rfl rfl Tryz.ntmps69 rfl fun F => ?_
 have hw := rwaits47 β r h d e
 unfold Rx.wtsV at hw
 unfold Rx.pullV
 cases hn : R.wts d e with
 | none =>
  simp only [hn] at hw
  refine G tt_ok pk69 ?_
  refine ke rfl rfl (hw) ?_
  refine G tt_ok pk69 ?_
  exact CW.ret (fin_ret rfl (A := [rfA r ns nc R]) pk_ ⟨rfl, rfl⟩)
 | some n =>
  simp only [hn] at hw
  have hn2 : fnd R.de R.ev d e = some n := by
   unfold Rx.wts at hn
   cases hh : fnd R.de R.ev d e with
   | none => rw [hh] at hn; cases hn
   | some m => rw [hh] at hn; simp only at hn; split at hn <;> cases hn; rfl
  have hl := (fnd_eq hn2).2.1
  refine G tt_ok pk69 ?_
  refine ke rfl rfl (hw) ?_
  refine G tt_ok pk69 ?_
  refine SQ.ent [rfA r ns nc R] pk_ ?_
  unfold rfA
  refine SQ.open_ fun a => ?_
  have hf := rfind93 β a.s a.dq a.dc a.eq a.ec h.de h.ev d e
  unfold sdL at hf
  rw [hn2] at hf
  unfold fndI at hf
  have w1 := wr_wait (a := a) (ns := ns) (nc := nc) h.core h.wait hl false
  unfold rfL
  refine G tt_ok pk69 ?_
  refine ke rfl rfl (hf) ?_
  refine G tt_ok pk69 ?_
  refine SQ.idx tt_ok rfl rfl n rfl hl (o' := 513 + n * 1) rfl ?_
  refine G tt_ok pk69 ?_
  (refine SQ.stA tt_ok rfl rfl (by repeat (first | apply Up.h | apply Up.t)) (by rfl) (w1) (by repeat (first | exact trivial | refine ⟨trivial, ?_⟩ | refine ⟨wk (by repeat (first | exact .h | exact .q | apply At.t)) (by rfl), ?_⟩)) ?_)
  refine G tt_ok pk69 ?_
  exact CW.ret (fin_ret rfl (A := [rfA r ns nc { R with wait := R.wait.set n false }]) (rf_pick (a := a) (by unfold rfL; exact pk_)) ⟨rfl, rfl⟩)
end Go.Proofs.YtakkogdmlbkdaaaGreatDoor.Sl.It
namespace Go.Proofs.YtakkogdmlbkdaaaGreatDoor.Sl.It
attribute [local irreducible] CW Tri OW
@[reducible] def pk49 : List (Nat × Plan) := []
attribute [local irreducible] fnd frI
variable {ns nc : Nat}
def Rx.hiT (ns : Nat) (R : Rx) (c : Nat) : Option Nat := if c = 0 then (List.range ns).find? (fun k => R.high.getD k false && !R.act.getD k false) else none
def Rx.msB (R : Rx) (c n : Nat) : Bool := decide (R.de.getD n 0 ≥ 0) && (R.core.getD n 0 == (c : Int) && R.wait.getD n false)
def Rx.msT (R : Rx) (c : Nat) : Option Nat := (List.range 512).find? (R.msB c)
def Rx.takeN (ns : Nat) (R : Rx) (c : Nat) : Rx × (Int × Bool) := match R.hiT ns c with
 | some k => ({ R with act := R.act.set k true }, (32 + (k : Int), true))
 | none => match R.msT c with
  | some n => ({ R with wait := R.wait.set n false }, (8192 + (n : Int), true))
  | none => (R, (0, false))
def Rx.takeV (ns nc : Nat) (R : Rx) (c : Int) : Rx × (Int × Bool) := if (rightV nc c && !R.asl.getD c.toNat false) = true then R.takeN ns c.toNat else (R, (0, false))
@[reducible] def ibV (x : Int × Bool) : Value := .tuple #[.int .i64 x.1, .bool x.2]
attribute [local irreducible] Rx.msB
theorem hiT_some {R : Rx} {ns k : Nat} (hk : k < ns) (h1 : R.high.getD k false = true) (h2 : R.act.getD k false = false) (hb : ∀ j, j < k → (R.high.getD j false && !R.act.getD j false) = false) : R.hiT ns 0 = some k := by
 unfold Rx.hiT
 rw [if_pos rfl, List.find?_range_eq_some]
 exact ⟨by rw [h1, h2]; rfl, by simpa using hk, fun j hj => by simp only [hb j hj]; rfl⟩
theorem hiT_none {R : Rx} {ns c : Nat} (hb : c = 0 → ∀ j, j < ns → (R.high.getD j false && !R.act.getD j false) = false) : R.hiT ns c = none := by
 unfold Rx.hiT
 split
 ·rename_i h
  rw [List.find?_eq_none]
  intro j hj
  rw [hb h j (by simpa using hj)]; simp
 ·rfl
theorem msT_some {R : Rx} {c n : Nat} (hn : n < 512) (h : R.msB c n = true) (hb : ∀ j, j < n → R.msB c j = false) : R.msT c = some n := by
 unfold Rx.msT
 rw [List.find?_range_eq_some]
 exact ⟨h, by simpa using hn, fun j hj => by simp only [hb j hj]; rfl⟩
theorem msT_none {R : Rx} {c : Nat} (hb : ∀ j, j < 512 → R.msB c j = false) : R.msT c = none := by
 unfold Rx.msT
 rw [List.find?_eq_none]
 intro j hj
 rw [hb j (by simpa using hj)]; simp
theorem msB_eq {R : Rx} {c n : Nat} {x y : Bool} {z : Bool} (h1 : decide (R.de.getD n 0 ≥ 0) = x) (h2 : (R.core.getD n 0 == (c : Int)) = y) (h3 : R.wait.getD n false = z) : R.msB c n = (x && (y && z)) := by
 unfold Rx.msB; rw [h1, h2, h3]
set_option maxHeartbeats 8000000 in
theorem rtake49 (β : Base) (r : Nat) {R : Rx} (h : R.ok ns nc) (c : Int) : Tri Tryz.prog β 49 [.pointer (some ⟨r, 0, none⟩), .int .i64 c] [rfA r ns nc R] (fun u L => u = ibV (R.takeV ns nc c).2 ∧ L = [rfA r ns nc (R.takeV ns nc c).1]) := by
 refine Tri.rf (enters_of Tryz.func49 (by kernel_rfl) rfl) fun a => ?_
 refine Tri.intro tt_ok Tryz.func49 rfl rfl Tryz.ntmps49 rfl fun F => ?_
 have hs := rthere44 (ns := ns) (nc := nc) β r a h.core h.wait c
 have h3 := rd_hi (a := a) (ns := ns) (nc := nc) h.core h.wait
 have h4 := rd_ac (a := a) (ns := ns) (nc := nc) h.core h.wait
 have h5 := rd_as (a := a) (ns := ns) (nc := nc) h.core h.wait
 have hn64 := h.n64
 obtain ⟨M, hM⟩ : ∃ M : Nat, M = 512 := ⟨_, rfl⟩
 unfold Rx.takeV
 unfold rfL
 cases hr : rightV nc c with
 | false =>
  rw [hr] at hs
  refine G tt_ok pk49 ?_
  refine ke rfl rfl (hs) ?_
  refine G tt_ok pk49 ?_
  exact CW.ret (fin_ret rfl (A := [rfA r ns nc R]) (rf_pick (a := a) (by unfold rfL; exact pk_)) ⟨rfl, rfl⟩)
 | true =>
  rw [hr] at hs
  obtain ⟨n, rfl⟩ : ∃ n : Nat, c = n := ⟨c.toNat, by simp [rightV] at hr; omega⟩
  have hlt : n < nc := by simp [rightV] at hr; omega
  have hkl : n < R.asl.length := by rw [h.asl]; exact hlt
  simp only [Bool.true_and, Int.toNat_natCast]
  refine G tt_ok pk49 ?_
  refine ke rfl rfl (hs) ?_
  refine G tt_ok pk49 ?_
  (refine SQ.ldA tt_ok rfl rfl (by repeat (first | exact .h | exact .q | apply At.t)) (h5) ?_)
  refine G tt_ok pk49 ?_
  refine ir_ tt_ok rfl rfl (n) (rfl) rfl ?_ (hlt := hlt)
  refine G tt_ok pk49 ?_
  refine lr_ tt_ok rfl rfl (rd_b hkl) ?_
  refine G tt_ok pk49 ?_
  cases ha : R.asl.getD n false with
  | true =>
   refine G tt_ok pk49 ?_
   exact CW.ret (fin_ret rfl (A := [rfA r ns nc R]) (rf_pick (a := a) (by unfold rfL; exact pk_)) ⟨rfl, rfl⟩)
  | false =>
   simp only [Bool.not_false, if_true]
   refine G tt_ok pk49 ?_
   refine CW.loop (α := Nat) (fun k => k ≤ ns ∧ (n = 0 → ∀ j, j < k → (R.high.getD j false && !R.act.getD j false) = false)) (fun k => [(6, .int .i64 k), (0, .pointer (some ⟨r, 0, none⟩)), (1, .int .i64 (n : Int))])
    (fun k => rfL r a ns nc R) (fun k => ns - k) 0 ⟨by omega, fun _ j hj => by omega⟩ ⟨rfl, rfl, rfl, trivial⟩ (by unfold rfL; exact pk_) ?_
   rintro k ⟨hk, hb⟩
   unfold rfL
   refine G tt_ok pk49 ?_
   (refine SQ.ldA tt_ok rfl rfl (by repeat (first | exact .h | exact .q | apply At.t)) (h3) ?_)
   refine G tt_ok pk49 ?_
   rcases Classical.em (k < ns ∧ n = 0) with ⟨hk2, hn0⟩ | hh
   ·rw [decide_eq_true (show (k : Int) < (ns : Int) by omega)]
    have hwr : IntKind.i64.wrap ((k : Int) + 1) = ((k + 1 : Nat) : Int) := by rw [wrap_id (by omega) (by omega)]; simp
    have hhl : k < R.high.length := by rw [h.high]; exact hk2
    have hal : k < R.act.length := by rw [h.act]; exact hk2
    subst hn0
    have hb0 := hb rfl
    refine G tt_ok pk49 ?_
    (refine SQ.ldA tt_ok rfl rfl (by repeat (first | exact .h | exact .q | apply At.t)) (h3) ?_)
    refine G tt_ok pk49 ?_
    refine ir_ tt_ok rfl rfl (k) (rfl) rfl ?_ (hlt := hk2)
    refine G tt_ok pk49 ?_
    refine lr_ tt_ok rfl rfl (rd_b hhl) ?_
    refine G tt_ok pk49 ?_
    cases hhi : R.high.getD k false with
    | false =>
     refine G tt_ok pk49 ?_
     refine ⟨k + 1, ⟨by omega, fun _ j hj => ?_⟩, by omega, ⟨by rw [← hwr]; rfl, rfl, rfl, trivial⟩, pk_⟩
     rcases Nat.lt_succ_iff_lt_or_eq.1 hj with h1 | h1
     ·exact hb0 j h1
     ·subst h1; rw [hhi]; rfl
    | true =>
     refine G tt_ok pk49 ?_
     (refine SQ.ldA tt_ok rfl rfl (by repeat (first | exact .h | exact .q | apply At.t)) (h4) ?_)
     refine G tt_ok pk49 ?_
     refine ir_ tt_ok rfl rfl (k) (rfl) rfl ?_ (hlt := hk2)
     refine G tt_ok pk49 ?_
     refine lr_ tt_ok rfl rfl (rd_b hal) ?_
     refine G tt_ok pk49 ?_
     cases hac : R.act.getD k false with
     | true =>
      refine G tt_ok pk49 ?_
      refine ⟨k + 1, ⟨by omega, fun _ j hj => ?_⟩, by omega, ⟨by rw [← hwr]; rfl, rfl, rfl, trivial⟩, pk_⟩
      rcases Nat.lt_succ_iff_lt_or_eq.1 hj with h1 | h1
      ·exact hb0 j h1
      ·subst h1; rw [hac, hhi]; rfl
     | false =>
      refine G tt_ok pk49 ?_
      (refine SQ.ldA tt_ok rfl rfl (by repeat (first | exact .h | exact .q | apply At.t)) (h4) ?_)
      refine G tt_ok pk49 ?_
      refine ir_ tt_ok rfl rfl (k) (rfl) rfl ?_ (hlt := hk2)
      refine G tt_ok pk49 ?_
      refine sr_ tt_ok rfl rfl (wr_b hal true) ?_
      refine G tt_ok pk49 ?_
      unfold Rx.takeN
      rw [hiT_some hk2 hhi hac hb0]
      rw [show IntKind.i64.wrap (32 + (k : Int)) = 32 + (k : Int) by rw [wrap_id (by omega) (by omega)]]
      exact CW.ret (fin_ret rfl (A := [rfA r ns nc { R with act := R.act.set k true }]) (rf_pick (a := a) (by unfold rfL; exact pk_)) ⟨rfl, rfl⟩)
   ·have hno : R.hiT ns n = none := hiT_none fun h0 j hj => hb h0 j (by omega)
    unfold Rx.takeN
    rw [hno]
    simp only
    rcases Nat.lt_or_ge k ns with hk2 | hk2
    ·rw [decide_eq_true (show (k : Int) < (ns : Int) by omega)]
     refine G tt_ok pk49 ?_
     rw [show ((n : Int) == 0) = false from beq_eq_false_iff_ne.2 (by omega)]
     refine G tt_ok pk49 ?_
     refine CW.exit ?_
     refine G tt_ok pk49 ?_
     refine CW.loop (α := Nat) (fun k => k ≤ M ∧ ∀ j, j < k → R.msB n j = false) (fun k => [(7, .int .i64 k), (0, .pointer (some ⟨r, 0, none⟩)), (1, .int .i64 (n : Int))])
      (fun k => rfL r a ns nc R) (fun k => M - k) 0 ⟨by omega, fun j hj => by omega⟩ ⟨rfl, rfl, rfl, trivial⟩ (by unfold rfL; exact pk_) ?_
     clear hk hb hk2 hh k
     rintro k ⟨hk, hb⟩
     unfold rfL
     refine G tt_ok pk49 ?_
     by_cases hk2 : k < M
     ·rw [decide_eq_true (show (k : Int) < 512 by omega)]
      have hl : k < 512 := by omega
      have hwr : IntKind.i64.wrap ((k : Int) + 1) = ((k + 1 : Nat) : Int) := by rw [wrap_id (by omega) (by omega)]; simp
      have r1 := rd3 (iS_at (l := R.de) (k := k) (by rw [h.de]; exact hl))
      have r2 := rd_core (a := a) (ns := ns) (nc := nc) (wait := R.wait) h.core hl
      have r3 := rd_wait (a := a) (ns := ns) (nc := nc) h.core h.wait hl
      have w1 := wr_wait (a := a) (ns := ns) (nc := nc) h.core h.wait hl false
      have hms := @msB_eq R n k
      have hnx : R.msB n k = false → ∀ j, j < k + 1 → R.msB n j = false := fun h9 j hj => by
       rcases Nat.lt_succ_iff_lt_or_eq.1 hj with h1 | h1
       ·exact hb j h1
       ·subst h1; exact h9
      refine G tt_ok pk49 ?_
      refine ir_ tt_ok rfl rfl (k) (rfl) rfl ?_ (hlt := hl)
      refine G tt_ok pk49 ?_
      refine lr_ tt_ok rfl rfl (r1) ?_
      refine G tt_ok pk49 ?_
      cases hx : decide (R.de.getD k 0 ≥ 0) with
      | false =>
       refine G tt_ok pk49 ?_
       exact ⟨k + 1, ⟨by omega, hnx (hms hx rfl rfl)⟩, by omega, ⟨by rw [← hwr]; rfl, rfl, rfl, trivial⟩, pk_⟩
      | true =>
       refine G tt_ok pk49 ?_
       refine SQ.idx tt_ok rfl rfl k rfl hl (o' := 1 + k * 1) rfl ?_
       refine G tt_ok pk49 ?_
       (refine SQ.ldA tt_ok rfl rfl (by repeat (first | exact .h | exact .q | apply At.t)) (r2) ?_)
       refine G tt_ok pk49 ?_
       cases hy : R.core.getD k 0 == (n : Int) with
       | false =>
        refine G tt_ok pk49 ?_
        exact ⟨k + 1, ⟨by omega, hnx (hms hx hy rfl)⟩, by omega, ⟨by rw [← hwr]; rfl, rfl, rfl, trivial⟩, pk_⟩
       | true =>
        refine G tt_ok pk49 ?_
        refine SQ.idx tt_ok rfl rfl k rfl hl (o' := 513 + k * 1) rfl ?_
        refine G tt_ok pk49 ?_
        (refine SQ.ldA tt_ok rfl rfl (by repeat (first | exact .h | exact .q | apply At.t)) (r3) ?_)
        refine G tt_ok pk49 ?_
        cases hz : R.wait.getD k false with
        | false =>
         refine G tt_ok pk49 ?_
         exact ⟨k + 1, ⟨by omega, hnx (hms hx hy hz)⟩, by omega, ⟨by rw [← hwr]; rfl, rfl, rfl, trivial⟩, pk_⟩
        | true =>
         refine G tt_ok pk49 ?_
         refine SQ.idx tt_ok rfl rfl k rfl hl (o' := 513 + k * 1) rfl ?_
         refine G tt_ok pk49 ?_
         (refine SQ.stA tt_ok rfl rfl (by repeat (first | apply Up.h | apply Up.t)) (by rfl) (w1) (by repeat (first | exact trivial | refine ⟨trivial, ?_⟩ | refine ⟨wk (by repeat (first | exact .h | exact .q | apply At.t)) (by rfl), ?_⟩)) ?_)
         refine G tt_ok pk49 ?_
         rw [msT_some hl (hms hx hy hz) hb]
         rw [show IntKind.i64.wrap (8192 + (k : Int)) = 8192 + (k : Int) by rw [wrap_id (by omega) (by omega)]]
         exact CW.ret (fin_ret rfl (A := [rfA r ns nc { R with wait := R.wait.set k false }]) (rf_pick (a := a) (by unfold rfL; exact pk_)) ⟨rfl, rfl⟩)
     ·rw [decide_eq_false (show ¬ (k : Int) < 512 by omega)]
      refine G tt_ok pk49 ?_
      refine CW.exit ?_
      refine G tt_ok pk49 ?_
      rw [msT_none (fun j hj => hb j (by omega))]
      exact CW.ret (fin_ret rfl (A := [rfA r ns nc R]) (rf_pick (a := a) (by unfold rfL; exact pk_)) ⟨rfl, rfl⟩)
    ·rw [decide_eq_false (show ¬ (k : Int) < (ns : Int) by omega)]
     refine G tt_ok pk49 ?_
     refine CW.exit ?_
     refine G tt_ok pk49 ?_
     refine CW.loop (α := Nat) (fun k => k ≤ M ∧ ∀ j, j < k → R.msB n j = false) (fun k => [(7, .int .i64 k), (0, .pointer (some ⟨r, 0, none⟩)), (1, .int .i64 (n : Int))])
      (fun k => rfL r a ns nc R) (fun k => M - k) 0 ⟨by omega, fun j hj => by omega⟩ ⟨rfl, rfl, rfl, trivial⟩ (by unfold rfL; exact pk_) ?_
     clear hk hb hk2 hh k
     rintro k ⟨hk, hb⟩
     unfold rfL
     refine G tt_ok pk49 ?_
     by_cases hk2 : k < M
     ·rw [decide_eq_true (show (k : Int) < 512 by omega)]
      have hl : k < 512 := by omega
      have hwr : IntKind.i64.wrap ((k : Int) + 1) = ((k + 1 : Nat) : Int) := by rw [wrap_id (by omega) (by omega)]; simp
      have r1 := rd3 (iS_at (l := R.de) (k := k) (by rw [h.de]; exact hl))
      have r2 := rd_core (a := a) (ns := ns) (nc := nc) (wait := R.wait) h.core hl
      have r3 := rd_wait (a := a) (ns := ns) (nc := nc) h.core h.wait hl
      have w1 := wr_wait (a := a) (ns := ns) (nc := nc) h.core h.wait hl false
      have hms := @msB_eq R n k
      have hnx : R.msB n k = false → ∀ j, j < k + 1 → R.msB n j = false := fun h9 j hj => by
       rcases Nat.lt_succ_iff_lt_or_eq.1 hj with h1 | h1
       ·exact hb j h1
       ·subst h1; exact h9
      refine G tt_ok pk49 ?_
      refine ir_ tt_ok rfl rfl (k) (rfl) rfl ?_ (hlt := hl)
      refine G tt_ok pk49 ?_
      refine lr_ tt_ok rfl rfl (r1) ?_
      refine G tt_ok pk49 ?_
      cases hx : decide (R.de.getD k 0 ≥ 0) with
      | false =>
       refine G tt_ok pk49 ?_
       exact ⟨k + 1, ⟨by omega, hnx (hms hx rfl rfl)⟩, by omega, ⟨by rw [← hwr]; rfl, rfl, rfl, trivial⟩, pk_⟩
      | true =>
       refine G tt_ok pk49 ?_
       refine SQ.idx tt_ok rfl rfl k rfl hl (o' := 1 + k * 1) rfl ?_
       refine G tt_ok pk49 ?_
       (refine SQ.ldA tt_ok rfl rfl (by repeat (first | exact .h | exact .q | apply At.t)) (r2) ?_)
       refine G tt_ok pk49 ?_
       cases hy : R.core.getD k 0 == (n : Int) with
       | false =>
        refine G tt_ok pk49 ?_
        exact ⟨k + 1, ⟨by omega, hnx (hms hx hy rfl)⟩, by omega, ⟨by rw [← hwr]; rfl, rfl, rfl, trivial⟩, pk_⟩
       | true =>
        refine G tt_ok pk49 ?_
        refine SQ.idx tt_ok rfl rfl k rfl hl (o' := 513 + k * 1) rfl ?_
        refine G tt_ok pk49 ?_
        (refine SQ.ldA tt_ok rfl rfl (by repeat (first | exact .h | exact .q | apply At.t)) (r3) ?_)
        refine G tt_ok pk49 ?_
        cases hz : R.wait.getD k false with
        | false =>
         refine G tt_ok pk49 ?_
         exact ⟨k + 1, ⟨by omega, hnx (hms hx hy hz)⟩, by omega, ⟨by rw [← hwr]; rfl, rfl, rfl, trivial⟩, pk_⟩
        | true =>
         refine G tt_ok pk49 ?_
         refine SQ.idx tt_ok rfl rfl k rfl hl (o' := 513 + k * 1) rfl ?_
         refine G tt_ok pk49 ?_
         (refine SQ.stA tt_ok rfl rfl (by repeat (first | apply Up.h | apply Up.t)) (by rfl) (w1) (by repeat (first | exact trivial | refine ⟨trivial, ?_⟩ | refine ⟨wk (by repeat (first | exact .h | exact .q | apply At.t)) (by rfl), ?_⟩)) ?_)
         refine G tt_ok pk49 ?_
         rw [msT_some hl (hms hx hy hz) hb]
         rw [show IntKind.i64.wrap (8192 + (k : Int)) = 8192 + (k : Int) by rw [wrap_id (by omega) (by omega)]]
         exact CW.ret (fin_ret rfl (A := [rfA r ns nc { R with wait := R.wait.set k false }]) (rf_pick (a := a) (by unfold rfL; exact pk_)) ⟨rfl, rfl⟩)
     ·rw [decide_eq_false (show ¬ (k : Int) < 512 by omega)]
      refine G tt_ok pk49 ?_
      refine CW.exit ?_
      refine G tt_ok pk49 ?_
      rw [msT_none (fun j hj => hb j (by omega))]
      exact CW.ret (fin_ret rfl (A := [rfA r ns nc R]) (rf_pick (a := a) (by unfold rfL; exact pk_)) ⟨rfl, rfl⟩)
end Go.Proofs.YtakkogdmlbkdaaaGreatDoor.Sl.It
namespace Go.Proofs.YtakkogdmlbkdaaaGreatDoor.Sl.It
attribute [local irreducible] CW Tri OW
@[reducible] def pk45 : List (Nat × Plan) := [(6, [(0, 0, []), (1, 0, []), (2, 0, []), (3, 0, []), (4, 0, []), (5, 0, []), (6, 0, []), (7, 0, []), (8, 0, [])])]
@[reducible] def pk29 : List (Nat × Plan) := []
@[reducible] def pk42 : List (Nat × Plan) := []
@[reducible] def pk46 : List (Nat × Plan) := []
@[reducible] def pk43 : List (Nat × Plan) := []
attribute [local irreducible] fnd frI
variable {T ns nc : Nat}
def lsA (b : Nat) (zs : List Int) : Atom := exA fun y : Option Addr × Nat => [pt b [.slice y.1 zs.length y.2], own 3 1 (.slice y.1 zs.length y.2) zs.length (iS zs)]
theorem ls_shut {b c : Nat} {q : Option Addr} {zs : List Int} : Ent [pt b [.slice q zs.length c], own 3 1 (.slice q zs.length c) zs.length (iS zs)] [lsA b zs] :=
 Ent.exA (f := fun y : Option Addr × Nat => [pt b [.slice y.1 zs.length y.2], own 3 1 (.slice y.1 zs.length y.2) zs.length (iS zs)]) (q, c)
theorem ls_pick {b c : Nat} {q : Option Addr} {zs : List Int} {L M : List Atom} (e : Ent L ([pt b [.slice q zs.length c], own 3 1 (.slice q zs.length c) zs.length (iS zs)] ++ M)) : Ent L (lsA b zs :: M) := e.trans (Ent.append ls_shut (Ent.refl M))
set_option maxHeartbeats 4000000 in
theorem same45 (β : Base) (q1 q2 : Option Addr) (c1 c2 : Nat) {zs : List Int} (hl : zs.length ≤ 100000) : Tri Tryz.prog β 45 [.slice q1 zs.length c1, .slice q2 zs.length c2] [own 3 1 (.slice q1 zs.length c1) zs.length (iS zs), own 3 1 (.slice q2 zs.length c2) zs.length (iS zs)] (fun v L => v = .bool true ∧ L = []) := by
 refine Tri.intro tt_ok Tryz.func45 rfl rfl Tryz.ntmps45 rfl fun F => ?_
 have hlx : ∀ k, k < zs.length → zs[k]? = some (zs.getD k 0) := fun k hk => by rw [List.getD_eq_getElem?_getD, List.getElem?_eq_getElem hk]; rfl
 generalize hn : zs.length = n at hl hlx ⊢
 refine G tt_ok pk45 ?_
 rw [show ((n : Int) != (n : Int)) = false by simp]
 refine G tt_ok pk45 ?_
 refine CW.loop (α := Nat) (fun k => k ≤ n) (fun k => [(5, .int .i64 k), (0, .slice q1 n c1), (1, .slice q2 n c2)]) (fun k => [own 3 1 (.slice q1 n c1) n (iS zs), own 3 1 (.slice q2 n c2) n (iS zs)]) (fun k => n - k) 0 (by omega) ⟨rfl, rfl, rfl, trivial⟩ pk_ ?_
 intro k hk
 refine G tt_ok pk45 ?_
 by_cases hlt : k < n
 ·rw [decide_eq_true (show (k : Int) < (n : Int) by omega)]
  have hwr : IntKind.i64.wrap ((k : Int) + 1) = ((k + 1 : Nat) : Int) := by rw [wrap_id (by omega) (by omega)]; simp
  refine G tt_ok pk45 ?_
  refine SQ.idxO tt_ok rfl rfl (k) (rfl) rfl ?_ (hlt := hlt)
  refine G tt_ok pk45 ?_
  refine SQ.ldO tt_ok rfl rfl (i_at (hlx k hlt)) ?_
  refine G tt_ok pk45 ?_
  refine SQ.idxO tt_ok rfl rfl (k) (rfl) rfl ?_ (hlt := hlt)
  refine G tt_ok pk45 ?_
  refine SQ.ldO tt_ok rfl rfl (i_at (hlx k hlt)) ?_
  refine G tt_ok pk45 ?_
  rw [show (zs.getD k 0 != zs.getD k 0) = false by simp]
  refine G tt_ok pk45 ?_
  exact ⟨k + 1, by omega, by omega, ⟨by rw [← hwr]; rfl, rfl, rfl, trivial⟩, pk_⟩
 ·rw [decide_eq_false (show ¬ (k : Int) < (n : Int) by omega)]
  refine G tt_ok pk45 ?_
  refine CW.exit ?_
  refine G tt_ok pk45 ?_
  exact CW.ret (fin_ret rfl (A := []) (Ent.dropAll _) ⟨rfl, rfl⟩)
def evF (bs : List (Int × Int)) : List Int := bs.flatMap fun e => [(unkV e.1).1, (unkV e.1).2, e.2]
theorem evF_len (bs : List (Int × Int)) : (evF bs).length = 3 * bs.length := by
 induction bs with
 | nil => rfl
 | cons b bs ih => unfold evF at ih ⊢; rw [List.flatMap_cons, List.length_append, ih, List.length_cons]; simp only [List.length_cons, List.length_nil]; omega
theorem evF_app (bs : List (Int × Int)) (e : Int × Int) : evF (bs ++ [e]) = evF bs ++ [(unkV e.1).1, (unkV e.1).2, e.2] := by unfold evF; rw [List.flatMap_append]; rfl
theorem events29 (β : Base) (h : Nat) (x : Hx) (hx : x.ok T nc) : Tri Tryz.prog β 29 [.pointer (some ⟨h, 0, none⟩)] [hoA h nc x]
  (fun v L => ∃ b3 b1 b2 r d r2 d2, v = .func (.func 122) #[] #[.pointer (some ⟨b3, 0, none⟩)] ∧ L = hoA h nc x :: seL b3 b1 b2 r d r2 d2 x.S.ns) := by
 refine Tri.ho (enters_of Tryz.func29 (by kernel_rfl) rfl) fun a ha => ?_
 refine Tri.intro tt_ok Tryz.func29 rfl rfl Tryz.ntmps29 rfl fun F => ?_
 unfold hL hRow
 refine G tt_ok pk29 ?_
 (refine ka rfl rfl (sall73 β a.sp hx.S) ?_; rintro _ _ ⟨b3, b1, b2, r, d, r2, d2, rfl, rfl⟩; refine w_ ?_)
 unfold seL thL
 refine G tt_ok pk29 ?_
 refine CW.ret (fin_ret rfl (A := hoA h nc x :: seL b3 b1 b2 r d r2 d2 x.S.ns) ?_ ⟨b3, b1, b2, r, d, r2, d2, rfl, rfl⟩)
 refine (show Ent _ (hL h a nc x ++ seL b3 b1 b2 r d r2 d2 x.S.ns) from by unfold hL hRow seL thL; exact pk_).trans ?_
 exact Ent.append (ho_shut ha) (Ent.refl _)
set_option maxHeartbeats 4000000 in
theorem many42 (β : Base) (h : Nat) (x : Hx) (hx : x.ok T nc) : Tri Tryz.prog β 42 [.pointer (some ⟨h, 0, none⟩)] [hoA h nc x] (fun v L => v = .int .i64 (x.S.ns.length : Int) ∧ L = [hoA h nc x]) := by
 have hS := hx.S.1
 refine Tri.intro tt_ok Tryz.func42 rfl rfl Tryz.ntmps42 rfl fun F => ?_
 (refine G tt_ok pk42 ?_; repeat (refine G1 tt_ok pk42 ?_; intro _))
 rename_i c3
 (refine ka rfl rfl (events29 β h x hx) ?_; rintro _ _ ⟨b3, b1, b2, r, d, r2, d2, rfl, rfl⟩; refine w_ ?_)
 refine G tt_ok pk42 ?_
 have hI := iter122 β b3 b1 b2 r d r2 d2 (bs := x.S.ns) (by omega)
 have hpl : ∀ pre : List (Int × Int), ∀ y, (pre ++ [y]) <+: x.S.ns → pre.length < 512 := fun pre y hp => by have := hp.length_le; simp at this; omega
 generalize x.S.ns = bs at hI hpl ⊢
 unfold seL thL at hI ⊢
 refine CW.rangeA rfl hI (by repeat (first | exact .n | exact Rm.h | apply Tk.c | apply Rm.t)) (fun pre => [pt c3 [.int .i64 (pre.length : Int)], hoA h nc x]) (fun _ _ => False) pk_ (fun _ => rfl) (by decide) ?_ ?_ (fun _ _ h => h.elim)
 ·intro pre y hpre lp fm rec1
  have hlt := hpl pre y hpre
  have hwr : IntKind.i64.wrap ((pre.length : Int) + 1) = ((pre ++ [y]).length : Int) := by rw [wrap_id (by omega) (by omega)]; simp
  refine G tt_ok pk42 ?_
  intro fm2 rec2
  refine G tt_ok pk42 ?_
  rw [hwr]
  exact pk_
 ·refine G tt_ok pk42 ?_
  exact CW.ret (fin_ret rfl (A := [hoA h nc x]) pk_ ⟨rfl, rfl⟩)
set_option maxHeartbeats 8000000 in
theorem list46 (β : Base) (h : Nat) (x : Hx) (hx : x.ok T nc) : Tri Tryz.prog β 46 [.pointer (some ⟨h, 0, none⟩)] [hoA h nc x]
  (fun v L => ∃ q c, v = .slice q (evF x.S.ns).length c ∧ L = [hoA h nc x, own 3 1 (.slice q (evF x.S.ns).length c) (evF x.S.ns).length (iS (evF x.S.ns))]) := by
 have hS := hx.S.1
 refine Tri.intro tt_ok Tryz.func46 rfl rfl Tryz.ntmps46 rfl fun F => ?_
 (refine G tt_ok pk46 ?_; repeat (refine G1 tt_ok pk46 ?_; intro _))
 rename_i c3
 (refine ka rfl rfl (events29 β h x hx) ?_; rintro _ _ ⟨b3, b1, b2, r, d, r2, d2, rfl, rfl⟩; refine w_ ?_)
 refine G tt_ok pk46 ?_
 have hI := iter122 β b3 b1 b2 r d r2 d2 (bs := x.S.ns) (by omega)
 have hpl : ∀ pre : List (Int × Int), ∀ y, (pre ++ [y]) <+: x.S.ns → pre.length < 512 := fun pre y hp => by have := hp.length_le; simp at this; omega
 generalize x.S.ns = bs at hI hpl ⊢
 unfold seL thL at hI ⊢
 refine CW.rangeA rfl hI (by repeat (first | exact .n | exact Rm.h | apply Tk.c | apply Rm.t)) (fun pre => [lsA c3 (evF pre), hoA h nc x]) (fun _ _ => False) ?_ (fun _ => rfl) (by decide) ?_ ?_ (fun _ _ h => h.elim)
 ·refine ((own_nil 3 1).trans (ls_pick (b := c3) (c := 0) (q := none) (zs := []) (M := [hoA h nc x]) ?_))
  exact pk_
 ·intro pre y hpre lp fm rec1
  have hlt := hpl pre y hpre
  have hlen := evF_len pre
  have happ := evF_app pre y
  have hlen2 := evF_len (pre ++ [y])
  rw [List.length_append, List.length_singleton] at hlen2
  unfold lsA
  refine CW.open_ fun z => ?_
  obtain ⟨q, c⟩ := z
  simp only
  generalize evF (pre ++ [y]) = zs2 at happ hlen2 ⊢
  subst happ
  generalize evF pre = zs at hlen hlen2 ⊢
  (refine G tt_ok pk46 ?_; repeat (refine G1 tt_ok pk46 ?_; intro _))
  rename_i c4
  intro fm2 rec2
  refine G tt_ok pk46 ?_
  (refine SQ.built tt_ok rfl rfl (fun _ => w_ ?_))
  refine G tt_ok pk46 ?_
  (refine SQ.appA tt_ok rfl rfl (by repeat (first | exact Rm.h | apply Rm.t)) (by repeat (first | exact .h | exact .q | apply At.t)) ([.int .i64 (unkV y.1).1, .int .i64 (unkV y.1).2, .int .i64 y.2]) rfl rfl rfl (scal_eq rfl) (by omega) (by show (zs.length + 3) * 8 ≤ _; omega) (fun q2 cc => w_ ?_))
  refine G tt_ok pk46 ?_
  rw [decide_eq_false (show ¬ ((zs.length + 3 : Nat) : Int) > 3000 by omega)]
  refine G tt_ok pk46 ?_
  refine (show Ent _ (lsA c3 (zs ++ [(unkV y.1).1, (unkV y.1).2, y.2]) :: _) from ls_pick (q := q2) (c := cc) ?_)
  have e1 : (zs ++ [(unkV y.1).1, (unkV y.1).2, y.2]).length = zs.length + 3 := by simp
  have e2 : iS (zs ++ [(unkV y.1).1, (unkV y.1).2, y.2]) = iS zs ++ [.int .i64 (unkV y.1).1, .int .i64 (unkV y.1).2, .int .i64 y.2] := by unfold iS; rw [List.map_append]; rfl
  rw [e1, e2]
  exact pk_
 ·unfold lsA
  refine CW.ent (L' := exA (fun y : Option Addr × Nat => [pt c3 [.slice y.1 (evF bs).length y.2], own 3 1 (.slice y.1 (evF bs).length y.2) (evF bs).length (iS (evF bs))]) :: [hoA h nc x]) pk_ ?_
  refine CW.open_ fun z => ?_
  obtain ⟨q, c⟩ := z
  simp only
  generalize evF bs = zs
  refine G tt_ok pk46 ?_
  exact CW.ret (fin_ret rfl (A := [hoA h nc x, own 3 1 (.slice q zs.length c) zs.length (iS zs)]) pk_ ⟨q, c, rfl, rfl⟩)
def allE (de ev : List Int) (d : Nat) : Nat → List Int
 | 0 => []
 | e + 1 => allE de ev d e ++ (match fnd de ev d e with
  | some n => [(d : Int), (e : Int), (n : Int)]
  | none => [])
def allD (de ev : List Int) : Nat → List Int
 | 0 => []
 | d + 1 => allD de ev d ++ allE de ev d 16
theorem allE_s (de ev : List Int) (d e : Nat) : allE de ev d (e + 1) = allE de ev d e ++ (match fnd de ev d e with
  | some n => [(d : Int), (e : Int), (n : Int)]
  | none => []) := rfl
theorem allD_s (de ev : List Int) (d : Nat) : allD de ev (d + 1) = allD de ev d ++ allE de ev d 16 := rfl
theorem allE_len (de ev : List Int) (d : Nat) : ∀ e, (allE de ev d e).length ≤ 3 * e
 | 0 => Nat.le_refl _
 | e + 1 => by
  have := allE_len de ev d e
  rw [allE_s, List.length_append]
  cases fnd de ev d e <;> simp <;> omega
theorem allD_len (de ev : List Int) : ∀ d, (allD de ev d).length ≤ 48 * d
 | 0 => Nat.le_refl _
 | d + 1 => by
  have := allD_len de ev d
  have := allE_len de ev d 16
  rw [allD_s, List.length_append]; omega
attribute [local irreducible] allE allD
set_option maxHeartbeats 8000000 in
theorem rall43 (β : Base) (s : Nat) (dq : Option Addr) (dc : Nat) (eq : Option Addr) (ec : Nat) {de ev : List Int} (hd : de.length = 512) (he : ev.length = 512) :
  Tri Tryz.prog β 43 [.pointer (some ⟨s, 0, none⟩)] (sdL s dq dc eq ec de ev) (fun v L => ∃ q c, v = .slice q (allD de ev 32).length c ∧ L = own 3 1 (.slice q (allD de ev 32).length c) (allD de ev 32).length (iS (allD de ev 32)) :: sdL s dq dc eq ec de ev) := by
 refine Tri.intro tt_ok Tryz.func43 rfl rfl Tryz.ntmps43 rfl fun F => ?_
 unfold sdL
 refine G tt_ok pk43 ?_
 refine CW.ent (own_nil 3 1) ?_
 refine CW.loop (α := Nat × Option Addr × Nat) (fun y => y.1 ≤ 32) (fun y => [(4, .int .i64 y.1), (3, .slice y.2.1 (allD de ev y.1).length y.2.2), (0, .pointer (some ⟨s, 0, none⟩))])
  (fun y => [own 3 1 (.slice y.2.1 (allD de ev y.1).length y.2.2) (allD de ev y.1).length (iS (allD de ev y.1)), pt s [.slice dq 512 dc, .slice eq 512 ec], rowA dq 512 (iS de), rowA eq 512 (iS ev)]) (fun y => 32 - y.1) (0, none, 0) (by simp) ?_ ?_ ?_
 ·rw [show allD de ev 0 = [] by unfold allD; rfl]; exact ⟨rfl, rfl, rfl, trivial⟩
 ·rw [show allD de ev 0 = [] by unfold allD; rfl]; exact pk_
 rintro ⟨k, q, c⟩ hk
 simp only at hk ⊢
 have hlk := allD_len de ev k
 have hsk := allD_s de ev k
 generalize hzk : allD de ev k = zk at hlk hsk ⊢
 refine G tt_ok pk43 ?_
 by_cases hlt : k < 32
 ·rw [decide_eq_true (show (k : Int) < 32 by omega)]
  have hwr : IntKind.i64.wrap ((k : Int) + 1) = ((k + 1 : Nat) : Int) := by rw [wrap_id (by omega) (by omega)]; simp
  refine G tt_ok pk43 ?_
  refine CW.loop (α := Nat × Option Addr × Nat) (fun y => y.1 ≤ 16) (fun y => [(5, .int .i64 y.1), (4, .int .i64 k), (3, .slice y.2.1 (zk ++ allE de ev k y.1).length y.2.2), (0, .pointer (some ⟨s, 0, none⟩))])
   (fun y => [own 3 1 (.slice y.2.1 (zk ++ allE de ev k y.1).length y.2.2) (zk ++ allE de ev k y.1).length (iS (zk ++ allE de ev k y.1)), pt s [.slice dq 512 dc, .slice eq 512 ec], rowA dq 512 (iS de), rowA eq 512 (iS ev)]) (fun y => 16 - y.1) (0, q, c) (by simp) ?_ ?_ ?_
  ·rw [show allE de ev k 0 = [] by unfold allE; rfl, List.append_nil]; exact ⟨rfl, rfl, rfl, rfl, trivial⟩
  ·rw [show allE de ev k 0 = [] by unfold allE; rfl, List.append_nil]; exact pk_
  rintro ⟨j, q, c⟩ hj
  simp only at hj ⊢
  have hlj := allE_len de ev k j
  have hsj := allE_s de ev k j
  have hzl : (zk ++ allE de ev k j).length ≤ 2000 := by rw [List.length_append]; omega
  have hzj : zk ++ allE de ev k (j + 1) = (zk ++ allE de ev k j) ++ (match fnd de ev k j with | some n => [(k : Int), (j : Int), (n : Int)] | none => []) := by rw [hsj, List.append_assoc]
  have hf := rfind93 β s dq dc eq ec hd he (k : Int) (j : Int)
  unfold sdL at hf
  by_cases hlt2 : j < 16
  ·generalize hzz : zk ++ allE de ev k j = zs at hzl hzj ⊢
   have hwj : IntKind.i64.wrap ((j : Int) + 1) = ((j + 1 : Nat) : Int) := by rw [wrap_id (by omega) (by omega)]; simp
   refine G tt_ok pk43 ?_
   rw [decide_eq_true (show (j : Int) < 16 by omega)]
   refine G tt_ok pk43 ?_
   refine ke rfl rfl (hf) ?_
   cases hn : fnd de ev k j with
   | none =>
    unfold fndI
    refine G tt_ok pk43 ?_
    refine ⟨(j + 1, q, c), by simp only; omega, by simp only; omega, ?_, ?_⟩
    ·simp only
     rw [hzj, hn, List.append_nil]
     exact ⟨by rw [← hwj]; rfl, rfl, rfl, rfl, trivial⟩
    ·simp only
     rw [hzj, hn, List.append_nil]
     exact pk_
   | some n =>
    unfold fndI
    refine G tt_ok pk43 ?_
    rw [decide_eq_true (show (n : Int) ≥ 0 by omega)]
    refine G tt_ok pk43 ?_
    (refine SQ.built tt_ok rfl rfl (fun _ => w_ ?_))
    refine G tt_ok pk43 ?_
    (refine SQ.appA tt_ok rfl rfl (by repeat (first | exact Rm.h | apply Rm.t)) (by repeat (first | exact .h | exact .q | apply At.t)) ([.int .i64 (k : Int), .int .i64 (j : Int), .int .i64 (n : Int)]) rfl rfl rfl (scal_eq rfl) (by omega) (by show (zs.length + 3) * 8 ≤ _; omega) (fun q2 cc => w_ ?_))
    refine G tt_ok pk43 ?_
    have e1 : (zs ++ [(k : Int), (j : Int), (n : Int)]).length = zs.length + 3 := by simp
    have e2 : iS (zs ++ [(k : Int), (j : Int), (n : Int)]) = iS zs ++ [.int .i64 (k : Int), .int .i64 (j : Int), .int .i64 (n : Int)] := by unfold iS; rw [List.map_append]; rfl
    refine ⟨(j + 1, q2, cc), by simp only; omega, by simp only; omega, ?_, ?_⟩
    ·simp only
     rw [hzj, hn, e1]
     exact ⟨by rw [← hwj]; rfl, rfl, rfl, rfl, trivial⟩
    ·simp only
     rw [hzj, hn, e1, e2]
     exact pk_
  ·obtain rfl : j = 16 := by omega
   rw [← hsk]
   refine G tt_ok pk43 ?_
   refine CW.exit ?_
   refine G tt_ok pk43 ?_
   exact ⟨(k + 1, q, c), by simp only; omega, by simp only; omega, ⟨by rw [← hwr]; rfl, rfl, rfl, trivial⟩, pk_⟩
 ·rw [decide_eq_false (show ¬ (k : Int) < 32 by omega)]
  refine G tt_ok pk43 ?_
  refine CW.exit ?_
  obtain rfl : k = 32 := by omega
  refine G tt_ok pk43 ?_
  rw [hzk]
  exact CW.ret (fin_ret rfl (A := own 3 1 (.slice q zk.length c) zk.length (iS zk) :: [pt s [.slice dq 512 dc, .slice eq 512 ec], rowA dq 512 (iS de), rowA eq 512 (iS ev)]) pk_ ⟨q, c, rfl, rfl⟩)
end Go.Proofs.YtakkogdmlbkdaaaGreatDoor.Sl.It
namespace Go.Proofs.YtakkogdmlbkdaaaGreatDoor.Sl.It
attribute [local irreducible] CW Tri OW
@[reducible] def pk40 : List (Nat × Plan) := []
attribute [local irreducible] fnd frI
variable {T ns nc : Nat}
set_option maxHeartbeats 4000000 in
theorem rsnew40 (β : Base) (M : Nat) (hM : M ≤ 512) : Tri Tryz.prog β 40 [.int .i64 (M : Int)] [] (fun v L => ∃ s q c q2 c2, v = .tuple #[.pointer (some ⟨s, 0, none⟩), .bool true] ∧ L = [pt s [.slice q M c, .slice q2 M c2], rowA q M (iS (List.replicate M (-1))), rowA q2 M (iS (List.replicate M (-1)))]) := by
 refine Tri.intro tt_ok Tryz.func40 rfl rfl Tryz.ntmps40 rfl fun F => ?_
 refine G tt_ok pk40 ?_
 rw [decide_eq_false (show ¬ (M : Int) < 0 by omega)]
 refine G tt_ok pk40 ?_
 rw [decide_eq_false (show ¬ (M : Int) > 512 by omega)]
 (refine G tt_ok pk40 ?_; repeat (refine G1 tt_ok pk40 ?_; intro _))
 rename_i s
 refine CW.ent ((own_nil 3 1).trans (own_nil 3 1)) ?_
 refine CW.loop (α := Nat × (Option Addr × Nat) × (Option Addr × Nat)) (fun y => y.1 ≤ M) (fun y => [(5, .int .i64 y.1), (4, .pointer (some ⟨s, 0, none⟩)), (0, .int .i64 (M : Int))])
  (fun y => [own 3 1 (.slice y.2.1.1 y.1 y.2.1.2) y.1 (iS (List.replicate y.1 (-1))), own 3 1 (.slice y.2.2.1 y.1 y.2.2.2) y.1 (iS (List.replicate y.1 (-1))), pt s [.slice y.2.1.1 y.1 y.2.1.2, .slice y.2.2.1 y.1 y.2.2.2]]) (fun y => M - y.1) (0, (none, 0), (none, 0)) (by simp) ⟨rfl, rfl, rfl, trivial⟩ pk_ ?_
 rintro ⟨k, ⟨q, c⟩, q2, c2⟩ hk
 simp only at hk ⊢
 have e1 : iS (List.replicate (k + 1) (-1)) = iS (List.replicate k (-1)) ++ [.int .i64 (-1)] := by rw [List.replicate_succ']; unfold iS; rw [List.map_append]; rfl
 generalize hcs : iS (List.replicate k (-1)) = cs at e1 ⊢
 refine G tt_ok pk40 ?_
 by_cases hlt : k < M
 ·rw [decide_eq_true (show (k : Int) < (M : Int) by omega)]
  have hwr : IntKind.i64.wrap ((k : Int) + 1) = ((k + 1 : Nat) : Int) := by rw [wrap_id (by omega) (by omega)]; simp
  refine G tt_ok pk40 ?_
  (refine SQ.built tt_ok rfl rfl (fun _ => w_ ?_))
  refine G tt_ok pk40 ?_
  (refine SQ.appA tt_ok rfl rfl (by repeat (first | exact Rm.h | apply Rm.t)) (by repeat (first | exact .h | exact .q | apply At.t)) ([.int .i64 (-1)]) rfl rfl rfl (scal_eq rfl) (by omega) (by show (k + 1) * 8 ≤ _; omega) (fun qa ca => w_ ?_))
  refine G tt_ok pk40 ?_
  (refine SQ.built tt_ok rfl rfl (fun _ => w_ ?_))
  refine G tt_ok pk40 ?_
  (refine SQ.appA tt_ok rfl rfl (by repeat (first | exact Rm.h | apply Rm.t)) (by repeat (first | exact .h | exact .q | apply At.t)) ([.int .i64 (-1)]) rfl rfl rfl (scal_eq rfl) (by omega) (by show (k + 1) * 8 ≤ _; omega) (fun qb cb => w_ ?_))
  refine G tt_ok pk40 ?_
  exact ⟨(k + 1, (qa, ca), (qb, cb)), by simp only; omega, by simp only; omega, ⟨by rw [← hwr]; rfl, rfl, rfl, trivial⟩, by simp only; rw [e1]; exact pk_⟩
 ·rw [decide_eq_false (show ¬ (k : Int) < (M : Int) by omega)]
  obtain rfl : k = M := by omega
  refine G tt_ok pk40 ?_
  refine CW.exit ?_
  refine G tt_ok pk40 ?_
  rw [hcs]
  refine CW.ret (fin_ret rfl (A := [pt s [.slice q k c, .slice q2 k c2], rowA q k cs, rowA q2 k cs]) ?_ ⟨s, q, c, q2, c2, rfl, rfl⟩)
  refine (show Ent _ ([own 3 1 (.slice q k c) k cs] ++ ([own 3 1 (.slice q2 k c2) k cs] ++ [pt s [.slice q k c, .slice q2 k c2]])) from pk_).trans ?_
  refine (Ent.append own_row (Ent.append own_row (Ent.refl _))).trans ?_
  exact pk_
@[reducible] def lsE (l : List Nat) : Array Bool := ((List.range 11).map fun i => l.contains i || [0, 1, 3, 5].contains i).toArray
@[reducible] def vE (b n : Nat) : Value := .slice (some ⟨b, 0, none⟩) n n
@[reducible] def mE (t : TI) (b n : Nat) : Atom := pt b (madeCells t.zero.cells (n * t.size)).toList
@[reducible] def daN (s : Nat) (dq : Option Addr) (dc : Nat) (eq : Option Addr) (ec x y z ns nc : Nat) : Da := ⟨s, dq, dc, eq, ec, some ⟨x, 0, none⟩, ns, some ⟨y, 0, none⟩, ns, some ⟨z, 0, none⟩, nc⟩
@[reducible] def BE (s ns nc : Nat) : Env := [(34, .pointer (some ⟨s, 0, none⟩)), (35, .int .i64 ns), (37, .int .i64 ns), (39, .int .i64 nc)]
@[reducible] def RD (s : Nat) (dq : Option Addr) (dc : Nat) (eq : Option Addr) (ec : Nat) (RR : List Int) : List Atom := [pt s [.slice dq 512 dc, .slice eq 512 ec], rowA dq 512 (iS RR), rowA eq 512 (iS RR)]
theorem made_b (n : Nat) : (madeCells ti4.zero.cells (n * ti4.size)).toList = bS (List.replicate n false) := by
 have h := made_flat_of (α := Unit) (enc := fun _ => [Value.bool false]) (a := ()) ti4.zero.cells rfl (by decide) n
 refine h.trans ?_
 unfold bS
 rw [List.map_replicate]
 induction n with
 | zero => rfl
 | succ n ih => rw [List.replicate_succ, List.flatMap_cons, List.replicate_succ, ← ih (made_flat_of (α := Unit) (enc := fun _ => [Value.bool false]) (a := ()) ti4.zero.cells rfl (by decide) n)]; rfl
theorem rnew_no (β : Base) {c s z : Int} (h : newE c s z ≠ 0) : Tri Tryz.prog β 12 [.int .i64 c, .int .i64 s, .int .i64 z] [] (fun v L => v = .tuple #[.pointer none, .int .i64 (newE c s z)] ∧ L = []) := by
 refine Tri.intro tt_ok Tryz.func12 rfl rfl Tryz.ntmps12 rfl fun F => ?_
 unfold newE at h ⊢
 refine G tt_ok [] ?_
 by_cases h0 : z < 11264
 ·rw [if_pos h0, decide_eq_true h0]
  refine G tt_ok [] ?_
  exact CW.ret (fin_ret rfl (A := []) pk_ ⟨rfl, rfl⟩)
 rw [if_neg h0, decide_eq_false h0]
 rw [if_neg h0] at h
 have h9 : z > 131072 ∨ c < 1 ∨ c > 8 ∨ s < 0 ∨ s > 64 := by
  by_cases h9 : z > 131072 ∨ c < 1 ∨ c > 8 ∨ s < 0 ∨ s > 64
  ·exact h9
  ·rw [if_neg h9] at h; exact absurd rfl h
 rw [if_pos h9]
 refine G tt_ok [] ?_
 by_cases h1 : z > 131072
 ·rw [decide_eq_true h1]
  refine G tt_ok [] ?_
  exact CW.ret (fin_ret rfl (A := []) pk_ ⟨rfl, rfl⟩)
 rw [decide_eq_false h1]
 refine G tt_ok [] ?_
 by_cases h2 : c < 1
 ·rw [decide_eq_true h2]
  refine G tt_ok [] ?_
  exact CW.ret (fin_ret rfl (A := []) pk_ ⟨rfl, rfl⟩)
 rw [decide_eq_false h2]
 refine G tt_ok [] ?_
 by_cases h3 : c > 8
 ·rw [decide_eq_true h3]
  refine G tt_ok [] ?_
  exact CW.ret (fin_ret rfl (A := []) pk_ ⟨rfl, rfl⟩)
 rw [decide_eq_false h3]
 refine G tt_ok [] ?_
 by_cases h4 : s < 0
 ·rw [decide_eq_true h4]
  refine G tt_ok [] ?_
  exact CW.ret (fin_ret rfl (A := []) pk_ ⟨rfl, rfl⟩)
 rw [decide_eq_false h4]
 refine G tt_ok [] ?_
 rw [decide_eq_true (show s > 64 by omega)]
 refine G tt_ok [] ?_
 exact CW.ret (fin_ret rfl (A := []) pk_ ⟨rfl, rfl⟩)
def rx0 (ns nc : Nat) : Rx := ⟨List.replicate 512 (-1), List.replicate 512 (-1), List.replicate 512 0, List.replicate 512 false, List.replicate ns false, List.replicate ns false, List.replicate nc false⟩
theorem rx0_ok {ns nc : Nat} (h1 : ns ≤ 64) (h2 : nc ≤ 8) : (rx0 ns nc).ok ns nc := ⟨List.length_replicate, List.length_replicate, List.length_replicate, List.length_replicate, List.length_replicate, List.length_replicate, List.length_replicate, h1, h2⟩
set_option maxHeartbeats 8000000 in
theorem rnew12 (β : Base) {nc ns z : Nat} (hn0 : 1 ≤ nc) (hn1 : nc ≤ 8) (hs1 : ns ≤ 64) (hz0 : 11264 ≤ z) (hz1 : z ≤ 131072) : Tri Tryz.prog β 12 [.int .i64 nc, .int .i64 ns, .int .i64 z] [] (fun v L => ∃ r, v = .tuple #[.pointer (some ⟨r, 0, none⟩), .int .i64 0] ∧ L = [rfA r ns nc (rx0 ns nc)]) := by
 have hsn := rsnew40 β 512 (Nat.le_refl _)
 obtain ⟨RR, hRR⟩ : ∃ RR, RR = List.replicate 512 (-1 : Int) := ⟨_, rfl⟩
 rw [← hRR] at hsn
 refine Tri.intro tt_ok Tryz.func12 rfl rfl Tryz.ntmps12 rfl fun F => ?_
 generalize hzi : (z : Int) = zi
 refine G tt_ok [] ?_
 rw [decide_eq_false (show ¬ zi < 11264 by omega)]
 refine G tt_ok [] ?_
 rw [decide_eq_false (show ¬ zi > 131072 by omega)]
 refine G tt_ok [] ?_
 rw [decide_eq_false (show ¬ (nc : Int) < 1 by omega)]
 refine G tt_ok [] ?_
 rw [decide_eq_false (show ¬ (nc : Int) > 8 by omega)]
 refine G tt_ok [] ?_
 rw [decide_eq_false (show ¬ (ns : Int) < 0 by omega)]
 refine G tt_ok [] ?_
 rw [decide_eq_false (show ¬ (ns : Int) > 64 by omega)]
 refine G tt_ok [] ?_
 (refine ka rfl rfl (hsn) ?_; rintro _ _ ⟨s, dq, dc, eq, ec, rfl, rfl⟩; refine w_ ?_)
 refine G tt_ok [] ?_
 have hs4 : ns * 1 ≤ 16777216 := by omega
 have hn4 : nc * 1 ≤ 16777216 := by omega
 have hs9 : 1 * ns ≤ 281474976710656 := by omega
 have hn9 : 1 * nc ≤ 281474976710656 := by omega
 have hs63 : ns ≤ 9223372036854775807 := by omega
 have hn63 : nc ≤ 9223372036854775807 := by omega
 refine CW.regionF tt_ok (by kernel_rfl) [0, 1, 3, 5] (by decide +kernel) (fun x : Nat × Nat × Nat × Nat => [(6, .pointer (some ⟨x.1, 0, none⟩)), (7, .int .i64 0)])
  (fun x => [pt x.1 (rowR (daN s dq dc eq ec x.2.1 x.2.2.1 x.2.2.2 ns nc) ns nc (List.replicate 512 0) (List.replicate 512 false)), mE ti4 x.2.1 ns, mE ti4 x.2.2.1 ns, mE ti4 x.2.2.2 nc] ++ RD s dq dc eq ec RR) ?_ ?_
 ·refine ⟨_, _, rfl, rfl, rfl, rfl, _, _, rfl, rfl, rfl, rfl, _, _, rfl, rfl, rfl, rfl, _, _, rfl, rfl, rfl, rfl, ?_⟩
  show BQ _ _ _ _ _ _ _ 7 (lsE []) _ _
  refine BQ.abs fun B1 hs hz => ?_
  have b2_4_6 : ∀ x : Nat × Nat × Nat, B1 4 (lsE [2, 4, 6]) ([(36, vE x.1 ns), (38, vE x.2.1 ns), (40, vE x.2.2 nc)] ++ BE s ns nc) ([mE ti4 x.1 ns, mE ti4 x.2.1 ns, mE ti4 x.2.2 nc] ++ RD s dq dc eq ec RR) := fun x => by
   refine hs _ _ _ _ [7] (by decide +kernel) ⟨⟨_, rfl, rfl, ?_⟩, trivial⟩
   refine SQ.bld tt_ok rfl rfl (cs := rowR (daN s dq dc eq ec x.1 x.2.1 x.2.2 ns nc) ns nc (List.replicate 512 0) (List.replicate 512 false)) (by kernel_rfl) ?_
   refine SQ.nil ?_
   refine hs _ _ _ _ [8] (by decide +kernel) ⟨⟨_, rfl, rfl, ?_⟩, trivial⟩
   refine SQ.boxL rfl rfl rfl fun p => ?_
   refine SQ.nil ?_
   refine hs _ _ _ _ [9] (by decide +kernel) ⟨⟨_, rfl, rfl, ?_⟩, trivial⟩
   refine SQ.pures1 tt_ok rfl ?_
   refine SQ.nil ?_
   refine hs _ _ _ _ [10] (by decide +kernel) ⟨⟨_, rfl, rfl, ?_⟩, trivial⟩
   refine SQ.pures1 tt_ok rfl ?_
   refine SQ.nil ?_
   exact hz _ _ _ ⟨by decide +kernel, (p, x.1, x.2.1, x.2.2), ⟨rfl, rfl, trivial⟩, Ent.refl _⟩
  have b2_4 : ∀ x : Nat × Nat × Nat, B1 5 (lsE [2, 4]) ([(36, vE x.1 ns), (38, vE x.2.1 ns)] ++ BE s ns nc) ([mE ti4 x.1 ns, mE ti4 x.2.1 ns] ++ RD s dq dc eq ec RR) := fun x => by
   refine hs _ _ _ _ [6] (by decide +kernel) ⟨⟨_, rfl, rfl, ?_⟩, trivial⟩
   ·exact SQ.make tt_ok rfl rfl nc rfl rfl hn4 hn9 hn63 fun g => ⟨trivial, dp_ (b2_4_6 (x.1, x.2.1, g)) (hA := mv_ 2 rfl)⟩
  have b2_6 : ∀ x : Nat × Nat × Nat, B1 5 (lsE [2, 6]) ([(36, vE x.1 ns), (40, vE x.2.2 nc)] ++ BE s ns nc) ([mE ti4 x.1 ns, mE ti4 x.2.2 nc] ++ RD s dq dc eq ec RR) := fun x => by
   refine hs _ _ _ _ [4] (by decide +kernel) ⟨⟨_, rfl, rfl, ?_⟩, trivial⟩
   ·exact SQ.make tt_ok rfl rfl ns rfl rfl hs4 hs9 hs63 fun g => ⟨trivial, dp_ (b2_4_6 (x.1, g, x.2.2)) (hA := mv_ 1 rfl)⟩
  have b4_6 : ∀ x : Nat × Nat × Nat, B1 5 (lsE [4, 6]) ([(38, vE x.2.1 ns), (40, vE x.2.2 nc)] ++ BE s ns nc) ([mE ti4 x.2.1 ns, mE ti4 x.2.2 nc] ++ RD s dq dc eq ec RR) := fun x => by
   refine hs _ _ _ _ [2] (by decide +kernel) ⟨⟨_, rfl, rfl, ?_⟩, trivial⟩
   ·exact SQ.make tt_ok rfl rfl ns rfl rfl hs4 hs9 hs63 fun g => ⟨trivial, dp_ (b2_4_6 (g, x.2)) (hA := mv_ 0 rfl)⟩
  have b2 : ∀ x : Nat × Nat × Nat, B1 6 (lsE [2]) ([(36, vE x.1 ns)] ++ BE s ns nc) ([mE ti4 x.1 ns] ++ RD s dq dc eq ec RR) := fun x => by
   refine hs _ _ _ _ [4, 6] (by decide +kernel) ⟨⟨_, rfl, rfl, ?_⟩, ⟨_, rfl, rfl, ?_⟩, trivial⟩
   ·exact SQ.make tt_ok rfl rfl ns rfl rfl hs4 hs9 hs63 fun g => ⟨trivial, dp_ (b2_4 (x.1, g, x.2.2)) (hA := mv_ 1 rfl)⟩
   ·exact SQ.make tt_ok rfl rfl nc rfl rfl hn4 hn9 hn63 fun g => ⟨trivial, dp_ (b2_6 (x.1, x.2.1, g)) (hA := mv_ 1 rfl)⟩
  have b4 : ∀ x : Nat × Nat × Nat, B1 6 (lsE [4]) ([(38, vE x.2.1 ns)] ++ BE s ns nc) ([mE ti4 x.2.1 ns] ++ RD s dq dc eq ec RR) := fun x => by
   refine hs _ _ _ _ [2, 6] (by decide +kernel) ⟨⟨_, rfl, rfl, ?_⟩, ⟨_, rfl, rfl, ?_⟩, trivial⟩
   ·exact SQ.make tt_ok rfl rfl ns rfl rfl hs4 hs9 hs63 fun g => ⟨trivial, dp_ (b2_4 (g, x.2)) (hA := mv_ 0 rfl)⟩
   ·exact SQ.make tt_ok rfl rfl nc rfl rfl hn4 hn9 hn63 fun g => ⟨trivial, dp_ (b4_6 (x.1, x.2.1, g)) (hA := mv_ 1 rfl)⟩
  have b6 : ∀ x : Nat × Nat × Nat, B1 6 (lsE [6]) ([(40, vE x.2.2 nc)] ++ BE s ns nc) ([mE ti4 x.2.2 nc] ++ RD s dq dc eq ec RR) := fun x => by
   refine hs _ _ _ _ [2, 4] (by decide +kernel) ⟨⟨_, rfl, rfl, ?_⟩, ⟨_, rfl, rfl, ?_⟩, trivial⟩
   ·exact SQ.make tt_ok rfl rfl ns rfl rfl hs4 hs9 hs63 fun g => ⟨trivial, dp_ (b2_6 (g, x.2)) (hA := mv_ 0 rfl)⟩
   ·exact SQ.make tt_ok rfl rfl ns rfl rfl hs4 hs9 hs63 fun g => ⟨trivial, dp_ (b4_6 (x.1, g, x.2.2)) (hA := mv_ 0 rfl)⟩
  have x : Nat × Nat × Nat := (0, 0, 0)
  refine hs _ _ _ _ [2, 4, 6] (by decide +kernel) ⟨⟨_, rfl, rfl, ?_⟩, ⟨_, rfl, rfl, ?_⟩, ⟨_, rfl, rfl, ?_⟩, trivial⟩
  ·exact SQ.make tt_ok rfl rfl ns rfl rfl hs4 hs9 hs63 fun g => ⟨trivial, dp_ (b2 (g, x.2)) (hA := mv_ 0 rfl)⟩
  ·exact SQ.make tt_ok rfl rfl ns rfl rfl hs4 hs9 hs63 fun g => ⟨trivial, dp_ (b4 (x.1, g, x.2.2)) (hA := mv_ 0 rfl)⟩
  ·exact SQ.make tt_ok rfl rfl nc rfl rfl hn4 hn9 hn63 fun g => ⟨trivial, dp_ (b6 (x.1, x.2.1, g)) (hA := mv_ 0 rfl)⟩
 ·rintro ⟨r, x, y, w⟩
  simp only
  refine G tt_ok [] ?_
  refine CW.ret (fin_ret rfl (A := [rfA r ns nc (rx0 ns nc)]) (rf_pick (a := daN s dq dc eq ec x y w ns nc) ?_) ⟨r, rfl, rfl⟩)
  have hrw : ∀ (b n : Nat), Ent [mE ti4 b n] [rowA (some ⟨b, 0, none⟩) n (bS (List.replicate n false))] := fun b n => by
   unfold mE
   rw [made_b]
   have := row_close (g := b) (n := n) (cs := bS (List.replicate n false)) (rest := [])
   rwa [List.append_nil] at this
  refine (show Ent _ ([mE ti4 x ns] ++ ([mE ti4 y ns] ++ ([mE ti4 w nc] ++ (pt r (rowR (daN s dq dc eq ec x y w ns nc) ns nc (List.replicate 512 0) (List.replicate 512 false)) :: RD s dq dc eq ec RR)))) from pk_).trans ?_
  refine (Ent.append (hrw _ _) (Ent.append (hrw _ _) (Ent.append (hrw _ _) (Ent.refl _)))).trans ?_
  unfold rfL rx0
  rw [← hRR]
  exact pk_
end Go.Proofs.YtakkogdmlbkdaaaGreatDoor.Sl.It
namespace Go.Proofs.YtakkogdmlbkdaaaGreatDoor.Sl
section
variable {P : Program} {β : Base} {rnd : Option (Nat × Loop)} {N : Nat} {env : Env} {L : List Atom} {K : Env → List Atom → Prop} {ops : Array Oper} {T : TT}
def apN (T : TT) (N : Nat) (ops : Array Oper) (env : Env) (o : Oper) : Option (Nat × Nat × TI × Option Addr × Nat × Nat) :=
 match dstE N ops env o with
 | some d => match o.op with
  | .call c => match c.callee, c.args.toList, c.argTypes.toList with
   | .builtin .append, [x, y], [t, t2] => match Nat.beq t t2 with
    | true => match T.get t with
     | some ti => match ti.desc with
      | .slice e => match T.get e, ev env x, ev env y with
       | some te, some (.slice none 0 0), some (.slice q m k) => some (d, e, te, q, m, k)
       | _, _, _ => none
      | _ => none
     | none => none
    | false => none
   | _, _, _ => none
  | _ => none
 | none => none
theorem apN_eq {o : Oper} {d e m k : Nat} {te : TI} {q : Option Addr} {b off : Nat} (h : apN T N ops env o = some (d, e, te, q, m, k)) (hq : q = some ⟨b, off, none⟩) : apE T N ops env o = some (d, e, te, .slice none 0 0, b, off, m) := by
 unfold apN at h
 unfold apE
 split at h <;> try (cases h; done)
 rename_i d' hde
 rw [hde]
 simp only
 split at h <;> try (cases h; done)
 rename_i c hop
 rw [hop]
 simp only
 split at h <;> try (cases h; done)
 rename_i x y t t2 hc ha hat
 rw [hc, ha, hat]
 simp only
 split at h <;> try (cases h; done)
 rename_i htt
 rw [htt]
 simp only
 split at h <;> try (cases h; done)
 rename_i ti hti
 rw [hti]
 simp only
 split at h <;> try (cases h; done)
 rename_i e' hde2
 rw [hde2]
 simp only
 split at h <;> try (cases h; done)
 rename_i te' q' m' k' hte hx hy
 cases h
 subst hq
 rw [hte, hx, hy]
theorem SQ.appRow (hT : TTok P T) {s : Stp} {r : List Stp} {obs : Obs} {d e m k : Nat} {te : TI} {q : Option Addr} (he : s.k = 1) (h : apN T N ops env s.o = some (d, e, te, q, m, k)) {news : List Value} (ha : AtR q m news L)
  (hl : news.length = m * te.size) (hz : (vcells te.zero).length = te.size) (h1 : ∀ u ∈ news, u.oneCell' = true) (h63 : m ≤ 4611686018427387904) (hby : m * te.bytes ≤ 140737488355328)
  (kk : ∀ q' c', watchOk β obs (own e te.size (.slice q' m c') m news :: L) s.watch ∧ SQ P β rnd N T ops K r obs ((d, .slice q' m c') :: env) (own e te.size (.slice q' m c') m news :: L)) : SQ P β rnd N T ops K (s :: r) obs env L := by
 by_cases hm : m = 0
 ·subst hm
  have hn : news = [] := List.eq_nil_of_length_eq_zero (by simpa using hl)
  subst hn
  unfold apN at h
  split at h <;> try (cases h; done)
  rename_i d' hde
  obtain ⟨hw, hd, hdl⟩ := dstE_eq hde
  split at h <;> try (cases h; done)
  rename_i c hop
  split at h <;> try (cases h; done)
  rename_i x y t t2 hc ha2 hat
  split at h <;> try (cases h; done)
  rename_i htt
  have htt := Nat.eq_of_beq_eq_true htt
  subst htt
  split at h <;> try (cases h; done)
  rename_i ti hti
  split at h <;> try (cases h; done)
  rename_i e' hde2
  split at h <;> try (cases h; done)
  rename_i te' q' m' k' hte hx hy
  simp only [Option.some.injEq, Prod.mk.injEq] at h
  obtain ⟨rfl, rfl, rfl, rfl, rfl, rfl⟩ := h
  refine SQ.act he hw fun fm nn Qx a w st0 => ?_
  obtain ⟨hen, Ds, hds, st⟩ := st0
  have hu := (hT.get hti).1.1
  rw [hde2] at hu
  obtain ⟨inf, hinf, hsz, hbt, hzz⟩ := (hT.get hte).info
  have hrun : (Builtin.append_ #[t, t] s.o.type #[.slice none 0 0, .slice q' 0 k']).run P w = .ok (.slice none 0 0) w := by
   simp [Builtin.append_, run_underlying hu, sizeOf, Go.run_typeInfo w hinf, Builtin.lenOf, Builtin.firstCells, loadCells, loadCellsFrom]
   cases q' <;> simp [loadCells, loadCellsFrom]
  have e2 : (execOp a.eval s.o).run P w = .ok (.value (.slice none 0 0)) w := by
   obtain ⟨si, ⟨dst, op, type, pos, after, guard⟩, se, sw⟩ := s
   obtain ⟨callee, args, ats⟩ := c
   simp only at hop hc ha2 hat
   subst hop
   subst hc
   obtain rfl : args = #[x, y] := Array.toList_inj.1 (by simpa using ha2)
   obtain rfl : ats = #[t, t] := Array.toList_inj.1 (by simpa using hat)
   simp only [execOp, resolve, invoke, builtin, Sem.run_bind, Sem.run_pure, Result.andThen]
   have e3 : (#[x, y] : Array Operand).map a.eval = #[.slice none 0 0, .slice q' 0 k'] := by simp [hen.eval hx, hen.eval hy]
   rw [e3, hrun]
  rw [e2]
  refine ⟨_, _, ⟨by rw [hd]; exact hen.put hdl _, Ds, by rw [hd]; exact hds, ?_⟩, kk none 0⟩
  have := Ent.append (Ent.refl (hid Ds ⟨rnd, fm⟩)) (own_nil (L := L) e' te'.size)
  exact st.ent this
 ·obtain ⟨M, p⟩ := ha.rm
  refine SQ.ent _ ((Ent.perm p).trans (Ent.head (row_is (by omega)))) (SQ.pure_ fun hq => SQ.ent _ (Ent.perm p.symm) ?_)
  have h2 := apN_eq h hq
  refine SQ.ent _ (own_nil e te.size) ?_
  refine SQ.appG hT he h2 0 rfl (n := 0) (cs := []) (sz := te.size) (A := rowA q m news) ?_ (.t ?_) rfl hl hz h1 (by omega) (by rw [Nat.zero_add]; exact hby) fun v' => ?_
  ·have := slr_row (β := β) (q := q) (n := m) (cs := news) (sz := te.size) hl
   rw [hq] at this
   rwa [hq]
  ·clear h2 h kk p
   induction ha with
   | h => exact .h
   | t _ ih => exact .t ih
  ·simp only [Nat.zero_add, List.nil_append, List.eraseIdx_cons_zero]
   have sh : Ent (own e te.size v' m news :: L) (exA (fun x : Option Addr × Nat => [pureA (v' = .slice x.1 m x.2), own e te.size v' m news]) :: L) := Ent.head (own_shape _ _ _ _ _)
   refine ⟨watchOk.ent sh (watchOk.open_ fun x => watchOk.pure_ fun hv => ?_), SQ.ent _ sh (SQ.open_ fun x => SQ.pure_ fun hv => ?_)⟩
   ·subst hv; exact (kk x.1 x.2).1
   ·subst hv; exact (kk x.1 x.2).2
end
end Go.Proofs.YtakkogdmlbkdaaaGreatDoor.Sl
namespace Go.Proofs.YtakkogdmlbkdaaaGreatDoor.Sl.It
attribute [local irreducible] CW Tri OW
@[reducible] def pk48 : List (Nat × Plan) := [(1, [(0, 0, []), (2, 0, []), (3, 0, []), (4, 0, []), (5, 0, []), (6, 0, []), (7, 0, []), (8, 0, []), (9, 0, []), (1, 1, [5, 9]), (10, 0, []), (11, 1, [5, 9]), (12, 0, [])]), (2, [(0, 0, []), (1, 0, []), (2, 0, []), (3, 0, []), (4, 0, []), (5, 0, []), (6, 0, []), (7, 0, []), (8, 0, []), (9, 0, []), (10, 0, []), (11, 0, []), (12, 0, []), (13, 0, []), (14, 0, []), (15, 0, []), (16, 0, []), (17, 0, []), (18, 1, [3]), (19, 0, []), (20, 0, []), (21, 1, [])]), (3, [(0, 0, []), (1, 0, []), (2, 0, []), (3, 0, []), (4, 0, []), (5, 0, []), (6, 0, []), (7, 0, []), (8, 0, []), (9, 0, []), (10, 0, []), (11, 0, []), (12, 0, []), (13, 0, []), (14, 0, []), (15, 0, []), (16, 0, []), (17, 0, []), (18, 1, [3]), (19, 0, []), (20, 0, []), (21, 1, [])]), (4, [(0, 0, []), (1, 0, []), (2, 0, []), (3, 0, []), (4, 0, []), (5, 0, []), (6, 0, []), (7, 0, []), (8, 0, []), (9, 1, []), (10, 0, []), (11, 0, []), (12, 1, [])]), (5, [(0, 0, []), (1, 0, []), (2, 0, []), (3, 0, []), (4, 0, []), (5, 0, []), (6, 0, []), (7, 0, []), (8, 0, []), (9, 1, []), (10, 0, []), (11, 0, []), (12, 1, [])]), (6, [(0, 0, []), (1, 0, []), (2, 0, []), (3, 0, []), (4, 0, []), (5, 0, []), (6, 0, []), (7, 0, []), (8, 0, []), (9, 1, []), (10, 0, []), (11, 0, []), (12, 1, [])])]
attribute [local irreducible] fnd frI
variable {T ns nc : Nat}
def rowG (s : Nat) (core : List Int) (wait : List Bool) (v1 v2 v3 : Value) : List Value := .pointer (some ⟨s, 0, none⟩) :: (iS core ++ (bS wait ++ [v1, v2, v3]))
def Z3 : List Value := [.slice none 0 0, .slice none 0 0, .slice none 0 0]
theorem Z3_len : Z3.length = 3 := rfl
section
variable {s : Nat} {core : List Int} {wait : List Bool} (hc : core.length = 512) (hw : wait.length = 512)
include hc hw
theorem rg_at (v1 v2 v3 : Value) {k : Nat} (hk : k < 3) : (rowG s core wait v1 v2 v3)[1025 + k]? = [v1, v2, v3][k]? := by
 unfold rowG
 rw [show 1025 + k = (1024 + k) + 1 by omega, List.getElem?_cons_succ, List.getElem?_append_right (by simp; omega), List.getElem?_append_right (by simp; omega)]
 rw [show 1024 + k - (iS core).length - (bS wait).length = k by simp; omega]
theorem rg_len (v1 v2 v3 : Value) : (rowG s core wait v1 v2 v3).length = 1028 := by unfold rowG; simp; omega
theorem rg_rd (v1 v2 v3 : Value) {k o : Nat} (hk : k < 3) {v : Value} (hv : [v1, v2, v3][k]? = some v) (ho : o = 1025 + k) : rdv ti106 (rowG s core wait v1 v2 v3) o = some v := by
 subst ho
 have h := rg_at (s := s) hc hw v1 v2 v3 hk
 rw [hv] at h
 show (match dropN (1025 + k) (rowG s core wait v1 v2 v3) with | v :: _ => some v | [] => none) = _
 rw [dropN_eq]
 have hl : 1025 + k < (rowG s core wait v1 v2 v3).length := by rw [rg_len hc hw]; omega
 rw [List.drop_eq_getElem_cons hl]
 rw [List.getElem?_eq_getElem hl] at h
 simpa using h
theorem rg_wr (v1 v2 v3 : Value) {k o : Nat} (hk : k < 3) {v u1 u2 u3 : Value} (hv : [v1, v2, v3].set k v = [u1, u2, u3]) (h1 : vcells v = [v]) (ho : o = 1025 + k) : wrv ti106 (rowG s core wait v1 v2 v3) o v = some (rowG s core wait u1 u2 u3) := by
 subst ho
 unfold wrv
 rw [h1]
 show (bif true then _ else none) = _
 rw [cond_true, wrAt_eq _ _ _ _ (by rw [rg_len hc hw]; omega), if_pos (by rw [rg_len hc hw]; simp; omega)]
 congr 1
 have e1 : rowG s core wait v1 v2 v3 = (.pointer (some ⟨s, 0, none⟩) :: (iS core ++ bS wait)) ++ [v1, v2, v3] := by unfold rowG; simp
 have e2 : rowG s core wait u1 u2 u3 = (.pointer (some ⟨s, 0, none⟩) :: (iS core ++ bS wait)) ++ [u1, u2, u3] := by unfold rowG; simp
 rw [e1, e2, ← hv]
 have hl : (Value.pointer (some ⟨s, 0, none⟩) :: (iS core ++ bS wait)).length = 1025 := by simp; omega
 rw [← hl, List.take_length_add_append, show (Value.pointer (some ⟨s, 0, none⟩) :: (iS core ++ bS wait)).length + k + [v].length = (Value.pointer (some ⟨s, 0, none⟩) :: (iS core ++ bS wait)).length + (k + 1) by simp; omega, List.drop_length_add_append, List.append_assoc, List.append_assoc]
 congr 1
 rw [List.set_eq_take_append_cons_drop, if_pos (by simpa using hk)]
 simp
theorem rg_arr1 (v1 v2 v3 : Value) : rdv ti107 (rowG s core wait v1 v2 v3) 1 = some (.agg (iS core).toArray) :=
 rdv_arr (A := [.pointer (some ⟨s, 0, none⟩)]) (C := iS core) (X := bS wait ++ [v1, v2, v3]) rfl rfl (by rw [show (iS core).length = core.length by simp]; exact (fun _ => hc) hw)
theorem rg_arr2 (v1 v2 v3 : Value) : rdv ti108 (rowG s core wait v1 v2 v3) 513 = some (.agg (bS wait).toArray) := by
 have := rdv_arr (i := ti108) (A := .pointer (some ⟨s, 0, none⟩) :: iS core) (C := bS wait) (X := [v1, v2, v3]) (off := 513) rfl (by simp; omega) (by rw [show (bS wait).length = wait.length by simp]; exact hw)
 rwa [show (Value.pointer (some ⟨s, 0, none⟩) :: iS core) ++ (bS wait ++ [v1, v2, v3]) = rowG s core wait v1 v2 v3 from rfl] at this
theorem fill_copy {env : Env} {x y z : Operand} (hx : ev env x = some (.pointer (some ⟨s, 0, none⟩))) (hy : ev env y = some (.agg (iS core).toArray)) (hz : ev env z = some (.agg (bS wait).toArray)) :
  fillN env ti110.places [(0, x), (1, y), (2, z)] (vcells ti110.zero) some = some (rowG s core wait (.slice none 0 0) (.slice none 0 0) (.slice none 0 0)) := by
 have hcl : (iS core).length = 512 := by rw [show (iS core).length = core.length by simp]; exact hc
 have hwl : (bS wait).length = 512 := by rw [show (bS wait).length = wait.length by simp]; exact hw
 have e0 : vcells ti110.zero = .pointer none :: (List.replicate 512 (.int .i64 0) ++ (List.replicate 512 (.bool false) ++ Z3)) := by kernel_rfl
 have p0 : nth ti110.places 0 = some (0, 1) := rfl
 have p1 : nth ti110.places 1 = some (1, 512) := rfl
 have p2 : nth ti110.places 2 = some (513, 512) := rfl
 rw [e0]
 generalize hA : List.replicate 512 (Value.int .i64 0) = A
 generalize hB : List.replicate 512 (Value.bool false) = B
 have hAl : A.length = 512 := by rw [← hA, List.length_replicate]
 have hBl : B.length = 512 := by rw [← hB, List.length_replicate]
 clear hA hB e0
 simp only [fillN, p0, p1, p2, hx, hy, hz, vcells, hcl, hwl, List.length_singleton]
 simp only [show Nat.beq 1 1 = true from rfl, show Nat.beq 512 512 = true from rfl, cond_true]
 rw [wrAt_eq _ _ _ _ (by simp), if_pos (by simp)]
 simp only [List.take_zero, List.nil_append, List.length_singleton, Nat.zero_add, List.drop_succ_cons, List.drop_zero, List.singleton_append]
 rw [wrAt_eq _ _ _ _ (by simp), if_pos (by simp [Z3_len]; omega)]
 have d1 : ((Value.pointer (some ⟨s, 0, none⟩)) :: (A ++ (B ++ Z3))).drop (1 + (iS core).length) = B ++ Z3 := by
  rw [hcl, ← hAl, Nat.add_comm, List.drop_succ_cons, List.drop_left]
 rw [d1]
 simp only [List.take_succ_cons, List.take_zero, List.singleton_append]
 rw [wrAt_eq _ _ _ _ (by simp; omega), if_pos (by simp [Z3_len]; omega)]
 have t2 : ((Value.pointer (some ⟨s, 0, none⟩) :: iS core) ++ (B ++ Z3)).take 513 = Value.pointer (some ⟨s, 0, none⟩) :: iS core := by
  rw [show 513 = (Value.pointer (some ⟨s, 0, none⟩) :: iS core).length by simp; omega]; exact List.take_left
 have d2 : ((Value.pointer (some ⟨s, 0, none⟩) :: iS core) ++ (B ++ Z3)).drop (513 + (bS wait).length) = Z3 := by
  rw [show 513 + (bS wait).length = (Value.pointer (some ⟨s, 0, none⟩) :: iS core).length + B.length by simp; omega, List.drop_length_add_append, List.drop_left]
 rw [t2, d2]
 unfold rowG Z3
 simp
end
theorem bS_one (l : List Bool) : ∀ u ∈ bS l, u.oneCell' = true := fun u hu => by
 obtain ⟨b, _, rfl⟩ := List.mem_map.1 hu; rfl
theorem iS_one (l : List Int) : ∀ u ∈ iS l, u.oneCell' = true := fun u hu => by
 obtain ⟨b, _, rfl⟩ := List.mem_map.1 hu; rfl
set_option maxHeartbeats 8000000 in
theorem rcopy48 (β : Base) (r : Nat) {R : Rx} (h : R.ok ns nc) : Tri Tryz.prog β 48 [.pointer (some ⟨r, 0, none⟩)] [rfA r ns nc R] (fun v L => ∃ r2, v = .pointer (some ⟨r2, 0, none⟩) ∧ L = [rfA r ns nc R, rfA r2 ns nc R]) := by
 refine Tri.rf (enters_of Tryz.func48 (by kernel_rfl) rfl) fun a => ?_
 obtain ⟨s, dq, dc, eq, ec, hq, hc, aq, ac, sq, sc⟩ := a
 refine Tri.intro tt_ok Tryz.func48 rfl rfl Tryz.ntmps48 rfl fun F => ?_
 obtain ⟨de, ev, core, wait, high, act, asl⟩ := R
 obtain ⟨hd, he, hco, hwa, hhi, hac, hasl, hn64, hn8⟩ := h
 simp only at hd he hco hwa hhi hac hasl
 have a1 := fun v1 v2 v3 => rg_arr1 (s := s) hco hwa v1 v2 v3
 have a2 := fun v1 v2 v3 => rg_arr2 (s := s) hco hwa v1 v2 v3
 have q1 := fun s v1 v2 v3 v => rg_rd (s := s) hco hwa v1 v2 v3 (k := 0) (o := 1025) (by omega) (v := v)
 have q2 := fun s v1 v2 v3 v => rg_rd (s := s) hco hwa v1 v2 v3 (k := 1) (o := 1026) (by omega) (v := v)
 have q3 := fun s v1 v2 v3 v => rg_rd (s := s) hco hwa v1 v2 v3 (k := 2) (o := 1027) (by omega) (v := v)
 unfold rfL
 rw [show rowR ⟨s, dq, dc, eq, ec, hq, hc, aq, ac, sq, sc⟩ ns nc core wait = rowG s core wait (.slice hq ns hc) (.slice aq ns ac) (.slice sq nc sc) from rfl]
 simp only
 refine G tt_ok pk48 ?_
 (refine SQ.ldA tt_ok rfl rfl (by repeat (first | exact .h | exact .q | apply At.t)) (a1 _ _ _) ?_)
 refine G tt_ok pk48 ?_
 (refine SQ.ldA tt_ok rfl rfl (by repeat (first | exact .h | exact .q | apply At.t)) (a2 _ _ _) ?_)
 (refine G tt_ok pk48 ?_; repeat (refine G1 tt_ok pk48 ?_; intro _))
 rename_i s2
 refine SQ.bld tt_ok rfl rfl (fill_copy (s := s2) hco hwa rfl rfl rfl) ?_
 refine SQ.boxL (cs := rowG s2 core wait (.slice none 0 0) (.slice none 0 0) (.slice none 0 0)) rfl rfl rfl fun r2 => ?_
 refine G tt_ok pk48 ?_
 refine SQ.appRow tt_ok rfl rfl (by repeat (first | exact .h | apply AtR.t)) (news := iS de) (by simp; exact hd) rfl (iS_one _) (by omega) (by show 512 * 8 ≤ _; omega) fun dq2 dc2 => ⟨(by repeat (first | exact trivial | refine ⟨trivial, ?_⟩ | refine ⟨wk (by repeat (first | exact .h | exact .q | apply At.t)) (by rfl), ?_⟩)), ?_⟩
 refine G tt_ok pk48 ?_
 refine SQ.appRow tt_ok rfl rfl (by repeat (first | exact .h | apply AtR.t)) (news := iS ev) (by simp; exact he) rfl (iS_one _) (by omega) (by show 512 * 8 ≤ _; omega) fun eq2 ec2 => ⟨(by repeat (first | exact trivial | refine ⟨trivial, ?_⟩ | refine ⟨wk (by repeat (first | exact .h | exact .q | apply At.t)) (by rfl), ?_⟩)), ?_⟩
 refine G tt_ok pk48 ?_
 (refine SQ.ldA tt_ok rfl rfl (by repeat (first | exact .h | exact .q | apply At.t)) (q1 _ _ _ _ _ rfl rfl) ?_)
 refine G tt_ok pk48 ?_
 (refine SQ.ldA tt_ok rfl rfl (by repeat (first | exact .h | exact .q | apply At.t)) (q1 _ _ _ _ _ rfl rfl) ?_)
 refine G tt_ok pk48 ?_
 refine SQ.appRow tt_ok rfl rfl (by repeat (first | exact .h | apply AtR.t)) (news := bS high) (by show (bS high).length = ns * 1; simp; exact hhi) rfl (bS_one _) (by omega) (by show ns * 1 ≤ _; omega) fun hq2 hc2 => ⟨(by repeat (first | exact trivial | refine ⟨trivial, ?_⟩ | refine ⟨wk (by repeat (first | exact .h | exact .q | apply At.t)) (by rfl), ?_⟩)), ?_⟩
 refine G tt_ok pk48 ?_
 (refine SQ.stA tt_ok rfl rfl (by repeat (first | apply Up.h | apply Up.t)) (by rfl) (rg_wr hco hwa _ _ _ (k := 0) (by omega) rfl rfl rfl) (by repeat (first | exact trivial | refine ⟨trivial, ?_⟩ | refine ⟨wk (by repeat (first | exact .h | exact .q | apply At.t)) (by rfl), ?_⟩)) ?_)
 refine G tt_ok pk48 ?_
 (refine SQ.ldA tt_ok rfl rfl (by repeat (first | exact .h | exact .q | apply At.t)) (q2 _ _ _ _ _ rfl rfl) ?_)
 refine G tt_ok pk48 ?_
 (refine SQ.ldA tt_ok rfl rfl (by repeat (first | exact .h | exact .q | apply At.t)) (q2 _ _ _ _ _ rfl rfl) ?_)
 refine G tt_ok pk48 ?_
 refine SQ.appRow tt_ok rfl rfl (by repeat (first | exact .h | apply AtR.t)) (news := bS act) (by show (bS act).length = ns * 1; simp; exact hac) rfl (bS_one _) (by omega) (by show ns * 1 ≤ _; omega) fun aq2 ac2 => ⟨(by repeat (first | exact trivial | refine ⟨trivial, ?_⟩ | refine ⟨wk (by repeat (first | exact .h | exact .q | apply At.t)) (by rfl), ?_⟩)), ?_⟩
 refine G tt_ok pk48 ?_
 (refine SQ.stA tt_ok rfl rfl (by repeat (first | apply Up.h | apply Up.t)) (by rfl) (rg_wr hco hwa _ _ _ (k := 1) (by omega) rfl rfl rfl) (by repeat (first | exact trivial | refine ⟨trivial, ?_⟩ | refine ⟨wk (by repeat (first | exact .h | exact .q | apply At.t)) (by rfl), ?_⟩)) ?_)
 refine G tt_ok pk48 ?_
 (refine SQ.ldA tt_ok rfl rfl (by repeat (first | exact .h | exact .q | apply At.t)) (q3 _ _ _ _ _ rfl rfl) ?_)
 refine G tt_ok pk48 ?_
 (refine SQ.ldA tt_ok rfl rfl (by repeat (first | exact .h | exact .q | apply At.t)) (q3 _ _ _ _ _ rfl rfl) ?_)
 refine G tt_ok pk48 ?_
 refine SQ.appRow tt_ok rfl rfl (by repeat (first | exact .h | apply AtR.t)) (news := bS asl) (by show (bS asl).length = nc * 1; simp; exact hasl) rfl (bS_one _) (by omega) (by show nc * 1 ≤ _; omega) fun sq2 sc2 => ⟨(by repeat (first | exact trivial | refine ⟨trivial, ?_⟩ | refine ⟨wk (by repeat (first | exact .h | exact .q | apply At.t)) (by rfl), ?_⟩)), ?_⟩
 refine G tt_ok pk48 ?_
 (refine SQ.stA tt_ok rfl rfl (by repeat (first | apply Up.h | apply Up.t)) (by rfl) (rg_wr hco hwa _ _ _ (k := 2) (by omega) rfl rfl rfl) (by repeat (first | exact trivial | refine ⟨trivial, ?_⟩ | refine ⟨wk (by repeat (first | exact .h | exact .q | apply At.t)) (by rfl), ?_⟩)) ?_)
 refine G tt_ok pk48 ?_
 refine CW.ret (fin_ret rfl (A := [rfA r ns nc ⟨de, ev, core, wait, high, act, asl⟩, rfA r2 ns nc ⟨de, ev, core, wait, high, act, asl⟩]) ?_ ⟨r2, rfl, rfl⟩)
 refine (show Ent _ ([own 3 1 (.slice dq2 512 dc2) 512 (iS de)] ++ ([own 3 1 (.slice eq2 512 ec2) 512 (iS ev)] ++ ([own 4 1 (.slice hq2 ns hc2) ns (bS high)] ++ ([own 4 1 (.slice aq2 ns ac2) ns (bS act)] ++ ([own 4 1 (.slice sq2 nc sc2) nc (bS asl)] ++
  ([pt s2 [.slice dq2 512 dc2, .slice eq2 512 ec2], pt r2 (rowG s2 core wait (.slice hq2 ns hc2) (.slice aq2 ns ac2) (.slice sq2 nc sc2))] ++ rfL r ⟨s, dq, dc, eq, ec, hq, hc, aq, ac, sq, sc⟩ ns nc ⟨de, ev, core, wait, high, act, asl⟩)))))) from by unfold rfL; rw [show rowR ⟨s, dq, dc, eq, ec, hq, hc, aq, ac, sq, sc⟩ ns nc core wait = rowG s core wait (.slice hq ns hc) (.slice aq ns ac) (.slice sq nc sc) from rfl]; exact pk_).trans ?_
 refine (Ent.append own_row (Ent.append own_row (Ent.append own_row (Ent.append own_row (Ent.append own_row (Ent.refl _)))))).trans ?_
 refine (show Ent _ (rfL r ⟨s, dq, dc, eq, ec, hq, hc, aq, ac, sq, sc⟩ ns nc ⟨de, ev, core, wait, high, act, asl⟩ ++ rfL r2 ⟨s2, dq2, dc2, eq2, ec2, hq2, hc2, aq2, ac2, sq2, sc2⟩ ns nc ⟨de, ev, core, wait, high, act, asl⟩) from ?_).trans (Ent.append rf_shut rf_shut)
 unfold rfL
 rw [show rowR ⟨s, dq, dc, eq, ec, hq, hc, aq, ac, sq, sc⟩ ns nc core wait = rowG s core wait (.slice hq ns hc) (.slice aq ns ac) (.slice sq nc sc) from rfl, show rowR ⟨s2, dq2, dc2, eq2, ec2, hq2, hc2, aq2, ac2, sq2, sc2⟩ ns nc core wait = rowG s2 core wait (.slice hq2 ns hc2) (.slice aq2 ns ac2) (.slice sq2 nc sc2) from rfl]
 exact pk_
end Go.Proofs.YtakkogdmlbkdaaaGreatDoor.Sl.It
namespace Go.Proofs.YtakkogdmlbkdaaaGreatDoor.Sl.It
def extN (W : List Nat) (x : Nat × Nat × Nat) : Nat := W.getD x.1 0 / 2 ^ x.2.1 % 2 ^ x.2.2
theorem or_ext (x y a s : Nat) : (x ||| y) / 2 ^ a % 2 ^ s = (x / 2 ^ a % 2 ^ s) ||| (y / 2 ^ a % 2 ^ s) := by
 rw [← Nat.shiftRight_eq_div_pow, ← Nat.shiftRight_eq_div_pow, ← Nat.shiftRight_eq_div_pow, Nat.shiftRight_or_distrib, Nat.or_mod_two_pow]
theorem ext_same {n a s : Nat} (h : n < 2 ^ s) : n * 2 ^ a / 2 ^ a % 2 ^ s = n := by
 rw [Nat.mul_div_cancel _ (Nat.two_pow_pos a), Nat.mod_eq_of_lt h]
theorem ext_above {n a b s : Nat} (h : b + s ≤ a) : n * 2 ^ a / 2 ^ b % 2 ^ s = 0 := by
 obtain ⟨k, rfl⟩ : ∃ k, a = b + (s + k) := ⟨a - b - s, by omega⟩
 rw [Nat.pow_add, ← Nat.mul_assoc, Nat.mul_right_comm, Nat.mul_div_cancel _ (Nat.two_pow_pos b), Nat.pow_add, ← Nat.mul_assoc, Nat.mul_right_comm]
 exact Nat.mul_mod_left _ _
theorem ext_below {n a t b s : Nat} (hn : n < 2 ^ t) (h : a + t ≤ b) : n * 2 ^ a / 2 ^ b % 2 ^ s = 0 := by
 have h1 : n * 2 ^ a < 2 ^ b := by
  have h2 : n * 2 ^ a < 2 ^ t * 2 ^ a := Nat.mul_lt_mul_of_pos_right hn (Nat.two_pow_pos a)
  have h3 : 2 ^ t * 2 ^ a ≤ 2 ^ b := by rw [← Nat.pow_add]; exact Nat.pow_le_pow_right (by omega) (by omega)
  omega
 rw [Nat.div_eq_of_lt h1, Nat.zero_mod]
def apartF (x y : Nat × Nat × Nat) : Bool := x.1 != y.1 || (Nat.ble (x.2.1 + x.2.2) y.2.1 || Nat.ble (y.2.1 + y.2.2) x.2.1)
theorem parts_apart {o : Int} (ho : knownV o = true) : ∀ f, f < 8 → ∀ g, g < 8 → f ≠ g → (partV' o f).2 = true → (partV' o g).2 = true → apartF (partV' o f).1 (partV' o g).1 = true := by
 rcases known_cases ho with rfl | rfl | rfl | rfl | rfl | rfl | rfl | rfl | rfl | rfl | rfl | rfl <;> decide
theorem parts_op {o : Int} (ho : knownV o = true) : ∀ f, f < 8 → (partV' o f).2 = true → (partV' o f).1.1 = 0 → 8 ≤ (partV' o f).1.2.1 := by
 rcases known_cases ho with rfl | rfl | rfl | rfl | rfl | rfl | rfl | rfl | rfl | rfl | rfl | rfl <;> decide
theorem parts_w {o : Int} (ho : knownV o = true) : ∀ f, f < 8 → (partV' o f).1.1 < 4 := by
 rcases known_cases ho with rfl | rfl | rfl | rfl | rfl | rfl | rfl | rfl | rfl | rfl | rfl | rfl <;> decide
theorem enc_ext {c : Cm} (hk : knownV c.1 = true) : ∀ {f : Nat} {W : List Nat}, f ≤ 8 → encL c f = some W → W.length = 4 ∧ W.getD 0 0 % 256 = c.1.toNat ∧ ∀ g, g < 8 → (partV' c.1 g).2 = true → extN W (partV' c.1 g).1 = if g < f then (getF c g).toNat else 0
 | 0, W, _, h => by
  simp only [encL, Option.some.injEq] at h
  subst h
  have hop : c.1.toNat < 16 := by rcases known_cases hk with h | h | h | h | h | h | h | h | h | h | h | h <;> rw [h] <;> decide
  refine ⟨rfl, Nat.mod_eq_of_lt (show c.1.toNat < 256 by omega), fun g hg hh => ?_⟩
  rw [if_neg (by omega)]
  have h0 := parts_op hk g hg hh
  have h4 := parts_w hk g hg
  generalize (partV' c.1 g).1 = x at h0 h4 ⊢
  obtain ⟨w, a, s⟩ := x
  simp only at h0 h4 ⊢
  unfold extN
  simp only
  match w, h0, h4 with
  | 0, h0, _ =>
   simp only [List.getD_cons_zero]
   have h1 : c.1.toNat < 2 ^ a := by
    have := Nat.pow_le_pow_right (n := 2) (by omega) (h0 rfl)
    omega
   rw [Nat.div_eq_of_lt h1, Nat.zero_mod]
  | 1, _, _ => simp
  | 2, _, _ => simp
  | 3, _, _ => simp
 | f + 1, W, hf, h => by
  unfold encL at h
  cases h1 : encL c f with
  | none => rw [h1] at h; cases h
  | some V =>
   rw [h1] at h
   simp only at h
   obtain ⟨i1, i2, i3⟩ := enc_ext hk (show f ≤ 8 by omega) h1
   unfold encS at h
   split at h
   ·cases h
   ·rename_i hc
    simp only [Option.some.injEq] at h
    cases hh : (partV' c.1 f).2 with
    | false =>
     rw [hh, if_neg (by simp)] at h
     subst h
     refine ⟨i1, i2, fun g hg hgh => ?_⟩
     rw [i3 g hg hgh]
     have : g ≠ f := fun e => by subst e; rw [hh] at hgh; cases hgh
     by_cases hlt : g < f
     ·rw [if_pos hlt, if_pos (by omega)]
     ·rw [if_neg hlt, if_neg (by omega)]
    | true =>
     rw [hh, if_pos rfl] at h
     subst h
     have hw := parts_w hk f (by omega)
     have hop := parts_op hk f (by omega) hh
     have hn : (getF c f).toNat < 2 ^ (partV' c.1 f).1.2.2 := by
      by_cases h3 : getF c f ≥ ((2 ^ (partV' c.1 f).1.2.2 : Nat) : Int)
      ·exact absurd (.inr (.inr h3)) hc
      ·have := Nat.two_pow_pos (partV' c.1 f).1.2.2
       omega
     have hself := i3 f (by omega) hh
     rw [if_neg (by omega)] at hself
     have hap := fun g hg hgh hne => parts_apart hk f (by omega) g hg hne hh hgh
     generalize hx : (partV' c.1 f).1 = x at hw hop hn hself hap ⊢
     obtain ⟨w, a, s⟩ := x
     simp only at hw hop hn ⊢
     refine ⟨by simp [i1], ?_, fun g hg hgh => ?_⟩
     ·rw [getD_set (by omega)]
      split
      ·rename_i e
       subst e
       have ha := hop rfl
       have e8 : ∀ z : Nat, z % 256 = z / 2 ^ 0 % 2 ^ 8 := fun z => by simp
       rw [e8, or_ext, ← e8, i2, ext_above (show 0 + 8 ≤ a by omega), Nat.or_zero]
      ·exact i2
     ·have i3g := i3 g hg hgh
      by_cases hgf : g = f
      ·subst hgf
       rw [if_pos (by omega)]
       rw [hx]
       unfold extN at hself ⊢
       simp only at hself ⊢
       rw [getD_set (by omega), if_pos rfl, or_ext, hself, ext_same hn, Nat.zero_or]
      ·have hd := hap g hg hgh (fun e => hgf e.symm)
       have hgoal : extN (V.set w (V.getD w 0 ||| (getF c f).toNat * 2 ^ a)) (partV' c.1 g).1 = extN V (partV' c.1 g).1 := by
        generalize (partV' c.1 g).1 = y at hd ⊢
        obtain ⟨w2, a2, s2⟩ := y
        unfold extN
        simp only
        rw [getD_set (by omega)]
        split
        ·rename_i e
         subst e
         unfold apartF at hd
         simp only [bne_self_eq_false, Bool.false_or, Bool.or_eq_true, Nat.ble_eq] at hd
         rw [or_ext]
         rcases hd with hd | hd
         ·rw [ext_below hn hd, Nat.or_zero]
         ·rw [ext_above hd, Nat.or_zero]
        ·rfl
       rw [hgoal, i3g]
       by_cases hlt : g < f
       ·rw [if_pos hlt, if_pos (by omega)]
       ·rw [if_neg hlt, if_neg (by omega)]
theorem dec_step {c d : Cm} {W : List Nat} (hk : knownV c.1 = true) (hW : ∀ g, g < 8 → (partV' c.1 g).2 = true → extN W (partV' c.1 g).1 = (getF c g).toNat) (h0 : ∀ g, g < 8 → 0 ≤ getF c g) {f : Nat} (hf : f < 8) (hd : d.1 = c.1) :
  decS W f d = if (partV' c.1 f).2 then putF d f (getF c f) else d := by
 unfold decS
 rw [hd]
 cases hh : (partV' c.1 f).2 with
 | false => rfl
 | true =>
  rw [if_pos rfl, if_pos rfl]
  have := hW f hf hh
  unfold extN at this
  rw [this]
  congr 1
  have := h0 f hf
  omega
theorem putF_op (d : Cm) (f : Nat) (n : Int) : (putF d f n).1 = d.1 := by
 unfold putF
 split <;> rfl
theorem dec_enc {c : Cm} (h : (encV c).2 = 0) : decV (encV c).1 = (c, 0) := by
 obtain ⟨hk, h256, hg⟩ := enc_get h
 have hV : ∃ W, encL c 8 = some W ∧ encV c = (W, 0) := by
  unfold encV at h ⊢
  rw [if_pos ⟨hk, h256⟩] at h ⊢
  cases h1 : encL c 8 with
  | none => rw [h1] at h; exact absurd h (by simp)
  | some W => exact ⟨W, rfl, rfl⟩
 obtain ⟨W, hW, hE⟩ := hV
 obtain ⟨e1, e2, e3⟩ := enc_ext hk (Nat.le_refl 8) hW
 have e3 : ∀ g, g < 8 → (partV' c.1 g).2 = true → extN W (partV' c.1 g).1 = (getF c g).toNat := fun g hg' hh => by rw [e3 g hg' hh, if_pos hg']
 have h0 : ∀ g, g < 8 → 0 ≤ getF c g := fun g hg' => (hg g hg').2.1
 have hop : ((W.getD 0 0 % 256 : Nat) : Int) = c.1 := by
  rw [e2]
  rcases known_cases hk with h | h | h | h | h | h | h | h | h | h | h | h <;> rw [h] <;> rfl
 have hz : ∀ g, g < 8 → (partV' c.1 g).2 = false → getF c g = 0 := fun g hg' => (hg g hg').1
 have hd : decL W 8 = c := by
  have step := fun (d : Cm) (f : Nat) (hf : f < 8) (hd : d.1 = c.1) => dec_step hk e3 h0 hf hd
  have o0 : (decL W 0).1 = c.1 := hop
  have s1 : decL W 1 = if (partV' c.1 0).2 then putF (decL W 0) 0 (getF c 0) else decL W 0 := step _ 0 (by omega) o0
  have o1 : (decL W 1).1 = c.1 := by rw [s1]; split; rw [putF_op]; exact o0; exact o0
  have s2 : decL W 2 = if (partV' c.1 1).2 then putF (decL W 1) 1 (getF c 1) else decL W 1 := step _ 1 (by omega) o1
  have o2 : (decL W 2).1 = c.1 := by rw [s2]; split; rw [putF_op]; exact o1; exact o1
  have s3 : decL W 3 = if (partV' c.1 2).2 then putF (decL W 2) 2 (getF c 2) else decL W 2 := step _ 2 (by omega) o2
  have o3 : (decL W 3).1 = c.1 := by rw [s3]; split; rw [putF_op]; exact o2; exact o2
  have s4 : decL W 4 = if (partV' c.1 3).2 then putF (decL W 3) 3 (getF c 3) else decL W 3 := step _ 3 (by omega) o3
  have o4 : (decL W 4).1 = c.1 := by rw [s4]; split; rw [putF_op]; exact o3; exact o3
  have s5 : decL W 5 = if (partV' c.1 4).2 then putF (decL W 4) 4 (getF c 4) else decL W 4 := step _ 4 (by omega) o4
  have o5 : (decL W 5).1 = c.1 := by rw [s5]; split; rw [putF_op]; exact o4; exact o4
  have s6 : decL W 6 = if (partV' c.1 5).2 then putF (decL W 5) 5 (getF c 5) else decL W 5 := step _ 5 (by omega) o5
  have o6 : (decL W 6).1 = c.1 := by rw [s6]; split; rw [putF_op]; exact o5; exact o5
  have s7 : decL W 7 = if (partV' c.1 6).2 then putF (decL W 6) 6 (getF c 6) else decL W 6 := step _ 6 (by omega) o6
  have o7 : (decL W 7).1 = c.1 := by rw [s7]; split; rw [putF_op]; exact o6; exact o6
  have s8 : decL W 8 = if (partV' c.1 7).2 then putF (decL W 7) 7 (getF c 7) else decL W 7 := step _ 7 (by omega) o7
  have i0 : decL W 0 = (c.1, 0, 0, 0, 0, 0, 0, 0, false) := by unfold decL; rw [hop]
  have z0 := hz 0 (by omega); have z1 := hz 1 (by omega); have z2 := hz 2 (by omega); have z3 := hz 3 (by omega)
  have z4 := hz 4 (by omega); have z5 := hz 5 (by omega); have z6 := hz 6 (by omega); have z7 := hz 7 (by omega)
  obtain ⟨op, dev, ev, num, coll, tgt, b, a, v⟩ := c
  simp only [getF] at z0 z1 z2 z3 z4 z5 z6 z7 s1 s2 s3 s4 s5 s6 s7 s8 h256 i0
  have p1 : decL W 1 = (op, dev, 0, 0, 0, 0, 0, 0, false) := by
   rw [s1, i0]; cases hh : (partV' op 0).2 with
   | true => rfl
   | false => rw [z0 hh]; rfl
  have p2 : decL W 2 = (op, dev, ev, 0, 0, 0, 0, 0, false) := by
   rw [s2, p1]; cases hh : (partV' op 1).2 with
   | true => rfl
   | false => rw [z1 hh]; rfl
  have p3 : decL W 3 = (op, dev, ev, num, 0, 0, 0, 0, false) := by
   rw [s3, p2]; cases hh : (partV' op 2).2 with
   | true => rfl
   | false => rw [z2 hh]; rfl
  have p4 : decL W 4 = (op, dev, ev, num, coll, 0, 0, 0, false) := by
   rw [s4, p3]; cases hh : (partV' op 3).2 with
   | true => rfl
   | false => rw [z3 hh]; rfl
  have p5 : decL W 5 = (op, dev, ev, num, coll, tgt, 0, 0, false) := by
   rw [s5, p4]; cases hh : (partV' op 4).2 with
   | true => rfl
   | false => rw [z4 hh]; rfl
  have p6 : decL W 6 = (op, dev, ev, num, coll, tgt, b, 0, false) := by
   rw [s6, p5]; cases hh : (partV' op 5).2 with
   | true => rfl
   | false => rw [z5 hh]; rfl
  have p7 : decL W 7 = (op, dev, ev, num, coll, tgt, b, a, false) := by
   rw [s7, p6]; cases hh : (partV' op 6).2 with
   | true => rw [if_pos rfl]; simp only [putF]; rw [show a / 256 * 256 = a by omega]
   | false => rw [if_neg (by simp)]; rw [show a = 0 by have := z6 hh; omega]
  rw [s8, p7]
  cases hh : (partV' op 7).2 with
  | true => cases v <;> rfl
  | false =>
   have := z7 hh
   cases v with
   | true => simp at this
   | false => rfl
 have hok : decOk W (decL W 8) := by
  rw [hd]
  unfold decOk
  rw [hE]
  exact ⟨rfl, rfl, rfl, rfl, rfl⟩
 unfold decV
 rw [hE]
 simp only
 rw [if_pos hok, hd]
variable {T nc : Nat}
def KS (S : Nat → Prop) (B B' : List Nat) : Prop := B'.length = B.length ∧ ∀ i, S i → B'[i]? = B[i]?
theorem KS.refl (S : Nat → Prop) (B : List Nat) : KS S B B := ⟨rfl, fun _ _ => rfl⟩
theorem KS.trans {S : Nat → Prop} {A B C : List Nat} (h1 : KS S A B) (h2 : KS S B C) : KS S A C := ⟨h2.1.trans h1.1, fun i hi => (h2.2 i hi).trans (h1.2 i hi)⟩
theorem KS.mono {S T : Nat → Prop} {A B : List Nat} (h : KS S A B) (hs : ∀ i, T i → S i) : KS T A B := ⟨h.1, fun i hi => h.2 i (hs i hi)⟩
theorem KS.rd {S : Nat → Prop} {B B' : List Nat} (h : KS S B B') {a w : Nat} (hs : ∀ i, a ≤ i → i < a + w → S i) : rdN B' a w = rdN B a w := by
 unfold rdN
 congr 1
 apply List.ext_getElem?
 intro k
 rw [List.getElem?_take, List.getElem?_take]
 split
 ·rw [List.getElem?_drop, List.getElem?_drop, h.2 _ (hs _ (by omega) (by omega))]
 ·rfl
theorem KS.wr {B : List Nat} {a w v : Nat} (h : a + w ≤ B.length) : KS (fun i => i < a ∨ a + w ≤ i) B (wrN B a w v) := ⟨wrN_len v h, fun i hi => by rw [wrN_at h, if_neg (by omega)]⟩
theorem wipe_at {B : List Nat} {A W : Nat} (h : A + W ≤ B.length) (i : Nat) : (wipeN B A W)[i]? = if A ≤ i ∧ i < A + W then some 0 else B[i]? := by
 unfold wipeN
 by_cases h1 : i < A
 ·rw [if_neg (by omega), List.append_assoc, List.getElem?_append_left (by rw [List.length_take]; omega), List.getElem?_take_of_lt h1]
 ·by_cases h2 : i < A + W
  ·rw [if_pos (by omega), List.getElem?_append_left (by rw [List.length_append, List.length_take, List.length_replicate]; omega), List.getElem?_append_right (by rw [List.length_take]; omega), List.getElem?_replicate, if_pos (by rw [List.length_take]; omega)]
  ·rw [if_neg (by omega), List.getElem?_append_right (by rw [List.length_append, List.length_take, List.length_replicate]; omega), List.getElem?_drop]
   congr 1
   rw [List.length_append, List.length_take, List.length_replicate]; omega
theorem KS.wipe {B : List Nat} {A W : Nat} (h : A + W ≤ B.length) : KS (fun i => i < A ∨ A + W ≤ i) B (wipeN B A W) := ⟨wipe_len h, fun i hi => by rw [wipe_at h, if_neg (by omega)]⟩
theorem rd_wipe {B : List Nat} {A W a w : Nat} (h : A + W ≤ B.length) (h1 : A ≤ a) (h2 : a + w ≤ A + W) : rdN (wipeN B A W) a w = 0 := by
 have e : ((wipeN B A W).drop a).take w = List.replicate w 0 := by
  apply List.ext_getElem?
  intro k
  rw [List.getElem?_take, List.getElem?_replicate]
  split
  ·rw [List.getElem?_drop, wipe_at h, if_pos (by omega)]
  ·rfl
 unfold rdN
 rw [e]
 clear e h h1 h2
 induction w with
 | zero => rfl
 | succ w ih => rw [List.replicate_succ]; simp only [leN, ih]
theorem stW_ks {B : List Nat} (hB : okT T B.length) {j : Nat} (hj : j < 32) (E : List Nat) : ∀ {k}, k ≤ 4 → KS (fun i => i < 32 * j ∨ 32 * j + 32 ≤ i) B (stW B j E k)
 | 0, _ => KS.refl _ _
 | k + 1, hk => by
  have h1 := stW_ks hB hj E (k := k) (by omega)
  exact h1.trans ((KS.wr (by rw [h1.1]; omega)).mono fun i hi => by omega)
theorem stW_rd {B : List Nat} (hB : okT T B.length) {j : Nat} (hj : j < 32) {E : List Nat} (hE : ∀ k, E.getD k 0 < 2 ^ 64) : ∀ {k}, k ≤ 4 → ∀ g, g < k → ldK (stW B j E k) j g = E.getD g 0
 | 0, _, g, hg => absurd hg (by omega)
 | k + 1, hk, g, hg => by
  have hl := (stW_ks hB hj E (k := k) (by omega)).1
  unfold stW ldK
  by_cases e : g = k
  ·subst e
   rw [rd_wr _ (by rw [hl]; omega)]
   exact Nat.mod_eq_of_lt (by rw [show (256 : Nat) ^ 8 = 2 ^ 64 by decide]; exact hE g)
  ·rw [rd_apart _ (by rw [hl]; omega) (by omega)]
   exact stW_rd hB hj hE (k := k) (by omega) g (by omega)
theorem stW_ld {B : List Nat} (hB : okT T B.length) {j : Nat} (hj : j < 32) (c : Cm) : ldW (stW B j (encV c).1 4) j = (encV c).1 := by
 have h := stW_rd hB hj (enc_lt c) (k := 4) (Nat.le_refl _)
 unfold ldW
 rw [h 0 (by omega), h 1 (by omega), h 2 (by omega), h 3 (by omega)]
 have hl := (encV_ok c).1
 generalize (encV c).1 = E at hl
 match E, hl with
 | [a, b, c, d], _ => rfl
theorem rd_zero (n a w : Nat) : rdN (List.replicate n 0) a w = 0 := by
 unfold rdN
 rw [List.drop_replicate, List.take_replicate]
 generalize min w (n - a) = k
 induction k with
 | zero => rfl
 | succ k ih => rw [List.replicate_succ]; simp only [leN, ih]

theorem tb (x j : Nat) : (x / 2 ^ j % 2 == 1) = x.testBit j := by
 rw [Nat.testBit_eq_decide_div_mod_eq, Bool.eq_iff_iff]; simp
theorem bitP_st {B : List Nat} (hB : okT T B.length) {k i : Nat} (hk : k < 8) (hi : i < 512) (v : Bool) {j i' : Nat} (hj : j < 8) (hi' : i' < 512) : bitP (stP B k i v) j i' = if j = k ∧ i' = i then v else bitP B j i' := by
 have hl : 10752 + 64 * k + i / 8 + 1 ≤ B.length := by omega
 unfold bitP byP stP
 by_cases ha : j = k ∧ i' / 8 = i / 8
 ·obtain ⟨rfl, ha⟩ := ha
  rw [ha, rd_wr _ hl, tb, tb, show (256 : Nat) ^ 1 = 2 ^ 8 by decide, Nat.testBit_mod_two_pow, bitN_bit _ (by omega) (by omega)]
  have h8 : i' % 8 < 8 := by omega
  rw [decide_eq_true h8, Bool.true_and]
  by_cases e : i' = i
  ·subst e; simp
  ·rw [if_neg (by omega), if_neg (by simp [e])]
   unfold byP
   rw [show 10752 + 64 * j + i / 8 = 10752 + 64 * j + i' / 8 by omega]
 ·rw [rd_apart _ hl (by omega), if_neg (by omega)]
theorem at_set {w : SW} {k j : Nat} (h : k < w.cs.length) (B' : List Nat) (c : Pc) : (⟨B', w.cs.set k c⟩ : SW).at_ j = if j = k then c else w.at_ j := getD_set h
theorem stP_ks {B : List Nat} (hB : okT T B.length) {k i : Nat} (hk : k < 8) (hi : i < 512) (v : Bool) : KS (fun a => a < 10752 ∨ 11264 ≤ a) B (stP B k i v) := by
 unfold stP
 exact (KS.wr (by omega)).mono fun j hj => by omega
def WtK (w : SW) (k : Nat) (on : Bool) (m : Nat → Bool) : Prop := (w.at_ k).on = on ∧ ∀ i, i < 512 → hasS (w.at_ k).U i = (on && m i) ∧ bitP w.B k i = (!on && m i)
theorem WtK.has {w : SW} {k : Nat} {on : Bool} {m : Nat → Bool} (h : WtK w k on m) {n : Nat} (hn : n < 512) : w.has k (8192 + (n : Int)) = m n := by
 obtain ⟨h1, h2⟩ := h
 have h3 := h2 n hn
 have hi : idxV (8192 + (n : Int)) = true := by
  unfold idxV
  rw [show (8192 : Int) + n - 8192 = n by omega, wrap_id (by omega) (by omega)]
  simp; omega
 unfold SW.has hasL
 rw [hi, h1, show ((8192 : Int) + n - 8192).toNat = n by omega, h3.1, h3.2]
 cases on <;> simp
theorem WtK.congr {w w' : SW} {k : Nat} {on : Bool} {m : Nat → Bool} (h : WtK w k on m) (h1 : (w'.at_ k).on = (w.at_ k).on) (h2 : (w'.at_ k).U = (w.at_ k).U) (ks : KS (fun a => 10752 ≤ a ∧ a < 11264) w.B w'.B) (hk : k < 8) : WtK w' k on m := by
 refine ⟨h1.trans h.1, fun i hi => ?_⟩
 rw [h2]
 refine ⟨(h.2 i hi).1, ?_⟩
 rw [← (h.2 i hi).2]
 unfold bitP byP
 rw [ks.rd fun a h1 h2 => by omega]
theorem idx_n {n : Nat} (hn : n < 512) : idxV (8192 + (n : Int)) = true ∧ ((8192 : Int) + n - 8192).toNat = n := by
 refine ⟨?_, by omega⟩
 unfold idxV
 rw [show (8192 : Int) + n - 8192 = n by omega, wrap_id (by omega) (by omega)]
 simp; omega
theorem wt_set {w : SW} (hw : w.ok T nc) {k : Nat} (hk : k < nc) {n : Nat} (hn : n < 512) (v : Bool) {j : Nat} (hj : j < nc) {on : Bool} {m : Nat → Bool} (h : WtK w j on m) :
  WtK (w.set k (8192 + (n : Int)) v) j on (fun i => if j = k ∧ i = n then v else m i) := by
 obtain ⟨hi, he⟩ := idx_n hn
 have hlen : k < w.cs.length := by rw [hw.2.2.1]; exact hk
 have hk8 := (hw.2.2.2 k hk).2.2
 have hj8 := (hw.2.2.2 j hj).2.2
 obtain ⟨h1, h2⟩ := h
 unfold SW.set setLV
 rw [hi, if_pos rfl, he]
 by_cases e : j = k
 ·subst e
  cases hon : (w.at_ j).on with
  | true =>
   have hon2 : on = true := by rw [← h1, hon]
   subst hon2
   refine ⟨by rw [at_set hlen, if_pos rfl], fun i hi2 => ?_⟩
   rw [at_set hlen, if_pos rfl]
   simp only [if_true, true_and]
   refine ⟨?_, by rw [(h2 i hi2).2]; rfl⟩
   cases v with
   | true =>
    simp only [if_true]
    rw [has_putS, (h2 i hi2).1]
    by_cases e2 : i = n <;> simp [e2]
   | false =>
    simp only [Bool.false_eq_true, if_false]
    rw [has_takeS, (h2 i hi2).1]
    by_cases e2 : i = n <;> simp [e2]
  | false =>
   have hon2 : on = false := by rw [← h1, hon]
   subst hon2
   refine ⟨by rw [at_set hlen, if_pos rfl], fun i hi2 => ?_⟩
   rw [at_set hlen, if_pos rfl]
   simp only [Bool.false_eq_true, if_false, true_and]
   refine ⟨by rw [(h2 i hi2).1]; rfl, ?_⟩
   rw [bitP_st hw.1 hk8 hn v hj8 hi2, (h2 i hi2).2]
   by_cases e2 : i = n <;> simp [e2]
 ·have h3 : (fun i => if j = k ∧ i = n then v else m i) = m := funext fun i => if_neg fun h => e h.1
  rw [h3]
  refine ⟨by rw [at_set hlen, if_neg e]; exact h1, fun i hi2 => ?_⟩
  rw [at_set hlen, if_neg e]
  refine ⟨(h2 i hi2).1, ?_⟩
  rw [← (h2 i hi2).2]
  simp only
  split
  ·rfl
  ·show bitP (stP w.B k n v) j i = _
   rw [bitP_st hw.1 hk8 hn v hj8 hi2, if_neg fun h => e h.1]
theorem set_ks {w : SW} (hw : w.ok T nc) {k : Nat} (hk : k < nc) {n : Nat} (hn : n < 512) (v : Bool) : KS (fun a => a < 10752 ∨ 11264 ≤ a) w.B (w.set k (8192 + (n : Int)) v).B := by
 obtain ⟨hi, he⟩ := idx_n hn
 unfold SW.set setLV
 rw [hi, if_pos rfl, he]
 simp only
 split
 ·exact KS.refl _ _
 ·exact stP_ks hw.1 (hw.2.2.2 k hk).2.2 hn v
theorem set_C {w : SW} (hw : w.ok T nc) {k : Nat} (hk : k < nc) (n : Int) (v : Bool) (j : Nat) : ((w.set k n v).at_ j).C = (w.at_ j).C := by
 have hlen : k < w.cs.length := by rw [hw.2.2.1]; exact hk
 unfold SW.set
 rw [at_set hlen]
 split
 ·rename_i e; rw [e]
 ·rfl
end Go.Proofs.YtakkogdmlbkdaaaGreatDoor.Sl.It
namespace Go.Proofs.YtakkogdmlbkdaaaGreatDoor.Sl.It
attribute [local irreducible] invK enK enV waitL
variable {T nc : Nat}
theorem odd_part : ∀ (n y : Nat), y ≤ n → 0 < y → ∃ t m, y = 2 ^ t * (2 * m + 1)
 | 0, y, h, h0 => by omega
 | n + 1, y, h, h0 => by
  by_cases ho : y % 2 = 1
  ·exact ⟨0, y / 2, by simp; omega⟩
  ·obtain ⟨t, m, e⟩ := odd_part n (y / 2) (by omega) (by omega)
   refine ⟨t + 1, m, ?_⟩
   rw [Nat.pow_succ, Nat.mul_assoc, Nat.mul_comm 2, ← Nat.mul_assoc, ← e]; omega
theorem tz_tab : ∀ t : Nat, t < 64 → tzT.getD (2 ^ t * 285870213051353865 % 2 ^ 64 / 2 ^ 58) 0 = t := by decide +kernel
theorem bit_y {t m i : Nat} : (2 ^ t * (2 * m + 1)).testBit i = if i < t then false else (2 * m + 1).testBit (i - t) := by
 have := Nat.testBit_two_pow_mul_add (2 * m + 1) (b := 0) (i := t) (Nat.two_pow_pos t) i
 rw [Nat.add_zero] at this
 rw [this]; simp
theorem bit_y1 {t m i : Nat} : (2 ^ t * (2 * m + 1) - 1).testBit i = if i < t then true else (2 * m).testBit (i - t) := by
 have e : 2 ^ t * (2 * m + 1) - 1 = 2 ^ t * (2 * m) + (2 ^ t - 1) := by
  have := Nat.two_pow_pos t
  rw [Nat.mul_add, Nat.mul_one]; omega
 rw [e, Nat.testBit_two_pow_mul_add (2 * m) (by have := Nat.two_pow_pos t; omega) i, Nat.testBit_two_pow_sub_one]
 split <;> simp_all
theorem odd_bit (m j : Nat) : (2 * m + 1).testBit j = if j = 0 then true else (2 * m).testBit j := by
 cases j with
 | zero => simp [Nat.testBit_zero]
 | succ j => simp [Nat.testBit_succ]; congr 1; omega
theorem low_spec {y : Nat} (h0 : y ≠ 0) (hy : y < 2 ^ 64) : y.testBit (lowB y) = true ∧ (∀ i, i < lowB y → y.testBit i = false) ∧ ∀ i, (y &&& (y - 1)).testBit i = (y.testBit i && !decide (i = lowB y)) := by
 obtain ⟨t, m, e⟩ := odd_part y y (Nat.le_refl _) (by omega)
 have hb : ∀ i, y.testBit i = if i < t then false else if i = t then true else (2 * m).testBit (i - t) := fun i => by
  rw [e, bit_y]
  split
  ·rfl
  ·rw [odd_bit]
   by_cases h : i = t
   ·subst h; simp
   ·rw [if_neg (by omega), if_neg h]
 have h1 : ∀ i, (y - 1).testBit i = if i < t then true else if i = t then false else (2 * m).testBit (i - t) := fun i => by
  rw [e, bit_y1]
  split
  ·rfl
  ·by_cases h : i = t
   ·subst h; simp
   ·rw [if_neg h]
 have ht : t < 64 := by
  apply Decidable.byContradiction; intro hn
  have : 2 ^ 64 ≤ 2 ^ t := Nat.pow_le_pow_right (by omega) (by omega)
  have h2 : 2 ^ t ≤ y := by rw [e]; exact Nat.le_mul_of_pos_right _ (by omega)
  omega
 have hlow : y &&& (2 ^ 64 - y) = 2 ^ t := by
  apply Nat.eq_of_testBit_eq
  intro i
  rw [Nat.testBit_and, show 2 ^ 64 - y = 2 ^ 64 - ((y - 1) + 1) by omega, Nat.testBit_two_pow_sub_succ (by omega), h1, hb, Nat.testBit_two_pow]
  by_cases c1 : i < t
  ·simp [c1]; omega
  ·by_cases c2 : i = t
   ·subst c2; simp [ht]
   ·rw [if_neg c1, if_neg c2, if_neg c1, if_neg c2]
    rw [show decide (t = i) = false by simp; omega]
    cases (2 * m).testBit (i - t) <;> simp
 have hB : lowB y = t := by
  unfold lowB tzI
  rw [hlow]
  exact tz_tab t ht
 rw [hB]
 refine ⟨by rw [hb]; simp, fun i hi => by rw [hb, if_pos hi], fun i => ?_⟩
 rw [Nat.testBit_and, hb, h1]
 by_cases c1 : i < t
 ·simp [c1]
 ·by_cases c2 : i = t
  ·subst c2; simp
  ·simp [c1, c2]
theorem bitsN_spec : ∀ (n y : Nat), y ≤ n → y < 2 ^ 64 → (∀ x, x ∈ bitsN y ↔ y.testBit x = true) ∧ (bitsN y).Pairwise (· < ·)
 | 0, y, h, _ => by
  obtain rfl : y = 0 := by omega
  rw [bitsN_0]; simp
 | n + 1, y, h, hy => by
  by_cases h0 : y = 0
  ·subst h0; rw [bitsN_0]; simp
  ·rw [bitsN_s h0]
   obtain ⟨hl, hm, hr⟩ := low_spec h0 hy
   have hle := @Nat.and_le_right y (y - 1)
   obtain ⟨ih1, ih2⟩ := bitsN_spec n (y &&& (y - 1)) (by omega) (by omega)
   refine ⟨fun x => ?_, ?_⟩
   ·rw [List.mem_cons, ih1, hr]
    by_cases hx : x = lowB y
    ·subst hx; simp [hl]
    ·simp [hx]
   ·rw [List.pairwise_cons]
    refine ⟨fun x hx => ?_, ih2⟩
    rw [ih1, hr] at hx
    simp only [Bool.and_eq_true, Bool.not_eq_true', decide_eq_false_iff_not] at hx
    apply Decidable.byContradiction; intro hn
    have := hm x (by omega)
    rw [this] at hx
    exact absurd hx.1 (by simp)
theorem bitsN_mem {y x : Nat} (hy : y < 2 ^ 64) : x ∈ bitsN y ↔ y.testBit x = true := (bitsN_spec y y (Nat.le_refl _) hy).1 x
theorem hasS_cons (y : Nat) (r : List Nat) (i : Nat) : hasS (y :: r) i = if i < 64 then y.testBit i else hasS r (i - 64) := by
 unfold hasS wAt
 split
 ·rename_i h
  rw [show i / 64 = 0 by omega, show i % 64 = i by omega]; rfl
 ·rename_i h
  rw [show i / 64 = (i - 64) / 64 + 1 by omega, List.getElem?_cons_succ, show (i - 64) % 64 = i % 64 by omega]
theorem memU_mem : ∀ (U : List Nat) (k : Nat), (∀ y ∈ U, y < 2 ^ 64) → ∀ x : Int, x ∈ memU k U ↔ ∃ i : Nat, x = ((64 * k + i : Nat) : Int) ∧ hasS U i = true
 | [], k, _, x => by
  constructor
  ·intro h; cases h
  ·rintro ⟨i, _, h⟩
   unfold hasS wAt at h
   simp at h
 | y :: r, k, hU, x => by
  have hy := hU y (by simp)
  have ih := memU_mem r (k + 1) (fun z hz => hU z (by simp [hz])) x
  show x ∈ (bitsN y).map _ ++ memU (k + 1) r ↔ _
  rw [List.mem_append, ih, List.mem_map]
  constructor
  ·rintro (⟨b, hb, rfl⟩ | ⟨i, rfl, h⟩)
   ·have := bitsN_lt y y (Nat.le_refl _) b hb
    exact ⟨b, rfl, by rw [hasS_cons, if_pos this]; exact (bitsN_mem hy).1 hb⟩
   ·refine ⟨64 + i, by congr 1; omega, ?_⟩
    rw [hasS_cons, if_neg (by omega), show 64 + i - 64 = i by omega]; exact h
  ·rintro ⟨i, rfl, h⟩
   rw [hasS_cons] at h
   by_cases hi : i < 64
   ·rw [if_pos hi] at h
    exact .inl ⟨i, (bitsN_mem hy).2 h, rfl⟩
   ·rw [if_neg hi] at h
    exact .inr ⟨i - 64, by congr 1; omega, h⟩
theorem hasS_lt {U : List Nat} (h : setOk U) {i : Nat} (hi : hasS U i = true) : i < 512 := by
 have := has_in hi
 have := h.1
 omega
theorem bitsU_mem {U : List Nat} (h : setOk U) (x : Int) : x ∈ bitsU U ↔ ∃ i : Nat, i < 512 ∧ x = (i : Int) ∧ hasS U i = true := by
 unfold bitsU
 rw [memU_mem U 0 h.2]
 constructor
 ·rintro ⟨i, rfl, h2⟩; exact ⟨i, hasS_lt h h2, by simp, h2⟩
 ·rintro ⟨i, _, rfl, h2⟩; exact ⟨i, by simp, h2⟩
theorem ok_at {w : SW} (hw : w.ok T nc) {k : Nat} (hk : k < nc) : setOk (w.at_ k).U ∧ (w.at_ k).C.length = 512 ∧ k < 8 := hw.2.2.2 k hk
theorem dis_fold {k : Nat} (hk : k < 8) : ∀ {xs : List Int} {s : List Nat × List Nat}, (∀ x ∈ xs, ∃ i : Nat, i < 512 ∧ x = (i : Int)) → okT T s.2.length →
  okT T (xs.foldl (disS k) s).2.length ∧ KS (fun a => a < 10752 ∨ 11264 ≤ a) s.2 (xs.foldl (disS k) s).2 ∧
  (∀ i, hasS (xs.foldl (disS k) s).1 i = (hasS s.1 i && !decide ((i : Int) ∈ xs))) ∧ ∀ j i, j < 8 → i < 512 → bitP (xs.foldl (disS k) s).2 j i = (bitP s.2 j i || (decide (j = k) && decide ((i : Int) ∈ xs)))
 | [], s, _, h2 => ⟨h2, KS.refl _ _, fun i => by simp, fun j i _ _ => by simp⟩
 | x :: xs, s, hx, h2 => by
  obtain ⟨n, hn, rfl⟩ := hx x (by simp)
  have hs2 := stP_len h2 hk hn true
  obtain ⟨h3, h4, h5, h6⟩ := dis_fold hk (xs := xs) (s := disS k s (n : Int)) (fun y hy => hx y (by simp [hy])) (by unfold disS; simp only [Int.toNat_natCast]; exact hs2)
  rw [List.foldl_cons]
  refine ⟨h3, KS.trans (stP_ks h2 hk hn true) h4, fun i => ?_, fun j i hj hi => ?_⟩
  ·rw [h5]
   unfold disS
   simp only [Int.toNat_natCast]
   rw [has_takeS]
   by_cases e : i = n
   ·subst e; simp
   ·have : ¬ (i : Int) = (n : Int) := by omega
    simp [e, this]
  ·rw [h6 j i hj hi]
   unfold disS
   simp only [Int.toNat_natCast]
   rw [bitP_st h2 hk hn true hj hi]
   by_cases e : i = n
   ·subst e
    by_cases e2 : j = k <;> simp [e2]
   ·have : ¬ (i : Int) = (n : Int) := by omega
    simp [e, this]
theorem wt_dis_ne {w : SW} (hw : w.ok T nc) {k : Nat} (hk : k < nc) {j : Nat} (hj : j < nc) (e : j ≠ k) {on : Bool} {m : Nat → Bool} (h : WtK w j on m) : WtK (w.dis k) j on m := by
 have hlen : k < w.cs.length := by rw [hw.2.2.1]; exact hk
 obtain ⟨hU, _, hk8⟩ := ok_at hw hk
 obtain ⟨_, _, h5, h6⟩ := dis_fold (T := T) hk8 (xs := bitsU (w.at_ k).U) (s := ((w.at_ k).U, w.B)) (bitsU_lt hU) hw.1
 refine ⟨by unfold SW.dis; rw [at_set hlen, if_neg e]; exact h.1, fun i hi => ?_⟩
 unfold SW.dis
 rw [at_set hlen, if_neg e]
 refine ⟨(h.2 i hi).1, ?_⟩
 have := h6 j i (hw.2.2.2 j hj).2.2 hi
 show bitP (disV k (w.at_ k).U w.B).2 j i = _
 unfold disV
 rw [this, ← (h.2 i hi).2, decide_eq_false e]; simp
theorem dis_ks {w : SW} (hw : w.ok T nc) {k : Nat} (hk : k < nc) : KS (fun a => a < 10752 ∨ 11264 ≤ a) w.B (w.dis k).B := by
 obtain ⟨hU, _, hk8⟩ := ok_at hw hk
 exact (dis_fold (T := T) hk8 (xs := bitsU (w.at_ k).U) (s := ((w.at_ k).U, w.B)) (bitsU_lt hU) hw.1).2.1
theorem dis_C {w : SW} (hw : w.ok T nc) {k : Nat} (hk : k < nc) (j : Nat) : ((w.dis k).at_ j).C = (w.at_ j).C := by
 have hlen : k < w.cs.length := by rw [hw.2.2.1]; exact hk
 unfold SW.dis
 rw [at_set hlen]
 split
 ·rename_i e; rw [e]
 ·rfl
theorem enK_spec {k : Nat} (hk : k < 8) {U B : List Nat} (hU : setOk U) (hB : okT T B.length) : ∀ {n}, n ≤ 512 → setOk (enK k U B n).1 ∧ okT T (enK k U B n).2.length ∧ KS (fun a => a < 10752 ∨ 11264 ≤ a) B (enK k U B n).2 ∧
  (∀ i, i < 512 → hasS (enK k U B n).1 i = (hasS U i || (decide (i < n) && bitP B k i))) ∧ ∀ j i, j < 8 → i < 512 → bitP (enK k U B n).2 j i = (bitP B j i && !(decide (j = k) && decide (i < n)))
 | 0, _ => by
  rw [enK_zero]
  exact ⟨hU, hB, KS.refl _ _, fun i _ => by simp, fun j i _ _ => by simp⟩
 | n + 1, hn => by
  obtain ⟨h1, h2, h3, h4, h5⟩ := enK_spec hk hU hB (n := n) (by omega)
  rw [enK_succ]
  generalize enK k U B n = s at h1 h2 h3 h4 h5 ⊢
  have hbn : bitP s.2 k n = bitP B k n := by rw [h5 k n hk (by omega)]; simp
  cases hb : bitP s.2 k n with
  | true =>
   rw [if_pos rfl]
   rw [hb] at hbn
   refine ⟨putS_ok h1 (by omega), stP_len h2 hk (by omega) false, h3.trans (stP_ks h2 hk (by omega) false), fun i hi => ?_, fun j i hj hi => ?_⟩
   ·rw [has_putS, h4 i hi]
    by_cases e : i = n
    ·subst e; simp [← hbn]
    ·have : (decide (i < n + 1)) = decide (i < n) := by simp; omega
     rw [this]; simp [e]
   ·rw [bitP_st h2 hk (by omega) false hj hi, h5 j i hj hi]
    by_cases e2 : j = k
    ·by_cases e : i = n
     ·subst e; subst e2; simp
     ·have : (decide (i < n + 1)) = decide (i < n) := by simp; omega
      rw [this]; simp [e]
    ·simp [e2]
  | false =>
   rw [if_neg (by simp)]
   rw [hb] at hbn
   refine ⟨h1, h2, h3, fun i hi => ?_, fun j i hj hi => ?_⟩
   ·rw [h4 i hi]
    by_cases e : i = n
    ·subst e; simp [← hbn]
    ·have : (decide (i < n + 1)) = decide (i < n) := by simp; omega
     rw [this]
   ·rw [h5 j i hj hi]
    by_cases e2 : j = k
    ·by_cases e : i = n
     ·subst e; subst e2; simp [← hbn]
     ·have : (decide (i < n + 1)) = decide (i < n) := by simp; omega
      rw [this]
    ·simp [e2]
theorem invK_spec {k : Nat} {C B : List Nat} (hC : C.length = 512) : ∀ {n}, n ≤ 512 → ∀ i, i < 512 → (invK k C B n).getD i 0 = if i < n then rdN B (10240 + i) 1 else C.getD i 0
 | 0, _, i, _ => by rw [invK_zero, if_neg (by omega)]
 | n + 1, hn, i, hi => by
  rw [invK_succ, invV]
  have hlen : (invK k C B n).length = 512 := by rw [invK_len]; exact hC
  obtain ⟨hx, he⟩ := idx_n (n := n) (by omega)
  rw [show ((8192 + n : Nat) : Int) = 8192 + (n : Int) by omega, hx, if_pos rfl, he, getD_set (by omega), invK_spec hC (by omega) i hi]
  by_cases e : i = n
  ·subst e; rw [if_pos rfl, if_pos (by omega)]
  ·rw [if_neg e]
   by_cases e2 : i < n
   ·rw [if_pos e2, if_pos (by omega)]
   ·rw [if_neg e2, if_neg (by omega)]
def prB (B : List Nat) : Prop := ∀ i, i < 512 → rdN B (10240 + i) 1 = 161
def prC (C : List Nat) : Prop := ∀ i, i < 512 → C.getD i 0 = 161
theorem prB.ks {S : Nat → Prop} {B B' : List Nat} (h : prB B) (ks : KS S B B') (hs : ∀ a, 10240 ≤ a → a < 10752 → S a) : prB B' := fun i hi => by
 rw [ks.rd fun a h1 h2 => hs a (by omega) (by omega)]; exact h i hi
theorem en_true {w : SW} {k : Nat} (h : (w.at_ k).on = true) : w.en k = w := by
 have e : enV k (w.at_ k).on (w.at_ k).U (w.at_ k).C w.B = ((w.at_ k).U, (w.at_ k).C, w.B) := by unfold enV enW; rw [h]; rfl
 unfold SW.en
 rw [e, ← h]
 exact SW.same w k
theorem en_spec {w : SW} (hw : w.ok T nc) {k : Nat} (hk : k < nc) (hp : prB w.B) (hCk : (w.at_ k).on = true → prC (w.at_ k).C) :
  KS (fun a => a < 10752 ∨ 11264 ≤ a) w.B (w.en k).B ∧ prC ((w.en k).at_ k).C ∧ (∀ j, j ≠ k → (w.en k).at_ j = w.at_ j) ∧ (∀ on m, WtK w k on m → WtK (w.en k) k true m) ∧ ∀ j on m, j < nc → j ≠ k → WtK w j on m → WtK (w.en k) j on m := by
 have hlen : k < w.cs.length := by rw [hw.2.2.1]; exact hk
 obtain ⟨hU, hC, hk8⟩ := ok_at hw hk
 cases hon : (w.at_ k).on with
 | true =>
  rw [en_true hon]
  refine ⟨KS.refl _ _, hCk hon, fun _ _ => rfl, fun on m h => ?_, fun _ _ _ _ _ h => h⟩
  obtain rfl : on = true := by rw [← h.1, hon]
  exact h
 | false =>
  obtain ⟨h1, h2, h3, h4, h5⟩ := enK_spec hk8 hU hw.1 (n := 512) (Nat.le_refl _)
  have hC2 := invK_spec (k := k) (B := (enK k (w.at_ k).U w.B 512).2) hC (n := 512) (Nat.le_refl _)
  have hpr := hp.ks h3 fun a h6 h7 => by omega
  have e : w.en k = ⟨(enK k (w.at_ k).U w.B 512).2, w.cs.set k ⟨true, (enK k (w.at_ k).U w.B 512).1, invK k (w.at_ k).C (enK k (w.at_ k).U w.B 512).2 512⟩⟩ := by
   unfold SW.en enV enW
   rw [hon]; rfl
  rw [e]
  generalize enK k (w.at_ k).U w.B 512 = s at h1 h2 h3 h4 h5 hC2 hpr ⊢
  refine ⟨h3, ?_, fun j hj => by rw [at_set hlen, if_neg hj], fun on m h => ?_, fun j on m hj hne h => ?_⟩
  ·rw [at_set hlen, if_pos rfl]
   intro i hi
   rw [hC2 i hi, if_pos hi]; exact hpr i hi
  ·obtain rfl : on = false := by rw [← h.1, hon]
   refine ⟨by rw [at_set hlen, if_pos rfl], fun i hi => ?_⟩
   rw [at_set hlen, if_pos rfl]
   simp only
   rw [h4 i hi, h5 k i hk8 hi, (h.2 i hi).1, (h.2 i hi).2]
   simp [hi]
  ·refine ⟨by rw [at_set hlen, if_neg hne]; exact h.1, fun i hi => ?_⟩
   rw [at_set hlen, if_neg hne]
   refine ⟨(h.2 i hi).1, ?_⟩
   rw [h5 j i (hw.2.2.2 j hj).2.2 hi, (h.2 i hi).2]
   simp [hne]
theorem best_none {C U : List Nat} (hU : setOk U) (h : ∀ i, i < 512 → hasS U i = false) : bestC C U = (0, 0, 0, false) := by
 have : bitsU U = [] := by
  apply List.eq_nil_iff_forall_not_mem.2
  intro x hx
  obtain ⟨i, hi, _, h9⟩ := (bitsU_mem hU x).1 hx
  rw [h i hi] at h9; cases h9
 unfold bestC
 rw [this]; rfl
theorem sup_161 {C : List Nat} (hC : prC C) {i : Nat} (hi : i < 512) : supI C i = true ∧ supP C i = 160 := by
 unfold supI supP
 rw [hC i hi]
 exact ⟨by decide, by decide +kernel⟩
theorem best_fold {C : List Nat} (hC : prC C) : ∀ (xs : List Int) (c : Cd), (∀ x ∈ xs, ∃ i : Nat, i < 512 ∧ x = (i : Int)) → (c = (0, 0, 0, false) ∨ ∃ i : Nat, i < 512 ∧ c = (8192 + (i : Int), 160, 1, true)) →
  (xs = [] ∧ xs.foldl (stepC C) c = c) ∨ ∃ i : Nat, i < 512 ∧ xs.foldl (stepC C) c = (8192 + (i : Int), 160, 1, true) ∧ (((i : Int) ∈ xs) ∨ c = (8192 + (i : Int), 160, 1, true)) ∧ (∀ x ∈ xs, (i : Int) ≤ x) ∧ (c = (0, 0, 0, false) ∨ ∃ j : Nat, c = (8192 + (j : Int), 160, 1, true) ∧ i ≤ j)
 | [], c, _, _ => .inl ⟨rfl, rfl⟩
 | x :: xs, c, hx, hc => by
  refine .inr ?_
  obtain ⟨n, hn, rfl⟩ := hx x (by simp)
  obtain ⟨s1, s2⟩ := sup_161 hC hn
  have hst : ∃ i : Nat, i < 512 ∧ stepC C c (n : Int) = (8192 + (i : Int), 160, 1, true) ∧ (i = n ∨ c = (8192 + (i : Int), 160, 1, true)) ∧ i ≤ n ∧ (c = (0, 0, 0, false) ∨ ∃ j : Nat, c = (8192 + (j : Int), 160, 1, true) ∧ i ≤ j) := by
   unfold stepC
   rw [Int.toNat_natCast, s1, s2]
   rcases hc with rfl | ⟨j, hj, rfl⟩
   ·exact ⟨n, hn, rfl, .inl rfl, Nat.le_refl _, .inl rfl⟩
   ·unfold beforeV
    simp only [Bool.not_true, Bool.false_or, Bool.true_and]
    by_cases hlt : n < j
    ·rw [if_pos (by simp; omega)]
     exact ⟨n, hn, rfl, .inl rfl, Nat.le_refl _, .inr ⟨j, rfl, by omega⟩⟩
    ·rw [if_neg (by simp; omega)]
     exact ⟨j, hj, rfl, .inr rfl, by omega, .inr ⟨j, rfl, Nat.le_refl _⟩⟩
  obtain ⟨i, hi, he, ho, hle, hc2⟩ := hst
  rw [List.foldl_cons, he]
  rcases best_fold hC xs (8192 + (i : Int), 160, 1, true) (fun y hy => hx y (by simp [hy])) (.inr ⟨i, hi, rfl⟩) with ⟨rfl, e⟩ | ⟨i2, hi2, e, ho2, hle2, hc3⟩
  ·refine ⟨i, hi, by rw [e], ?_, ?_, hc2⟩
   ·rcases ho with rfl | h
    ·exact .inl (by simp)
    ·exact .inr h
   ·intro y hy
    simp at hy; omega
  ·have hi12 : i2 ≤ i := by
    rcases hc3 with h | ⟨j, h, hj⟩
    ·simp at h
    ·simp only [Prod.mk.injEq] at h; omega
   refine ⟨i2, hi2, e, ?_, ?_, ?_⟩
   ·rcases ho2 with h | h
    ·exact .inl (by simp [h])
    ·have : i2 = i := by simp only [Prod.mk.injEq] at h; omega
     subst this
     rcases ho with rfl | h
     ·exact .inl (by simp)
     ·exact .inr h
   ·intro y hy
    rcases List.mem_cons.1 hy with rfl | hy
    ·omega
    ·exact hle2 y hy
   ·rcases hc2 with h | ⟨j, h, hj⟩
    ·exact .inl h
    ·exact .inr ⟨j, h, by omega⟩
theorem best_some {C U : List Nat} (hC : prC C) (hU : setOk U) {n : Nat} (hn : hasS U n = true) (hb : ∀ i, i < n → hasS U i = false) : bestC C U = (8192 + (n : Int), 160, 1, true) := by
 have hn5 := hasS_lt hU hn
 have hmem := (bitsU_mem hU (n : Int)).2 ⟨n, hn5, rfl, hn⟩
 unfold bestC
 rcases best_fold hC (bitsU U) (0, 0, 0, false) (bitsU_lt hU) (.inl rfl) with ⟨e, _⟩ | ⟨i, hi, e, ho, hle, _⟩
 ·rw [e] at hmem; cases hmem
 ·rw [e]
  have h1 := hle _ hmem
  rcases ho with ho | ho
  ·obtain ⟨i', _, he, h9⟩ := (bitsU_mem hU (i : Int)).1 ho
   obtain rfl : i = i' := by omega
   by_cases e2 : i = n
   ·rw [e2]
   ·rw [hb i (by omega)] at h9; cases h9
  ·simp at ho
variable {T nc : Nat}
structure MT (T nc : Nat) (B : List Nat) (dm : Nat → Bool) (ev : Nat → Nat → Option (Nat × Nat)) : Prop where
 len : okT T B.length
 prop : prB B
 lead : ∀ k, k < 4 → rdN B (1024 + 8 * k) 8 = 2 ^ 63 + 1280 + 64 * k
 coll : ∀ k, k < nc → rdN B (1792 + 8 * k) 8 = 2 ^ 63 + k
 dev : ∀ d, d < 32 → rdN B (1280 + 8 * d) 8 = if dm d then devN 3 (2048 + 256 * d) else 0
 evt : ∀ d e, d < 32 → e < 16 → dm d = true → match ev d e with
  | some (n, c) => n < 512 ∧ c < nc ∧ rdN B (2048 + 256 * d + 8 * e) 8 = routeN c (8192 + n)
  | none => rdN B (2048 + 256 * d + 8 * e) 8 = 0
 non : ∀ d e, d < 32 → e < 16 → dm d = false → ev d e = none
section
variable {B : List Nat} {dm : Nat → Bool} {ev : Nat → Nat → Option (Nat × Nat)}
theorem acc_8 {n a s o : Nat} (hn : n ≤ 1000000) (h1 : a + s ≤ n) (h2 : o + 8 ≤ s) (h3 : o % 8 = 0) : accV n (a : Int) (s : Int) (o : Int) 8 = 0 := by
 unfold accV holdsV mayV
 rw [if_pos (by simp; omega), if_neg (by simp), if_neg (by rw [Int.tmod_eq_emod_of_nonneg (by omega)]; omega), wrap_id (by omega) (by omega), if_neg (by omega)]
theorem mem_8 {a s o : Nat} (hn : B.length ≤ 1000000) (h1 : a + s ≤ B.length) (h2 : o + 8 ≤ s) (h3 : o % 8 = 0) : memRd B (a : Int) (s : Int) (o : Int) 8 = (rdN B (a + o) 8, 0) := by
 unfold memRd
 rw [acc_8 hn h1 h2 h3, if_pos rfl]
 congr 2
theorem mwr_8 {a s o : Nat} (hn : B.length ≤ 1000000) (h1 : a + s ≤ B.length) (h2 : o + 8 ≤ s) (h3 : o % 8 = 0) (v : Nat) : memWr B (a : Int) (s : Int) (o : Int) 8 v = (wrN B (a + o) 8 v, 0) := by
 unfold memWr
 rw [acc_8 hn h1 h2 h3, if_pos rfl]
 congr 2
theorem ent_8 {n a s k : Nat} (hn : n ≤ 1000000) (h1 : a + s ≤ n) (h2 : k * 8 + 8 ≤ s) : entA n (a : Int) (s : Int) (k : Int) = some (a + 8 * k) := by
 unfold entA fairV holdsV
 rw [if_pos (by simp; omega)]
 congr 1; omega
theorem slot_ld (hl : okT T B.length) (lead : ∀ k, k < 4 → rdN B (1024 + 8 * k) 8 = 2 ^ 63 + 1280 + 64 * k) {d : Nat} (hd : d < 32) : slotA B 1024 256 64 (d : Int) = some (1280 + 8 * d) := by
 have h1 := lead (d / 8) (by omega)
 have hr := mem_8 (B := B) (a := 1024) (s := 256) (o := d / 8 * 8) (by omega) (by omega) (by omega) (by omega)
 rw [show 1024 + d / 8 * 8 = 1024 + 8 * (d / 8) by omega, h1] at hr
 unfold slotA
 rw [if_neg (by omega), if_neg (by omega), show ((d : Int) / 8 * 8) = ((d / 8 * 8 : Nat) : Int) by omega]
 rw [show (1024 : Int) = ((1024 : Nat) : Int) by rfl, show (256 : Int) = ((256 : Nat) : Int) by rfl, hr]
 simp only
 rw [if_pos ⟨trivial, by omega⟩]
 rw [show (2 ^ 63 + 1280 + 64 * (d / 8)) % 2 ^ 32 = 1280 + 64 * (d / 8) by omega, show ((d : Int) % 8) = ((d % 8 : Nat) : Int) by omega]
 rw [show (64 : Int) = ((64 : Nat) : Int) by rfl, ent_8 (by omega) (by omega) (by omega)]
 congr 1; omega
theorem MT.slot (h : MT T nc B dm ev) {d : Nat} (hd : d < 32) : slotA B 1024 256 64 (d : Int) = some (1280 + 8 * d) := slot_ld h.len h.lead hd
theorem devV_3 {d : Nat} (hd : d < 32) : devV (devN 3 (2048 + 256 * d)) = (true, 3, ((2048 + 256 * d : Nat) : Int)) := by
 unfold devV devN
 rw [if_neg (by omega)]
 congr 2
 ·have : (2 ^ 63 + 3 + (2048 + 256 * d)) % 2 ^ 5 = 3 := by omega
  rw [this]; rfl
 ·congr 1; omega
theorem MT.tab (h : MT T nc B dm ev) {d : Nat} (hd : d < 32) : tabGet B 1024 256 64 (d : Int) = (if dm d then (true, 3, ((2048 + 256 * d : Nat) : Int)) else (false, 0, 0), 0) := by
 unfold tabGet
 rw [h.slot hd]
 simp only
 rw [h.dev d hd]
 cases dm d with
 | true => rw [if_pos rfl, if_pos rfl, devV_3 hd]
 | false => rfl
theorem MT.device (h : MT T nc B dm ev) {d : Nat} (hd : d < 32) (hm : dm d = true) : deviceV B 64 (d : Int) = ((true, 3, ((2048 + 256 * d : Nat) : Int)), 0) := by
 unfold deviceV
 rw [h.tab hd, hm]; rfl
theorem evA_3 {n d e : Nat} (hn : n ≤ 1000000) (hl : 11264 ≤ n) (hd : d < 32) (he : e < 16) : evA n (true, 3, ((2048 + 256 * d : Nat) : Int)) (e : Int) = (some (2048 + 256 * d + 8 * e), 0) := by
 unfold evA
 have h16 : evN 3 = 16 := rfl
 simp only
 rw [if_neg (by rw [h16]; simp; omega), if_pos (by unfold holdsV; simp; omega)]
 congr 2; omega
theorem MT.rt (h : MT T nc B dm ev) {d e : Nat} (hd : d < 32) (he : e < 16) : devRt B (true, 3, ((2048 + 256 * d : Nat) : Int)) (e : Int) = (routeV (rdN B (2048 + 256 * d + 8 * e) 8), 0) := by
 have hl := h.len
 unfold devRt
 rw [evA_3 (by omega) (by omega) hd he]
theorem routeV_0 : routeV 0 = (0, 0, false) := rfl
theorem routeV_N {c n : Nat} (hc : c < 65536) (hn : n < 4294967296) : routeV (routeN (c : Int) (n : Int)) = ((n : Int), (c : Int), true) := by
 unfold routeV routeN
 rw [Int.toNat_natCast, Int.toNat_natCast, if_neg (by omega)]
 have h1 : (2 ^ 63 + c * 2 ^ 32 + n) % 2 ^ 32 = n := by omega
 have h2 : (2 ^ 63 + c * 2 ^ 32 + n) / 2 ^ 32 % 2 ^ 16 = c := by omega
 rw [h1, h2]
theorem MT.rt_some (h : MT T nc B dm ev) (h8 : nc ≤ 8) {d e n c : Nat} (hd : d < 32) (he : e < 16) (hv : ev d e = some (n, c)) :
  dm d = true ∧ n < 512 ∧ c < nc ∧ devRt B (true, 3, ((2048 + 256 * d : Nat) : Int)) (e : Int) = ((8192 + (n : Int), (c : Int), true), 0) := by
 have hm : dm d = true := by
  cases hm : dm d with
  | true => rfl
  | false => rw [h.non d e hd he hm] at hv; cases hv
 have h1 := h.evt d e hd he hm
 rw [hv] at h1
 obtain ⟨h1, h2, h3⟩ := h1
 refine ⟨hm, h1, h2, ?_⟩
 rw [h.rt hd he, h3, show ((8192 : Int) + n) = ((8192 + n : Nat) : Int) by omega, routeV_N (by omega) (by omega)]
theorem MT.rt_none (h : MT T nc B dm ev) {d e : Nat} (hd : d < 32) (he : e < 16) (hm : dm d = true) (hv : ev d e = none) : devRt B (true, 3, ((2048 + 256 * d : Nat) : Int)) (e : Int) = ((0, 0, false), 0) := by
 have h1 := h.evt d e hd he hm
 rw [hv] at h1
 rw [h.rt hd he, h1, routeV_0]
theorem MT.event (h : MT T nc B dm ev) (h8 : nc ≤ 8) {d e n c : Nat} (hd : d < 32) (he : e < 16) (hv : ev d e = some (n, c)) : eventV B 64 (d : Int) (e : Int) = ((8192 + (n : Int), (c : Int), true), 0) := by
 obtain ⟨hm, h1, h2, h3⟩ := h.rt_some h8 hd he hv
 unfold eventV
 rw [h.device hd hm]
 simp only [ne_eq, not_true, if_false]
 rw [h3]; simp
theorem MT.tg (h : MT T nc B dm ev) (h8 : nc ≤ 8) {c : Nat} (hc : c < nc) : targetV B 1792 64 (c : Int) = ((c : Int), true, 0) := by
 have hl := h.len
 have hr := mem_8 (B := B) (a := 1792) (s := 64) (o := 8 * c) (by omega) (by omega) (by omega) (by omega)
 rw [h.coll c hc] at hr
 unfold targetV
 rw [if_neg (by omega), show ((c : Int) * 8) = ((8 * c : Nat) : Int) by omega, show (1792 : Int) = ((1792 : Nat) : Int) by rfl, show (64 : Int) = ((64 : Nat) : Int) by rfl, hr]
 simp only [ne_eq, not_true, if_false]
 rw [if_neg (by omega)]
 congr 1; omega
theorem MT.side (h : MT T nc B dm ev) (h8 : nc ≤ 8) {c : Nat} (hc : c < nc) : sideV nc B (c : Int) = (some c, 0) := by
 unfold sideV targetW
 rw [h.tg h8 hc]
 simp; omega
theorem MT.ks (h : MT T nc B dm ev) {S : Nat → Prop} {B' : List Nat} (ks : KS S B B') (hs : ∀ a, 1024 ≤ a → a < 10752 → S a) (h8 : nc ≤ 8) : MT T nc B' dm ev := by
 have rd : ∀ a w, 1024 ≤ a → a + w ≤ 10752 → rdN B' a w = rdN B a w := fun a w h1 h2 => ks.rd fun i h3 h4 => hs i (by omega) (by omega)
 refine ⟨by rw [ks.1]; exact h.len, h.prop.ks ks fun a h1 h2 => hs a (by omega) h2, fun k hk => ?_, fun k hk => ?_, fun d hd => ?_, fun d e hd he hm => ?_, h.non⟩
 ·rw [rd _ _ (by omega) (by omega)]; exact h.lead k hk
 ·rw [rd _ _ (by omega) (by omega)]; exact h.coll k hk
 ·rw [rd _ _ (by omega) (by omega)]; exact h.dev d hd
 ·rw [rd _ _ (by omega) (by omega)]; exact h.evt d e hd he hm
theorem MT.wev (h : MT T nc B dm ev) {d e : Nat} (hd : d < 32) (he : e < 16) (hm : dm d = true) {v : Nat} {o : Option (Nat × Nat)} (ho : match o with
  | some (n, c) => n < 512 ∧ c < nc ∧ v = routeN c (8192 + n)
  | none => v = 0) (h8 : nc ≤ 8) : MT T nc (wrN B (2048 + 256 * d + 8 * e) 8 v) dm (fun a b => if a = d ∧ b = e then o else ev a b) := by
 have hl := h.len
 have hb : 2048 + 256 * d + 8 * e + 8 ≤ B.length := by omega
 have rd : ∀ a w, (a + w ≤ 2048 + 256 * d + 8 * e ∨ 2048 + 256 * d + 8 * e + 8 ≤ a) → rdN (wrN B (2048 + 256 * d + 8 * e) 8 v) a w = rdN B a w := fun a w h1 => rd_apart _ hb (by omega)
 refine ⟨by rw [wrN_len _ hb]; exact hl, fun i hi => ?_, fun k hk => ?_, fun k hk => ?_, fun d' hd' => ?_, fun d' e' hd' he' hm' => ?_, fun d' e' hd' he' hm' => ?_⟩
 ·rw [rd _ _ (by omega)]; exact h.prop i hi
 ·rw [rd _ _ (by omega)]; exact h.lead k hk
 ·rw [rd _ _ (by omega)]; exact h.coll k hk
 ·rw [rd _ _ (by omega)]; exact h.dev d' hd'
 ·by_cases e1 : d' = d ∧ e' = e
  ·obtain ⟨rfl, rfl⟩ := e1
   simp only [and_self, if_true]
   rw [rd_wr _ hb, show (256 : Nat) ^ 8 = 2 ^ 64 by decide]
   cases o with
   | none => simp only at ho ⊢; subst ho; rfl
   | some x =>
    obtain ⟨n, c⟩ := x
    simp only at ho ⊢
    obtain ⟨h1, h2, h3⟩ := ho
    refine ⟨h1, h2, ?_⟩
    rw [h3]
    apply Nat.mod_eq_of_lt
    unfold routeN
    omega
  ·simp only [e1, if_false]
   rw [rd _ _ (by omega)]; exact h.evt d' e' hd' he' hm'
 ·by_cases e1 : d' = d ∧ e' = e
  ·obtain ⟨rfl, rfl⟩ := e1
   rw [hm] at hm'; cases hm'
  ·simp only [e1, if_false]; exact h.non d' e' hd' he' hm'
theorem MT.map (h : MT T nc B dm ev) {d : Nat} (hd : d < 32) (hm : dm d = false) (h8 : nc ≤ 8) :
  MT T nc (wrN (wipeN B (2048 + 256 * d) 128) (1280 + 8 * d) 8 (devN 3 (2048 + 256 * d))) (fun a => if a = d then true else dm a) ev ∧ KS (fun a => a < 1024 ∨ 10240 ≤ a) B (wrN (wipeN B (2048 + 256 * d) 128) (1280 + 8 * d) 8 (devN 3 (2048 + 256 * d))) := by
 have hl := h.len
 have h1 : 2048 + 256 * d + 128 ≤ B.length := by omega
 have hk := KS.wipe h1
 have hl2 := wipe_len h1
 have h2 : 1280 + 8 * d + 8 ≤ (wipeN B (2048 + 256 * d) 128).length := by omega
 have hk2 := KS.wr (v := devN 3 (2048 + 256 * d)) h2
 have hk3 : KS (fun a => (a < 2048 + 256 * d ∨ 2048 + 256 * d + 128 ≤ a) ∧ (a < 1280 + 8 * d ∨ 1280 + 8 * d + 8 ≤ a)) B _ := (hk.mono fun i hi => hi.1).trans (hk2.mono fun i hi => hi.2)
 refine ⟨⟨by rw [hk3.1]; exact hl, fun i hi => ?_, fun k hk => ?_, fun k hk => ?_, fun d' hd' => ?_, fun d' e' hd' he' hm' => ?_, fun d' e' hd' he' hm' => ?_⟩, hk3.mono fun i hi => by omega⟩
 ·rw [hk3.rd fun i h3 h4 => by omega]; exact h.prop i hi
 ·rw [hk3.rd fun i h3 h4 => by omega]; exact h.lead k hk
 ·rw [hk3.rd fun i h3 h4 => by omega]; exact h.coll k hk
 ·by_cases e : d' = d
  ·subst e
   rw [if_pos rfl, if_pos rfl, rd_wr _ h2]
   apply Nat.mod_eq_of_lt
   rw [show (256 : Nat) ^ 8 = 2 ^ 64 by decide]
   unfold devN; omega
  ·rw [if_neg e, hk3.rd fun i h3 h4 => by omega]; exact h.dev d' hd'
 ·by_cases e : d' = d
  ·subst e
   rw [h.non d' e' hd' he' hm]
   simp only
   rw [hk2.rd fun i h3 h4 => by omega]
   exact rd_wipe h1 (by omega) (by omega)
  ·rw [if_neg e] at hm'
   rw [hk3.rd fun i h3 h4 => by omega]; exact h.evt d' e' hd' he' hm'
 ·by_cases e : d' = d
  ·rw [if_pos e] at hm'; cases hm'
  ·rw [if_neg e] at hm'; exact h.non d' e' hd' he' hm'
end
theorem encL_some {c : Cm} (h : ∀ g, g < 8 → ((partV' c.1 g).2 = false → getF c g = 0) ∧ 0 ≤ getF c g ∧ getF c g < ((2 ^ (partV' c.1 g).1.2.2 : Nat) : Int)) : ∀ f, f ≤ 8 → ∃ W, encL c f = some W
 | 0, _ => ⟨_, rfl⟩
 | f + 1, hf => by
  obtain ⟨W, hW⟩ := encL_some h f (by omega)
  obtain ⟨h1, h2, h3⟩ := h f (by omega)
  unfold encL
  rw [hW]
  simp only
  unfold encS
  rw [if_neg (by
   rintro (⟨a, b⟩ | a | a)
   ·exact b (h1 a)
   ·omega
   ·omega)]
  exact ⟨_, rfl⟩
theorem enc_ok {c : Cm} (hk : knownV c.1 = true) (ha : c.2.2.2.2.2.2.2.1 % 256 = 0) (h : ∀ g, g < 8 → ((partV' c.1 g).2 = false → getF c g = 0) ∧ 0 ≤ getF c g ∧ getF c g < ((2 ^ (partV' c.1 g).1.2.2 : Nat) : Int)) : (encV c).2 = 0 := by
 obtain ⟨W, hW⟩ := encL_some h 8 (Nat.le_refl _)
 unfold encV
 rw [if_pos ⟨hk, ha⟩, hW]
theorem lt8 {P : Nat → Prop} (h0 : P 0) (h1 : P 1) (h2 : P 2) (h3 : P 3) (h4 : P 4) (h5 : P 5) (h6 : P 6) (h7 : P 7) : ∀ g, g < 8 → P g
 | 0, _ => h0
 | 1, _ => h1
 | 2, _ => h2
 | 3, _ => h3
 | 4, _ => h4
 | 5, _ => h5
 | 6, _ => h6
 | 7, _ => h7
 | n + 8, h => absurd h (by omega)
theorem enc_movi {d e c : Nat} (hd : d < 32) (he : e < 16) (hc : c < 8) : (encV (cmMovi d e c)).2 = 0 := by
 refine enc_ok rfl rfl (lt8 ?_ ?_ ?_ ?_ ?_ ?_ ?_ ?_) <;> simp [cmMovi, partV', getF] <;> omega
theorem enc_mapti {d e n c : Nat} (hd : d < 32) (he : e < 16) (hn : n < 512) (hc : c < 8) : (encV (cmMapti d e (8192 + (n : Int)) c)).2 = 0 := by
 refine enc_ok rfl rfl (lt8 ?_ ?_ ?_ ?_ ?_ ?_ ?_ ?_) <;> simp [cmMapti, partV', getF] <;> omega
theorem enc_mapd {d : Nat} (hd : d < 32) : (encV (cmMapd d)).2 = 0 := by
 refine enc_ok rfl (by simp [cmMapd]) (lt8 ?_ ?_ ?_ ?_ ?_ ?_ ?_ ?_) <;> simp [cmMapd, partV', getF] <;> omega
theorem enc_disc {d e : Nat} (hd : d < 32) (he : e < 16) : (encV (cmDisc d e)).2 = 0 := by
 refine enc_ok rfl rfl (lt8 ?_ ?_ ?_ ?_ ?_ ?_ ?_ ?_) <;> simp [cmDisc, partV', getF] <;> omega
theorem enc_mapc {k : Nat} (hk : k < 8) : (encV (cmMapc k)).2 = 0 := by
 refine enc_ok rfl rfl (lt8 ?_ ?_ ?_ ?_ ?_ ?_ ?_ ?_) <;> simp [cmMapc, partV', getF] <;> omega
theorem cmd_run {x : IW} {j : Nat} (hB : okT T x.w.B.length) (hj : j < 32) (hi : x.i = j) (hst : x.st = false) {c : Cm} (he : (encV c).2 = 0) (hd : (doV 64 ⟨stW x.w.B j (encV c).1 4, x.w.cs⟩ c).2 = 0) :
  cmdV j x c = (⟨(doV 64 ⟨stW x.w.B j (encV c).1 4, x.w.cs⟩ c).1, false, (j + 1) % 32⟩, (j + 1) % 32, 0) := by
 have hp : putV x.w.B x.i j c = (stW x.w.B j (encV c).1 4, (j + 1) % 32, 0) := by
  unfold putV
  rw [hi, if_neg (by unfold lefN; omega), if_pos he]
 have hh : headV (stW x.w.B j (encV c).1 4) j ((j + 1) % 32) = (c, 0) := by
  unfold headV
  rw [if_neg (by unfold lefN; omega), stW_ld hB hj, dec_enc he]
 have hs : stepV 64 true ((j + 1) % 32) ⟨⟨stW x.w.B j (encV c).1 4, x.w.cs⟩, false, j⟩ = (⟨(doV 64 ⟨stW x.w.B j (encV c).1 4, x.w.cs⟩ c).1, false, (j + 1) % 32⟩, c, 0) := by
  unfold stepV
  simp only [hh]
  rw [if_neg (by simp), if_neg (by simp), if_neg (by simp), if_neg (by simp), if_neg (by simp [hd])]
  have : nxI j ((j + 1) % 32) = (j + 1) % 32 := by unfold nxI; rw [if_neg (by unfold lefN; omega)]
  rw [this]
 have hr : runV 64 true ((j + 1) % 32) 1 0 ⟨⟨stW x.w.B j (encV c).1 4, x.w.cs⟩, false, j⟩ = (⟨(doV 64 ⟨stW x.w.B j (encV c).1 4, x.w.cs⟩ c).1, false, (j + 1) % 32⟩, 1, 0) := by
  rw [runV_s, hs]
  simp only
  rw [if_neg (by simp), if_neg (by simp)]
  rfl
 unfold cmdV
 rw [hp]
 simp only [hi, hst, hr]
 simp
end Go.Proofs.YtakkogdmlbkdaaaGreatDoor.Sl.It
namespace Go.Proofs.YtakkogdmlbkdaaaGreatDoor.Sl.It
attribute [local irreducible] invK enK enV waitL
variable {T nc : Nat}
theorem KS.drop_ {S : Nat → Prop} {B B' : List Nat} (h : KS S B B') {n : Nat} (hs : ∀ i, n ≤ i → S i) : B'.drop n = B.drop n := by
 apply List.ext_getElem?
 intro k
 rw [List.getElem?_drop, List.getElem?_drop, h.2 _ (hs _ (by omega))]
structure WR (T nc : Nat) (w : SW) (on : Nat → Bool) (m : Nat → Nat → Bool) (dm : Nat → Bool) (ev : Nat → Nat → Option (Nat × Nat)) (Z : List Nat) : Prop where
 ok : w.ok T nc
 n8 : nc ≤ 8
 mt : MT T nc w.B dm ev
 wt : ∀ k, k < nc → WtK w k (on k) (m k)
 cf : ∀ k, k < nc → prC (w.at_ k).C
 zz : w.B.drop 11264 = Z
section
variable {w : SW} {on : Nat → Bool} {m : Nat → Nat → Bool} {dm : Nat → Bool} {ev : Nat → Nat → Option (Nat × Nat)} {Z : List Nat}
theorem WR.newB (h : WR T nc w on m dm ev Z) {B' : List Nat} (ks : KS (fun a => 10752 ≤ a) w.B B') (hb : byOk B') {dm' : Nat → Bool} {ev' : Nat → Nat → Option (Nat × Nat)} (mt : MT T nc B' dm' ev') : WR T nc ⟨B', w.cs⟩ on m dm' ev' Z :=
 ⟨⟨mt.len, hb, h.ok.2.2⟩, h.n8, mt, fun k hk => WtK.congr (w' := ⟨B', w.cs⟩) (h.wt k hk) rfl rfl (ks.mono fun a ha => by omega) (ok_at h.ok hk).2.2, h.cf, by rw [← h.zz]; exact ks.drop_ fun i hi => by omega⟩
theorem WR.queue (h : WR T nc w on m dm ev Z) {j : Nat} (hj : j < 32) (E : List Nat) : WR T nc ⟨stW w.B j E 4, w.cs⟩ on m dm ev Z := by
 have ks := stW_ks h.ok.1 hj E (k := 4) (Nat.le_refl _)
 exact h.newB (ks.mono fun i hi => by omega) (stW_ok h.ok.2.1) (h.mt.ks ks (fun a h1 h2 => by omega) h.n8)
theorem WR.set (h : WR T nc w on m dm ev Z) {k n : Nat} (hk : k < nc) (hn : n < 512) (v : Bool) : WR T nc (w.set k (8192 + (n : Int)) v) on (fun j i => if j = k ∧ i = n then v else m j i) dm ev Z := by
 have ks := set_ks h.ok hk hn v
 refine ⟨SW.set_ok h.ok hk (by omega) v, h.n8, h.mt.ks ks (fun a h1 h2 => by omega) h.n8, fun j hj => wt_set h.ok hk hn v hj (h.wt j hj), fun j hj => ?_, ?_⟩
 ·rw [set_C h.ok hk]; exact h.cf j hj
 ·rw [← h.zz]; exact ks.drop_ fun i hi => by omega
theorem WR.congr (h : WR T nc w on m dm ev Z) {on' : Nat → Bool} {m' : Nat → Nat → Bool} (h1 : ∀ k, k < nc → on' k = on k) (h2 : ∀ k n, k < nc → n < 512 → m' k n = m k n) : WR T nc w on' m' dm ev Z :=
 ⟨h.ok, h.n8, h.mt, fun k hk => by
  obtain ⟨a, b⟩ := h.wt k hk
  refine ⟨by rw [h1 k hk]; exact a, fun i hi => ?_⟩
  rw [h1 k hk, h2 k i hk hi]; exact b i hi, h.cf, h.zz⟩
theorem WR.evc (h : WR T nc w on m dm ev Z) {ev' : Nat → Nat → Option (Nat × Nat)} (h1 : ∀ d e, d < 32 → e < 16 → ev' d e = ev d e) : WR T nc w on m dm ev' Z := by
 obtain ⟨h2, h3, h4, h5, h6, h7⟩ := h
 refine ⟨h2, h3, ⟨h4.len, h4.prop, h4.lead, h4.coll, h4.dev, fun d e hd he hm => ?_, fun d e hd he hm => ?_⟩, h5, h6, h7⟩
 ·rw [h1 d e hd he]; exact h4.evt d e hd he hm
 ·rw [h1 d e hd he]; exact h4.non d e hd he hm
theorem wt_disA {w : SW} (hw : w.ok T nc) {k : Nat} (hk : k < nc) {o : Bool} {m : Nat → Bool} (h : WtK w k o m) : WtK (w.dis k) k false m := by
 have hlen : k < w.cs.length := by rw [hw.2.2.1]; exact hk
 obtain ⟨hU, _, hk8⟩ := ok_at hw hk
 obtain ⟨_, _, h5, h6⟩ := dis_fold (T := T) hk8 (xs := bitsU (w.at_ k).U) (s := ((w.at_ k).U, w.B)) (bitsU_lt hU) hw.1
 refine ⟨by unfold SW.dis; rw [at_set hlen, if_pos rfl], fun i hi => ?_⟩
 have hm : decide ((i : Int) ∈ bitsU (w.at_ k).U) = (o && m i) := by
  rw [← (h.2 i hi).1, Bool.eq_iff_iff, decide_eq_true_iff, bitsU_mem hU]
  constructor
  ·rintro ⟨i', _, e, h9⟩; obtain rfl : i = i' := by omega
   exact h9
  ·intro h9; exact ⟨i, hi, rfl, h9⟩
 unfold SW.dis
 rw [at_set hlen, if_pos rfl]
 simp only
 refine ⟨?_, ?_⟩
 ·have := h5 i
  simp only [hm, (h.2 i hi).1] at this
  show hasS (disV k (w.at_ k).U w.B).1 i = _
  unfold disV
  rw [this]; cases m i <;> cases o <;> rfl
 ·have := h6 k i hk8 hi
  simp only [hm, (h.2 i hi).2] at this
  show bitP (disV k (w.at_ k).U w.B).2 k i = _
  unfold disV
  rw [this]; cases o <;> simp
theorem WR.dis (h : WR T nc w on m dm ev Z) {k : Nat} (hk : k < nc) : WR T nc (w.dis k) (fun j => if j = k then false else on j) m dm ev Z := by
 have ks := dis_ks h.ok hk
 refine ⟨SW.dis_ok h.ok hk, h.n8, h.mt.ks ks (fun a h1 h2 => by omega) h.n8, fun j hj => ?_, fun j hj => ?_, ?_⟩
 ·by_cases e : j = k
  ·subst e; rw [if_pos rfl]; exact wt_disA h.ok hk (h.wt j hj)
  ·rw [if_neg e]; exact wt_dis_ne h.ok hk hj e (h.wt j hj)
 ·rw [dis_C h.ok hk]; exact h.cf j hj
 ·rw [← h.zz]; exact ks.drop_ fun i hi => by omega
theorem WR.en (h : WR T nc w on m dm ev Z) {k : Nat} (hk : k < nc) : WR T nc (w.en k) (fun j => if j = k then true else on j) m dm ev Z := by
 obtain ⟨ks, h2, h3, h4, h5⟩ := en_spec h.ok hk h.mt.prop (fun _ => h.cf k hk)
 refine ⟨SW.en_ok h.ok hk, h.n8, h.mt.ks ks (fun a h1 h2 => by omega) h.n8, fun j hj => ?_, fun j hj => ?_, ?_⟩
 ·by_cases e : j = k
  ·subst e; rw [if_pos rfl]; exact h4 _ _ (h.wt j hj)
  ·rw [if_neg e]; exact h5 j _ _ hj e (h.wt j hj)
 ·by_cases e : j = k
  ·rw [e]; exact h2
  ·rw [h3 j e]; exact h.cf j hj
 ·rw [← h.zz]; exact ks.drop_ fun i hi => by omega
theorem inv_at {w : SW} (hw : w.ok T nc) {k : Nat} (hk : k < nc) (n : Int) (j : Nat) : ((w.inv k n).at_ j).on = (w.at_ j).on ∧ ((w.inv k n).at_ j).U = (w.at_ j).U := by
 have hlen : k < w.cs.length := by rw [hw.2.2.1]; exact hk
 unfold SW.inv
 rw [at_set hlen]
 split
 ·rename_i e; rw [e]; exact ⟨rfl, rfl⟩
 ·exact ⟨rfl, rfl⟩
theorem WR.inv (h : WR T nc w on m dm ev Z) {k n : Nat} (hk : k < nc) (hn : n < 512) : WR T nc (w.inv k (8192 + (n : Int))) on m dm ev Z := by
 have hlen : k < w.cs.length := by rw [h.ok.2.2.1]; exact hk
 refine ⟨SW.inv_ok h.ok hk _, h.n8, h.mt, fun j hj => WtK.congr (h.wt j hj) (inv_at h.ok hk _ j).1 (inv_at h.ok hk _ j).2 (KS.refl _ _) (ok_at h.ok hj).2.2, fun j hj => ?_, h.zz⟩
 unfold SW.inv
 rw [at_set hlen]
 split
 ·rename_i e
  subst e
  intro i hi
  obtain ⟨hx, he⟩ := idx_n hn
  unfold invV
  rw [hx, if_pos rfl, he, getD_set (by rw [(ok_at h.ok hk).2.1]; exact hn)]
  split
  ·exact h.mt.prop n hn
  ·exact h.cf j hj i hi
 ·exact h.cf j hj
theorem WR.move (h : WR T nc w on m dm ev Z) {a t n : Nat} (ha : a < nc) (ht : t < nc) (hn : n < 512) (hu : ∀ j, j < nc → j ≠ a → m j n = false) : WR T nc (w.move (8192 + (n : Int)) a t) on (fun j i => if i = n then (j == t && m a n) else m j i) dm ev Z := by
 have hh := (h.wt a ha).has hn
 unfold SW.move SW.moves
 rw [(idx_n hn).1, hh, Bool.and_true]
 by_cases e : a = t
 ·subst e
  rw [if_neg (by simp)]
  refine h.congr (fun _ _ => rfl) fun j i hj hi => ?_
  by_cases e2 : i = n
  ·subst e2
   rw [if_pos rfl]
   by_cases e3 : j = a
   ·subst e3; simp
   ·rw [hu j hj e3]; simp [e3]
  ·rw [if_neg e2]
 ·cases hm : m a n with
  | false =>
   rw [if_neg (by simp)]
   refine h.congr (fun _ _ => rfl) fun j i hj hi => ?_
   by_cases e2 : i = n
   ·subst e2
    rw [if_pos rfl, Bool.and_false]
    by_cases e3 : j = a
    ·subst e3; rw [hm]
    ·rw [hu j hj e3]
   ·rw [if_neg e2]
  | true =>
   rw [if_pos (by simp [e])]
   refine ((h.set ha hn false).set ht hn true).congr (fun _ _ => rfl) fun j i hj hi => ?_
   by_cases e2 : i = n
   ·subst e2
    simp only [and_true, if_true, Bool.and_true]
    by_cases e3 : j = t
    ·rw [if_pos e3]; simp [e3]
    ·rw [if_neg e3]
     by_cases e4 : j = a
     ·rw [if_pos e4]; simp [e3]
     ·rw [if_neg e4, hu j hj e4]; simp [e3]
   ·rw [if_neg e2, if_neg (by omega), if_neg (by omega)]
theorem WR.mapd (h : WR T nc w on m dm ev Z) {d : Nat} (hd : d < 32) (hm : dm d = false) :
  (doV 64 w (cmMapd d)).2 = 0 ∧ WR T nc (doV 64 w (cmMapd d)).1 on m (fun a => if a = d then true else dm a) ev Z := by
 obtain ⟨h1, h2⟩ := h.mt.map hd hm h.n8
 have hl := h.ok.1
 have ht := h.mt.tab hd
 rw [hm] at ht
 have h128 : (8 * evN 3).toNat = 128 := rfl
 have hbad : badW w.B.length true 3 (2048 + 256 * (d : Int)) = false := by
  have h8 : (8 * evN 3) = 128 := rfl
  unfold badW holdsV meetV fairV
  rw [h8]
  simp only [Bool.true_and, Bool.or_eq_false_iff, Bool.not_eq_false', Bool.and_eq_true, decide_eq_true_eq, Bool.and_eq_false_iff, decide_eq_false_iff_not]
  refine ⟨by omega, .inr (.inr ?_), .inr (.inr ?_), .inr (.inr ?_)⟩
  ·rw [if_neg (by omega)]; omega
  ·rw [if_neg (by omega)]; omega
  ·rw [if_neg (by omega)]; omega
 have hw1 : 2048 + 256 * d + 128 ≤ w.B.length := by omega
 have hs : slotA (wipeN w.B (2048 + 256 * d) 128) 1024 256 64 (d : Int) = some (1280 + 8 * d) :=
  slot_ld (T := T) (by rw [wipe_len hw1]; exact hl) (fun k hk => by rw [(KS.wipe hw1).rd fun i h3 h4 => by omega]; exact h.mt.lead k hk) hd
 have hdo : doV 64 w (cmMapd d) = (⟨wrN (wipeN w.B (2048 + 256 * d) 128) (1280 + 8 * d) 8 (devN 3 (2048 + 256 * d)), w.cs⟩, 0) := by
  unfold doV
  rw [if_neg (by rw [enc_mapd hd]; simp)]
  rw [show (cmMapd (d : Int)).1 = 8 from rfl, if_pos rfl]
  unfold mapdV cmMapd
  simp only
  rw [ht]
  simp only [if_false, ne_eq, not_true]
  rw [hbad, if_neg (by simp)]
  have hfg : fgA (false, 0, 0) w = w := rfl
  simp only [Bool.false_eq_true, if_false]
  rw [hfg]
  unfold wpV
  rw [if_pos rfl, h128, show (2048 + 256 * (d : Int)).toNat = 2048 + 256 * d by omega]
  unfold tabPut
  rw [hs]
  simp only [if_true]
  rw [show (2048 + 256 * (d : Int)).toNat = 2048 + 256 * d by omega]
  rfl
 rw [hdo]
 refine ⟨rfl, h.newB (h2.mono fun a ha => by omega) ?_ h1⟩
 exact wrN_ok _ _ _ (wipe_ok h.ok.2.1)
theorem WR.mapti (h : WR T nc w on m dm ev Z) {d e n c : Nat} (hd : d < 32) (he : e < 16) (hn : n < 512) (hc : c < nc) (hm : dm d = true) (hv : ev d e = none) :
  (doV 64 w (cmMapti d e (8192 + (n : Int)) c)).2 = 0 ∧ WR T nc (doV 64 w (cmMapti d e (8192 + (n : Int)) c)).1 on m dm (fun a b => if a = d ∧ b = e then some (n, c) else ev a b) Z := by
 have h8 := h.n8
 have hl := h.ok.1
 have hdv := h.mt.device hd hm
 have hrt := h.mt.rt_none hd he hm hv
 have htg := h.mt.tg h8 hc
 have hsd := h.mt.side h8 hc
 have hcl := h.ok.2.2.1
 have hdo : doV 64 w (cmMapti d e (8192 + (n : Int)) c) = (⟨wrN w.B (2048 + 256 * d + 8 * e) 8 (routeN c (8192 + n)), (w.inv c (8192 + (n : Int))).cs⟩, 0) := by
  unfold doV
  rw [if_neg (by rw [enc_mapti hd he hn (by omega)]; simp)]
  rw [show (cmMapti (d : Int) e (8192 + (n : Int)) c).1 = 10 from rfl, if_neg (by decide), if_neg (by decide), if_pos rfl]
  unfold maptiV cmMapti
  simp only
  rw [hdv]
  simp only [ne_eq, not_true, if_false]
  rw [hrt]
  simp only [ne_eq, not_true, if_false]
  rw [if_neg (by omega), htg]
  simp only [ne_eq, not_true, if_false]
  have hfo : fgO (true, 3, ((2048 + 256 * d : Nat) : Int)) w ((e : Int), ((0, 0, false) : Rt)) = w := rfl
  rw [hfo]
  unfold invS
  rw [hcl, hsd]
  simp only
  have hB : (w.inv c (8192 + (n : Int))).B = w.B := rfl
  unfold devSet
  rw [hB, evA_3 (by omega) (by omega) hd he]
  simp only [Bool.true_eq_false, if_false]
  rw [if_pos (by omega)]
 rw [hdo]
 have h2 : 2048 + 256 * d + 8 * e + 8 ≤ w.B.length := by omega
 have ks := KS.wr (v := routeN c (8192 + n)) h2
 exact ⟨rfl, (h.inv hc hn).newB (ks.mono fun a ha => by omega) (wrN_ok _ _ _ h.ok.2.1) (h.mt.wev hd he hm (o := some (n, c)) ⟨hn, hc, rfl⟩ h8)⟩
theorem WR.movi (h : WR T nc w on m dm ev Z) {d e n a t : Nat} (hd : d < 32) (he : e < 16) (ht : t < nc) (hv : ev d e = some (n, a)) (hu : ∀ j, j < nc → j ≠ a → m j n = false) :
  (doV 64 w (cmMovi d e t)).2 = 0 ∧ WR T nc (doV 64 w (cmMovi d e t)).1 on (fun j i => if i = n then (j == t && m a n) else m j i) dm (fun a b => if a = d ∧ b = e then some (n, t) else ev a b) Z := by
 have h8 := h.n8
 have hl := h.ok.1
 obtain ⟨hm, hn, ha, hrt⟩ := h.mt.rt_some h8 hd he hv
 have hev := h.mt.event h8 hd he hv
 have hst := h.mt.side h8 ht
 have hsa := h.mt.side h8 ha
 have hcl := h.ok.2.2.1
 have hw1 := (h.move ha ht hn hu).inv ht hn
 have hdv := hw1.mt.device hd hm
 have hl1 := hw1.ok.1
 have hdo : doV 64 w (cmMovi d e t) = (⟨wrN ((w.move (8192 + (n : Int)) a t).inv t (8192 + (n : Int))).B (2048 + 256 * d + 8 * e) 8 (routeN t (8192 + n)), ((w.move (8192 + (n : Int)) a t).inv t (8192 + (n : Int))).cs⟩, 0) := by
  unfold doV
  rw [if_neg (by rw [enc_movi hd he (by omega)]; simp)]
  rw [show (cmMovi (d : Int) e t).1 = 1 from rfl, if_neg (by decide), if_neg (by decide), if_neg (by decide), if_neg (by decide), if_pos rfl]
  unfold moviV cmMovi
  simp only
  rw [hev]
  simp only [ne_eq, not_true, if_false]
  rw [hcl, hst]
  simp only
  have hmo : mvO w (a : Int) (8192 + (n : Int)) t = w.move (8192 + (n : Int)) a t := by unfold mvO; rw [hcl, hsa]
  rw [hmo, hdv]
  simp only
  unfold devSet
  rw [evA_3 (by omega) (by omega) hd he]
  simp only [Bool.true_eq_false, if_false]
  rw [if_pos (by omega)]
 rw [hdo]
 have h2 : 2048 + 256 * d + 8 * e + 8 ≤ ((w.move (8192 + (n : Int)) a t).inv t (8192 + (n : Int))).B.length := by omega
 have ks := KS.wr (v := routeN t (8192 + n)) h2
 exact ⟨rfl, hw1.newB (ks.mono fun a ha => by omega) (wrN_ok _ _ _ hw1.ok.2.1) (hw1.mt.wev hd he hm (o := some (n, t)) ⟨hn, ht, rfl⟩ h8)⟩
theorem WR.disc (h : WR T nc w on m dm ev Z) {d e n a : Nat} (hd : d < 32) (he : e < 16) (hv : ev d e = some (n, a)) :
  (doV 64 w (cmDisc d e)).2 = 0 ∧ WR T nc (doV 64 w (cmDisc d e)).1 on (fun j i => if j = a ∧ i = n then false else m j i) dm (fun a b => if a = d ∧ b = e then none else ev a b) Z := by
 have h8 := h.n8
 have hl := h.ok.1
 obtain ⟨hm, hn, ha, hrt⟩ := h.mt.rt_some h8 hd he hv
 have hev := h.mt.event h8 hd he hv
 have hsa := h.mt.side h8 ha
 have hcl := h.ok.2.2.1
 have hw1 := h.set ha hn false
 have hdv := h.mt.device hd hm
 have hl1 := hw1.ok.1
 have hdo : doV 64 w (cmDisc d e) = (⟨wrN (w.set a (8192 + (n : Int)) false).B (2048 + 256 * d + 8 * e) 8 0, (w.set a (8192 + (n : Int)) false).cs⟩, 0) := by
  unfold doV
  rw [if_neg (by rw [enc_disc hd he]; simp)]
  rw [show (cmDisc (d : Int) e).1 = 15 from rfl, if_neg (by decide), if_neg (by decide), if_neg (by decide), if_neg (by decide), if_neg (by decide), if_pos rfl]
  unfold discardV cmDisc
  simp only
  rw [hev]
  simp only [ne_eq, not_true, if_false]
  rw [hdv]
  unfold fgV fgW
  simp only
  rw [hcl, hsa]
  simp only
  unfold devSet
  rw [evA_3 (by omega) (by omega) hd he]
  simp only [if_true]
 rw [hdo]
 have h2 : 2048 + 256 * d + 8 * e + 8 ≤ (w.set a (8192 + (n : Int)) false).B.length := by omega
 have ks := KS.wr (v := 0) h2
 exact ⟨rfl, hw1.newB (ks.mono fun a ha => by omega) (wrN_ok _ _ _ hw1.ok.2.1) (hw1.mt.wev hd he hm (o := none) rfl h8)⟩
theorem WR.msg (h : WR T nc w on m dm ev Z) {d e n a : Nat} (hd : d < 32) (he : e < 16) (hv : ev d e = some (n, a)) : messageV 64 w true d e = (w.set a (8192 + (n : Int)) true, 0) := by
 have h8 := h.n8
 obtain ⟨hm, hn, ha, hrt⟩ := h.mt.rt_some h8 hd he hv
 unfold messageV waitsV
 rw [if_pos rfl, h.mt.event h8 hd he hv]
 simp only [ne_eq, not_true, if_false]
 rw [h.ok.2.2.1, h.mt.side h8 ha]
 simp only
 rw [(idx_n hn).1, if_pos rfl]
end
end Go.Proofs.YtakkogdmlbkdaaaGreatDoor.Sl.It
