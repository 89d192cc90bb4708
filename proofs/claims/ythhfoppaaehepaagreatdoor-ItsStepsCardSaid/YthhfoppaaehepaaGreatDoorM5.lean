/-
  Part 5 of the proof: contracts of the code's functions, and what is plain.
-/
import Derived.Test.YthhfoppaaehepaaGreatDoorM4
import Derived.Test.YthhfoppaaehepaaGreatDoorRows
import Derived.LaidLaws
import Derived.LaidMore
import Derived.LaidHandle
import Derived.MakeChecks
import Derived.OpenShut
namespace Go.Proofs.YthhfoppaaehepaaGreatDoor.Sl
open Go Go.RowKit Go.Proofs
set_option linter.unusedVariables false
set_option linter.unusedSimpArgs false
attribute [local irreducible] CW Tri OW
set_option maxRecDepth 10000
@[reducible] def pk5 : List (Nat × Plan) := [(10, [(0, 0, []), (1, 0, []), (2, 0, []), (3, 0, []), (4, 0, []), (5, 0, []), (6, 0, []), (7, 1, [1, 5]), (8, 0, []), (9, 0, []), (10, 0, []), (11, 0, []), (12, 0, [])]), (11, [(0, 0, []), (1, 0, []), (2, 0, []), (3, 0, []), (4, 0, []), (5, 0, []), (6, 0, []), (7, 1, [1, 5])]), (16, [(0, 0, []), (1, 0, []), (2, 0, []), (3, 0, []), (4, 0, []), (5, 0, []), (6, 0, []), (7, 0, []), (8, 0, []), (9, 0, []), (10, 1, [1, 3, 5, 9]), (11, 0, [])]), (18, [(0, 0, []), (1, 0, []), (2, 0, []), (3, 0, []), (4, 0, []), (5, 0, []), (6, 0, []), (7, 0, []), (8, 0, []), (9, 0, []), (10, 0, []), (11, 0, []), (12, 0, []), (13, 0, []), (14, 0, []), (15, 0, []), (16, 0, []), (17, 0, []), (18, 0, []), (19, 0, []), (20, 0, []), (21, 0, []), (22, 0, []), (23, 0, []), (24, 0, []), (25, 0, []), (26, 0, []), (27, 0, []), (28, 0, []), (29, 0, []), (31, 0, []), (30, 1, [17, 19, 21, 29]), (32, 0, []), (33, 0, []), (34, 0, []), (35, 0, []), (36, 0, []), (37, 0, []), (38, 0, []), (39, 0, []), (40, 0, []), (41, 0, []), (42, 0, [])]), (20, [(0, 0, []), (1, 0, []), (2, 0, []), (3, 0, []), (4, 1, [1, 3]), (5, 0, []), (6, 1, [1, 3]), (7, 0, []), (8, 0, []), (9, 0, []), (10, 0, []), (11, 0, [])]), (21, [(0, 0, []), (1, 0, []), (2, 0, []), (3, 0, []), (4, 1, [1, 3]), (5, 0, []), (6, 1, [1, 3]), (7, 0, []), (8, 0, []), (9, 0, []), (10, 0, []), (11, 0, [])]), (25, [(0, 0, []), (1, 0, []), (2, 0, []), (3, 0, []), (4, 0, []), (5, 0, []), (6, 0, []), (9, 0, []), (10, 0, []), (11, 0, []), (12, 0, []), (13, 0, []), (14, 0, []), (15, 0, []), (7, 1, [1, 4, 6, 10, 13, 15]), (8, 1, [1, 4, 6, 10, 13, 15]), (16, 1, [1, 4, 6, 10, 13, 15]), (17, 1, [1, 4, 6, 10, 13, 15]), (18, 1, [1, 4, 6, 10, 13, 15]), (19, 0, [])])]
theorem fill20' (β : Base) (m g s : Nat) (B : List Nat) (hB : B.length = 4096) (hb : byOk B) (on st : Bool) {i : Nat} (p : Int) (hi : i < 10) {q : Option Addr} {n c : Nat} {xs : List Cm} {A : Atom} (hS : SlR β A q n 9 (xs.flatMap cmC)) (hx : xs.length = n) (hn : n ≤ 9223372036854775807) :
    Tri Tryz.prog β 20 [.pointer (some ⟨s, 2, none⟩), .pointer (some ⟨m, 0, none⟩), .slice q n c] (pt s (itC on st i i p) :: A :: memA m g B)
    (fun v L => ∃ k e, k ≤ n ∧ (∀ l, l < k → fillE B i i xs l = 0) ∧ (k = n ∨ fillE B i i xs k ≠ 0) ∧ v = .tuple #[.int .i64 (k : Int), .int .i64 e] ∧ L = pt s (itC on st i (fillK B i i xs k).2 p) :: A :: memA m g (fillK B i i xs k).1) :=
  (fill20 β m g s B hB hb on st p hi hi hS hx hn).mono fun v L ⟨k, hk, hE, hc⟩ => by
    rcases hc with ⟨rfl, h1, h2⟩ | ⟨h0, h1, h2, h3⟩
    · exact ⟨k, 0, hk, hE, .inl rfl, h1, h2⟩
    · exact ⟨k, _, hk, hE, .inr h1, h2, by rw [← fill_stop h1]; exact h3⟩
/-- A world, as the law sees it. -/
@[reducible] def wW (h : WH) (p : Int) (on st : Bool) (i j : Nat) (w : SW) : List Atom := [pt h.s (itC on st i j p), rowA h.q 3 (h.ps.flatMap ptC)] ++ swA h.m h.g h.ps w
set_option maxHeartbeats 64000000 in
theorem law_steps (β : Base) (hG : TabOk β) (pg : Bool) {q : Option Addr} {n c : Nat} {al : List Ac} {A : Atom} (hS : SlR β A q n 13 (al.flatMap acC)) (hal : al.length = n) (hn : n ≤ 9223372036854775807)
    {q2 : Option Addr} {n2 c2 : Nat} {xs : List Cm} {A2 : Atom} (hS2 : SlR β A2 q2 n2 9 (xs.flatMap cmC)) (hx2 : xs.length = n2) (hn2 : n2 ≤ 9223372036854775807) :
    Tri Tryz.prog β 5 [.bool pg, .slice q n c, .slice q2 n2 c2] [A, A2] (fun v L => v = .bool true ∧ L = []) := by
  refine Tri.intro tt_ok Tryz.func5 rfl rfl Tryz.ntmps5 rfl fun F => ?_
  (refine G tt_ok pk5 ?_; repeat (refine G1 tt_ok pk5 ?_; intro _))
  refine ke rfl rfl (awake8 β) ?_
  (refine G tt_ok pk5 ?_; repeat (refine G1 tt_ok pk5 ?_; intro _))
  (refine ka rfl rfl (played9 β hG pg hS hal hn) ?_; rintro _ _ ⟨h1, hh1, rfl, rfl⟩; refine w_ ?_)
  (refine G tt_ok pk5 ?_; repeat (refine G1 tt_ok pk5 ?_; intro _))
  (refine ka rfl rfl (played9 β hG pg hS hal hn) ?_; rintro _ _ ⟨h2, hh2, rfl, rfl⟩; refine w_ ?_)
  have hg := playV_g pg al
  have hp := pgI_or pg
  generalize playV pg al = x at hg ⊢
  generalize pgI pg = p at hg hp ⊢
  obtain ⟨w, on, st, i, j⟩ := x
  have hw : w.ok := hg.1.1
  have hi : i < 10 := hg.1.2.1
  have hj : j < 10 := hg.1.2.2
  have hm : GM 512 p w.B := hg.2.1.weak
  have hT1 := tsOk (β := β) hh1
  have hT2 := tsOk (β := β) hh2
  have hS31 := slr_t (β := β) h1.q hh1.1
  have hS32 := slr_t (β := β) h2.q hh2.1
  refine SQ.ent _ (Ent.trans (M := A2 :: (wW h1 p on st i j w ++ wW h2 p on st i j w)) pk_ (Ent.refl _)) ?_
  (refine G tt_ok pk5 ?_; repeat (refine G1 tt_ok pk5 ?_; intro _))
  rename_i c8 c9
  cases st with
  | true =>
    (refine G tt_ok pk5 ?_; repeat (refine G1 tt_ok pk5 ?_; intro _))
    exact CW.ret (fin_ret rfl (Ent.dropAll _) ⟨rfl, rfl⟩)
  | false =>
    (refine G tt_ok pk5 ?_; repeat (refine G1 tt_ok pk5 ?_; intro _))
    cases on with
    | false =>
      (refine G tt_ok pk5 ?_; repeat (refine G1 tt_ok pk5 ?_; intro _))
      exact CW.ret (fin_ret rfl (Ent.dropAll _) ⟨rfl, rfl⟩)
    | true =>
      (refine G tt_ok pk5 ?_; repeat (refine G1 tt_ok pk5 ?_; intro _))
      refine CW.loop (α := Nat) (fun i => i < 10) (fun i => [(8, .pointer (some ⟨c8, 0, none⟩)), (9, .pointer (some ⟨c9, 0, none⟩)), (2, .slice q2 n2 c2)])
        (fun i => [pt c8 [.pointer (some ⟨h1.s, 0, none⟩), .pointer (some ⟨h1.m, 0, none⟩), .slice h1.q 3 h1.c, .pointer (some ⟨h1.r, 0, none⟩), .pointer (some ⟨h1.m', 0, none⟩), .slice h1.q' 3 h1.c', .bool true], pt c9 [.pointer (some ⟨h2.s, 0, none⟩), .pointer (some ⟨h2.m, 0, none⟩), .slice h2.q 3 h2.c, .pointer (some ⟨h2.r, 0, none⟩), .pointer (some ⟨h2.m', 0, none⟩), .slice h2.q' 3 h2.c', .bool true], A2] ++ (wW h1 p true false i j w ++ wW h2 p true false i j w)) (fun i => lefN i j) i hi ⟨rfl, rfl, rfl, trivial⟩ pk_ ?_
      intro i hi
      (refine G tt_ok pk5 ?_; repeat (refine G1 tt_ok pk5 ?_; intro _))
      refine ke rfl rfl (left18 β hi hj) ?_
      (refine G tt_ok pk5 ?_; repeat (refine G1 tt_ok pk5 ?_; intro _))
      by_cases hl : 0 < lefN i j
      · rw [decide_eq_true (show ((lefN i j : Nat) : Int) > 0 by omega)]
        (refine G tt_ok pk5 ?_; repeat (refine G1 tt_ok pk5 ?_; intro _))
        refine ke rfl rfl (pass19 β h1.s true false p hi hj) ?_
        (refine G tt_ok pk5 ?_; repeat (refine G1 tt_ok pk5 ?_; intro _))
        refine ke rfl rfl (pass19 β h2.s true false p hi hj) ?_
        simp only [if_neg (show ¬ lefN i j = 0 by omega)]
        (refine G tt_ok pk5 ?_; repeat (refine G1 tt_ok pk5 ?_; intro _))
        exact ⟨(i + 1) % 10, by omega, by unfold lefN at hl ⊢; omega, ⟨rfl, rfl, rfl, trivial⟩, pk_⟩
      · rw [decide_eq_false (show ¬ ((lefN i j : Nat) : Int) > 0 by omega)]
        (refine G tt_ok pk5 ?_; repeat (refine G1 tt_ok pk5 ?_; intro _))
        refine CW.exit ?_
        obtain rfl : i = j := by unfold lefN at hl; omega
        (refine G tt_ok pk5 ?_; repeat (refine G1 tt_ok pk5 ?_; intro _))
        (refine ka rfl rfl (fill20' β h1.m h1.g h1.s w.B hw.1 hw.2.1 true false p hi hS2 hx2 hn2) ?_; rintro _ _ ⟨k, e1, hk, hE, hend, rfl, rfl⟩; refine w_ ?_)
        (refine G tt_ok pk5 ?_; repeat (refine G1 tt_ok pk5 ?_; intro _))
        (refine ka rfl rfl (fill20' β h2.m h2.g h2.s w.B hw.1 hw.2.1 true false p hi hS2 hx2 hn2) ?_; rintro _ _ ⟨k', e2, hk', hE', hend', rfl, rfl⟩; refine w_ ?_)
        obtain rfl : k' = k := by
          rcases Nat.lt_trichotomy k' k with h | h | h
          · rcases hend' with h' | h'
            · omega
            · exact absurd (hE _ h) h'
          · exact h
          · rcases hend with h' | h'
            · omega
            · exact absurd (hE' _ h) h'
        obtain ⟨f1, f2, f3, f4⟩ := filled (T := 512) hp hm hi hE
        have hu0 : (⟨(fillK w.B i i xs k').1, w.cs⟩ : SW).ok := by
          obtain ⟨a, b, _⟩ := fillK_ok (i := i) (xs := xs) hw.1 hw.2.1 hi k'
          exact ⟨a, b, hw.2.2⟩
        have hran := ran hp (w := ⟨(fillK w.B i i xs k').1, w.cs⟩) ⟨hu0, f3⟩ (xs := xs) (i := i) (sent := k') hi f2 (by omega) f4 (k' + 1) 0 (by omega) (by omega) (fun l hl => absurd hl (by omega))
        have hgs := stN_g hp (w := ⟨(fillK w.B i i xs k').1, w.cs⟩) ⟨hu0, f3⟩ (xs := xs)
        rw [f1]
        refine SQ.ent _ (Ent.trans (M := pt c8 [.pointer (some ⟨h1.s, 0, none⟩), .pointer (some ⟨h1.m, 0, none⟩), .slice h1.q 3 h1.c, .pointer (some ⟨h1.r, 0, none⟩), .pointer (some ⟨h1.m', 0, none⟩), .slice h1.q' 3 h1.c', .bool true] :: pt c9 [.pointer (some ⟨h2.s, 0, none⟩), .pointer (some ⟨h2.m, 0, none⟩), .slice h2.q 3 h2.c, .pointer (some ⟨h2.r, 0, none⟩), .pointer (some ⟨h2.m', 0, none⟩), .slice h2.q' 3 h2.c', .bool true] :: A2 :: (wW h1 p true false i ((i + k') % 10) ⟨(fillK w.B i i xs k').1, w.cs⟩ ++ wW h2 p true false i ((i + k') % 10) ⟨(fillK w.B i i xs k').1, w.cs⟩)) pk_ (Ent.refl _)) ?_
        generalize (⟨(fillK w.B i i xs k').1, w.cs⟩ : SW) = u at hu0 hran hgs ⊢
        rw [show stN p u xs 0 = u from rfl, show (i + 0) % 10 = i by omega] at hran
        have hj' : (i + k') % 10 < 10 := by omega
        generalize hjq : (i + k') % 10 = jq at hran hj' ⊢
        (refine G tt_ok pk5 ?_; repeat (refine G1 tt_ok pk5 ?_; intro _))
        rw [show IntKind.i64.wrap ((k' : Int) + 1) = ((k' + 1 : Nat) : Int) by rw [wrap_id (by omega) (by omega)]; omega]
        refine ke rfl rfl (run21 β h1.s h1.m h1.g h1.c hT1 hp (x := ⟨u, false, i⟩) ⟨hu0, hi⟩ true hj' (N := k' + 1) (by omega)) ?_
        generalize runV p true jq (k' + 1) 0 ⟨u, false, i⟩ = R at hran ⊢
        obtain ⟨⟨wd, st, id⟩, d, why⟩ := R
        obtain ⟨hdk, hok, hwd, hid, hfin⟩ := hran
        simp only at hdk hok hwd hid hfin ⊢
        subst hwd
        subst hid
        (refine G tt_ok pk5 ?_; repeat (refine G1 tt_ok pk5 ?_; intro _))
        refine CW.loop (α := Nat) (fun l => l ≤ d) (fun l => [(14, .int .i64 l), (12, .int .i64 d), (13, .int .i64 why), (10, .int .i64 k'), (8, .pointer (some ⟨c8, 0, none⟩)), (9, .pointer (some ⟨c9, 0, none⟩)), (2, .slice q2 n2 c2)])
          (fun l => [pt c8 [.pointer (some ⟨h1.s, 0, none⟩), .pointer (some ⟨h1.m, 0, none⟩), .slice h1.q 3 h1.c, .pointer (some ⟨h1.r, 0, none⟩), .pointer (some ⟨h1.m', 0, none⟩), .slice h1.q' 3 h1.c', .bool true], pt c9 [.pointer (some ⟨h2.s, 0, none⟩), .pointer (some ⟨h2.m, 0, none⟩), .slice h2.q 3 h2.c, .pointer (some ⟨h2.r, 0, none⟩), .pointer (some ⟨h2.m', 0, none⟩), .slice h2.q' 3 h2.c', .bool true], A2] ++ (wW h1 p true st ((i + d) % 10) jq (stN p u xs d) ++ wW h2 p true false i jq (stN p u xs l))) (fun l => d - l) 0 (by omega) ⟨rfl, rfl, rfl, rfl, rfl, rfl, rfl, trivial⟩ pk_ ?_
        intro l hld
        have hwl := (hgs l (by omega)).1.1
        (refine G tt_ok pk5 ?_; repeat (refine G1 tt_ok pk5 ?_; intro _))
        by_cases hlt : l < d
        · rw [decide_eq_true (show (l : Int) < (d : Int) by omega)]
          have hwr : IntKind.i64.wrap ((l : Int) + 1) = ((l + 1 : Nat) : Int) := by rw [wrap_id (by omega) (by omega)]; omega
          obtain ⟨x, hx⟩ : ∃ x, xs[l]? = some x := ⟨_, List.getElem?_eq_getElem (by omega)⟩
          have hgd : xs.getD l cm0 = x := by rw [List.getD_eq_getElem?_getD, hx]; rfl
          have hokl := hok l hlt
          have hst := stN_s p u (xs := xs) (k := l) (by omega)
          rw [hgd] at hokl hst
          (refine G tt_ok pk5 ?_; repeat (refine G1 tt_ok pk5 ?_; intro _))
          (refine SQ.idxG tt_ok rfl rfl (hS2) (by repeat (first | exact .h | apply AtA.t)) (l) (rfl) (by omega) rfl ?_)
          (refine G tt_ok pk5 ?_; repeat (refine G1 tt_ok pk5 ?_; intro _))
          (refine SQ.ldG tt_ok rfl rfl (hS2) (by repeat (first | exact .h | apply AtA.t)) (by omega) (fun cur hcs => cm_cur hcs hx) ?_)
          (refine G tt_ok pk5 ?_; repeat (refine G1 tt_ok pk5 ?_; intro _))
          (refine SQ.callA rfl rfl (do14 β h2.s h2.m h2.g h2.c hT2 hp hwl true false i jq x) (by repeat (first | exact .n | exact Rm.h | exact Rm.of own_row | exact Rm.of row_close0 | apply Tk.c | apply Rm.t)) ?_; rintro _ _ ⟨rfl, rfl⟩; refine ⟨(by repeat (first | exact trivial | refine ⟨trivial, ?_⟩ | refine ⟨RdAt.slr hS2 (by repeat (first | exact .h | apply AtA.t)) (by omega) (fun cur hcs => cm_cur hcs hx), ?_⟩ | refine ⟨wk (by repeat (first | exact .h | exact .q | apply At.t)) (by rfl), ?_⟩)), ?_⟩)
          rw [hokl, ← hst]
          (refine G tt_ok pk5 ?_; repeat (refine G1 tt_ok pk5 ?_; intro _))
          exact ⟨l + 1, by omega, by omega, ⟨by rw [← hwr]; rfl, rfl, rfl, rfl, rfl, rfl, rfl, trivial⟩, pk_⟩
        · rw [decide_eq_false (show ¬ (l : Int) < (d : Int) by omega)]
          (refine G tt_ok pk5 ?_; repeat (refine G1 tt_ok pk5 ?_; intro _))
          refine CW.exit ?_
          obtain rfl : l = d := by omega
          (refine G tt_ok pk5 ?_; repeat (refine G1 tt_ok pk5 ?_; intro _))
          rw [decide_eq_false (show ¬ (l : Int) > (k' : Int) by omega)]
          (refine G tt_ok pk5 ?_; repeat (refine G1 tt_ok pk5 ?_; intro _))
          have hrest : True := trivial
          rcases hfin with ⟨rfl, rfl, rfl⟩ | ⟨hwhy, hlk, rfl, hdo⟩
          · (refine G tt_ok pk5 ?_; repeat (refine G1 tt_ok pk5 ?_; intro _))
            rw [show ((l : Int) != (l : Int)) = false by simp]
            (refine G tt_ok pk5 ?_; repeat (refine G1 tt_ok pk5 ?_; intro _))
            refine ke rfl rfl (size10m β h1.m h1.g hwl.1) ?_
            (refine G tt_ok pk5 ?_; repeat (refine G1 tt_ok pk5 ?_; intro _))
            (refine ka rfl rfl (bytes11 β h1.m h1.g (stN p u xs l).B hwl.1) ?_; rintro _ _ ⟨g1, k1, rfl, rfl⟩; refine w_ ?_)
            (refine G tt_ok pk5 ?_; repeat (refine G1 tt_ok pk5 ?_; intro _))
            refine ke rfl rfl (size10m β h2.m h2.g hwl.1) ?_
            (refine G tt_ok pk5 ?_; repeat (refine G1 tt_ok pk5 ?_; intro _))
            (refine ka rfl rfl (bytes11 β h2.m h2.g (stN p u xs l).B hwl.1) ?_; rintro _ _ ⟨g2, k2, rfl, rfl⟩; refine w_ ?_)
            generalize stN p u xs l = v at hwl ⊢
            have hns : (v.B.map Int.ofNat).length = 4096 := by rw [List.length_map]; exact hwl.1
            have hS1 : ∀ g, SlR β (rowA (some ⟨g, 0, none⟩) 4096 (bys v.B)) (some ⟨g, 0, none⟩) 4096 1 ((v.B.map Int.ofNat).map (Value.int .u8)) := fun g => by rw [← bys_map]; exact slr_row (by rw [bys_len, hwl.1])
            (refine G tt_ok pk5 ?_; repeat (refine G1 tt_ok pk5 ?_; intro _))
            refine CW.loop (α := Nat) (fun k => k ≤ 3) (fun k => [(19, .int .i64 k), (8, .pointer (some ⟨c8, 0, none⟩)), (9, .pointer (some ⟨c9, 0, none⟩)), (15, .slice (some ⟨g1, 0, none⟩) 4096 k1), (17, .slice (some ⟨g2, 0, none⟩) 4096 k2), (10, .int .i64 l), (12, .int .i64 l), (13, .int .i64 0)])
              (fun k => [pt c8 [.pointer (some ⟨h1.s, 0, none⟩), .pointer (some ⟨h1.m, 0, none⟩), .slice h1.q 3 h1.c, .pointer (some ⟨h1.r, 0, none⟩), .pointer (some ⟨h1.m', 0, none⟩), .slice h1.q' 3 h1.c', .bool true], pt c9 [.pointer (some ⟨h2.s, 0, none⟩), .pointer (some ⟨h2.m, 0, none⟩), .slice h2.q 3 h2.c, .pointer (some ⟨h2.r, 0, none⟩), .pointer (some ⟨h2.m', 0, none⟩), .slice h2.q' 3 h2.c', .bool true], rowA (some ⟨g1, 0, none⟩) 4096 (bys v.B), rowA (some ⟨g2, 0, none⟩) 4096 (bys v.B)] ++ (wW h1 p true false ((i + l) % 10) jq v ++ wW h2 p true false i jq v)) (fun k => 3 - k) 0 (by omega) ⟨rfl, rfl, rfl, rfl, rfl, rfl, rfl, rfl, trivial⟩ pk_ ?_
            intro k hk3
            (refine G tt_ok pk5 ?_; repeat (refine G1 tt_ok pk5 ?_; intro _))
            by_cases hlt3 : k < 3
            · rw [decide_eq_true (show (k : Int) < ((3 : Nat) : Int) by omega)]
              have hwr : IntKind.i64.wrap ((k : Int) + 1) = ((k + 1 : Nat) : Int) := by rw [wrap_id (by omega) (by omega)]; omega
              obtain ⟨a, ha, hga⟩ := ts_rd (β := β) hh1 k hlt3
              obtain ⟨b, hb, hgb⟩ := ts_rd (β := β) hh2 k hlt3
              (refine G tt_ok pk5 ?_; repeat (refine G1 tt_ok pk5 ?_; intro _))
              (refine SQ.idxG tt_ok rfl rfl (hS31) (by repeat (first | exact .h | apply AtA.t)) (k) (rfl) (hlt3) rfl ?_)
              (refine G tt_ok pk5 ?_; repeat (refine G1 tt_ok pk5 ?_; intro _))
              (refine SQ.ldG tt_ok rfl rfl (hS31) (by repeat (first | exact .h | apply AtA.t)) (by omega) (fun cur hcs => pt_cur hcs ha) ?_)
              (refine G tt_ok pk5 ?_; repeat (refine G1 tt_ok pk5 ?_; intro _))
              (refine SQ.idxG tt_ok rfl rfl (hS32) (by repeat (first | exact .h | apply AtA.t)) (k) (rfl) (hlt3) rfl ?_)
              (refine G tt_ok pk5 ?_; repeat (refine G1 tt_ok pk5 ?_; intro _))
              (refine SQ.ldG tt_ok rfl rfl (hS32) (by repeat (first | exact .h | apply AtA.t)) (by omega) (fun cur hcs => pt_cur hcs hb) ?_)
              (refine G tt_ok pk5 ?_; repeat (refine G1 tt_ok pk5 ?_; intro _))
              rw [hga, hgb]
              (refine SQ.callA rfl rfl (waiting13 β h1.m h1.ps k) (by repeat (first | exact .n | exact Rm.h | exact Rm.of own_row | exact Rm.of row_close0 | apply Tk.c | apply Rm.t)) ?_; rintro _ _ ⟨b2, b3, rfl, rfl⟩; refine ⟨(by repeat (first | exact trivial | refine ⟨trivial, ?_⟩ | refine ⟨RdAt.slr hS31 (by repeat (first | exact .h | apply AtA.t)) (by omega) (fun cur hcs => hga ▸ pt_cur hcs ha), ?_⟩ | refine ⟨RdAt.slr hS32 (by repeat (first | exact .h | apply AtA.t)) (by omega) (fun cur hcs => hgb ▸ pt_cur hcs hb), ?_⟩ | refine ⟨wk (by repeat (first | exact .h | exact .q | apply At.t)) (by rfl), ?_⟩)), ?_⟩)
              (refine G tt_ok pk5 ?_; repeat (refine G1 tt_ok pk5 ?_; intro _))
              (refine SQ.callA rfl rfl (list12 β (waitIter β h1.m h1.g b2 b3 h1.ps hwl hlt3) (wl_len v hlt3)) (by repeat (first | exact .n | exact Rm.h | exact Rm.of own_row | exact Rm.of row_close0 | apply Tk.c | apply Rm.t)) ?_; rintro _ _ ⟨qa, ca, rfl, rfl⟩; refine ⟨(by repeat (first | exact trivial | refine ⟨trivial, ?_⟩ | refine ⟨RdAt.slr hS31 (by repeat (first | exact .h | apply AtA.t)) (by omega) (fun cur hcs => hga ▸ pt_cur hcs ha), ?_⟩ | refine ⟨RdAt.slr hS32 (by repeat (first | exact .h | apply AtA.t)) (by omega) (fun cur hcs => hgb ▸ pt_cur hcs hb), ?_⟩ | refine ⟨wk (by repeat (first | exact .h | exact .q | apply At.t)) (by rfl), ?_⟩)), ?_⟩)
              (refine G tt_ok pk5 ?_; repeat (refine G1 tt_ok pk5 ?_; intro _))
              (refine SQ.callA rfl rfl (waiting13 β h2.m h2.ps k) (by repeat (first | exact .n | exact Rm.h | exact Rm.of own_row | exact Rm.of row_close0 | apply Tk.c | apply Rm.t)) ?_; rintro _ _ ⟨b4, b5, rfl, rfl⟩; refine ⟨(by repeat (first | exact trivial | refine ⟨trivial, ?_⟩ | refine ⟨RdAt.slr hS31 (by repeat (first | exact .h | apply AtA.t)) (by omega) (fun cur hcs => hga ▸ pt_cur hcs ha), ?_⟩ | refine ⟨RdAt.slr hS32 (by repeat (first | exact .h | apply AtA.t)) (by omega) (fun cur hcs => hgb ▸ pt_cur hcs hb), ?_⟩ | refine ⟨wk (by repeat (first | exact .h | exact .q | apply At.t)) (by rfl), ?_⟩)), ?_⟩)
              (refine G tt_ok pk5 ?_; repeat (refine G1 tt_ok pk5 ?_; intro _))
              (refine SQ.callA rfl rfl (list12 β (waitIter β h2.m h2.g b4 b5 h2.ps hwl hlt3) (wl_len v hlt3)) (by repeat (first | exact .n | exact Rm.h | exact Rm.of own_row | exact Rm.of row_close0 | apply Tk.c | apply Rm.t)) ?_; rintro _ _ ⟨qb, cb, rfl, rfl⟩; refine ⟨(by repeat (first | exact trivial | refine ⟨trivial, ?_⟩ | refine ⟨RdAt.slr hS31 (by repeat (first | exact .h | apply AtA.t)) (by omega) (fun cur hcs => hga ▸ pt_cur hcs ha), ?_⟩ | refine ⟨RdAt.slr hS32 (by repeat (first | exact .h | apply AtA.t)) (by omega) (fun cur hcs => hgb ▸ pt_cur hcs hb), ?_⟩ | refine ⟨wk (by repeat (first | exact .h | exact .q | apply At.t)) (by rfl), ?_⟩)), ?_⟩)
              (refine G tt_ok pk5 ?_; repeat (refine G1 tt_ok pk5 ?_; intro _))
              (refine SQ.callA rfl rfl (same15 β (q1 := qa) (q2 := qb) (c1 := ca) (c2 := cb) (l := wl v k) (by have := wl_len v hlt3; omega)) (by repeat (first | exact .n | exact Rm.h | exact Rm.of own_row | exact Rm.of row_close0 | apply Tk.c | apply Rm.t)) ?_; rintro _ _ ⟨rfl, rfl⟩; refine ⟨(by repeat (first | exact trivial | refine ⟨trivial, ?_⟩ | refine ⟨RdAt.slr hS31 (by repeat (first | exact .h | apply AtA.t)) (by omega) (fun cur hcs => hga ▸ pt_cur hcs ha), ?_⟩ | refine ⟨RdAt.slr hS32 (by repeat (first | exact .h | apply AtA.t)) (by omega) (fun cur hcs => hgb ▸ pt_cur hcs hb), ?_⟩ | refine ⟨wk (by repeat (first | exact .h | exact .q | apply At.t)) (by rfl), ?_⟩)), ?_⟩)
              (refine G tt_ok pk5 ?_; repeat (refine G1 tt_ok pk5 ?_; intro _))
              exact ⟨k + 1, by omega, by omega, ⟨by rw [← hwr]; rfl, rfl, rfl, rfl, rfl, rfl, rfl, rfl, trivial⟩, pk_⟩
            · rw [decide_eq_false (show ¬ (k : Int) < ((3 : Nat) : Int) by omega)]
              (refine G tt_ok pk5 ?_; repeat (refine G1 tt_ok pk5 ?_; intro _))
              refine CW.exit ?_
              (refine G tt_ok pk5 ?_; repeat (refine G1 tt_ok pk5 ?_; intro _))
              have hst22 : stepV p true jq ⟨v, false, (i + l) % 10⟩ = (⟨v, false, (i + l) % 10⟩, cm0, 170) := by
                unfold stepV
                have hh : headV v.B ((i + l) % 10) jq = (cm0, 170) := by unfold headV; rw [if_pos (by rw [← hjq]; unfold lefN; omega)]
                rw [if_neg (by simp), if_neg (by simp), hh]
                rfl
              refine ke rfl rfl (step22 β h1.s h1.m h1.g h1.c hT1 hp (x := ⟨v, false, (i + l) % 10⟩) ⟨hwl, by show (i + l) % 10 < 10; omega⟩ true hj') ?_
              rw [hst22]
              simp only
              (refine G tt_ok pk5 ?_; repeat (refine G1 tt_ok pk5 ?_; intro _))
              refine SQ.bstr tt_ok rfl rfl (hS1 g1) (by repeat (first | exact .h | apply AtA.t)) hns (by exact trivial) ?_
              (refine G tt_ok pk5 ?_; repeat (refine G1 tt_ok pk5 ?_; intro _))
              refine SQ.bstr tt_ok rfl rfl (hS1 g2) (by repeat (first | exact .h | apply AtA.t)) hns (by exact trivial) ?_
              (refine G tt_ok pk5 ?_; repeat (refine G1 tt_ok pk5 ?_; intro _))
              rw [beq_self_eq_true]
              (refine G tt_ok pk5 ?_; repeat (refine G1 tt_ok pk5 ?_; intro _))
              refine ke rfl rfl (left18 β (i := (i + l) % 10) (by omega) hj') ?_
              (refine G tt_ok pk5 ?_; repeat (refine G1 tt_ok pk5 ?_; intro _))
              rw [show (((lefN ((i + l) % 10) jq : Nat) : Int) == IntKind.i64.wrap ((l : Int) - (l : Int))) = true by rw [wrap_id (by omega) (by omega), beq_iff_eq, ← hjq]; unfold lefN; omega]
              (refine G tt_ok pk5 ?_; repeat (refine G1 tt_ok pk5 ?_; intro _))
              exact CW.ret (fin_ret rfl (Ent.dropAll _) ⟨rfl, rfl⟩)
          · rw [show (why == 0) = false by simp [hwhy]]
            (refine G tt_ok pk5 ?_; repeat (refine G1 tt_ok pk5 ?_; intro _))
            rw [show (why != 0) = true by simp [hwhy]]
            (refine G tt_ok pk5 ?_; repeat (refine G1 tt_ok pk5 ?_; intro _))
            rw [show IntKind.i64.wrap ((n2 : Int) - 1) = ((n2 - 1 : Nat) : Int) by rw [wrap_id (by omega) (by omega)]; omega]
            rw [if_neg (show ¬ (((n2 - 1 : Nat) : Int) < (l : Int)) by omega)]
            (refine G tt_ok pk5 ?_; repeat (refine G1 tt_ok pk5 ?_; intro _))
            obtain ⟨x, hx⟩ : ∃ x, xs[l]? = some x := ⟨_, List.getElem?_eq_getElem (by omega)⟩
            have hgd : xs.getD l cm0 = x := by rw [List.getD_eq_getElem?_getD, hx]; rfl
            rw [hgd] at hdo
            (refine SQ.idxG tt_ok rfl rfl (hS2) (by repeat (first | exact .h | apply AtA.t)) (l) (rfl) (by omega) rfl ?_)
            (refine G tt_ok pk5 ?_; repeat (refine G1 tt_ok pk5 ?_; intro _))
            (refine SQ.ldG tt_ok rfl rfl (hS2) (by repeat (first | exact .h | apply AtA.t)) (by omega) (fun cur hcs => cm_cur hcs hx) ?_)
            (refine G tt_ok pk5 ?_; repeat (refine G1 tt_ok pk5 ?_; intro _))
            (refine SQ.callA rfl rfl (do14 β h2.s h2.m h2.g h2.c hT2 hp hwl true false i jq x) (by repeat (first | exact .n | exact Rm.h | exact Rm.of own_row | exact Rm.of row_close0 | apply Tk.c | apply Rm.t)) ?_; rintro _ _ ⟨rfl, rfl⟩; refine ⟨(by repeat (first | exact trivial | refine ⟨trivial, ?_⟩ | refine ⟨RdAt.slr hS2 (by repeat (first | exact .h | apply AtA.t)) (by omega) (fun cur hcs => cm_cur hcs hx), ?_⟩ | refine ⟨wk (by repeat (first | exact .h | exact .q | apply At.t)) (by rfl), ?_⟩)), ?_⟩)
            rw [hdo]
            (refine G tt_ok pk5 ?_; repeat (refine G1 tt_ok pk5 ?_; intro _))
            rw [show (why != why) = false by simp]
            (refine G tt_ok pk5 ?_; repeat (refine G1 tt_ok pk5 ?_; intro _))
            refine ke rfl rfl (size10m β h1.m h1.g hwl.1) ?_
            (refine G tt_ok pk5 ?_; repeat (refine G1 tt_ok pk5 ?_; intro _))
            (refine ka rfl rfl (bytes11 β h1.m h1.g (stN p u xs l).B hwl.1) ?_; rintro _ _ ⟨g1, k1, rfl, rfl⟩; refine w_ ?_)
            (refine G tt_ok pk5 ?_; repeat (refine G1 tt_ok pk5 ?_; intro _))
            refine ke rfl rfl (size10m β h2.m h2.g hwl.1) ?_
            (refine G tt_ok pk5 ?_; repeat (refine G1 tt_ok pk5 ?_; intro _))
            (refine ka rfl rfl (bytes11 β h2.m h2.g (stN p u xs l).B hwl.1) ?_; rintro _ _ ⟨g2, k2, rfl, rfl⟩; refine w_ ?_)
            generalize stN p u xs l = v at hwl ⊢
            have hns : (v.B.map Int.ofNat).length = 4096 := by rw [List.length_map]; exact hwl.1
            have hS1 : ∀ g, SlR β (rowA (some ⟨g, 0, none⟩) 4096 (bys v.B)) (some ⟨g, 0, none⟩) 4096 1 ((v.B.map Int.ofNat).map (Value.int .u8)) := fun g => by rw [← bys_map]; exact slr_row (by rw [bys_len, hwl.1])
            (refine G tt_ok pk5 ?_; repeat (refine G1 tt_ok pk5 ?_; intro _))
            refine CW.loop (α := Nat) (fun k => k ≤ 3) (fun k => [(19, .int .i64 k), (8, .pointer (some ⟨c8, 0, none⟩)), (9, .pointer (some ⟨c9, 0, none⟩)), (15, .slice (some ⟨g1, 0, none⟩) 4096 k1), (17, .slice (some ⟨g2, 0, none⟩) 4096 k2), (10, .int .i64 k'), (12, .int .i64 l), (13, .int .i64 why)])
              (fun k => [pt c8 [.pointer (some ⟨h1.s, 0, none⟩), .pointer (some ⟨h1.m, 0, none⟩), .slice h1.q 3 h1.c, .pointer (some ⟨h1.r, 0, none⟩), .pointer (some ⟨h1.m', 0, none⟩), .slice h1.q' 3 h1.c', .bool true], pt c9 [.pointer (some ⟨h2.s, 0, none⟩), .pointer (some ⟨h2.m, 0, none⟩), .slice h2.q 3 h2.c, .pointer (some ⟨h2.r, 0, none⟩), .pointer (some ⟨h2.m', 0, none⟩), .slice h2.q' 3 h2.c', .bool true], rowA (some ⟨g1, 0, none⟩) 4096 (bys v.B), rowA (some ⟨g2, 0, none⟩) 4096 (bys v.B)] ++ (wW h1 p true true ((i + l) % 10) jq v ++ wW h2 p true false i jq v)) (fun k => 3 - k) 0 (by omega) ⟨rfl, rfl, rfl, rfl, rfl, rfl, rfl, rfl, trivial⟩ pk_ ?_
            intro k hk3
            (refine G tt_ok pk5 ?_; repeat (refine G1 tt_ok pk5 ?_; intro _))
            by_cases hlt3 : k < 3
            · rw [decide_eq_true (show (k : Int) < ((3 : Nat) : Int) by omega)]
              have hwr : IntKind.i64.wrap ((k : Int) + 1) = ((k + 1 : Nat) : Int) := by rw [wrap_id (by omega) (by omega)]; omega
              obtain ⟨a, ha, hga⟩ := ts_rd (β := β) hh1 k hlt3
              obtain ⟨b, hb, hgb⟩ := ts_rd (β := β) hh2 k hlt3
              (refine G tt_ok pk5 ?_; repeat (refine G1 tt_ok pk5 ?_; intro _))
              (refine SQ.idxG tt_ok rfl rfl (hS31) (by repeat (first | exact .h | apply AtA.t)) (k) (rfl) (hlt3) rfl ?_)
              (refine G tt_ok pk5 ?_; repeat (refine G1 tt_ok pk5 ?_; intro _))
              (refine SQ.ldG tt_ok rfl rfl (hS31) (by repeat (first | exact .h | apply AtA.t)) (by omega) (fun cur hcs => pt_cur hcs ha) ?_)
              (refine G tt_ok pk5 ?_; repeat (refine G1 tt_ok pk5 ?_; intro _))
              (refine SQ.idxG tt_ok rfl rfl (hS32) (by repeat (first | exact .h | apply AtA.t)) (k) (rfl) (hlt3) rfl ?_)
              (refine G tt_ok pk5 ?_; repeat (refine G1 tt_ok pk5 ?_; intro _))
              (refine SQ.ldG tt_ok rfl rfl (hS32) (by repeat (first | exact .h | apply AtA.t)) (by omega) (fun cur hcs => pt_cur hcs hb) ?_)
              (refine G tt_ok pk5 ?_; repeat (refine G1 tt_ok pk5 ?_; intro _))
              rw [hga, hgb]
              (refine SQ.callA rfl rfl (waiting13 β h1.m h1.ps k) (by repeat (first | exact .n | exact Rm.h | exact Rm.of own_row | exact Rm.of row_close0 | apply Tk.c | apply Rm.t)) ?_; rintro _ _ ⟨b2, b3, rfl, rfl⟩; refine ⟨(by repeat (first | exact trivial | refine ⟨trivial, ?_⟩ | refine ⟨RdAt.slr hS31 (by repeat (first | exact .h | apply AtA.t)) (by omega) (fun cur hcs => hga ▸ pt_cur hcs ha), ?_⟩ | refine ⟨RdAt.slr hS32 (by repeat (first | exact .h | apply AtA.t)) (by omega) (fun cur hcs => hgb ▸ pt_cur hcs hb), ?_⟩ | refine ⟨wk (by repeat (first | exact .h | exact .q | apply At.t)) (by rfl), ?_⟩)), ?_⟩)
              (refine G tt_ok pk5 ?_; repeat (refine G1 tt_ok pk5 ?_; intro _))
              (refine SQ.callA rfl rfl (list12 β (waitIter β h1.m h1.g b2 b3 h1.ps hwl hlt3) (wl_len v hlt3)) (by repeat (first | exact .n | exact Rm.h | exact Rm.of own_row | exact Rm.of row_close0 | apply Tk.c | apply Rm.t)) ?_; rintro _ _ ⟨qa, ca, rfl, rfl⟩; refine ⟨(by repeat (first | exact trivial | refine ⟨trivial, ?_⟩ | refine ⟨RdAt.slr hS31 (by repeat (first | exact .h | apply AtA.t)) (by omega) (fun cur hcs => hga ▸ pt_cur hcs ha), ?_⟩ | refine ⟨RdAt.slr hS32 (by repeat (first | exact .h | apply AtA.t)) (by omega) (fun cur hcs => hgb ▸ pt_cur hcs hb), ?_⟩ | refine ⟨wk (by repeat (first | exact .h | exact .q | apply At.t)) (by rfl), ?_⟩)), ?_⟩)
              (refine G tt_ok pk5 ?_; repeat (refine G1 tt_ok pk5 ?_; intro _))
              (refine SQ.callA rfl rfl (waiting13 β h2.m h2.ps k) (by repeat (first | exact .n | exact Rm.h | exact Rm.of own_row | exact Rm.of row_close0 | apply Tk.c | apply Rm.t)) ?_; rintro _ _ ⟨b4, b5, rfl, rfl⟩; refine ⟨(by repeat (first | exact trivial | refine ⟨trivial, ?_⟩ | refine ⟨RdAt.slr hS31 (by repeat (first | exact .h | apply AtA.t)) (by omega) (fun cur hcs => hga ▸ pt_cur hcs ha), ?_⟩ | refine ⟨RdAt.slr hS32 (by repeat (first | exact .h | apply AtA.t)) (by omega) (fun cur hcs => hgb ▸ pt_cur hcs hb), ?_⟩ | refine ⟨wk (by repeat (first | exact .h | exact .q | apply At.t)) (by rfl), ?_⟩)), ?_⟩)
              (refine G tt_ok pk5 ?_; repeat (refine G1 tt_ok pk5 ?_; intro _))
              (refine SQ.callA rfl rfl (list12 β (waitIter β h2.m h2.g b4 b5 h2.ps hwl hlt3) (wl_len v hlt3)) (by repeat (first | exact .n | exact Rm.h | exact Rm.of own_row | exact Rm.of row_close0 | apply Tk.c | apply Rm.t)) ?_; rintro _ _ ⟨qb, cb, rfl, rfl⟩; refine ⟨(by repeat (first | exact trivial | refine ⟨trivial, ?_⟩ | refine ⟨RdAt.slr hS31 (by repeat (first | exact .h | apply AtA.t)) (by omega) (fun cur hcs => hga ▸ pt_cur hcs ha), ?_⟩ | refine ⟨RdAt.slr hS32 (by repeat (first | exact .h | apply AtA.t)) (by omega) (fun cur hcs => hgb ▸ pt_cur hcs hb), ?_⟩ | refine ⟨wk (by repeat (first | exact .h | exact .q | apply At.t)) (by rfl), ?_⟩)), ?_⟩)
              (refine G tt_ok pk5 ?_; repeat (refine G1 tt_ok pk5 ?_; intro _))
              (refine SQ.callA rfl rfl (same15 β (q1 := qa) (q2 := qb) (c1 := ca) (c2 := cb) (l := wl v k) (by have := wl_len v hlt3; omega)) (by repeat (first | exact .n | exact Rm.h | exact Rm.of own_row | exact Rm.of row_close0 | apply Tk.c | apply Rm.t)) ?_; rintro _ _ ⟨rfl, rfl⟩; refine ⟨(by repeat (first | exact trivial | refine ⟨trivial, ?_⟩ | refine ⟨RdAt.slr hS31 (by repeat (first | exact .h | apply AtA.t)) (by omega) (fun cur hcs => hga ▸ pt_cur hcs ha), ?_⟩ | refine ⟨RdAt.slr hS32 (by repeat (first | exact .h | apply AtA.t)) (by omega) (fun cur hcs => hgb ▸ pt_cur hcs hb), ?_⟩ | refine ⟨wk (by repeat (first | exact .h | exact .q | apply At.t)) (by rfl), ?_⟩)), ?_⟩)
              (refine G tt_ok pk5 ?_; repeat (refine G1 tt_ok pk5 ?_; intro _))
              exact ⟨k + 1, by omega, by omega, ⟨by rw [← hwr]; rfl, rfl, rfl, rfl, rfl, rfl, rfl, rfl, trivial⟩, pk_⟩
            · rw [decide_eq_false (show ¬ (k : Int) < ((3 : Nat) : Int) by omega)]
              (refine G tt_ok pk5 ?_; repeat (refine G1 tt_ok pk5 ?_; intro _))
              refine CW.exit ?_
              (refine G tt_ok pk5 ?_; repeat (refine G1 tt_ok pk5 ?_; intro _))
              have hst22 : stepV p true jq ⟨v, true, (i + l) % 10⟩ = (⟨v, true, (i + l) % 10⟩, cm0, 190) := by
                unfold stepV
                rw [if_neg (by simp), if_pos rfl]
              refine ke rfl rfl (step22 β h1.s h1.m h1.g h1.c hT1 hp (x := ⟨v, true, (i + l) % 10⟩) ⟨hwl, by show (i + l) % 10 < 10; omega⟩ true hj') ?_
              rw [hst22]
              simp only
              (refine G tt_ok pk5 ?_; repeat (refine G1 tt_ok pk5 ?_; intro _))
              refine SQ.bstr tt_ok rfl rfl (hS1 g1) (by repeat (first | exact .h | apply AtA.t)) hns (by exact trivial) ?_
              (refine G tt_ok pk5 ?_; repeat (refine G1 tt_ok pk5 ?_; intro _))
              refine SQ.bstr tt_ok rfl rfl (hS1 g2) (by repeat (first | exact .h | apply AtA.t)) hns (by exact trivial) ?_
              (refine G tt_ok pk5 ?_; repeat (refine G1 tt_ok pk5 ?_; intro _))
              rw [beq_self_eq_true]
              (refine G tt_ok pk5 ?_; repeat (refine G1 tt_ok pk5 ?_; intro _))
              refine ke rfl rfl (left18 β (i := (i + l) % 10) (by omega) hj') ?_
              (refine G tt_ok pk5 ?_; repeat (refine G1 tt_ok pk5 ?_; intro _))
              rw [show (((lefN ((i + l) % 10) jq : Nat) : Int) == IntKind.i64.wrap ((k' : Int) - (l : Int))) = true by rw [wrap_id (by omega) (by omega), beq_iff_eq, ← hjq]; unfold lefN; omega]
              (refine G tt_ok pk5 ?_; repeat (refine G1 tt_ok pk5 ?_; intro _))
              rw [show (why == 0) = false by simp [hwhy]]
              (refine G tt_ok pk5 ?_; repeat (refine G1 tt_ok pk5 ?_; intro _))
              rw [show (why != 0) = true by simp [hwhy]]
              (refine G tt_ok pk5 ?_; repeat (refine G1 tt_ok pk5 ?_; intro _))
              exact CW.ret (fin_ret rfl (Ent.dropAll _) ⟨rfl, rfl⟩)
end Go.Proofs.YthhfoppaaehepaaGreatDoor.Sl
namespace Go.Proofs.YthhfoppaaehepaaGreatDoor.Sl
open Go Go.RowKit Go.Proofs
set_option linter.unusedVariables false
set_option linter.unusedSimpArgs false
attribute [local irreducible] CW Tri OW
set_option maxRecDepth 10000
end Go.Proofs.YthhfoppaaehepaaGreatDoor.Sl
namespace Go.Proofs.YthhfoppaaehepaaGreatDoor.Sl
open Go Go.RowKit Go.Proofs
set_option linter.unusedVariables false
set_option linter.unusedSimpArgs false
attribute [local irreducible] CW Tri OW
set_option maxRecDepth 10000
end Go.Proofs.YthhfoppaaehepaaGreatDoor.Sl
namespace Go.Proofs.YthhfoppaaehepaaGreatDoor.Sl
open Go Go.RowKit Go.Proofs
set_option linter.unusedVariables false
set_option linter.unusedSimpArgs false
attribute [local irreducible] CW Tri OW
set_option maxRecDepth 10000
end Go.Proofs.YthhfoppaaehepaaGreatDoor.Sl
namespace Go.Proofs.YthhfoppaaehepaaGreatDoor.Sl
open Go Go.RowKit Go.Proofs
set_option linter.unusedVariables false
set_option linter.unusedSimpArgs false
set_option maxRecDepth 100000
theorem bys_get : ∀ (B : List Nat) (i : Nat), (bys B)[i]? = B[i]?.map fun b => Value.int .u8 (b : Int)
  | [], i => by simp [bys]
  | b :: r, 0 => rfl
  | b :: r, i + 1 => by
    have := bys_get r i
    show (bys r)[i]? = _
    rw [this]; rfl
@[reducible] def laidL : List (String × DataW Unit) := [("math/bits.deBruijn64tab", Rows.laid_math_bits_deBruijn64tab)]
theorem gTab : Tryz.prog.globalNamed "math/bits.deBruijn64tab" = some 0 := by kernel_rfl
theorem tTab : (Tryz.prog.globals[0]?).map (·.type) = some 245 := by kernel_rfl
theorem cTab : Tryz.prog.cellsOf 245 = 64 := by kernel_rfl
theorem cTab5 : Tryz.prog.cellsOf 5 = 1 := by kernel_rfl
theorem laid_is : (Rows.laid_math_bits_deBruijn64tab : DataW Unit) = .agg (tzT.map fun n : Nat => .lit (.int .u8 (n : Int))) := rfl
theorem tab_of_laid {W : World} (h : laidMetH Tryz.prog laidL W) : TabOk W := by
  rw [MakeChecks.laidMetH_plain _ _ _ (by kernel_rfl)] at h
  obtain ⟨ps, ⟨g, t, cs, fu, p, q, hg, ht, hv, hd, _, _⟩, _, _⟩ := h
  obtain rfl := Option.some.inj (gTab.symm.trans hg)
  obtain rfl := Option.some.inj (tTab.symm.trans ht)
  obtain ⟨xs, m, rfl, hx, hlen, hn, hel⟩ := DataW.trod_array Tryz.underlying245 hd
  rw [cTab] at hlen
  have hxs : xs.map (·.1) = tzT.map fun n : Nat => DataW.lit (.int .u8 (n : Int)) := by
    rw [laid_is] at hx
    injection hx with h1 _
    injection h1 with h1
    exact h1.symm
  have hcs : cs.toList = bys tzT := by
    apply List.ext_getElem?
    intro i
    rw [bys_get]
    by_cases hi : i < 64
    · have h1 := hel i hi
      rw [cTab5] at h1
      obtain ⟨x, hx1⟩ : ∃ x, xs[i]? = some x := ⟨_, List.getElem?_eq_getElem (by rw [hn]; exact hi)⟩
      rw [hx1] at h1
      obtain ⟨n, e1, e2, _⟩ := DataW.trod_int Tryz.underlying5 h1
      have h2 : (xs.map (·.1))[i]? = some (.lit (.int .u8 n)) := by rw [List.getElem?_map, hx1, e2]; rfl
      rw [hxs, List.getElem?_map] at h2
      have h3 : cs.toList[i]? = some (.int .u8 n) := by
        have : ((cs.toList.drop (i * 1)).take 1)[0]? = some (.int .u8 n) := by rw [e1]; rfl
        rw [List.getElem?_take_of_lt (by omega), List.getElem?_drop] at this
        simpa using this
      rw [h3]
      cases hz : tzT[i]? with
      | none => rw [hz] at h2; cases h2
      | some z =>
        rw [hz] at h2
        simp only [Option.map_some, Option.some.injEq, DataW.lit.injEq, Lit.int.injEq, true_and] at h2
        rw [← h2]; rfl
    · rw [List.getElem?_eq_none (by omega), List.getElem?_eq_none (by have : tzT.length = 64 := rfl; omega)]; rfl
  unfold World.var? at hv
  rw [gTab] at hv
  simp only [Option.bind_some] at hv
  cases hh : W.heap[0]? with
  | none => rw [hh] at hv; cases hv
  | some o =>
    rw [hh] at hv
    cases o with
    | cells c t fz =>
      simp only [Option.some.injEq] at hv
      subst hv
      refine ⟨(Array.getElem?_eq_some_iff.1 hh).1, t, fz, ?_⟩
      rw [hh, ← hcs]
    | _ => cases hv
/-- A world in which the table lies. -/
noncomputable def laidWorld (os : Os) : World :=
  let w0 := World.holding Tryz.prog os ⟨#[], #[], []⟩
  { w0 with heap := w0.heap.modify 0 fun
      | .cells _ t frozen => .cells (bys tzT).toArray t frozen
      | o => o }
theorem laidWorld_met (os : Os) (args : Array Value) : laidMetH Tryz.prog laidL ((laidWorld os).forCall (fun _ _ => 0) ⟨#[], args, []⟩).memory := by
  rw [MakeChecks.laidMetH_plain _ _ _ (by kernel_rfl)]
  exact laidMet_of_run' 8 (by kernel_rfl) (by kernel_rfl)
end Go.Proofs.YthhfoppaaehepaaGreatDoor.Sl
