/-
  Part 2 of the proof: contracts of the code's functions, and what is plain.
-/
import Derived.Test.YthhfoppaaehepaaGreatDoorM1
import Derived.Test.YthhfoppaaehepaaGreatDoorL8
import Derived.Test.YthhfoppaaehepaaGreatDoorL9
namespace Go.Proofs.YthhfoppaaehepaaGreatDoor.Sl
open Go Go.RowKit Go.Proofs
set_option linter.unusedVariables false
set_option linter.unusedSimpArgs false
attribute [local irreducible] CW Tri OW
set_option maxRecDepth 10000
@[reducible] def pk43 : List (Nat × Plan) := []
theorem deviceV_ok (B : List Nat) (p id : Int) : okDv (deviceV B p id).1 := tabGet_ok B 0 64 p id
def eventV (B : List Nat) (p id ev : Int) : Rt × Int := if (deviceV B p id).2 ≠ 0 then ((0, 0, false), (deviceV B p id).2) else
  ((devRt B (deviceV B p id).1 ev).1, if (devRt B (deviceV B p id).1 ev).2 = 0 ∧ (devRt B (deviceV B p id).1 ev).1.2.2 = false then 182 else (devRt B (deviceV B p id).1 ev).2)
set_option maxHeartbeats 4000000 in
theorem event43 (β : Base) (s m g : Nat) (B : List Nat) (hB : B.length = 4096) (hb : byOk B) (on st : Bool) (i j : Nat) {p : Int} (hp : p = 0 ∨ p = 32) (id ev : Int) : Tri Tryz.prog β 43 [.pointer (some ⟨s, 0, none⟩), .pointer (some ⟨m, 0, none⟩), .int .i64 id, .int .i64 ev] (pt s (itC on st i j p) :: memA m g B)
    (fun v L => v = .tuple #[.agg #[.int .i64 (eventV B p id ev).1.1, .int .i64 (eventV B p id ev).1.2.1, .bool (eventV B p id ev).1.2.2], .int .i64 (eventV B p id ev).2] ∧ L = pt s (itC on st i j p) :: memA m g B) := by
  refine Tri.intro tt_ok Tryz.func43 rfl rfl Tryz.ntmps43 rfl fun F => ?_
  unfold eventV
  (refine G tt_ok pk43 ?_; repeat (refine G1 tt_ok pk43 ?_; intro _))
  refine ke rfl rfl (device83 β s m g B hB hb on st i j hp id) ?_
  have hd := deviceV_ok B p id
  generalize deviceV B p id = x at hd ⊢
  obtain ⟨d, e⟩ := x
  simp only at hd ⊢
  (refine G tt_ok pk43 ?_; repeat (refine G1 tt_ok pk43 ?_; intro _))
  by_cases he : e = 0
  · subst he
    rw [if_neg (by simp)]
    (refine G tt_ok pk43 ?_; repeat (refine G1 tt_ok pk43 ?_; intro _))
    refine ke rfl rfl (route84 β m g B (by omega) hb d hd ev) ?_
    generalize devRt B d ev = y
    obtain ⟨⟨r0, r1, r2⟩, e⟩ := y
    simp only
    (refine G tt_ok pk43 ?_; repeat (refine G1 tt_ok pk43 ?_; intro _))
    by_cases he : e = 0
    · subst he
      (refine G tt_ok pk43 ?_; repeat (refine G1 tt_ok pk43 ?_; intro _))
      cases r2 <;> (
        (refine G tt_ok pk43 ?_; repeat (refine G1 tt_ok pk43 ?_; intro _))
        exact CW.ret (fin_cells [_, _] ⟨(by first | exact ⟨_, _, _, _, 0, rfl, rfl, rfl, rfl⟩ | exact ⟨_, _, _, _, 1, rfl, rfl, rfl, rfl⟩ | exact ⟨_, _, _, _, 2, rfl, rfl, rfl, rfl⟩ | exact ⟨_, _, _, _, 3, rfl, rfl, rfl, rfl⟩ | exact ⟨_, _, _, _, 4, rfl, rfl, rfl, rfl⟩ | exact ⟨_, _, _, _, 5, rfl, rfl, rfl, rfl⟩ | exact ⟨_, _, _, _, 6, rfl, rfl, rfl, rfl⟩ | exact ⟨_, _, _, _, 7, rfl, rfl, rfl, rfl⟩ | exact ⟨_, _, _, _, 8, rfl, rfl, rfl, rfl⟩ | exact ⟨_, _, _, _, 9, rfl, rfl, rfl, rfl⟩ | exact ⟨_, _, _, _, 10, rfl, rfl, rfl, rfl⟩ | exact ⟨_, _, _, _, 11, rfl, rfl, rfl, rfl⟩ | exact ⟨_, _, _, _, 12, rfl, rfl, rfl, rfl⟩ | exact ⟨_, _, _, _, 13, rfl, rfl, rfl, rfl⟩ | exact ⟨_, _, _, _, 14, rfl, rfl, rfl, rfl⟩ | exact ⟨_, _, _, _, 15, rfl, rfl, rfl, rfl⟩ | exact ⟨_, _, _, _, 16, rfl, rfl, rfl, rfl⟩ | exact ⟨_, _, _, _, 17, rfl, rfl, rfl, rfl⟩ | exact ⟨_, _, _, _, 18, rfl, rfl, rfl, rfl⟩ | exact ⟨_, _, _, _, 19, rfl, rfl, rfl, rfl⟩ | exact ⟨_, _, _, _, 20, rfl, rfl, rfl, rfl⟩ | exact ⟨_, _, _, _, 21, rfl, rfl, rfl, rfl⟩ | exact ⟨_, _, _, _, 22, rfl, rfl, rfl, rfl⟩ | exact ⟨_, _, _, _, 23, rfl, rfl, rfl, rfl⟩), rfl, trivial⟩ pk_ ⟨by simp; rfl, rfl⟩))
    · rw [show (e == 0) = false by simp [he], if_neg (fun h => he h.1)]
      (refine G tt_ok pk43 ?_; repeat (refine G1 tt_ok pk43 ?_; intro _))
      exact CW.ret (fin_cells [_, _] ⟨(by first | exact ⟨_, _, _, _, 0, rfl, rfl, rfl, rfl⟩ | exact ⟨_, _, _, _, 1, rfl, rfl, rfl, rfl⟩ | exact ⟨_, _, _, _, 2, rfl, rfl, rfl, rfl⟩ | exact ⟨_, _, _, _, 3, rfl, rfl, rfl, rfl⟩ | exact ⟨_, _, _, _, 4, rfl, rfl, rfl, rfl⟩ | exact ⟨_, _, _, _, 5, rfl, rfl, rfl, rfl⟩ | exact ⟨_, _, _, _, 6, rfl, rfl, rfl, rfl⟩ | exact ⟨_, _, _, _, 7, rfl, rfl, rfl, rfl⟩ | exact ⟨_, _, _, _, 8, rfl, rfl, rfl, rfl⟩ | exact ⟨_, _, _, _, 9, rfl, rfl, rfl, rfl⟩ | exact ⟨_, _, _, _, 10, rfl, rfl, rfl, rfl⟩ | exact ⟨_, _, _, _, 11, rfl, rfl, rfl, rfl⟩ | exact ⟨_, _, _, _, 12, rfl, rfl, rfl, rfl⟩ | exact ⟨_, _, _, _, 13, rfl, rfl, rfl, rfl⟩ | exact ⟨_, _, _, _, 14, rfl, rfl, rfl, rfl⟩ | exact ⟨_, _, _, _, 15, rfl, rfl, rfl, rfl⟩ | exact ⟨_, _, _, _, 16, rfl, rfl, rfl, rfl⟩ | exact ⟨_, _, _, _, 17, rfl, rfl, rfl, rfl⟩ | exact ⟨_, _, _, _, 18, rfl, rfl, rfl, rfl⟩ | exact ⟨_, _, _, _, 19, rfl, rfl, rfl, rfl⟩ | exact ⟨_, _, _, _, 20, rfl, rfl, rfl, rfl⟩ | exact ⟨_, _, _, _, 21, rfl, rfl, rfl, rfl⟩ | exact ⟨_, _, _, _, 22, rfl, rfl, rfl, rfl⟩ | exact ⟨_, _, _, _, 23, rfl, rfl, rfl, rfl⟩), rfl, trivial⟩ pk_ ⟨rfl, rfl⟩)
  · rw [show (e != 0) = true by simp [he], if_pos he]
    (refine G tt_ok pk43 ?_; repeat (refine G1 tt_ok pk43 ?_; intro _))
    exact CW.ret (fin_cells [_, _] ⟨(by first | exact ⟨_, _, _, _, 0, rfl, rfl, rfl, rfl⟩ | exact ⟨_, _, _, _, 1, rfl, rfl, rfl, rfl⟩ | exact ⟨_, _, _, _, 2, rfl, rfl, rfl, rfl⟩ | exact ⟨_, _, _, _, 3, rfl, rfl, rfl, rfl⟩ | exact ⟨_, _, _, _, 4, rfl, rfl, rfl, rfl⟩ | exact ⟨_, _, _, _, 5, rfl, rfl, rfl, rfl⟩ | exact ⟨_, _, _, _, 6, rfl, rfl, rfl, rfl⟩ | exact ⟨_, _, _, _, 7, rfl, rfl, rfl, rfl⟩ | exact ⟨_, _, _, _, 8, rfl, rfl, rfl, rfl⟩ | exact ⟨_, _, _, _, 9, rfl, rfl, rfl, rfl⟩ | exact ⟨_, _, _, _, 10, rfl, rfl, rfl, rfl⟩ | exact ⟨_, _, _, _, 11, rfl, rfl, rfl, rfl⟩ | exact ⟨_, _, _, _, 12, rfl, rfl, rfl, rfl⟩ | exact ⟨_, _, _, _, 13, rfl, rfl, rfl, rfl⟩ | exact ⟨_, _, _, _, 14, rfl, rfl, rfl, rfl⟩ | exact ⟨_, _, _, _, 15, rfl, rfl, rfl, rfl⟩ | exact ⟨_, _, _, _, 16, rfl, rfl, rfl, rfl⟩ | exact ⟨_, _, _, _, 17, rfl, rfl, rfl, rfl⟩ | exact ⟨_, _, _, _, 18, rfl, rfl, rfl, rfl⟩ | exact ⟨_, _, _, _, 19, rfl, rfl, rfl, rfl⟩ | exact ⟨_, _, _, _, 20, rfl, rfl, rfl, rfl⟩ | exact ⟨_, _, _, _, 21, rfl, rfl, rfl, rfl⟩ | exact ⟨_, _, _, _, 22, rfl, rfl, rfl, rfl⟩ | exact ⟨_, _, _, _, 23, rfl, rfl, rfl, rfl⟩), rfl, trivial⟩ pk_ ⟨rfl, rfl⟩)
end Go.Proofs.YthhfoppaaehepaaGreatDoor.Sl
namespace Go.Proofs.YthhfoppaaehepaaGreatDoor.Sl
open Go Go.RowKit Go.Proofs
set_option linter.unusedVariables false
set_option linter.unusedSimpArgs false
attribute [local irreducible] CW Tri OW
set_option maxRecDepth 10000
@[reducible] def pk54 : List (Nat × Plan) := [(6, [(0, 0, []), (1, 0, []), (2, 0, []), (3, 0, []), (4, 0, []), (5, 0, []), (6, 0, []), (7, 0, []), (8, 0, []), (10, 0, []), (11, 0, []), (9, 1, [2, 5]), (12, 0, []), (13, 1, [2, 5]), (14, 0, [])])]
/-- The two pages of the devices' table that is laid in pages. -/
def leadV (B : List Nat) (k : Nat) : List Nat := wrN B (8 * k) 8 (2 ^ 63 + 640 + 40 * k)
theorem lead_or {x : Nat} (hx : x < 1024) : IntKind.u64.wrap ((BitVec.ofInt IntKind.u64.bits ((2 ^ 63 : Nat) : Int) ||| BitVec.ofInt IntKind.u64.bits (x : Int)).toNat : Int) = ((2 ^ 63 + x : Nat) : Int) := by
  have := or_add (k := 10) (q := 2 ^ 53) (b := x) hx (by omega)
  simpa using this
theorem leadV_ok {B : List Nat} (hB : B.length = 4096) (hb : byOk B) {k : Nat} (hk : k < 2) : (leadV B k).length = 4096 ∧ byOk (leadV B k) := by
  unfold leadV
  exact ⟨by rw [wrN_len _ (by omega), hB], wrN_ok _ _ _ hb⟩
set_option maxHeartbeats 4000000 in
theorem lead54 (β : Base) (m g : Nat) (B : List Nat) (hB : B.length = 4096) {k : Nat} (hk : k < 2) : Tri Tryz.prog β 54 [.agg #[.int .i64 0, .int .i64 64, .int .i64 32], .pointer (some ⟨m, 0, none⟩), .int .i64 ((4 * k : Nat) : Int), .int .i64 ((640 + 40 * k : Nat) : Int)] (memA m g B)
    (fun v L => v = .int .i64 0 ∧ L = memA m g (leadV B k)) := by
  refine Tri.intro tt_ok Tryz.func54 rfl rfl Tryz.ntmps54 rfl fun F => ?_
  have hh : holdsV B.length 0 64 = true := by rw [hB]; decide
  have h2 : holdsV B.length ((640 + 40 * k : Nat) : Int) 32 = true := by
    rw [hB]
    match k, hk with
    | 0, _ | 1, _ => decide
  have hr := right97 β m (some ⟨g, 0, none⟩) B.length (show B.length ≤ 1000000 by omega) (.inr rfl : (32 : Int) = 0 ∨ (32 : Int) = 32) hh
  have hw : memWr B 0 64 ((8 * k : Nat) : Int) 8 (2 ^ 63 + (640 + 40 * k)) = (leadV B k, 0) := by
    unfold memWr leadV
    rw [if_pos (by rw [hB]; match k, hk with | 0, _ | 1, _ => decide), show (0 + ((8 * k : Nat) : Int)).toNat = 8 * k by omega, show 2 ^ 63 + 640 + 40 * k = 2 ^ 63 + (640 + 40 * k) by omega]
    rfl
  unfold memA
  (refine G tt_ok pk54 ?_; repeat (refine G1 tt_ok pk54 ?_; intro _))
  refine ke rfl rfl (hr) ?_
  (refine G tt_ok pk54 ?_; repeat (refine G1 tt_ok pk54 ?_; intro _))
  rw [decide_eq_false (show ¬ ((4 * k : Nat) : Int) < 0 by omega)]
  (refine G tt_ok pk54 ?_; repeat (refine G1 tt_ok pk54 ?_; intro _))
  rw [decide_eq_false (show ¬ ((4 * k : Nat) : Int) ≥ 131072 by omega)]
  (refine G tt_ok pk54 ?_; repeat (refine G1 tt_ok pk54 ?_; intro _))
  refine ke rfl rfl (holds29 β m (some ⟨g, 0, none⟩) B.length (show B.length ≤ 1000000 by omega) ((640 + 40 * k : Nat) : Int) 32) ?_
  rw [h2]
  (refine G tt_ok pk54 ?_; repeat (refine G1 tt_ok pk54 ?_; intro _))
  rw [wN (show 640 + 40 * k < 2 ^ 64 by omega), show IntKind.i64.wrap (IntKind.i64.wrap (((4 * k : Nat) : Int).tdiv (IntKind.i64.wrap (Int.tdiv 32 8))) * 8) = ((8 * k : Nat) : Int) by match k, hk with | 0, _ | 1, _ => rfl]
  refine ke rfl rfl (flag98 β true) ?_
  (refine G tt_ok pk54 ?_; repeat (refine G1 tt_ok pk54 ?_; intro _))
  rw [if_pos rfl, lead_or (show 640 + 40 * k < 1024 by omega)]
  refine ke rfl rfl (write68 β m g B (by omega) 0 64 ((8 * k : Nat) : Int) 8 (2 ^ 63 + (640 + 40 * k)) (by omega)) ?_
  rw [hw]
  (refine G tt_ok pk54 ?_; repeat (refine G1 tt_ok pk54 ?_; intro _))
  exact CW.ret (fin_ret rfl pk_ ⟨rfl, rfl⟩)
end Go.Proofs.YthhfoppaaehepaaGreatDoor.Sl
namespace Go.Proofs.YthhfoppaaehepaaGreatDoor.Sl
open Go Go.RowKit Go.Proofs
set_option linter.unusedVariables false
set_option linter.unusedSimpArgs false
attribute [local irreducible] CW Tri OW
set_option maxRecDepth 10000
@[reducible] def pk20 : List (Nat × Plan) := []
theorem cm_cur {cs : List Value} {off n : Nat} {xs : List Cm} (h : (cs.drop off).take (n * 9) = xs.flatMap cmC) {k : Nat} {c : Cm} (hk : xs[k]? = some c) : rdv ti25 cs (off + k * 9) = some (.agg (cmC c).toArray) :=
  rd_enc (enc := cmC) (fun _ => rfl) (ti := ti25) rfl rfl h hk
/-- The memory and the next place, after k commands were put. -/
def fillK (B : List Nat) (i j : Nat) (xs : List Cm) : Nat → List Nat × Nat
  | 0 => (B, j)
  | k + 1 => ((putV (fillK B i j xs k).1 i (fillK B i j xs k).2 (xs.getD k cm0)).1, (putV (fillK B i j xs k).1 i (fillK B i j xs k).2 (xs.getD k cm0)).2.1)
/-- What the k-th put tells. -/
def fillE (B : List Nat) (i j : Nat) (xs : List Cm) (k : Nat) : Int := (putV (fillK B i j xs k).1 i (fillK B i j xs k).2 (xs.getD k cm0)).2.2
theorem fillK_ok {B : List Nat} {i j : Nat} {xs : List Cm} (hB : B.length = 4096) (hb : byOk B) (hj : j < 10) : ∀ k, (fillK B i j xs k).1.length = 4096 ∧ byOk (fillK B i j xs k).1 ∧ (fillK B i j xs k).2 < 10
  | 0 => ⟨hB, hb, hj⟩
  | k + 1 => by
    obtain ⟨h1, h2, h3⟩ := fillK_ok (i := i) (xs := xs) hB hb hj k
    exact putV_in h1 h2 h3
set_option maxHeartbeats 4000000 in
theorem fill20 (β : Base) (m g s : Nat) (B : List Nat) (hB : B.length = 4096) (hb : byOk B) (on st : Bool) {i j : Nat} (p : Int) (hi : i < 10) (hj : j < 10) {q : Option Addr} {n c : Nat} {xs : List Cm} {A : Atom} (hS : SlR β A q n 9 (xs.flatMap cmC)) (hx : xs.length = n) (hn : n ≤ 9223372036854775807) :
    Tri Tryz.prog β 20 [.pointer (some ⟨s, 2, none⟩), .pointer (some ⟨m, 0, none⟩), .slice q n c] (pt s (itC on st i j p) :: A :: memA m g B)
    (fun v L => ∃ k, k ≤ n ∧ (∀ l, l < k → fillE B i j xs l = 0) ∧ ((k = n ∧ v = .tuple #[.int .i64 (n : Int), .int .i64 0] ∧ L = pt s (itC on st i (fillK B i j xs n).2 p) :: A :: memA m g (fillK B i j xs n).1) ∨
      (k < n ∧ fillE B i j xs k ≠ 0 ∧ v = .tuple #[.int .i64 (k : Int), .int .i64 (fillE B i j xs k)] ∧ L = pt s (itC on st i (fillK B i j xs (k + 1)).2 p) :: A :: memA m g (fillK B i j xs (k + 1)).1))) := by
  refine Tri.intro tt_ok Tryz.func20 rfl rfl Tryz.ntmps20 rfl fun F => ?_
  (refine G tt_ok pk20 ?_; repeat (refine G1 tt_ok pk20 ?_; intro _))
  refine CW.loop (α := Nat) (fun k => k ≤ n ∧ ∀ l, l < k → fillE B i j xs l = 0) (fun k => [(13, .int .i64 k), (12, .int .i64 n), (11, .slice q n c), (0, .pointer (some ⟨s, 2, none⟩)), (1, .pointer (some ⟨m, 0, none⟩)), (2, .slice q n c), (6, .int .i64 0), (7, .int .i64 0)])
    (fun k => pt s (itC on st i (fillK B i j xs k).2 p) :: A :: memA m g (fillK B i j xs k).1) (fun k => n - k) 0 ⟨by omega, fun l hl => absurd hl (by omega)⟩ ⟨rfl, rfl, rfl, rfl, rfl, rfl, rfl, rfl, trivial⟩ pk_ ?_
  rintro k ⟨hk, hE⟩
  obtain ⟨h1, h2, h3⟩ := fillK_ok (i := i) (xs := xs) hB hb hj k
  (refine G tt_ok pk20 ?_; repeat (refine G1 tt_ok pk20 ?_; intro _))
  by_cases hlt : k < n
  · rw [decide_eq_true (show (k : Int) < n by omega)]
    have hwr : IntKind.i64.wrap ((k : Int) + 1) = ((k + 1 : Nat) : Int) := by rw [wrap_i64]; split <;> omega
    obtain ⟨x, hxk⟩ : ∃ x, xs[k]? = some x := ⟨_, List.getElem?_eq_getElem (by omega)⟩
    have hgd : xs.getD k cm0 = x := by rw [List.getD_eq_getElem?_getD, hxk]; rfl
    have e1 : (putV (fillK B i j xs k).1 i (fillK B i j xs k).2 x).2.2 = fillE B i j xs k := by unfold fillE; rw [hgd]
    have e2 : (putV (fillK B i j xs k).1 i (fillK B i j xs k).2 x).2.1 = (fillK B i j xs (k + 1)).2 := by show _ = (putV (fillK B i j xs k).1 i (fillK B i j xs k).2 (xs.getD k cm0)).2.1; rw [hgd]
    have e3 : (putV (fillK B i j xs k).1 i (fillK B i j xs k).2 x).1 = (fillK B i j xs (k + 1)).1 := by show _ = (putV (fillK B i j xs k).1 i (fillK B i j xs k).2 (xs.getD k cm0)).1; rw [hgd]
    (refine G tt_ok pk20 ?_; repeat (refine G1 tt_ok pk20 ?_; intro _))
    (refine SQ.idxG tt_ok rfl rfl (hS) (by repeat (first | exact .h | apply AtA.t)) (k) (rfl) (hlt) rfl ?_)
    (refine G tt_ok pk20 ?_; repeat (refine G1 tt_ok pk20 ?_; intro _))
    (refine SQ.ldG tt_ok rfl rfl (hS) (by repeat (first | exact .h | apply AtA.t)) (by omega) (fun cur hcs => cm_cur hcs hxk) ?_)
    (refine G tt_ok pk20 ?_; repeat (refine G1 tt_ok pk20 ?_; intro _))
    refine ke rfl rfl (put51 β m g s (fillK B i j xs k).1 h1 on st p hi h3 x) ?_
    rw [e1, e2, e3]
    (refine G tt_ok pk20 ?_; repeat (refine G1 tt_ok pk20 ?_; intro _))
    by_cases he : fillE B i j xs k = 0
    · rw [he]
      (refine G tt_ok pk20 ?_; repeat (refine G1 tt_ok pk20 ?_; intro _))
      refine ⟨k + 1, ⟨by omega, fun l hl => ?_⟩, by omega, ⟨by rw [← hwr]; rfl, rfl, rfl, rfl, rfl, rfl, rfl, rfl, trivial⟩, pk_⟩
      by_cases e : l = k
      · subst e; exact he
      · exact hE l (by omega)
    · rw [show (fillE B i j xs k != 0) = true by simp [he]]
      (refine G tt_ok pk20 ?_; repeat (refine G1 tt_ok pk20 ?_; intro _))
      exact CW.ret (fin_ret rfl pk_ ⟨k, hk, hE, .inr ⟨hlt, he, rfl, rfl⟩⟩)
  · rw [decide_eq_false (show ¬ (k : Int) < n by omega)]
    (refine G tt_ok pk20 ?_; repeat (refine G1 tt_ok pk20 ?_; intro _))
    refine CW.exit ?_
    (refine G tt_ok pk20 ?_; repeat (refine G1 tt_ok pk20 ?_; intro _))
    obtain rfl : k = n := by omega
    exact CW.ret (fin_ret rfl pk_ ⟨k, hk, hE, .inl ⟨rfl, rfl, rfl⟩⟩)
end Go.Proofs.YthhfoppaaehepaaGreatDoor.Sl
namespace Go.Proofs.YthhfoppaaehepaaGreatDoor.Sl
open Go Go.RowKit Go.Proofs
set_option linter.unusedVariables false
set_option linter.unusedSimpArgs false
attribute [local irreducible] CW Tri OW
set_option maxRecDepth 10000
@[reducible] def pk40 : List (Nat × Plan) := []
@[reducible] def ptC (x : Nat) : List Value := [.pointer (some ⟨x, 0, none⟩)]
theorem ptC_at : ∀ {ids : List Nat} {k x : Nat}, ids[k]? = some x → (ids.flatMap ptC)[k]? = some (.pointer (some ⟨x, 0, none⟩))
  | [], _, _, h => by simp at h
  | a :: r, 0, x, h => by simp at h; subst h; rfl
  | a :: r, k + 1, x, h => by
    have := ptC_at (ids := r) (k := k) (x := x) (by simpa using h)
    simpa [List.flatMap_cons, ptC] using this
theorem pt_cur {cs : List Value} {off n : Nat} {ids : List Nat} (h : (cs.drop off).take (n * 1) = ids.flatMap ptC) {k : Nat} {x : Nat} (hk : ids[k]? = some x) : rdv ti50 cs (off + k * 1) = some (.pointer (some ⟨x, 0, none⟩)) := by
  have h1 := ptC_at hk
  rw [← h] at h1
  have h2 := cells_at (cs := cs) (off := off) (m := n * 1) (j := k) rfl h1
  have h3 : aggD ti50.desc = false := rfl
  have hlt := (List.getElem?_eq_some_iff.1 h2).1
  simp only [rdv, h3, takeN_eq, dropN_eq, Nat.mul_one]
  rw [List.drop_eq_getElem_cons hlt]
  have := (List.getElem?_eq_some_iff.1 h2).2
  simp [this]
theorem targetW_pos (B : List Nat) (c : Int) : 0 ≤ (targetW B c).1 := by
  unfold targetW targetV
  simp only
  split
  · simp
  · split
    · simp
    · split
      · simp
      · simp only; omega
/-- Which collection's waiting ones a collection's target has. -/
def sideV (B : List Nat) (c : Int) : Option Nat × Int := if (targetW B c).2 ≠ 0 then (none, (targetW B c).2) else if (targetW B c).1 ≥ 3 then (none, 130) else (some (targetW B c).1.toNat, 0)
def sideP (ps : List Nat) (r : Option Nat) : Value := match r with
  | some k => .pointer (some ⟨ps.getD k 0, 0, none⟩)
  | none => .pointer none
set_option maxHeartbeats 4000000 in
theorem side40 (β : Base) (s m g : Nat) (B : List Nat) (hB : B.length = 4096) (hb : byOk B) (on st : Bool) (i j : Nat) (p : Int) {q : Option Addr} {cp : Nat} {ps : List Nat} {A : Atom} (hS : SlR β A q 3 1 (ps.flatMap ptC)) (hps : ps.length = 3) (c : Int) :
    Tri Tryz.prog β 40 [.pointer (some ⟨s, 0, none⟩), .pointer (some ⟨m, 0, none⟩), .slice q 3 cp, .int .i64 c] (pt s (itC on st i j p) :: A :: memA m g B)
    (fun v L => v = .tuple #[sideP ps (sideV B c).1, .int .i64 (sideV B c).2] ∧ L = pt s (itC on st i j p) :: A :: memA m g B) := by
  refine Tri.intro tt_ok Tryz.func40 rfl rfl Tryz.ntmps40 rfl fun F => ?_
  unfold sideV
  (refine G tt_ok pk40 ?_; repeat (refine G1 tt_ok pk40 ?_; intro _))
  refine ke rfl rfl (target44 β s m g B hB hb on st i j p c) ?_
  have hpos := targetW_pos B c
  generalize targetW B c = x at hpos ⊢
  obtain ⟨t, e⟩ := x
  simp only at hpos ⊢
  (refine G tt_ok pk40 ?_; repeat (refine G1 tt_ok pk40 ?_; intro _))
  by_cases he : e = 0
  · subst he
    rw [if_neg (by simp)]
    (refine G tt_ok pk40 ?_; repeat (refine G1 tt_ok pk40 ?_; intro _))
    by_cases ht : t ≥ 3
    · rw [if_pos ht, decide_eq_true (show t ≥ ((3 : Nat) : Int) from ht)]
      (refine G tt_ok pk40 ?_; repeat (refine G1 tt_ok pk40 ?_; intro _))
      exact CW.ret (fin_ret rfl pk_ ⟨rfl, rfl⟩)
    · rw [if_neg ht, decide_eq_false (show ¬ t ≥ ((3 : Nat) : Int) from ht)]
      obtain ⟨k, rfl⟩ : ∃ k : Nat, t = (k : Int) := ⟨t.toNat, by omega⟩
      have hk : k < 3 := by omega
      obtain ⟨y, hy⟩ : ∃ y, ps[k]? = some y := ⟨_, List.getElem?_eq_getElem (by omega)⟩
      (refine G tt_ok pk40 ?_; repeat (refine G1 tt_ok pk40 ?_; intro _))
      (refine SQ.idxG tt_ok rfl rfl (hS) (by repeat (first | exact .h | apply AtA.t)) (k) (rfl) (hk) rfl ?_)
      (refine G tt_ok pk40 ?_; repeat (refine G1 tt_ok pk40 ?_; intro _))
      (refine SQ.ldG tt_ok rfl rfl (hS) (by repeat (first | exact .h | apply AtA.t)) (by omega) (fun cur hcs => pt_cur hcs hy) ?_)
      (refine G tt_ok pk40 ?_; repeat (refine G1 tt_ok pk40 ?_; intro _))
      refine CW.ret (fin_ret rfl pk_ ⟨?_, rfl⟩)
      simp only [sideP, Int.toNat_natCast, List.getD_eq_getElem?_getD, hy]
      rfl
  · rw [show (e != 0) = true by simp [he], if_pos he]
    (refine G tt_ok pk40 ?_; repeat (refine G1 tt_ok pk40 ?_; intro _))
    exact CW.ret (fin_ret rfl pk_ ⟨rfl, rfl⟩)
end Go.Proofs.YthhfoppaaehepaaGreatDoor.Sl
namespace Go.Proofs.YthhfoppaaehepaaGreatDoor.Sl
open Go Go.RowKit Go.Proofs
set_option linter.unusedVariables false
set_option linter.unusedSimpArgs false
attribute [local irreducible] CW Tri OW
set_option maxRecDepth 10000
theorem devRt_lt (B : List Nat) (d : Dv) (ev : Int) : 0 ≤ (devRt B d ev).1.1 ∧ (devRt B d ev).1.1 ≤ 9223372036854775807 ∧ 0 ≤ (devRt B d ev).1.2.1 := by
  unfold devRt
  split
  · unfold routeV
    split
    · simp
    · simp only
      refine ⟨by omega, by omega, by omega⟩
  · simp
theorem eventV_lt (B : List Nat) (p id ev : Int) : 0 ≤ (eventV B p id ev).1.1 ∧ (eventV B p id ev).1.1 ≤ 9223372036854775807 ∧ 0 ≤ (eventV B p id ev).1.2.1 := by
  unfold eventV
  split
  · simp
  · exact devRt_lt B _ ev
/-- A collection: where it lies, whether it is enabled, what waits, what it was told. -/
structure Lp where
  p : Nat
  r : Nat
  S : Nat
  k : Nat
  q : Option Addr
  c : Nat
  on : Bool
  U : List Nat
  C : List Nat
def colF (x : Lp) : List Atom := colA x.p x.r x.S x.q x.c x.k x.on x.U ++ [pt x.r (bys x.C)]
def Lp.ok (x : Lp) : Prop := x.k < 3 ∧ setOk x.U ∧ x.C.length = 20 + 16 * x.k
end Go.Proofs.YthhfoppaaehepaaGreatDoor.Sl
namespace Go.Proofs.YthhfoppaaehepaaGreatDoor.Sl
open Go Go.RowKit Go.Proofs
set_option linter.unusedVariables false
set_option linter.unusedSimpArgs false
attribute [local irreducible] CW Tri OW
set_option maxRecDepth 10000
theorem Tri.post {P : Program} {β : Base} {g : FuncId} {args : List Value} {A : List Atom} {R R' : Value → List Atom → Prop} (h : Tri P β g args A R) (hr : ∀ v L, R v L → ∃ L', Ent L L' ∧ R' v L') : Tri P β g args A R' := by
  unfold Tri at h ⊢
  exact ⟨h.1, fun F n w s => (h.2 F n w s).mono fun e w' ⟨v, A', he, hs, r⟩ => let ⟨L', e', r'⟩ := hr v A' r; ⟨v, L', he, hs.ent (Ent.append (Ent.refl F) e'), r'⟩⟩
theorem Tri.fr {P : Program} {β : Base} {g : FuncId} {args : List Value} {A L F : List Atom} {R : Value → List Atom → Prop} (h : Tri P β g args A R) (hk : Tk A L F := by repeat (first | exact .n | exact Rm.h | apply Tk.c | apply Rm.t)) : Tri P β g args L fun v L' => ∃ A', R v A' ∧ L' = A' ++ F :=
  Tri.mono (Tri.post (Tri.ent (hk.gives.trans (Ent.perm List.perm_append_comm)) (Tri.frame h F)) (R' := fun v L' => ∃ A', R v A' ∧ L' = A' ++ F) fun v L ⟨A', e, r⟩ => ⟨_, Ent.perm (by rw [e]; exact List.perm_append_comm), A', r, rfl⟩) fun _ _ h => h
theorem Tri.en {P : Program} {β : Base} {g : FuncId} {args : List Value} {A : List Atom} {R : Value → List Atom → Prop} (h : Tri P β g args A R) : Enters P g := by
  unfold Tri at h
  exact h.1
/-- What a collection is, wherever it lies. -/
structure Pc where
  on : Bool
  U : List Nat
  C : List Nat
def Lp.pc (x : Lp) : Pc := ⟨x.on, x.U, x.C⟩
def pc0 : Pc := ⟨false, [], []⟩
def pcsOk (cs : List Pc) : Prop := cs.length = 3 ∧ ∀ k, k < 3 → setOk (cs.getD k pc0).U ∧ (cs.getD k pc0).C.length = 20 + 16 * k
def Cols (ps : List Nat) (cs : List Pc) (l : List Lp) : Prop := l.map Lp.p = ps ∧ l.map Lp.pc = cs ∧ l.map Lp.k = [0, 1, 2]
/-- The three collections. -/
def colsA (ps : List Nat) (cs : List Pc) : Atom := exA fun l : List Lp => [pureA (Cols ps cs l), pkA colF l]
theorem Cols.at_ {ps : List Nat} {cs : List Pc} {l : List Lp} (h : Cols ps cs l) {k : Nat} (hk : k < 3) : ∃ x, l[k]? = some x ∧ x.p = ps.getD k 0 ∧ x.k = k ∧ x.pc = cs.getD k pc0 := by
  obtain ⟨h1, h2, h3⟩ := h
  have hl : l.length = 3 := by have := congrArg List.length h3; simpa using this
  refine ⟨l[k], List.getElem?_eq_getElem (by omega), ?_, ?_, ?_⟩
  · subst h1; simp [List.getD_eq_getElem?_getD, hl, hk]
  · have e : (l.map Lp.k)[k]? = ([0, 1, 2] : List Nat)[k]? := by rw [h3]
    rw [List.getElem?_map, List.getElem?_eq_getElem (by omega)] at e
    have : ([0, 1, 2] : List Nat)[k]? = some k := by rcases (by omega : k = 0 ∨ k = 1 ∨ k = 2) with rfl | rfl | rfl <;> rfl
    rw [this] at e
    simpa using e
  · subst h2; simp [List.getD_eq_getElem?_getD, hl, hk]
theorem Cols.set_ {ps : List Nat} {cs : List Pc} {l : List Lp} (h : Cols ps cs l) {k : Nat} (hk : k < 3) {x' : Lp} (hp : x'.p = ps.getD k 0) (hx : x'.k = k) : Cols ps (cs.set k x'.pc) (l.set k x') := by
  obtain ⟨x, hx1, hx2, hx3, hx4⟩ := h.at_ hk
  obtain ⟨h1, h2, h3⟩ := h
  refine ⟨?_, ?_, ?_⟩
  · rw [List.map_set, h1, hp]
    refine set_same_ ?_
    rw [← hx2, ← h1, List.getElem?_map, hx1]; rfl
  · rw [List.map_set, h2]
  · rw [List.map_set, h3, hx]
    refine set_same_ ?_
    rcases (by omega : k = 0 ∨ k = 1 ∨ k = 2) with rfl | rfl | rfl <;> rfl
theorem Tri.cols {P : Program} {β : Base} {g : FuncId} {args : List Value} {A : List Atom} {R : Value → Pc → List Atom → Prop} {ps : List Nat} {cs : List Pc} {k : Nat} (hE : Enters P g) (hk : k < 3)
    (h : ∀ x : Lp, x.p = ps.getD k 0 → x.k = k → x.pc = cs.getD k pc0 → Tri P β g args (colF x ++ A) fun v L => ∃ x' A', x'.p = x.p ∧ x'.k = k ∧ R v x'.pc A' ∧ L = colF x' ++ A') :
    Tri P β g args (colsA ps cs :: A) fun v L => ∃ c' A', R v c' A' ∧ L = colsA ps (cs.set k c') :: A' := by
  refine Tri.open_ (fun l => ?_) hE
  refine Tri.pure_ (fun hC => ?_) hE
  obtain ⟨x, hx1, hx2, hx3, hx4⟩ := hC.at_ hk
  have hlen : k < l.length := (List.getElem?_eq_some_iff.1 hx1).1
  have e1 : Ent (pkA colF l :: A) ((colF x ++ A) ++ [pkA colF (l.eraseIdx k)]) := by
    refine (Ent.head (L := A) (pk_open hx1)).trans (Ent.perm ?_)
    rw [List.append_assoc, List.append_assoc]
    exact List.Perm.append_left _ (List.perm_append_comm (l₁ := [pkA colF (l.eraseIdx k)]) (l₂ := A))
  refine Tri.post (Tri.ent (e1.trans (Ent.perm List.perm_append_comm)) (Tri.frame (h x hx2 hx3 hx4) [pkA colF (l.eraseIdx k)])) ?_
  rintro v L ⟨A1, rfl, x', A', hp, hk', hR, rfl⟩
  refine ⟨colsA ps (cs.set k x'.pc) :: A', ?_, x'.pc, A', hR, rfl⟩
  have e2 : Ent ([pkA colF (l.eraseIdx k)] ++ (colF x' ++ A')) ((colF x' ++ [pkA colF (l.eraseIdx k)]) ++ A') := by
    refine Ent.perm ?_
    rw [List.append_assoc]
    exact List.perm_append_comm_assoc _ _ _
  refine e2.trans ?_
  refine Ent.trans (Ent.append (pk_close x' hlen) (Ent.refl A')) ?_
  have hC' := hC.set_ hk (x' := x') (by rw [hp, hx2]) hk'
  have e3 : Ent [pkA colF (l.set k x')] [colsA ps (cs.set k x'.pc)] := (Ent.pureA (L := [pkA colF (l.set k x')]) hC').trans (Ent.exA (f := fun l : List Lp => [pureA (Cols ps (cs.set k x'.pc) l), pkA colF l]) (l.set k x'))
  exact Ent.append e3 (Ent.refl A')
/-- The memory and the collections. -/
structure SW where
  B : List Nat
  cs : List Pc
def SW.ok (w : SW) : Prop := w.B.length = 4096 ∧ byOk w.B ∧ pcsOk w.cs
def swA (m g : Nat) (ps : List Nat) (w : SW) : List Atom := colsA ps w.cs :: memA m g w.B
def SW.at_ (w : SW) (k : Nat) : Pc := w.cs.getD k pc0
@[reducible] def cpV (ps : List Nat) (k : Nat) : Value := .pointer (some ⟨ps.getD k 0, 0, none⟩)
theorem getD_set {α : Type} {l : List α} {k j : Nat} {x d : α} (hk : k < l.length) : (l.set k x).getD j d = if j = k then x else l.getD j d := by
  simp only [List.getD_eq_getElem?_getD, List.getElem?_set]
  by_cases h : k = j
  · subst h; simp [hk]
  · rw [if_neg h, if_neg (fun e => h e.symm)]
theorem pcsOk.set {cs : List Pc} (h : pcsOk cs) {k : Nat} (hk : k < 3) {c : Pc} (h1 : setOk c.U) (h2 : c.C.length = 20 + 16 * k) : pcsOk (cs.set k c) := by
  refine ⟨by rw [List.length_set]; exact h.1, fun j hj => ?_⟩
  rw [getD_set (by rw [h.1]; exact hk)]
  split
  · rename_i e; subst e; exact ⟨h1, h2⟩
  · exact h.2 j hj
def SW.has (w : SW) (k : Nat) (n : Int) : Bool := hasL k (w.at_ k).on (w.at_ k).U w.B n
theorem set_get {cs : List Pc} {k : Nat} : cs.set k (cs.getD k pc0) = cs := by
  by_cases h : k < cs.length
  · exact set_same_ (by simp [List.getD_eq_getElem?_getD, h])
  · exact List.set_eq_of_length_le (by omega)
theorem SW.same (w : SW) (k : Nat) : (⟨w.B, w.cs.set k (w.at_ k)⟩ : SW) = w := by
  unfold SW.at_
  rw [set_get]
/-- A contract about one collection, wherever it lies, is one about the three. -/
theorem Tri.colsE {P : Program} {β : Base} {f : FuncId} (args : Nat → List Value) {m g : Nat} {ps : List Nat} {w : SW} {V : Value} {k : Nat} {c' : Pc} {B' : List Nat} (hE : Enters P f) (hk : k < 3)
    (h : ∀ p r S q c, Tri P β f (args p) (colA p r S q c k (w.at_ k).on (w.at_ k).U ++ (pt r (bys (w.at_ k).C) :: memA m g w.B)) fun v L => ∃ q' c1, v = V ∧ L = colA p r S q' c1 k c'.on c'.U ++ (pt r (bys c'.C) :: memA m g B')) :
    Tri P β f (args (ps.getD k 0)) (swA m g ps w) fun v L => v = V ∧ L = swA m g ps ⟨B', w.cs.set k c'⟩ := by
  refine Tri.mono (Tri.cols (R := fun v c2 A' => v = V ∧ c2 = c' ∧ A' = memA m g B') hE hk ?_) ?_
  · rintro ⟨p, r, S, k', q, c, on, U, C⟩ hp hk' hpc
    simp only at hp hk'
    subst hk'
    rw [← hp]
    have e1 : on = (w.at_ k').on := by unfold SW.at_; rw [← hpc]; rfl
    have e2 : U = (w.at_ k').U := by unfold SW.at_; rw [← hpc]; rfl
    have e3 : C = (w.at_ k').C := by unfold SW.at_; rw [← hpc]; rfl
    subst e1 e2 e3
    refine Tri.mono (Tri.ent (Ent.perm ?_) (h p r S q c)) ?_
    · unfold colF
      rw [List.append_assoc]
      exact List.Perm.refl _
    · rintro v L ⟨q', c1, rfl, rfl⟩
      refine ⟨⟨p, r, S, k', q', c1, c'.on, c'.U, c'.C⟩, memA m g B', rfl, rfl, ⟨rfl, rfl, rfl⟩, ?_⟩
      unfold colF
      rw [List.append_assoc]
      rfl
  · rintro v L ⟨c2, A', ⟨rfl, rfl, rfl⟩, rfl⟩
    exact ⟨rfl, rfl⟩
set_option maxHeartbeats 4000000 in
theorem has17C (β : Base) (m g : Nat) (ps : List Nat) {w : SW} (hw : w.ok) {k : Nat} (hk : k < 3) {n : Int} (hn : n ≤ 9223372036854775807) :
    Tri Tryz.prog β 17 [cpV ps k, .pointer (some ⟨m, 0, none⟩), .int .i64 n] (swA m g ps w) (fun v L => v = .bool (w.has k n) ∧ L = swA m g ps w) := by
  obtain ⟨hB, hb, hc⟩ := hw
  obtain ⟨hU, hC⟩ := hc.2 k hk
  have T := fun p r S q c => has17 β p r S m g q c hk (w.at_ k).on hU w.B hB hb hn
  refine Tri.mono (Tri.colsE (fun p => [.pointer (some ⟨p, 0, none⟩), .pointer (some ⟨m, 0, none⟩), .int .i64 n]) (V := .bool (w.has k n)) (c' := w.at_ k) (B' := w.B) (T 0 0 0 none 0).en hk ?_) ?_
  · intro p r S q c
    unfold colA setL memA
    have T1 := T p r S q c
    unfold colA setL memA at T1
    refine Tri.post (T1.fr (F := [pt r (bys (w.at_ k).C)])) ?_
    rintro v L ⟨A', ⟨rfl, rfl⟩, rfl⟩
    exact ⟨_, pk_, q, c, rfl, rfl⟩
  · rintro v L ⟨rfl, rfl⟩
    rw [SW.same]
    exact ⟨rfl, rfl⟩
/-- A number begins or ends to wait. -/
def SW.set (w : SW) (k : Nat) (n : Int) (v : Bool) : SW := ⟨(setLV k (w.at_ k).on (w.at_ k).U w.B n v).2, w.cs.set k ⟨(w.at_ k).on, (setLV k (w.at_ k).on (w.at_ k).U w.B n v).1, (w.at_ k).C⟩⟩
theorem SW.set_ok {w : SW} (hw : w.ok) {k : Nat} (hk : k < 3) {n : Int} (hn : n ≤ 9223372036854775807) (v : Bool) : (w.set k n v).ok := by
  obtain ⟨hB, hb, hc⟩ := hw
  obtain ⟨hU, hC⟩ := hc.2 k hk
  obtain ⟨h1, h2, h3⟩ := setLV_ok hk (w.at_ k).on hU hB hb hn v
  exact ⟨h2, h3, hc.set hk h1 hC⟩
set_option maxHeartbeats 4000000 in
theorem set89C (β : Base) (m g : Nat) (ps : List Nat) {w : SW} (hw : w.ok) {k : Nat} (hk : k < 3) {n : Int} (hn : n ≤ 9223372036854775807) (v : Bool) :
    Tri Tryz.prog β 89 [cpV ps k, .pointer (some ⟨m, 0, none⟩), .int .i64 n, .bool v] (swA m g ps w) (fun u L => u = .tuple #[.bool (w.has k n), .int .i64 (if idxV k n then 0 else 150)] ∧ L = swA m g ps (w.set k n v)) := by
  obtain ⟨hB, hb, hc⟩ := hw
  obtain ⟨hU, hC⟩ := hc.2 k hk
  have T := fun p r S q c => set89 β p r S m g q c hk (w.at_ k).on hU w.B hB hb hn v
  refine Tri.colsE (fun p => [.pointer (some ⟨p, 0, none⟩), .pointer (some ⟨m, 0, none⟩), .int .i64 n, .bool v]) (T 0 0 0 none 0).en hk ?_
  intro p r S q c
  unfold colA setL memA
  have T1 := T p r S q c
  unfold colA setL memA at T1
  refine Tri.post (T1.fr (F := [pt r (bys (w.at_ k).C)])) ?_
  rintro v L ⟨A', ⟨q', c', rfl, rfl⟩, rfl⟩
  exact ⟨_, pk_, q', c', rfl, rfl⟩
/-- What was told of a number, told again. -/
def SW.inv (w : SW) (k : Nat) (n : Int) : SW := ⟨w.B, w.cs.set k ⟨(w.at_ k).on, (w.at_ k).U, invV k (w.at_ k).C w.B n⟩⟩
theorem invV_len (k : Nat) (C B : List Nat) (n : Int) : (invV k C B n).length = C.length := by
  unfold invV
  split <;> simp
theorem SW.inv_ok {w : SW} (hw : w.ok) {k : Nat} (hk : k < 3) (n : Int) : (w.inv k n).ok := by
  obtain ⟨hB, hb, hc⟩ := hw
  obtain ⟨hU, hC⟩ := hc.2 k hk
  exact ⟨hB, hb, hc.set hk hU (by rw [invV_len]; exact hC)⟩
set_option maxHeartbeats 4000000 in
theorem inv86C (β : Base) (m g : Nat) (ps : List Nat) {w : SW} (hw : w.ok) {k : Nat} (hk : k < 3) {n : Int} (hn : n ≤ 9223372036854775807) :
    Tri Tryz.prog β 86 [cpV ps k, .pointer (some ⟨m, 0, none⟩), .int .i64 n] (swA m g ps w) (fun u L => u = .int .i64 (if idxV k n then 0 else 150) ∧ L = swA m g ps (w.inv k n)) := by
  obtain ⟨hB, hb, hc⟩ := hw
  obtain ⟨hU, hC⟩ := hc.2 k hk
  have T := fun p r S => inv86 β p r S m g hk (w.at_ k).on (w.at_ k).C hC w.B hB hb hn
  refine Tri.colsE (fun p => [.pointer (some ⟨p, 0, none⟩), .pointer (some ⟨m, 0, none⟩), .int .i64 n]) (T 0 0 0).en hk ?_
  intro p r S q c
  unfold colA setL memA
  have T1 := T p r S
  unfold memA at T1
  refine Tri.post (T1.fr (F := [pt S [.slice q (w.at_ k).U.length c], rowO q c (w.at_ k).U])) ?_
  rintro v L ⟨A', ⟨rfl, rfl⟩, rfl⟩
  exact ⟨_, pk_, q, c, rfl, rfl⟩
/-- All that was told, told again. -/
def SW.invA (w : SW) (k : Nat) : SW := ⟨w.B, w.cs.set k ⟨(w.at_ k).on, (w.at_ k).U, invK k (w.at_ k).C w.B (20 + 16 * k)⟩⟩
theorem SW.invA_ok {w : SW} (hw : w.ok) {k : Nat} (hk : k < 3) : (w.invA k).ok := by
  obtain ⟨hB, hb, hc⟩ := hw
  obtain ⟨hU, hC⟩ := hc.2 k hk
  exact ⟨hB, hb, hc.set hk hU (by rw [invK_len]; exact hC)⟩
set_option maxHeartbeats 4000000 in
theorem invAll41C (β : Base) (m g : Nat) (ps : List Nat) {w : SW} (hw : w.ok) {k : Nat} (hk : k < 3) :
    Tri Tryz.prog β 41 [cpV ps k, .pointer (some ⟨m, 0, none⟩)] (swA m g ps w) (fun u L => u = .tuple #[] ∧ L = swA m g ps (w.invA k)) := by
  obtain ⟨hB, hb, hc⟩ := hw
  obtain ⟨hU, hC⟩ := hc.2 k hk
  have T := fun p r S => invAll41 β p r S m g hk (w.at_ k).on (w.at_ k).C hC w.B hB hb
  refine Tri.colsE (fun p => [.pointer (some ⟨p, 0, none⟩), .pointer (some ⟨m, 0, none⟩)]) (T 0 0 0).en hk ?_
  intro p r S q c
  unfold colA setL memA
  have T1 := T p r S
  unfold memA at T1
  refine Tri.post (T1.fr (F := [pt S [.slice q (w.at_ k).U.length c], rowO q c (w.at_ k).U])) ?_
  rintro v L ⟨A', ⟨rfl, rfl⟩, rfl⟩
  exact ⟨_, pk_, q, c, rfl, rfl⟩
/-- A collection is enabled. -/
def SW.en (w : SW) (k : Nat) : SW := ⟨(enV k (w.at_ k).on (w.at_ k).U (w.at_ k).C w.B).2.2, w.cs.set k ⟨true, (enV k (w.at_ k).on (w.at_ k).U (w.at_ k).C w.B).1, (enV k (w.at_ k).on (w.at_ k).U (w.at_ k).C w.B).2.1⟩⟩
theorem SW.en_ok {w : SW} (hw : w.ok) {k : Nat} (hk : k < 3) : (w.en k).ok := by
  obtain ⟨hB, hb, hc⟩ := hw
  obtain ⟨hU, hC⟩ := hc.2 k hk
  obtain ⟨h1, h2, h3⟩ := enK_ok hk hU hB hb (Nat.le_refl (20 + 16 * k))
  unfold SW.en enV
  split
  · exact ⟨hB, hb, hc.set hk hU hC⟩
  · exact ⟨h2, h3, hc.set hk h1 (by simp only; rw [invK_len]; exact hC)⟩
set_option maxHeartbeats 4000000 in
theorem enable59C (β : Base) (m g : Nat) (ps : List Nat) {w : SW} (hw : w.ok) {k : Nat} (hk : k < 3) :
    Tri Tryz.prog β 59 [cpV ps k, .pointer (some ⟨m, 0, none⟩)] (swA m g ps w) (fun u L => u = .tuple #[] ∧ L = swA m g ps (w.en k)) := by
  obtain ⟨hB, hb, hc⟩ := hw
  obtain ⟨hU, hC⟩ := hc.2 k hk
  have T := fun p r S q c => enable59 β p r S m g q c hk (w.at_ k).on hU (w.at_ k).C hC w.B hB hb
  exact Tri.colsE (fun p => [.pointer (some ⟨p, 0, none⟩), .pointer (some ⟨m, 0, none⟩)]) (T 0 0 0 none 0).en hk T
set_option maxHeartbeats 4000000 in
theorem index45C (β : Base) (m g : Nat) (ps : List Nat) (w : SW) {k : Nat} (hk : k < 3) (n : Int) :
    Tri Tryz.prog β 45 [cpV ps k, .int .i64 n] (swA m g ps w) (fun u L => u = .tuple #[.int .i64 (IntKind.i64.wrap (n - 8192)), .bool (idxV k n)] ∧ L = swA m g ps w) := by
  have T := fun p r S => index45 β p k (w.at_ k).on r S n
  refine Tri.mono (Tri.colsE (fun p => [.pointer (some ⟨p, 0, none⟩), .int .i64 n]) (V := .tuple #[.int .i64 (IntKind.i64.wrap (n - 8192)), .bool (idxV k n)]) (c' := w.at_ k) (B' := w.B) (T 0 0 0).en hk ?_) ?_
  · intro p r S q c
    unfold colA setL memA
    refine Tri.post ((T p r S).fr (F := [pt S [.slice q (w.at_ k).U.length c], rowO q c (w.at_ k).U, pt r (bys (w.at_ k).C), pt m [.slice (some ⟨g, 0, none⟩) w.B.length w.B.length], pt g (bys w.B)])) ?_
    rintro v L ⟨A', ⟨rfl, rfl⟩, rfl⟩
    exact ⟨_, pk_, q, c, rfl, rfl⟩
  · rintro v L ⟨rfl, rfl⟩
    rw [SW.same]
    exact ⟨rfl, rfl⟩
end Go.Proofs.YthhfoppaaehepaaGreatDoor.Sl
namespace Go.Proofs.YthhfoppaaehepaaGreatDoor.Sl
open Go Go.RowKit Go.Proofs
set_option linter.unusedVariables false
set_option linter.unusedSimpArgs false
attribute [local irreducible] CW Tri OW
set_option maxRecDepth 10000
@[reducible] def pk88 : List (Nat × Plan) := []
/-- The three collections but the k-th's own struct. -/
def colR (ps : List Nat) (cs : List Pc) (k : Nat) (x : Lp) : Atom := exA fun l : List Lp => [pureA (Cols ps cs l ∧ l[k]? = some x), pt x.S [.slice x.q x.U.length x.c], rowO x.q x.c x.U, pt x.r (bys x.C), pkA colF (l.eraseIdx k)]
theorem cols_open (ps : List Nat) (cs : List Pc) {k : Nat} (hk : k < 3) : Ent [colsA ps cs] [exA fun x : Lp => [pureA (x.p = ps.getD k 0 ∧ x.k = k ∧ x.pc = cs.getD k pc0), pt (ps.getD k 0) (lpC k x.on x.r x.S), colR ps cs k x]] := by
  rintro h ⟨h1, h2, ⟨l, s⟩, rfl, d, rfl⟩
  obtain ⟨u1, u2, ⟨hC, rfl⟩, s2, _, rfl⟩ := s
  rw [Hp.emp_add] at d ⊢
  rw [Hp.add_emp]
  obtain ⟨x, hx1, hx2, hx3, hx4⟩ := hC.at_ hk
  have e1 := pk_open (f := colF) hx1
  have e2 : Ent (colF x ++ [pkA colF (l.eraseIdx k)]) [exA fun x : Lp => [pureA (x.p = ps.getD k 0 ∧ x.k = k ∧ x.pc = cs.getD k pc0), pt (ps.getD k 0) (lpC k x.on x.r x.S), colR ps cs k x]] := by
    refine Ent.trans ?_ (Ent.exA x)
    refine Ent.trans ?_ (Ent.pureA ⟨hx2, hx3, hx4⟩)
    rw [← hx2]
    subst hx3
    exact Ent.cons _ (Ent.trans (Ent.pureA (p := Cols ps cs l ∧ l[x.k]? = some x) ⟨hC, hx1⟩) (Ent.exA (f := fun l : List Lp => [pureA (Cols ps cs l ∧ l[x.k]? = some x), pt x.S [.slice x.q x.U.length x.c], rowO x.q x.c x.U, pt x.r (bys x.C), pkA colF (l.eraseIdx x.k)]) l))
  exact (e1.trans e2) _ s2
theorem cols_shut {ps : List Nat} {cs : List Pc} {k : Nat} {x : Lp} (hp : x.p = ps.getD k 0) (hk : x.k = k) : Ent [pt (ps.getD k 0) (lpC k x.on x.r x.S), colR ps cs k x] [colsA ps cs] := by
  rintro h ⟨h1, h2, hpt, ⟨h3, h4, ⟨l, s⟩, rfl, d2, rfl⟩, d, rfl⟩
  rw [Hp.add_emp] at d
  obtain ⟨u1, u2, ⟨⟨hC, hx⟩, rfl⟩, s2, _, rfl⟩ := s
  rw [Hp.emp_add] at d
  rw [Hp.emp_add, Hp.add_emp]
  have e1 : Ent (pt (ps.getD k 0) (lpC k x.on x.r x.S) :: [pt x.S [.slice x.q x.U.length x.c], rowO x.q x.c x.U, pt x.r (bys x.C), pkA colF (l.eraseIdx k)]) [colsA ps cs] := by
    rw [← hp]
    subst hk
    refine Ent.trans (M := [pkA colF l]) (pk_shut (f := colF) hx) ?_
    exact (Ent.pureA (L := [pkA colF l]) hC).trans (Ent.exA (f := fun l : List Lp => [pureA (Cols ps cs l), pkA colF l]) l)
  exact e1 _ ⟨h1, u2, hpt, s2, d, rfl⟩
/-- Whether a number that waits by one begins to wait by another one. -/
def SW.moves (w : SW) (n : Int) (a b : Nat) : Bool := decide (a ≠ b) && (w.has a n && idxV b n)
def SW.move (w : SW) (n : Int) (a b : Nat) : SW := if w.moves n a b then (w.set a n false).set b n true else w
theorem SW.move_ok {w : SW} (hw : w.ok) {n : Int} (hn : n ≤ 9223372036854775807) {a b : Nat} (ha : a < 3) (hb : b < 3) : (w.move n a b).ok := by
  unfold SW.move
  split
  · exact SW.set_ok (SW.set_ok hw ha hn false) hb hn true
  · exact hw
theorem nodup_ne {ps : List Nat} (hps : ps.Nodup) {a b : Nat} (ha : a < ps.length) (hb : b < ps.length) (h : a ≠ b) : ps.getD a 0 ≠ ps.getD b 0 := by
  simp only [List.getD_eq_getElem?_getD, ha, hb, List.getElem?_eq_getElem, Option.getD_some]
  intro e
  exact h ((List.getElem_inj hps).1 e)
theorem cols_row {β : Base} (ps : List Nat) (cs : List Pc) {k : Nat} (hk : k < 3) : RowIn β [colsA ps cs] (ps.getD k 0) := fun w s => by
  obtain ⟨x, s2⟩ := (s.ent (cols_open ps cs hk)).exA
  obtain ⟨_, s3⟩ := s2.pureA
  exact (RowIn.of_at (L := [pt (ps.getD k 0) (lpC k x.on x.r x.S), colR ps cs k x]) .h) w s3
set_option maxHeartbeats 4000000 in
theorem move88 (β : Base) (m g : Nat) {ps : List Nat} (hpl : ps.length = 3) (hps : ps.Nodup) {w : SW} (hw : w.ok) {a b : Nat} (ha : a < 3) (hb : b < 3) {n : Int} (hn : n ≤ 9223372036854775807) :
    Tri Tryz.prog β 88 [.pointer (some ⟨m, 0, none⟩), .int .i64 n, cpV ps a, cpV ps b] (swA m g ps w) (fun v L => v = .bool (w.moves n a b) ∧ L = swA m g ps (w.move n a b)) := by
  refine Tri.intro tt_ok Tryz.func88 rfl rfl Tryz.ntmps88 rfl fun F => ?_
  unfold SW.move SW.moves
  (refine G tt_ok pk88 ?_; repeat (refine G1 tt_ok pk88 ?_; intro _))
  by_cases hab : a = b
  · subst hab
    refine SQ.eqpS tt_ok rfl rfl rfl ?_
    rw [decide_eq_false (show ¬ (a ≠ a) by simp), Bool.false_and, if_neg (by simp)]
    (refine G tt_ok pk88 ?_; repeat (refine G1 tt_ok pk88 ?_; intro _))
    exact CW.ret (fin_ret rfl pk_ ⟨rfl, rfl⟩)
  · rw [decide_eq_true (show a ≠ b from hab), Bool.true_and]
    have hra : RowIn β (swA m g ps w) (ps.getD a 0) := (cols_row ps w.cs ha).rm Rm.h
    have hrb : RowIn β (swA m g ps w) (ps.getD b 0) := (cols_row ps w.cs hb).rm Rm.h
    refine SQ.eqpN tt_ok rfl rfl (by decide) (nodup_ne hps (by omega) (by omega) hab) hra hrb trivial ?_
    (refine G tt_ok pk88 ?_; repeat (refine G1 tt_ok pk88 ?_; intro _))
    refine ke rfl rfl (has17C β m g ps hw ha hn) ?_
    cases h1 : w.has a n with
    | false =>
      rw [Bool.false_and, if_neg (by simp)]
      (refine G tt_ok pk88 ?_; repeat (refine G1 tt_ok pk88 ?_; intro _))
      exact CW.ret (fin_ret rfl pk_ ⟨rfl, rfl⟩)
    | true =>
      rw [Bool.true_and]
      (refine G tt_ok pk88 ?_; repeat (refine G1 tt_ok pk88 ?_; intro _))
      refine ke rfl rfl (index45C β m g ps w hb n) ?_
      cases h2 : idxV b n with
      | false =>
        rw [if_neg (by simp)]
        (refine G tt_ok pk88 ?_; repeat (refine G1 tt_ok pk88 ?_; intro _))
        exact CW.ret (fin_ret rfl pk_ ⟨rfl, rfl⟩)
      | true =>
        rw [if_pos rfl]
        (refine G tt_ok pk88 ?_; repeat (refine G1 tt_ok pk88 ?_; intro _))
        refine ke rfl rfl (set89C β m g ps hw ha hn false) ?_
        (refine G tt_ok pk88 ?_; repeat (refine G1 tt_ok pk88 ?_; intro _))
        refine ke rfl rfl (set89C β m g ps (SW.set_ok hw ha hn false) hb hn true) ?_
        (refine G tt_ok pk88 ?_; repeat (refine G1 tt_ok pk88 ?_; intro _))
        exact CW.ret (fin_ret rfl pk_ ⟨rfl, rfl⟩)
end Go.Proofs.YthhfoppaaehepaaGreatDoor.Sl
namespace Go.Proofs.YthhfoppaaehepaaGreatDoor.Sl
open Go Go.RowKit Go.Proofs
set_option linter.unusedVariables false
set_option linter.unusedSimpArgs false
attribute [local irreducible] CW Tri OW
set_option maxRecDepth 10000
@[reducible] def pk31 : List (Nat × Plan) := []
@[reducible] def pk13 : List (Nat × Plan) := []
@[reducible] def pk12 : List (Nat × Plan) := []
@[reducible] def iC (x : Int) : List Value := [.int .i64 x]
/-- The r last numbers of those that wait, where each that is told changes what there is. -/
def waitL (k : Nat) (step : SW → Int → SW) : Nat → SW → List Int
  | 0, _ => []
  | r + 1, w => if w.has k ((8192 + (20 + 16 * k - (r + 1)) : Nat) : Int) then ((8192 + (20 + 16 * k - (r + 1)) : Nat) : Int) :: waitL k step r (step w ((8192 + (20 + 16 * k - (r + 1)) : Nat) : Int)) else waitL k step r w
theorem waitL_len (k : Nat) (step : SW → Int → SW) : ∀ r w, (waitL k step r w).length ≤ r
  | 0, _ => by simp [waitL]
  | r + 1, w => by
    unfold waitL
    split
    · rw [List.length_cons]
      exact Nat.succ_le_succ (waitL_len k step r _)
    · have := waitL_len k step r w; omega
theorem waitL_s (k : Nat) (step : SW → Int → SW) (r : Nat) (w : SW) : waitL k step (r + 1) w = if w.has k ((8192 + (20 + 16 * k - (r + 1)) : Nat) : Int) then ((8192 + (20 + 16 * k - (r + 1)) : Nat) : Int) :: waitL k step r (step w ((8192 + (20 + 16 * k - (r + 1)) : Nat) : Int)) else waitL k step r w := rfl
theorem fold_ok {step : SW → Int → SW} (hs : ∀ w x, x ≤ 9000 → w.ok → (step w x).ok) {w : SW} (hw : w.ok) : ∀ {pre : List Int}, (∀ x ∈ pre, x ≤ 9000) → (pre.foldl step w).ok := by
  intro pre
  induction pre generalizing w with
  | nil => exact fun _ => hw
  | cons x pre ih => exact fun h => ih (hs _ _ (h x (by simp)) hw) fun y hy => h y (by simp [hy])
set_option maxHeartbeats 4000000 in
theorem iter31 (β : Base) (m g b2 b3 : Nat) (ps : List Nat) {step : SW → Int → SW} (hs : ∀ w x, x ≤ 9000 → w.ok → (step w x).ok) {w : SW} (hw : w.ok) {k : Nat} (hk : k < 3) :
    IterD Tryz.prog β 31 [.pointer (some ⟨b2, 0, none⟩), .pointer (some ⟨b3, 0, none⟩)] (fun pre => pt b2 [cpV ps k] :: pt b3 [.pointer (some ⟨m, 0, none⟩)] :: swA m g ps (pre.foldl step w)) iC (waitL k step (20 + 16 * k) w) := by
  intro l J Jx hY
  refine Tri.intro tt_ok Tryz.func31 rfl rfl Tryz.ntmps31 rfl fun F => ?_
  (refine G tt_ok pk31 ?_; repeat (refine G1 tt_ok pk31 ?_; intro _))
  unfold swA
  refine SQ.ent _ (Rm.to (A := colsA ps w.cs) (by repeat (first | exact Rm.h | apply Rm.t)) (cols_open ps w.cs hk)) ?_
  refine SQ.open_ fun x => ?_
  refine SQ.pure_ fun hx => ?_
  (refine G tt_ok pk31 ?_; repeat (refine G1 tt_ok pk31 ?_; intro _))
  refine CW.ent (L' := J [] :: pt b2 [cpV ps k] :: pt b3 [.pointer (some ⟨m, 0, none⟩)] :: swA m g ps w) ?_ ?_
  · refine (tk_ (As := [pt (ps.getD k 0) (lpC k x.on x.r x.S), colR ps w.cs k x]) (cols_shut hx.1 hx.2.1)).trans ?_
    unfold swA
    exact pk_
  refine CW.loop (α := Nat × List Int) (fun x => x.1 ≤ 20 + 16 * k ∧ (∀ y ∈ x.2, y ≤ 9000) ∧ x.2 ++ waitL k step (20 + 16 * k - x.1) (x.2.foldl step w) = waitL k step (20 + 16 * k) w)
    (fun x => [(10, .int .i64 x.1), (9, .int .i64 ((20 + 16 * k : Nat) : Int)), (0, .func (.yield l) #[] #[]), (1, .pointer (some ⟨b2, 0, none⟩)), (2, .pointer (some ⟨b3, 0, none⟩))])
    (fun x => J x.2 :: pt b2 [cpV ps k] :: pt b3 [.pointer (some ⟨m, 0, none⟩)] :: swA m g ps (x.2.foldl step w)) (fun x => 20 + 16 * k - x.1) (0, []) ⟨by simp, by simp, by simp⟩ ⟨rfl, rfl, rfl, rfl, rfl, trivial⟩ pk_ ?_
  rintro ⟨i, pre⟩ ⟨hi, hp, hE⟩
  simp only at hi hp hE ⊢
  have hok := fold_ok hs hw hp
  generalize hv : pre.foldl step w = v at hE hok ⊢
  (refine G tt_ok pk31 ?_; repeat (refine G1 tt_ok pk31 ?_; intro _))
  by_cases hlt : i < 20 + 16 * k
  · rw [decide_eq_true (show (i : Int) < ((20 + 16 * k : Nat) : Int) by omega)]
    have hwr : IntKind.i64.wrap ((i : Int) + 1) = ((i + 1 : Nat) : Int) := by rw [wrap_i64]; split <;> omega
    obtain ⟨r, hr⟩ : ∃ r, 20 + 16 * k - i = r + 1 := ⟨20 + 16 * k - i - 1, by omega⟩
    rw [hr, waitL_s] at hE
    have hid : ((8192 + (20 + 16 * k - (r + 1)) : Nat) : Int) = ((8192 + i : Nat) : Int) := by omega
    rw [hid] at hE
    (refine G tt_ok pk31 ?_; repeat (refine G1 tt_ok pk31 ?_; intro _))
    rw [show IntKind.i64.wrap (8192 + (i : Int)) = ((8192 + i : Nat) : Int) by rw [wrap_id (by omega) (by omega)]; omega]
    (refine G tt_ok pk31 ?_; repeat (refine G1 tt_ok pk31 ?_; intro _))
    refine ke rfl rfl (has17C β m g ps hok hk (n := ((8192 + i : Nat) : Int)) (by omega)) ?_
    cases hh : v.has k ((8192 + i : Nat) : Int) with
    | true =>
      rw [hh, if_pos rfl] at hE
      (refine G tt_ok pk31 ?_; repeat (refine G1 tt_ok pk31 ?_; intro _))
      have hpre : (pre ++ [((8192 + i : Nat) : Int)]) <+: waitL k step (20 + 16 * k) w := ⟨waitL k step r (step v ((8192 + i : Nat) : Int)), by rw [← hE]; simp⟩
      have hy := hY pre _ hpre
      simp only [List.foldl_append, List.foldl_cons, List.foldl_nil, hv] at hy
      (refine SQ.yieldA rfl rfl (hy) (by repeat (first | exact .n | exact Rm.h | exact Rm.of own_row | exact Rm.of row_close0 | apply Tk.c | apply Rm.t)) ?_; rintro _ _ (⟨rfl, rfl⟩ | ⟨rfl, rfl⟩) <;> refine w_ ?_)
      · (refine G tt_ok pk31 ?_; repeat (refine G1 tt_ok pk31 ?_; intro _))
        refine ⟨(i + 1, pre ++ [((8192 + i : Nat) : Int)]), ⟨by simp; omega, ?_, ?_⟩, by simp; omega, ⟨by rw [← hwr]; rfl, rfl, rfl, rfl, rfl, trivial⟩, ?_⟩
        · intro y hy
          simp only [List.mem_append, List.mem_singleton] at hy
          rcases hy with h | h
          · exact hp y h
          · omega
        · simp only [List.foldl_append, List.foldl_cons, List.foldl_nil, hv]
          rw [show 20 + 16 * k - (i + 1) = r by omega, ← hE]
          simp
        · simp only [List.foldl_append, List.foldl_cons, List.foldl_nil, hv]
          exact pk_
      · (refine G tt_ok pk31 ?_; repeat (refine G1 tt_ok pk31 ?_; intro _))
        exact CW.ret (fin_ret (vs := []) rfl (A := Jx (pre ++ [((8192 + i : Nat) : Int)]) :: pt b2 [cpV ps k] :: pt b3 [.pointer (some ⟨m, 0, none⟩)] :: swA m g ps (step v ((8192 + i : Nat) : Int))) pk_ (.inr ⟨pre ++ [((8192 + i : Nat) : Int)], by simp only [List.foldl_append, List.foldl_cons, List.foldl_nil, hv]; rfl⟩))
    | false =>
      rw [hh, if_neg (by simp)] at hE
      (refine G tt_ok pk31 ?_; repeat (refine G1 tt_ok pk31 ?_; intro _))
      refine ⟨(i + 1, pre), ⟨by simp; omega, hp, ?_⟩, by simp; omega, ⟨by rw [← hwr]; rfl, rfl, rfl, rfl, rfl, trivial⟩, ?_⟩
      · simp only [hv]
        rw [show 20 + 16 * k - (i + 1) = r by omega, ← hE]
      · simp only [hv]
        exact pk_
  · rw [decide_eq_false (show ¬ (i : Int) < ((20 + 16 * k : Nat) : Int) by omega)]
    (refine G tt_ok pk31 ?_; repeat (refine G1 tt_ok pk31 ?_; intro _))
    refine CW.exit ?_
    (refine G tt_ok pk31 ?_; repeat (refine G1 tt_ok pk31 ?_; intro _))
    rw [show 20 + 16 * k - i = 0 by omega] at hE
    have hE2 : pre = waitL k step (20 + 16 * k) w := by rw [← hE]; simp [waitL]
    exact fin_normal (vs := []) rfl (A := J pre :: pt b2 [cpV ps k] :: pt b3 [.pointer (some ⟨m, 0, none⟩)] :: swA m g ps v) pk_ (.inl (by rw [← hE2, hv]; rfl))
theorem waiting13 (β : Base) (m : Nat) (ps : List Nat) (k : Nat) : Tri Tryz.prog β 13 [cpV ps k, .pointer (some ⟨m, 0, none⟩)] [] (fun v L => ∃ b2 b3, v = .func (.func 31) #[] #[.pointer (some ⟨b2, 0, none⟩), .pointer (some ⟨b3, 0, none⟩)] ∧ L = [pt b2 [cpV ps k], pt b3 [.pointer (some ⟨m, 0, none⟩)]]) := by
  refine Tri.intro tt_ok Tryz.func13 rfl rfl Tryz.ntmps13 rfl fun F => ?_
  (refine G tt_ok pk13 ?_; repeat (refine G1 tt_ok pk13 ?_; intro _))
  rename_i b2 b3
  exact CW.ret (fin_ret rfl (A := [pt b2 [cpV ps k], pt b3 [.pointer (some ⟨m, 0, none⟩)]]) pk_ ⟨b2, b3, rfl, rfl⟩)
set_option maxHeartbeats 4000000 in
/-- The numbers that a loop goes through. -/
theorem list12 (β : Base) {gf : Nat} {cap : Array Value} {A : List Atom} {xs : List Int} (hI : IterD Tryz.prog β gf cap.toList (fun _ => A) iC xs) (hl : xs.length ≤ 400) :
    Tri Tryz.prog β 12 [.func (.func gf) #[] cap] A (fun v L => ∃ q c, v = .slice q xs.length c ∧ L = rowA q xs.length (xs.flatMap iC) :: A) := by
  refine Tri.intro tt_ok Tryz.func12 rfl rfl Tryz.ntmps12 rfl fun F => ?_
  (refine G tt_ok pk12 ?_; repeat (refine G1 tt_ok pk12 ?_; intro _))
  rename_i b3
  refine CW.ent (L' := A ++ [exA fun x : Option Addr × Nat => [pt b3 [.slice x.1 0 x.2], own 3 1 (.slice x.1 0 x.2) 0 []]]) ?_ ?_
  · refine Ent.trans ?_ (Ent.perm List.perm_append_comm)
    refine Ent.trans (own_nil 3 1) ?_
    exact Ent.append (L := [own 3 1 (.slice none 0 0) 0 [], pt b3 [.slice none 0 0]]) (L' := [exA fun x : Option Addr × Nat => [pt b3 [.slice x.1 0 x.2], own 3 1 (.slice x.1 0 x.2) 0 []]]) (M := A) (M' := A)
      ((Ent.perm (List.Perm.swap _ _ _)).trans (Ent.exA (f := fun x : Option Addr × Nat => [pt b3 [.slice x.1 0 x.2], own 3 1 (.slice x.1 0 x.2) 0 []]) (none, 0))) (Ent.refl _)
  refine CW.rangeFuncD rfl hI (List.replicate A.length 0) (sel_front A)
    (fun pre => [exA fun x : Option Addr × Nat => [pt b3 [.slice x.1 pre.length x.2], own 3 1 (.slice x.1 pre.length x.2) pre.length (pre.flatMap iC)]])
    (fun _ _ => False) (Ent.refl _) (fun _ => rfl) (by decide) ?_ ?_ (fun _ _ _ h => h.elim)
  · intro pre p hpre lp fm rec1
    have hpl : pre.length < 400 := by have := hpre.length_le; simp at this; omega
    refine CW.open_ fun x => ?_
    obtain ⟨q, c⟩ := x
    (refine G tt_ok pk12 ?_; repeat (refine G1 tt_ok pk12 ?_; intro _))
    intro fm2 rec2
    (refine G tt_ok pk12 ?_; repeat (refine G1 tt_ok pk12 ?_; intro _))
    (refine SQ.built tt_ok rfl rfl (fun _ => w_ ?_))
    (refine G tt_ok pk12 ?_; repeat (refine G1 tt_ok pk12 ?_; intro _))
    refine SQ.append tt_ok rfl rfl 2 rfl 0 (q := true) rfl [.int .i64 p] rfl rfl rfl (scal_eq rfl) (by omega) (by show (pre.length + 1) * 8 ≤ _; omega) (fun v' => ⟨(by repeat (first | exact trivial | refine ⟨trivial, ?_⟩ | refine ⟨wk (by repeat (first | exact .h | exact .q | apply At.t)) (by rfl), ?_⟩)), ?_⟩)
    refine SQ.ent _ (Ent.head (own_shape _ _ _ _ _)) ?_
    refine SQ.open_ fun s => ?_
    refine SQ.pure_ fun hv => ?_
    subst hv
    (refine G tt_ok pk12 ?_; repeat (refine G1 tt_ok pk12 ?_; intro _))
    rw [decide_eq_false (show ¬ (((pre.length + 1 : Nat) : Int) > 2000) by omega)]
    (refine G tt_ok pk12 ?_; repeat (refine G1 tt_ok pk12 ?_; intro _))
    refine Ent.trans ?_ (Ent.append (L' := [exA fun x : Option Addr × Nat => [pt b3 [.slice x.1 (pre ++ [p]).length x.2], own 3 1 (.slice x.1 (pre ++ [p]).length x.2) (pre ++ [p]).length ((pre ++ [p]).flatMap iC)]]) (M := A) (M' := A) (Ent.exA (f := fun x : Option Addr × Nat => [pt b3 [.slice x.1 (pre ++ [p]).length x.2], own 3 1 (.slice x.1 (pre ++ [p]).length x.2) (pre ++ [p]).length ((pre ++ [p]).flatMap iC)]) s) (Ent.refl _))
    rw [show (pre ++ [p]).length = pre.length + 1 by simp, show (pre ++ [p]).flatMap iC = pre.flatMap iC ++ [.int .i64 p] by simp [iC]]
    exact Ent.append (L := [_, _, _]) (L' := [pt b3 [.slice s.1 (pre.length + 1) s.2], own 3 1 (.slice s.1 (pre.length + 1) s.2) (pre.length + 1) (pre.flatMap iC ++ [.int .i64 p])]) (M := A) (Ent.sel (is := [2, 0]) rfl) (Ent.refl A)
  · refine CW.open_ fun x => ?_
    obtain ⟨q, c⟩ := x
    (refine G tt_ok pk12 ?_; repeat (refine G1 tt_ok pk12 ?_; intro _))
    refine CW.ret (fin_ret rfl (A := rowA q xs.length (xs.flatMap iC) :: A) (Ent.append (L := [pt b3 [.slice q xs.length c], own 3 1 (.slice q xs.length c) xs.length (xs.flatMap iC)]) (L' := [rowA q xs.length (xs.flatMap iC)]) (M := A) (Ent.trans (Ent.sel (is := [1]) rfl) own_row) (Ent.refl A)) ?_)
    exact ⟨q, c, rfl, rfl⟩
end Go.Proofs.YthhfoppaaehepaaGreatDoor.Sl
namespace Go.Proofs.YthhfoppaaehepaaGreatDoor.Sl
open Go Go.RowKit Go.Proofs
set_option linter.unusedVariables false
set_option linter.unusedSimpArgs false
attribute [local irreducible] CW Tri OW
set_option maxRecDepth 10000
@[reducible] def pk90 : List (Nat × Plan) := []
/-- All that wait by one begin to wait by another one. -/
def mvS (a b : Nat) (w : SW) (x : Int) : SW := w.move x a b
def SW.moveL (w : SW) (a b : Nat) : List Int := waitL a (mvS a b) (20 + 16 * a) w
def SW.moveA (w : SW) (a b : Nat) : SW := (w.moveL a b).foldl (mvS a b) w
theorem mvS_ok {a b : Nat} (ha : a < 3) (hb : b < 3) : ∀ w x, x ≤ 9000 → w.ok → (mvS a b w x).ok := fun w x hx hw => SW.move_ok hw (by omega) ha hb
theorem waitL_le (k : Nat) (step : SW → Int → SW) (hk : k < 3) : ∀ r w, r ≤ 20 + 16 * k → ∀ x ∈ waitL k step r w, x ≤ 9000
  | 0, _, _ => by simp [waitL]
  | r + 1, w, h => by
    rw [waitL_s]
    split
    · intro x hx
      rcases List.mem_cons.1 hx with rfl | hx
      · omega
      · exact waitL_le k step hk r _ (by omega) x hx
    · exact waitL_le k step hk r w (by omega)
theorem SW.moveA_ok {w : SW} (hw : w.ok) {a b : Nat} (ha : a < 3) (hb : b < 3) : (w.moveA a b).ok := fold_ok (mvS_ok ha hb) hw (waitL_le a _ ha _ _ (Nat.le_refl _))
set_option maxHeartbeats 4000000 in
theorem moveAll90 (β : Base) (m g : Nat) {ps : List Nat} (hpl : ps.length = 3) (hps : ps.Nodup) {w : SW} (hw : w.ok) {a b : Nat} (ha : a < 3) (hb : b < 3) :
    Tri Tryz.prog β 90 [.pointer (some ⟨m, 0, none⟩), cpV ps a, cpV ps b] (swA m g ps w) (fun v L => (∃ n, v = .int .i64 n) ∧ L = swA m g ps (w.moveA a b)) := by
  refine Tri.intro tt_ok Tryz.func90 rfl rfl Tryz.ntmps90 rfl fun F => ?_
  (refine G tt_ok pk90 ?_; repeat (refine G1 tt_ok pk90 ?_; intro _))
  rename_i c1 c2 c3 c4
  (refine ka rfl rfl (waiting13 β m ps a) ?_; rintro _ _ ⟨b2, b3, rfl, rfl⟩; refine w_ ?_)
  (refine G tt_ok pk90 ?_; repeat (refine G1 tt_ok pk90 ?_; intro _))
  have hI := iter31 β m g b2 b3 ps (mvS_ok ha hb) hw ha
  refine CW.ent (L' := (pt b2 [cpV ps a] :: pt b3 [.pointer (some ⟨m, 0, none⟩)] :: swA m g ps w) ++ [exA fun n : Int => [pt c4 [.int .i64 n], pt c1 [.pointer (some ⟨m, 0, none⟩)], pt c2 [cpV ps a], pt c3 [cpV ps b]]]) ?_ ?_
  · refine Ent.trans ?_ (Ent.append (Ent.refl _) (Ent.exA (f := fun n : Int => [pt c4 [.int .i64 n], pt c1 [.pointer (some ⟨m, 0, none⟩)], pt c2 [cpV ps a], pt c3 [cpV ps b]]) 0))
    unfold swA
    exact pk_
  refine CW.rangeFuncD rfl hI (List.replicate 5 0) (sel_front (pt b2 [cpV ps a] :: pt b3 [.pointer (some ⟨m, 0, none⟩)] :: swA m g ps w))
    (fun pre => [exA fun n : Int => [pt c4 [.int .i64 n], pt c1 [.pointer (some ⟨m, 0, none⟩)], pt c2 [cpV ps a], pt c3 [cpV ps b]]])
    (fun _ _ => False) (Ent.refl _) (fun _ => rfl) (by decide) ?_ ?_ (fun _ _ _ h => h.elim)
  · intro pre x hpre lp fm rec1
    have hx : x ≤ 9000 := waitL_le a _ ha _ _ (Nat.le_refl _) x (hpre.subset (by simp))
    have hpl : ∀ y ∈ pre, y ≤ 9000 := fun y hy => waitL_le a _ ha _ _ (Nat.le_refl _) y (hpre.subset (by simp [hy]))
    have hok := fold_ok (mvS_ok ha hb) hw hpl
    have e1 : (pre ++ [x]).foldl (mvS a b) w = (pre.foldl (mvS a b) w).move x a b := by rw [List.foldl_append]; rfl
    simp only [e1]
    generalize pre.foldl (mvS a b) w = v at hok ⊢
    refine CW.open_ fun n => ?_
    (refine G tt_ok pk90 ?_; repeat (refine G1 tt_ok pk90 ?_; intro _))
    intro fm2 rec2
    (refine G tt_ok pk90 ?_; repeat (refine G1 tt_ok pk90 ?_; intro _))
    refine ke rfl rfl (move88 β m g (by omega) hps hok ha hb (n := x) (by omega)) ?_
    generalize v.moves x a b = t
    have e2 : ∀ n : Int, Ent [pt c4 [.int .i64 n], pt c1 [.pointer (some ⟨m, 0, none⟩)], pt c2 [cpV ps a], pt c3 [cpV ps b]] [exA fun n : Int => [pt c4 [.int .i64 n], pt c1 [.pointer (some ⟨m, 0, none⟩)], pt c2 [cpV ps a], pt c3 [cpV ps b]]] := fun n => Ent.exA (f := fun n : Int => [pt c4 [.int .i64 n], pt c1 [.pointer (some ⟨m, 0, none⟩)], pt c2 [cpV ps a], pt c3 [cpV ps b]]) n
    cases t with
    | true =>
      (refine G tt_ok pk90 ?_; repeat (refine G1 tt_ok pk90 ?_; intro _))
      exact Ent.trans pk_ (Ent.append (e2 _) (Ent.refl _))
    | false =>
      (refine G tt_ok pk90 ?_; repeat (refine G1 tt_ok pk90 ?_; intro _))
      exact Ent.trans pk_ (Ent.append (e2 n) (Ent.refl _))
  · refine CW.open_ fun n => ?_
    (refine G tt_ok pk90 ?_; repeat (refine G1 tt_ok pk90 ?_; intro _))
    exact CW.ret (fin_ret rfl (A := swA m g ps (w.moveA a b)) pk_ ⟨⟨n, rfl⟩, rfl⟩)
end Go.Proofs.YthhfoppaaehepaaGreatDoor.Sl
namespace Go.Proofs.YthhfoppaaehepaaGreatDoor.Sl
open Go Go.RowKit Go.Proofs
set_option linter.unusedVariables false
set_option linter.unusedSimpArgs false
attribute [local irreducible] CW Tri OW
set_option maxRecDepth 10000
@[reducible] def pk78 : List (Nat × Plan) := []
@[reducible] def pk130 : List (Nat × Plan) := []
abbrev Er := Int × Rt
@[reducible] def erC (x : Er) : List Value := [.int .i64 x.1, .agg #[.int .i64 x.2.1, .int .i64 x.2.2.1, .bool x.2.2.2]]
def evC (d : Dv) : Nat := min (evN d.2.1).toNat 16384
/-- The r last events of a device that go somewhere, where each that is told changes what there is. -/
def routesL (d : Dv) (step : SW → Er → SW) : Nat → SW → List Er
  | 0, _ => []
  | r + 1, w => if (devRt w.B d ((evC d - (r + 1) : Nat) : Int)).2 ≠ 0 then [] else
    if (devRt w.B d ((evC d - (r + 1) : Nat) : Int)).1.2.2 then (((evC d - (r + 1) : Nat) : Int), (devRt w.B d ((evC d - (r + 1) : Nat) : Int)).1) :: routesL d step r (step w (((evC d - (r + 1) : Nat) : Int), (devRt w.B d ((evC d - (r + 1) : Nat) : Int)).1))
    else routesL d step r w
theorem routesL_s (d : Dv) (step : SW → Er → SW) (r : Nat) (w : SW) : routesL d step (r + 1) w = if (devRt w.B d ((evC d - (r + 1) : Nat) : Int)).2 ≠ 0 then [] else
    if (devRt w.B d ((evC d - (r + 1) : Nat) : Int)).1.2.2 then (((evC d - (r + 1) : Nat) : Int), (devRt w.B d ((evC d - (r + 1) : Nat) : Int)).1) :: routesL d step r (step w (((evC d - (r + 1) : Nat) : Int), (devRt w.B d ((evC d - (r + 1) : Nat) : Int)).1))
    else routesL d step r w := rfl
theorem foldE_ok {step : SW → Er → SW} (hs : ∀ w (x : Er), 0 ≤ x.1 → x.2.1 ≤ 9223372036854775807 → 0 ≤ x.2.1 → w.ok → (step w x).ok) {w : SW} (hw : w.ok) : ∀ {pre : List Er}, (∀ x ∈ pre, 0 ≤ x.1 ∧ x.2.1 ≤ 9223372036854775807 ∧ 0 ≤ x.2.1) → (pre.foldl step w).ok := by
  intro pre
  induction pre generalizing w with
  | nil => exact fun _ => hw
  | cons x pre ih => exact fun h => ih (hs _ _ (h x (by simp)).1 (h x (by simp)).2.1 (h x (by simp)).2.2 hw) fun y hy => h y (by simp [hy])
theorem routesL_in (d : Dv) (step : SW → Er → SW) : ∀ r w, ∀ x ∈ routesL d step r w, 0 ≤ x.1 ∧ x.2.1 ≤ 9223372036854775807 ∧ 0 ≤ x.2.1
  | 0, _ => by simp [routesL]
  | r + 1, w => by
    rw [routesL_s]
    split
    · simp
    · split
      · intro x hx
        rcases List.mem_cons.1 hx with rfl | hx
        · have := devRt_lt w.B d ((evC d - (r + 1) : Nat) : Int)
          exact ⟨by simp only; omega, this.2.1, this.1⟩
        · exact routesL_in d step r _ x hx
      · exact routesL_in d step r w
theorem routes78 (β : Base) (m : Nat) (d : Dv) : Tri Tryz.prog β 78 [.agg #[.bool d.1, .int .i64 d.2.1, .int .i64 d.2.2], .pointer (some ⟨m, 0, none⟩)] [] (fun v L => ∃ b2 b3, v = .func (.func 130) #[] #[.pointer (some ⟨b2, 0, none⟩), .pointer (some ⟨b3, 0, none⟩)] ∧ L = [pt b2 [.bool d.1, .int .i64 d.2.1, .int .i64 d.2.2], pt b3 [.pointer (some ⟨m, 0, none⟩)]]) := by
  refine Tri.intro tt_ok Tryz.func78 rfl rfl Tryz.ntmps78 rfl fun F => ?_
  (refine G tt_ok pk78 ?_; repeat (refine G1 tt_ok pk78 ?_; intro _))
  rename_i b2 b3
  exact CW.ret (fin_ret rfl (A := [pt b2 [.bool d.1, .int .i64 d.2.1, .int .i64 d.2.2], pt b3 [.pointer (some ⟨m, 0, none⟩)]]) pk_ ⟨b2, b3, rfl, rfl⟩)
set_option maxHeartbeats 4000000 in
theorem iter130 (β : Base) (m g b2 b3 : Nat) (ps : List Nat) {step : SW → Er → SW} (hs : ∀ w (x : Er), 0 ≤ x.1 → x.2.1 ≤ 9223372036854775807 → 0 ≤ x.2.1 → w.ok → (step w x).ok) {w : SW} (hw : w.ok) (d : Dv) (hd : okDv d) :
    IterD Tryz.prog β 130 [.pointer (some ⟨b2, 0, none⟩), .pointer (some ⟨b3, 0, none⟩)] (fun pre => pt b2 [.bool d.1, .int .i64 d.2.1, .int .i64 d.2.2] :: pt b3 [.pointer (some ⟨m, 0, none⟩)] :: swA m g ps (pre.foldl step w)) erC (routesL d step (evC d) w) := by
  intro l J Jx hY
  refine Tri.intro tt_ok Tryz.func130 rfl rfl Tryz.ntmps130 rfl fun F => ?_
  (refine G tt_ok pk130 ?_; repeat (refine G1 tt_ok pk130 ?_; intro _))
  refine ke rfl rfl (events76 β d.1 d.2.2 hd.1 hd.2.1) ?_
  (refine G tt_ok pk130 ?_; repeat (refine G1 tt_ok pk130 ?_; intro _))
  have hm : (if (16384 : Int) < evN d.2.1 then 16384 else evN d.2.1) = ((evC d : Nat) : Int) := by
    have := evN_le hd.2.1
    unfold evC; split <;> omega
  rw [hm]
  refine CW.loop (α := Nat × List Er) (fun x => x.1 ≤ evC d ∧ (∀ y ∈ x.2, 0 ≤ y.1 ∧ y.2.1 ≤ 9223372036854775807 ∧ 0 ≤ y.2.1) ∧ x.2 ++ routesL d step (evC d - x.1) (x.2.foldl step w) = routesL d step (evC d) w)
    (fun x => [(10, .int .i64 x.1), (9, .int .i64 ((evC d : Nat) : Int)), (0, .func (.yield l) #[] #[]), (1, .pointer (some ⟨b2, 0, none⟩)), (2, .pointer (some ⟨b3, 0, none⟩))])
    (fun x => J x.2 :: pt b2 [.bool d.1, .int .i64 d.2.1, .int .i64 d.2.2] :: pt b3 [.pointer (some ⟨m, 0, none⟩)] :: swA m g ps (x.2.foldl step w)) (fun x => evC d - x.1) (0, []) ⟨by simp, by simp, by simp⟩ ⟨rfl, rfl, rfl, rfl, rfl, trivial⟩ pk_ ?_
  have hle : evC d ≤ 16384 := by unfold evC; omega
  rintro ⟨i, pre⟩ ⟨hi, hp, hE⟩
  simp only at hi hp hE ⊢
  have hok := foldE_ok hs hw hp
  generalize hv : pre.foldl step w = v at hE hok ⊢
  (refine G tt_ok pk130 ?_; repeat (refine G1 tt_ok pk130 ?_; intro _))
  by_cases hlt : i < evC d
  · rw [decide_eq_true (show (i : Int) < ((evC d : Nat) : Int) by omega)]
    have hwr : IntKind.i64.wrap ((i : Int) + 1) = ((i + 1 : Nat) : Int) := by rw [wrap_i64]; split <;> omega
    obtain ⟨r, hr⟩ : ∃ r, evC d - i = r + 1 := ⟨evC d - i - 1, by omega⟩
    rw [hr, routesL_s] at hE
    rw [show evC d - (r + 1) = i by omega] at hE
    (refine G tt_ok pk130 ?_; repeat (refine G1 tt_ok pk130 ?_; intro _))
    unfold swA
    refine ke rfl rfl (route84 β m g v.B (by rw [hok.1]; omega) hok.2.1 d hd (i : Int)) ?_
    generalize hrt : devRt v.B d (i : Int) = y at hE ⊢
    obtain ⟨⟨r0, r1, r2⟩, e⟩ := y
    simp only at hE ⊢
    (refine G tt_ok pk130 ?_; repeat (refine G1 tt_ok pk130 ?_; intro _))
    by_cases he : e = 0
    · subst he
      rw [if_neg (by simp)] at hE
      (refine G tt_ok pk130 ?_; repeat (refine G1 tt_ok pk130 ?_; intro _))
      cases r2 with
      | true =>
        rw [if_pos rfl] at hE
        (refine G tt_ok pk130 ?_; repeat (refine G1 tt_ok pk130 ?_; intro _))
        have hpre : (pre ++ [((i : Int), ((r0, r1, true) : Rt))]) <+: routesL d step (evC d) w := ⟨routesL d step r (step v ((i : Int), ((r0, r1, true) : Rt))), by rw [← hE]; simp⟩
        have hy := hY pre _ hpre
        simp only [List.foldl_append, List.foldl_cons, List.foldl_nil, hv] at hy
        unfold swA at hy
        (refine SQ.yieldA rfl rfl (hy) (by repeat (first | exact .n | exact Rm.h | exact Rm.of own_row | exact Rm.of row_close0 | apply Tk.c | apply Rm.t)) ?_; rintro _ _ (⟨rfl, rfl⟩ | ⟨rfl, rfl⟩) <;> refine w_ ?_)
        · (refine G tt_ok pk130 ?_; repeat (refine G1 tt_ok pk130 ?_; intro _))
          refine ⟨(i + 1, pre ++ [((i : Int), ((r0, r1, true) : Rt))]), ⟨by simp; omega, ?_, ?_⟩, by simp; omega, ⟨by rw [← hwr]; rfl, rfl, rfl, rfl, rfl, trivial⟩, ?_⟩
          · intro y hy
            simp only [List.mem_append, List.mem_singleton] at hy
            rcases hy with h | h
            · exact hp y h
            · have := devRt_lt v.B d (i : Int)
              rw [hrt] at this
              subst h
              exact ⟨by simp only; omega, this.2.1, this.1⟩
          · simp only [List.foldl_append, List.foldl_cons, List.foldl_nil, hv]
            rw [show evC d - (i + 1) = r by omega, ← hE]
            simp
          · simp only [List.foldl_append, List.foldl_cons, List.foldl_nil, hv]
            exact pk_
        · (refine G tt_ok pk130 ?_; repeat (refine G1 tt_ok pk130 ?_; intro _))
          exact CW.ret (fin_ret (vs := []) rfl (A := Jx (pre ++ [((i : Int), ((r0, r1, true) : Rt))]) :: pt b2 [.bool d.1, .int .i64 d.2.1, .int .i64 d.2.2] :: pt b3 [.pointer (some ⟨m, 0, none⟩)] :: swA m g ps (step v ((i : Int), ((r0, r1, true) : Rt)))) pk_ (.inr ⟨pre ++ [((i : Int), ((r0, r1, true) : Rt))], by simp only [List.foldl_append, List.foldl_cons, List.foldl_nil, hv]; rfl⟩))
      | false =>
        rw [if_neg (by simp)] at hE
        (refine G tt_ok pk130 ?_; repeat (refine G1 tt_ok pk130 ?_; intro _))
        refine ⟨(i + 1, pre), ⟨by simp; omega, hp, ?_⟩, by simp; omega, ⟨by rw [← hwr]; rfl, rfl, rfl, rfl, rfl, trivial⟩, ?_⟩
        · simp only [hv]
          rw [show evC d - (i + 1) = r by omega, ← hE]
        · simp only [hv]
          exact pk_
    · rw [if_pos he] at hE
      rw [show (e != 0) = true by simp [he]]
      (refine G tt_ok pk130 ?_; repeat (refine G1 tt_ok pk130 ?_; intro _))
      have hE2 : pre = routesL d step (evC d) w := by rw [← hE]; simp
      exact CW.ret (fin_ret (vs := []) rfl (A := J pre :: pt b2 [.bool d.1, .int .i64 d.2.1, .int .i64 d.2.2] :: pt b3 [.pointer (some ⟨m, 0, none⟩)] :: swA m g ps v) pk_ (.inl (by rw [← hE2, hv]; rfl)))
  · rw [decide_eq_false (show ¬ (i : Int) < ((evC d : Nat) : Int) by omega)]
    (refine G tt_ok pk130 ?_; repeat (refine G1 tt_ok pk130 ?_; intro _))
    refine CW.exit ?_
    (refine G tt_ok pk130 ?_; repeat (refine G1 tt_ok pk130 ?_; intro _))
    rw [show evC d - i = 0 by omega] at hE
    have hE2 : pre = routesL d step (evC d) w := by rw [← hE]; simp [routesL]
    exact fin_normal (vs := []) rfl (A := J pre :: pt b2 [.bool d.1, .int .i64 d.2.1, .int .i64 d.2.2] :: pt b3 [.pointer (some ⟨m, 0, none⟩)] :: swA m g ps v) pk_ (.inl (by rw [← hE2, hv]))
end Go.Proofs.YthhfoppaaehepaaGreatDoor.Sl
namespace Go.Proofs.YthhfoppaaehepaaGreatDoor.Sl
open Go Go.RowKit Go.Proofs
set_option linter.unusedVariables false
set_option linter.unusedSimpArgs false
attribute [local irreducible] CW Tri OW
set_option maxRecDepth 10000
@[reducible] def pk38 : List (Nat × Plan) := []
@[reducible] def pk24 : List (Nat × Plan) := []
@[reducible] def pk79 : List (Nat × Plan) := []
/-- The slice of the collections' pointers. -/
structure TsOk (β : Base) (A : Atom) (q : Option Addr) (ps : List Nat) : Prop where
  hS : SlR β A q 3 1 (ps.flatMap ptC)
  hl : ps.length = 3
  hn : ps.Nodup
theorem sideV_cases (B : List Nat) (c : Int) : (∃ e, e ≠ 0 ∧ sideV B c = (none, e)) ∨ ∃ k, k < 3 ∧ sideV B c = (some k, 0) := by
  have hpos := targetW_pos B c
  unfold sideV
  by_cases h : (targetW B c).2 ≠ 0
  · exact .inl ⟨_, h, by rw [if_pos h]⟩
  · rw [if_neg h]
    by_cases h3 : (targetW B c).1 ≥ 3
    · exact .inl ⟨130, by decide, by rw [if_pos h3]⟩
    · exact .inr ⟨(targetW B c).1.toNat, by omega, by rw [if_neg h3]⟩
/-- An event begins or ends to wait. -/
def waitsV (p : Int) (w : SW) (dev ev : Int) (v : Bool) : SW × Int := if (eventV w.B p dev ev).2 ≠ 0 then (w, (eventV w.B p dev ev).2) else
  match sideV w.B (eventV w.B p dev ev).1.2.1 with
  | (some k, _) => (w.set k (eventV w.B p dev ev).1.1 v, if idxV k (eventV w.B p dev ev).1.1 then 0 else 150)
  | (none, e) => (w, e)
set_option maxHeartbeats 4000000 in
theorem waits38 (β : Base) (s m g : Nat) {ps : List Nat} {A : Atom} {q : Option Addr} (cp : Nat) (hS : TsOk β A q ps) {p : Int} (hp : p = 0 ∨ p = 32) {w : SW} (hw : w.ok) (on st : Bool) (i j : Nat) (dev ev : Int) (v : Bool) :
    Tri Tryz.prog β 38 [.pointer (some ⟨s, 0, none⟩), .pointer (some ⟨m, 0, none⟩), .slice q 3 cp, .int .i64 dev, .int .i64 ev, .bool v] (pt s (itC on st i j p) :: A :: swA m g ps w) (fun u L => u = .int .i64 (waitsV p w dev ev v).2 ∧ L = pt s (itC on st i j p) :: A :: swA m g ps (waitsV p w dev ev v).1) := by
  refine Tri.intro tt_ok Tryz.func38 rfl rfl Tryz.ntmps38 rfl fun F => ?_
  unfold waitsV
  (refine G tt_ok pk38 ?_; repeat (refine G1 tt_ok pk38 ?_; intro _))
  refine ke rfl rfl (event43 β s m g w.B hw.1 hw.2.1 on st i j hp dev ev) ?_
  have hlt := eventV_lt w.B p dev ev
  generalize eventV w.B p dev ev = x at hlt ⊢
  obtain ⟨⟨r0, r1, r2⟩, e⟩ := x
  simp only at hlt ⊢
  (refine G tt_ok pk38 ?_; repeat (refine G1 tt_ok pk38 ?_; intro _))
  by_cases he : e = 0
  · subst he
    rw [if_neg (by simp)]
    (refine G tt_ok pk38 ?_; repeat (refine G1 tt_ok pk38 ?_; intro _))
    refine ke rfl rfl (side40 β s m g w.B hw.1 hw.2.1 on st i j p (cp := cp) hS.hS hS.hl r1) ?_
    rcases sideV_cases w.B r1 with ⟨e, he, h⟩ | ⟨k, hk, h⟩
    · rw [h]
      (refine G tt_ok pk38 ?_; repeat (refine G1 tt_ok pk38 ?_; intro _))
      rw [show (e != 0) = true by simp [he]]
      (refine G tt_ok pk38 ?_; repeat (refine G1 tt_ok pk38 ?_; intro _))
      exact CW.ret (fin_ret rfl pk_ ⟨rfl, rfl⟩)
    · rw [h]
      (refine G tt_ok pk38 ?_; repeat (refine G1 tt_ok pk38 ?_; intro _))
      refine ke rfl rfl (set89C β m g ps hw hk (n := r0) hlt.2.1 v) ?_
      (refine G tt_ok pk38 ?_; repeat (refine G1 tt_ok pk38 ?_; intro _))
      exact CW.ret (fin_ret rfl pk_ ⟨rfl, rfl⟩)
  · rw [show (e != 0) = true by simp [he], if_pos he]
    (refine G tt_ok pk38 ?_; repeat (refine G1 tt_ok pk38 ?_; intro _))
    exact CW.ret (fin_ret rfl pk_ ⟨rfl, rfl⟩)
def messageV (p : Int) (w : SW) (on : Bool) (dev ev : Int) : SW × Int := if on then waitsV p w dev ev true else (w, 191)
set_option maxHeartbeats 4000000 in
theorem message24 (β : Base) (s m g : Nat) {ps : List Nat} {A : Atom} {q : Option Addr} (cp : Nat) (hS : TsOk β A q ps) {p : Int} (hp : p = 0 ∨ p = 32) {w : SW} (hw : w.ok) (on st : Bool) (i j : Nat) (dev ev : Int) :
    Tri Tryz.prog β 24 [.pointer (some ⟨s, 0, none⟩), .pointer (some ⟨m, 0, none⟩), .slice q 3 cp, .int .i64 dev, .int .i64 ev] (pt s (itC on st i j p) :: A :: swA m g ps w) (fun u L => u = .int .i64 (messageV p w on dev ev).2 ∧ L = pt s (itC on st i j p) :: A :: swA m g ps (messageV p w on dev ev).1) := by
  refine Tri.intro tt_ok Tryz.func24 rfl rfl Tryz.ntmps24 rfl fun F => ?_
  unfold messageV
  (refine G tt_ok pk24 ?_; repeat (refine G1 tt_ok pk24 ?_; intro _))
  cases on with
  | false =>
    (refine G tt_ok pk24 ?_; repeat (refine G1 tt_ok pk24 ?_; intro _))
    exact CW.ret (fin_ret rfl pk_ ⟨rfl, rfl⟩)
  | true =>
    (refine G tt_ok pk24 ?_; repeat (refine G1 tt_ok pk24 ?_; intro _))
    refine ke rfl rfl (waits38 β s m g cp hS hp hw true st i j dev ev true) ?_
    (refine G tt_ok pk24 ?_; repeat (refine G1 tt_ok pk24 ?_; intro _))
    exact CW.ret (fin_ret rfl pk_ ⟨rfl, rfl⟩)
/-- Where a message goes. -/
def routeW (B : List Nat) (p : Int) (on : Bool) (dev ev : Int) : Rt × Int × Int := if on = false then ((0, 0, false), 0, 191) else if (eventV B p dev ev).2 ≠ 0 then ((0, 0, false), 0, (eventV B p dev ev).2) else
  if (targetW B (eventV B p dev ev).1.2.1).2 ≠ 0 then ((0, 0, false), 0, (targetW B (eventV B p dev ev).1.2.1).2) else ((eventV B p dev ev).1, (targetW B (eventV B p dev ev).1.2.1).1, 0)
/-- An event goes nowhere, and its number does not wait. -/
def fgW (w : SW) (r : Rt) : SW := match sideV w.B r.2.1 with
  | (some k, _) => w.set k r.1 false
  | (none, _) => w
def fgV (d : Dv) (w : SW) (x : Er) : SW := ⟨(devSet (fgW w x.2).B d x.1 (0, 0, false)).1, (fgW w x.2).cs⟩
theorem fgW_ok {w : SW} (hw : w.ok) {r : Rt} (hr : r.1 ≤ 9223372036854775807) : (fgW w r).ok := by
  unfold fgW
  rcases sideV_cases w.B r.2.1 with ⟨e, he, h⟩ | ⟨k, hk, h⟩
  · rw [h]; exact hw
  · rw [h]; exact SW.set_ok hw hk hr false
theorem devSet_in {B : List Nat} (hB : B.length = 4096) (hb : byOk B) {d : Dv} (hd : okDv d) (ev : Int) (r : Rt) : (devSet B d ev r).1.length = 4096 ∧ byOk (devSet B d ev r).1 := by
  unfold devSet
  cases h : evA B.length d ev with
  | mk a e =>
    cases a with
    | none => exact ⟨hB, hb⟩
    | some a =>
      have h1 := (evA_some hd h).2.2.1
      simp only
      repeat' split
      all_goals first | exact ⟨hB, hb⟩ | exact ⟨by rw [wrN_len _ h1, hB], wrN_ok _ _ _ hb⟩
theorem fgV_ok {d : Dv} (hd : okDv d) (w : SW) (x : Er) (h0 : 0 ≤ x.1) (h1 : x.2.1 ≤ 9223372036854775807) (h2 : 0 ≤ x.2.1) (hw : w.ok) : (fgV d w x).ok := by
  have h := fgW_ok hw h1
  obtain ⟨hB, hb⟩ := devSet_in h.1 h.2.1 hd x.1 (0, 0, false)
  exact ⟨hB, hb, h.2.2⟩
set_option maxHeartbeats 4000000 in
theorem forget79 (β : Base) (s m g : Nat) {ps : List Nat} {A : Atom} {q : Option Addr} (cp : Nat) (hS : TsOk β A q ps) {p : Int} (hp : p = 0 ∨ p = 32) {w : SW} (hw : w.ok) (on st : Bool) (i j : Nat) {d : Dv} (hd : okDv d) (x : Er) (hx : x.2.1 ≤ 9223372036854775807) :
    Tri Tryz.prog β 79 [.pointer (some ⟨s, 0, none⟩), .pointer (some ⟨m, 0, none⟩), .slice q 3 cp, .agg #[.bool d.1, .int .i64 d.2.1, .int .i64 d.2.2], .int .i64 x.1, .agg #[.int .i64 x.2.1, .int .i64 x.2.2.1, .bool x.2.2.2]] (pt s (itC on st i j p) :: A :: swA m g ps w) (fun u L => u = .tuple #[] ∧ L = pt s (itC on st i j p) :: A :: swA m g ps (fgV d w x)) := by
  refine Tri.intro tt_ok Tryz.func79 rfl rfl Tryz.ntmps79 rfl fun F => ?_
  have hok := fgW_ok hw hx
  unfold fgV
  obtain ⟨ev, r0, r1, r2⟩ := x
  simp only at hx hok ⊢
  (refine G tt_ok pk79 ?_; repeat (refine G1 tt_ok pk79 ?_; intro _))
  refine ke rfl rfl (side40 β s m g w.B hw.1 hw.2.1 on st i j p (cp := cp) hS.hS hS.hl r1) ?_
  unfold fgW at hok ⊢
  simp only at hok ⊢
  rcases sideV_cases w.B r1 with ⟨e, he, h⟩ | ⟨k, hk, h⟩
  · rw [h] at hok ⊢
    simp only at hok ⊢
    (refine G tt_ok pk79 ?_; repeat (refine G1 tt_ok pk79 ?_; intro _))
    rw [show (e == 0) = false by simp [he]]
    (refine G tt_ok pk79 ?_; repeat (refine G1 tt_ok pk79 ?_; intro _))
    refine ke rfl rfl (setRoute87 β m g w.B (by rw [hw.1]; omega) hw.2.1 d hd ev (0, 0, false)) ?_
    (refine G tt_ok pk79 ?_; repeat (refine G1 tt_ok pk79 ?_; intro _))
    exact fin_normal (vs := []) rfl pk_ ⟨rfl, rfl⟩
  · rw [h] at hok ⊢
    simp only at hok ⊢
    (refine G tt_ok pk79 ?_; repeat (refine G1 tt_ok pk79 ?_; intro _))
    refine ke rfl rfl (set89C β m g ps hw hk (n := r0) hx false) ?_
    (refine G tt_ok pk79 ?_; repeat (refine G1 tt_ok pk79 ?_; intro _))
    refine ke rfl rfl (setRoute87 β m g (w.set k r0 false).B (by rw [hok.1]; omega) hok.2.1 d hd ev (0, 0, false)) ?_
    (refine G tt_ok pk79 ?_; repeat (refine G1 tt_ok pk79 ?_; intro _))
    exact fin_normal (vs := []) rfl pk_ ⟨rfl, rfl⟩
end Go.Proofs.YthhfoppaaehepaaGreatDoor.Sl
namespace Go.Proofs.YthhfoppaaehepaaGreatDoor.Sl
open Go Go.RowKit Go.Proofs
set_option linter.unusedVariables false
set_option linter.unusedSimpArgs false
attribute [local irreducible] CW Tri OW
set_option maxRecDepth 10000
@[reducible] def pk33 : List (Nat × Plan) := [(1, [(0, 0, []), (1, 0, []), (2, 0, []), (3, 0, []), (4, 0, []), (5, 0, []), (6, 0, []), (7, 1, [0, 3, 4, 6]), (8, 0, []), (9, 0, []), (10, 0, []), (11, 2, []), (12, 1, []), (13, 0, [])]), (5, [(0, 0, []), (1, 0, []), (2, 0, []), (3, 1, [1, 2]), (4, 0, []), (5, 0, []), (6, 2, []), (7, 1, [])]), (6, [(0, 0, []), (1, 0, []), (2, 0, []), (3, 0, []), (4, 0, []), (5, 1, [1, 3, 4]), (6, 0, []), (7, 0, []), (8, 0, []), (9, 0, []), (10, 0, []), (11, 0, []), (12, 0, []), (13, 0, []), (14, 1, [1, 3, 4, 8, 9, 13]), (15, 0, []), (16, 0, []), (17, 0, []), (18, 0, []), (19, 0, []), (20, 0, []), (21, 0, []), (22, 1, [1, 3, 4, 8, 9, 13, 17, 18, 21]), (23, 0, []), (24, 0, []), (25, 0, []), (26, 0, []), (27, 0, []), (28, 0, []), (29, 0, []), (30, 0, []), (31, 1, [1, 3, 4, 8, 9, 13, 17, 18, 21, 25, 26, 30]), (32, 0, []), (33, 0, [])]), (15, [(0, 0, []), (1, 0, []), (2, 0, []), (3, 0, []), (4, 0, []), (5, 0, []), (6, 0, []), (7, 0, []), (8, 1, [0, 3, 4, 6, 7]), (9, 0, [])])]
/-- May a device's table not lie there? -/
def badW (n : Nat) (v : Bool) (b a : Int) : Bool := v && (!holdsV n a (8 * evN b) || (meetV a (8 * evN b) 0 64 || (meetV a (8 * evN b) 64 64 || meetV a (8 * evN b) 128 320)))
/-- All events of a device go nowhere. -/
def fgA (d : Dv) (w : SW) : SW := if d.1 then (routesL d (fgV d) (evC d) w).foldl (fgV d) w else w
theorem fgA_ok {d : Dv} (hd : okDv d) {w : SW} (hw : w.ok) : (fgA d w).ok := by
  unfold fgA
  split
  · exact foldE_ok (fun w x h0 h1 h2 h => fgV_ok hd w x h0 h1 h2 h) hw (routesL_in d _ _ _)
  · exact hw
def wpV (v : Bool) (b a : Int) (B : List Nat) : List Nat := if v then wipeN B a.toNat (8 * evN b).toNat else B
def mapdV (p : Int) (w : SW) (c : Cm) : SW × Int := if (tabGet w.B 0 64 p c.2.1).2 ≠ 0 then (w, (tabGet w.B 0 64 p c.2.1).2) else
  if badW w.B.length c.2.2.2.2.2.2.2.2 c.2.2.2.2.2.2.1 c.2.2.2.2.2.2.2.1 then (w, 180) else
  (⟨(tabPut (wpV c.2.2.2.2.2.2.2.2 c.2.2.2.2.2.2.1 c.2.2.2.2.2.2.2.1 (fgA (tabGet w.B 0 64 p c.2.1).1 w).B) 0 64 p c.2.1 (c.2.2.2.2.2.2.2.2, c.2.2.2.2.2.2.1, c.2.2.2.2.2.2.2.1)).1, (fgA (tabGet w.B 0 64 p c.2.1).1 w).cs⟩,
   (tabPut (wpV c.2.2.2.2.2.2.2.2 c.2.2.2.2.2.2.1 c.2.2.2.2.2.2.2.1 (fgA (tabGet w.B 0 64 p c.2.1).1 w).B) 0 64 p c.2.1 (c.2.2.2.2.2.2.2.2, c.2.2.2.2.2.2.1, c.2.2.2.2.2.2.2.1)).2)
theorem holds_in {a s : Int} (h : holdsV 4096 a s = true) (hs : 0 < s) : ∃ A W : Nat, a = (A : Int) ∧ s = (W : Int) ∧ 0 < W ∧ A + W ≤ 4096 := by
  unfold holdsV at h
  simp only [Bool.and_eq_true, decide_eq_true_eq] at h
  exact ⟨a.toNat, s.toNat, by omega, by omega, by omega, by omega⟩
theorem wipe_ok {B : List Nat} (hb : byOk B) {A W : Nat} : byOk (wipeN B A W) := fun b h => by
  unfold wipeN at h
  simp only [List.mem_append, List.mem_replicate] at h
  rcases h with (h | h) | h
  · exact hb b (List.mem_of_mem_take h)
  · omega
  · exact hb b (List.mem_of_mem_drop h)
set_option maxHeartbeats 8000000 in
theorem mapd33 (β : Base) (s m g : Nat) {ps : List Nat} {A : Atom} {q : Option Addr} (cp : Nat) (hS : TsOk β A q ps) {p : Int} (hp : p = 0 ∨ p = 32) {w : SW} (hw : w.ok) (on st : Bool) (i j : Nat) (c : Cm) (hb0 : 0 ≤ c.2.2.2.2.2.2.1) (hb1 : c.2.2.2.2.2.2.1 ≤ 31) (hpt : okPut (c.2.2.2.2.2.2.2.2, c.2.2.2.2.2.2.1, c.2.2.2.2.2.2.2.1)) :
    Tri Tryz.prog β 33 [.pointer (some ⟨s, 0, none⟩), .pointer (some ⟨m, 0, none⟩), .slice q 3 cp, .agg #[.int .i64 c.1, .int .i64 c.2.1, .int .i64 c.2.2.1, .int .i64 c.2.2.2.1, .int .i64 c.2.2.2.2.1, .int .i64 c.2.2.2.2.2.1, .int .i64 c.2.2.2.2.2.2.1, .int .i64 c.2.2.2.2.2.2.2.1, .bool c.2.2.2.2.2.2.2.2]] (pt s (itC on st i j p) :: A :: swA m g ps w) (fun u L => u = .int .i64 (mapdV p w c).2 ∧ L = pt s (itC on st i j p) :: A :: swA m g ps (mapdV p w c).1) := by
  refine Tri.intro tt_ok Tryz.func33 rfl rfl Tryz.ntmps33 rfl fun F => ?_
  obtain ⟨op, dev, ev, num, coll, tgt, b, a, v⟩ := c
  unfold mapdV
  simp only at hb0 hb1 hpt ⊢
  have hh : holdsV w.B.length 0 64 = true := by rw [hw.1]; decide
  have hev := evN_le hb1
  have hW : IntKind.i64.wrap (8 * evN b) = 8 * evN b := wrap_id (by omega) (by omega)
  (refine G tt_ok pk33 ?_; repeat (refine G1 tt_ok pk33 ?_; intro _))
  rename_i c4 c5 c6 c7
  refine ke rfl rfl (get75 β m g w.B (by rw [hw.1]; omega) hw.2.1 hp hh dev) ?_
  have hdk := tabGet_ok w.B 0 64 p dev
  have hfk := fgA_ok hdk hw
  generalize hgx : tabGet w.B 0 64 p dev = x at hdk hfk ⊢
  obtain ⟨d, e⟩ := x
  simp only at hdk hfk ⊢
  (refine G tt_ok pk33 ?_; repeat (refine G1 tt_ok pk33 ?_; intro _))
  rename_i c9
  by_cases he : e = 0
  · subst he
    rw [if_neg (by simp)]
    (refine G tt_ok pk33 ?_; repeat (refine G1 tt_ok pk33 ?_; intro _))
    rename_i c11
    refine ke rfl rfl (events76 β v a hb0 hb1) ?_
    (refine G tt_ok pk33 ?_; repeat (refine G1 tt_ok pk33 ?_; intro _))
    rw [hW]
    (refine G tt_ok pk33 ?_; repeat (refine G1 tt_ok pk33 ?_; intro _))
    rename_i c12
    have hbw : badW w.B.length v b a = (v && (!holdsV w.B.length a (8 * evN b) || (meetV a (8 * evN b) 0 64 || (meetV a (8 * evN b) 64 64 || meetV a (8 * evN b) 128 320)))) := rfl
    rw [hbw]
    unfold wpV
    cases v with
    | false =>
      rw [Bool.false_and, if_neg (by simp), if_neg (by simp)]
      (refine G tt_ok pk33 ?_; repeat (refine G1 tt_ok pk33 ?_; intro _))
      have hd1 : ∀ z, d.1 = z → (z, d.2) = d := fun z hz => by rw [← hz]
      cases hd : d.1 with
      | false =>
        have hfe : fgA d w = w := by unfold fgA; rw [hd]; rfl
        rw [hfe] at hfk ⊢
        (refine G tt_ok pk33 ?_; repeat (refine G1 tt_ok pk33 ?_; intro _))
        refine ke rfl rfl (put81 β m g (w).B (by rw [hfk.1]; omega) hfk.2.1 hp (by rw [hfk.1]; decide) dev (false, b, a) hpt) ?_
        (refine G tt_ok pk33 ?_; repeat (refine G1 tt_ok pk33 ?_; intro _))
        exact CW.ret (fin_ret rfl pk_ ⟨rfl, rfl⟩)
      | true =>
        have hfe : fgA d w = (routesL d (fgV d) (evC d) w).foldl (fgV d) w := by unfold fgA; rw [hd]; rfl
        (refine G tt_ok pk33 ?_; repeat (refine G1 tt_ok pk33 ?_; intro _))
        have hr78 := routes78 β m d
        rw [hd] at hr78
        (refine ka rfl rfl (hr78) ?_; rintro _ _ ⟨b2, b3, rfl, rfl⟩; refine w_ ?_)
        (refine G tt_ok pk33 ?_; repeat (refine G1 tt_ok pk33 ?_; intro _))
        have hI := iter130 β m g b2 b3 ps (fun w x h0 h1 h2 h => fgV_ok hdk w x h0 h1 h2 h) hw d hdk
        rw [hd] at hI
        refine CW.ent (L' := (pt b2 [.bool true, .int .i64 d.2.1, .int .i64 d.2.2] :: pt b3 [.pointer (some ⟨m, 0, none⟩)] :: swA m g ps w) ++ [pt c4 [.pointer (some ⟨s, 0, none⟩)], pt c5 [.pointer (some ⟨m, 0, none⟩)], pt c6 [.slice q 3 cp], pt c7 (cmC (op, dev, ev, num, coll, tgt, b, a, false)), pt c9 [.bool true, .int .i64 d.2.1, .int .i64 d.2.2], pt c11 [.bool false, .int .i64 b, .int .i64 a], pt c12 [.int .i64 a, .int .i64 (8 * evN b)], pt s (itC on st i j p), A]) (by unfold swA; exact pk_) ?_
        refine CW.rangeFuncD rfl hI (List.replicate 5 0) (sel_front (pt b2 [.bool true, .int .i64 d.2.1, .int .i64 d.2.2] :: pt b3 [.pointer (some ⟨m, 0, none⟩)] :: swA m g ps w))
          (fun pre => [pt c4 [.pointer (some ⟨s, 0, none⟩)], pt c5 [.pointer (some ⟨m, 0, none⟩)], pt c6 [.slice q 3 cp], pt c7 (cmC (op, dev, ev, num, coll, tgt, b, a, false)), pt c9 [.bool true, .int .i64 d.2.1, .int .i64 d.2.2], pt c11 [.bool false, .int .i64 b, .int .i64 a], pt c12 [.int .i64 a, .int .i64 (8 * evN b)], pt s (itC on st i j p), A]) (fun _ _ => False) (Ent.refl _) (fun _ => rfl) (by decide) ?_ ?_ (fun _ _ _ h => h.elim)
        · intro pre x hpre lp fm rec1
          have hin := routesL_in d (fgV d) (evC d) w
          have hx := hin x (hpre.subset (by simp))
          have hok := foldE_ok (fun w x h0 h1 h2 h => fgV_ok hdk w x h0 h1 h2 h) hw (pre := pre) (fun y hy => hin y (hpre.subset (by simp [hy])))
          have e1 : (pre ++ [x]).foldl (fgV d) w = fgV d (pre.foldl (fgV d) w) x := by rw [List.foldl_append]; rfl
          simp only [e1]
          generalize pre.foldl (fgV d) w = u at hok ⊢
          (refine G tt_ok pk33 ?_; repeat (refine G1 tt_ok pk33 ?_; intro _))
          intro fm2 rec2
          (refine G tt_ok pk33 ?_; repeat (refine G1 tt_ok pk33 ?_; intro _))
          have hfg := forget79 β s m g cp hS hp hok on st i j hdk x hx.2.1
          rw [hd] at hfg
          refine ke rfl rfl (hfg) ?_
          (refine G tt_ok pk33 ?_; repeat (refine G1 tt_ok pk33 ?_; intro _))
          exact pk_
        · rw [← hfe]
          (refine G tt_ok pk33 ?_; repeat (refine G1 tt_ok pk33 ?_; intro _))
          refine ke rfl rfl (put81 β m g (fgA d w).B (by rw [hfk.1]; omega) hfk.2.1 hp (by rw [hfk.1]; decide) dev (false, b, a) hpt) ?_
          (refine G tt_ok pk33 ?_; repeat (refine G1 tt_ok pk33 ?_; intro _))
          exact CW.ret (fin_ret rfl pk_ ⟨rfl, rfl⟩)
    | true =>
      rw [Bool.true_and, if_pos rfl]
      (refine G tt_ok pk33 ?_; repeat (refine G1 tt_ok pk33 ?_; intro _))
      refine ke rfl rfl (holds29 β m (some ⟨g, 0, none⟩) (n := w.B.length) w.B.length (by rw [hw.1]; omega) a (8 * evN b)) ?_
      cases hH : holdsV w.B.length a (8 * evN b) with
      | false =>
        rw [if_pos (by simp)]
        (refine G tt_ok pk33 ?_; repeat (refine G1 tt_ok pk33 ?_; intro _))
        exact CW.ret (fin_ret rfl pk_ ⟨rfl, rfl⟩)
      | true =>
        rw [hw.1] at hH
        obtain ⟨aN, WN, rfl, hWN, hN0, hle⟩ := holds_in hH (by omega)
        rw [hWN] at hW ⊢
        simp only [Int.toNat_natCast]
        (refine G tt_ok pk33 ?_; repeat (refine G1 tt_ok pk33 ?_; intro _))
        refine ke rfl rfl (meet77 β aN WN 0 64) ?_
        cases hM1 : meetV aN WN 0 64 with
        | true =>
          rw [if_pos (by simp)]
          (refine G tt_ok pk33 ?_; repeat (refine G1 tt_ok pk33 ?_; intro _))
          exact CW.ret (fin_ret rfl pk_ ⟨rfl, rfl⟩)
        | false =>
          (refine G tt_ok pk33 ?_; repeat (refine G1 tt_ok pk33 ?_; intro _))
          refine ke rfl rfl (meet77 β aN WN 64 64) ?_
          cases hM2 : meetV aN WN 64 64 with
          | true =>
            rw [if_pos (by simp)]
            (refine G tt_ok pk33 ?_; repeat (refine G1 tt_ok pk33 ?_; intro _))
            exact CW.ret (fin_ret rfl pk_ ⟨rfl, rfl⟩)
          | false =>
            (refine G tt_ok pk33 ?_; repeat (refine G1 tt_ok pk33 ?_; intro _))
            refine ke rfl rfl (meet77 β aN WN 128 320) ?_
            cases hM3 : meetV aN WN 128 320 with
            | true =>
              rw [if_pos (by simp)]
              (refine G tt_ok pk33 ?_; repeat (refine G1 tt_ok pk33 ?_; intro _))
              exact CW.ret (fin_ret rfl pk_ ⟨rfl, rfl⟩)
            | false =>
              rw [if_neg (by simp)]
              (refine G tt_ok pk33 ?_; repeat (refine G1 tt_ok pk33 ?_; intro _))
              have hd1 : ∀ z, d.1 = z → (z, d.2) = d := fun z hz => by rw [← hz]
              cases hd : d.1 with
              | false =>
                have hfe : fgA d w = w := by unfold fgA; rw [hd]; rfl
                rw [hfe] at hfk ⊢
                (refine G tt_ok pk33 ?_; repeat (refine G1 tt_ok pk33 ?_; intro _))
                refine ke rfl rfl (wipe80 β m g (w).B (by rw [hfk.1]; omega) hN0 (by rw [hfk.1]; exact hle)) ?_
                (refine G tt_ok pk33 ?_; repeat (refine G1 tt_ok pk33 ?_; intro _))
                have hwl := wipe_len (B := (w).B) (A := aN) (W := WN) (by rw [hfk.1]; exact hle)
                refine ke rfl rfl (put81 β m g (wipeN (w).B aN WN) (by rw [hwl, hfk.1]; omega) (wipe_ok hfk.2.1) hp (by rw [hwl, hfk.1]; decide) dev (true, b, (aN : Int)) hpt) ?_
                (refine G tt_ok pk33 ?_; repeat (refine G1 tt_ok pk33 ?_; intro _))
                exact CW.ret (fin_ret rfl pk_ ⟨rfl, rfl⟩)
              | true =>
                have hfe : fgA d w = (routesL d (fgV d) (evC d) w).foldl (fgV d) w := by unfold fgA; rw [hd]; rfl
                (refine G tt_ok pk33 ?_; repeat (refine G1 tt_ok pk33 ?_; intro _))
                have hr78 := routes78 β m d
                rw [hd] at hr78
                (refine ka rfl rfl (hr78) ?_; rintro _ _ ⟨b2, b3, rfl, rfl⟩; refine w_ ?_)
                (refine G tt_ok pk33 ?_; repeat (refine G1 tt_ok pk33 ?_; intro _))
                have hI := iter130 β m g b2 b3 ps (fun w x h0 h1 h2 h => fgV_ok hdk w x h0 h1 h2 h) hw d hdk
                rw [hd] at hI
                refine CW.ent (L' := (pt b2 [.bool true, .int .i64 d.2.1, .int .i64 d.2.2] :: pt b3 [.pointer (some ⟨m, 0, none⟩)] :: swA m g ps w) ++ [pt c4 [.pointer (some ⟨s, 0, none⟩)], pt c5 [.pointer (some ⟨m, 0, none⟩)], pt c6 [.slice q 3 cp], pt c7 (cmC (op, dev, ev, num, coll, tgt, b, (aN : Int), true)), pt c9 [.bool true, .int .i64 d.2.1, .int .i64 d.2.2], pt c11 [.bool true, .int .i64 b, .int .i64 (aN : Int)], pt c12 [.int .i64 (aN : Int), .int .i64 (WN : Int)], pt s (itC on st i j p), A]) (by unfold swA; exact pk_) ?_
                refine CW.rangeFuncD rfl hI (List.replicate 5 0) (sel_front (pt b2 [.bool true, .int .i64 d.2.1, .int .i64 d.2.2] :: pt b3 [.pointer (some ⟨m, 0, none⟩)] :: swA m g ps w))
                  (fun pre => [pt c4 [.pointer (some ⟨s, 0, none⟩)], pt c5 [.pointer (some ⟨m, 0, none⟩)], pt c6 [.slice q 3 cp], pt c7 (cmC (op, dev, ev, num, coll, tgt, b, (aN : Int), true)), pt c9 [.bool true, .int .i64 d.2.1, .int .i64 d.2.2], pt c11 [.bool true, .int .i64 b, .int .i64 (aN : Int)], pt c12 [.int .i64 (aN : Int), .int .i64 (WN : Int)], pt s (itC on st i j p), A]) (fun _ _ => False) (Ent.refl _) (fun _ => rfl) (by decide) ?_ ?_ (fun _ _ _ h => h.elim)
                · intro pre x hpre lp fm rec1
                  have hin := routesL_in d (fgV d) (evC d) w
                  have hx := hin x (hpre.subset (by simp))
                  have hok := foldE_ok (fun w x h0 h1 h2 h => fgV_ok hdk w x h0 h1 h2 h) hw (pre := pre) (fun y hy => hin y (hpre.subset (by simp [hy])))
                  have e1 : (pre ++ [x]).foldl (fgV d) w = fgV d (pre.foldl (fgV d) w) x := by rw [List.foldl_append]; rfl
                  simp only [e1]
                  generalize pre.foldl (fgV d) w = u at hok ⊢
                  (refine G tt_ok pk33 ?_; repeat (refine G1 tt_ok pk33 ?_; intro _))
                  intro fm2 rec2
                  (refine G tt_ok pk33 ?_; repeat (refine G1 tt_ok pk33 ?_; intro _))
                  have hfg := forget79 β s m g cp hS hp hok on st i j hdk x hx.2.1
                  rw [hd] at hfg
                  refine ke rfl rfl (hfg) ?_
                  (refine G tt_ok pk33 ?_; repeat (refine G1 tt_ok pk33 ?_; intro _))
                  exact pk_
                · rw [← hfe]
                  (refine G tt_ok pk33 ?_; repeat (refine G1 tt_ok pk33 ?_; intro _))
                  refine ke rfl rfl (wipe80 β m g (fgA d w).B (by rw [hfk.1]; omega) hN0 (by rw [hfk.1]; exact hle)) ?_
                  (refine G tt_ok pk33 ?_; repeat (refine G1 tt_ok pk33 ?_; intro _))
                  have hwl := wipe_len (B := (fgA d w).B) (A := aN) (W := WN) (by rw [hfk.1]; exact hle)
                  refine ke rfl rfl (put81 β m g (wipeN (fgA d w).B aN WN) (by rw [hwl, hfk.1]; omega) (wipe_ok hfk.2.1) hp (by rw [hwl, hfk.1]; decide) dev (true, b, (aN : Int)) hpt) ?_
                  (refine G tt_ok pk33 ?_; repeat (refine G1 tt_ok pk33 ?_; intro _))
                  exact CW.ret (fin_ret rfl pk_ ⟨rfl, rfl⟩)
  · rw [show (e != 0) = true by simp [he], if_pos he]
    (refine G tt_ok pk33 ?_; repeat (refine G1 tt_ok pk33 ?_; intro _))
    exact CW.ret (fin_ret rfl pk_ ⟨rfl, rfl⟩)
end Go.Proofs.YthhfoppaaehepaaGreatDoor.Sl
namespace Go.Proofs.YthhfoppaaehepaaGreatDoor.Sl
open Go Go.RowKit Go.Proofs
set_option linter.unusedVariables false
set_option linter.unusedSimpArgs false
attribute [local irreducible] CW Tri OW
set_option maxRecDepth 10000
@[reducible] def pk35 : List (Nat × Plan) := [(9, [(0, 0, []), (1, 0, []), (2, 0, []), (3, 0, []), (4, 0, []), (5, 0, []), (6, 0, []), (7, 1, [4, 6]), (8, 0, []), (9, 0, []), (10, 0, []), (11, 0, []), (12, 0, []), (13, 0, []), (14, 0, [])])]
def invS (w : SW) (c n : Int) : SW := match sideV w.B c with
  | (some k, _) => w.inv k n
  | (none, _) => w
theorem invS_ok {w : SW} (hw : w.ok) (c n : Int) : (invS w c n).ok := by
  unfold invS
  rcases sideV_cases w.B c with ⟨e, he, h⟩ | ⟨k, hk, h⟩
  · rw [h]; exact hw
  · rw [h]; exact SW.inv_ok hw hk n
def fgO (d : Dv) (w : SW) (x : Er) : SW := if x.2.2.2 then fgV d w x else w
/-- An event of a device goes somewhere from now on. -/
def maptiV (p : Int) (w : SW) (c : Cm) (n : Int) : SW × Int := if (deviceV w.B p c.2.1).2 ≠ 0 then (w, (deviceV w.B p c.2.1).2) else
  if (devRt w.B (deviceV w.B p c.2.1).1 c.2.2.1).2 ≠ 0 then (w, (devRt w.B (deviceV w.B p c.2.1).1 c.2.2.1).2) else
  if n < 8192 ∨ n ≥ 16384 then (w, 150) else
  if (targetV w.B 64 64 c.2.2.2.2.1).2.2 ≠ 0 then (w, (targetV w.B 64 64 c.2.2.2.2.1).2.2) else
  (⟨(devSet (invS (fgO (deviceV w.B p c.2.1).1 w (c.2.2.1, (devRt w.B (deviceV w.B p c.2.1).1 c.2.2.1).1)) c.2.2.2.2.1 n).B (deviceV w.B p c.2.1).1 c.2.2.1 (n, c.2.2.2.2.1, true)).1, (invS (fgO (deviceV w.B p c.2.1).1 w (c.2.2.1, (devRt w.B (deviceV w.B p c.2.1).1 c.2.2.1).1)) c.2.2.2.2.1 n).cs⟩,
   (devSet (invS (fgO (deviceV w.B p c.2.1).1 w (c.2.2.1, (devRt w.B (deviceV w.B p c.2.1).1 c.2.2.1).1)) c.2.2.2.2.1 n).B (deviceV w.B p c.2.1).1 c.2.2.1 (n, c.2.2.2.2.1, true)).2)
set_option maxHeartbeats 8000000 in
theorem mapti35 (β : Base) (s m g : Nat) {ps : List Nat} {A : Atom} {q : Option Addr} (cp : Nat) (hS : TsOk β A q ps) {p : Int} (hp : p = 0 ∨ p = 32) {w : SW} (hw : w.ok) (on st : Bool) (i j : Nat) (c : Cm) (n : Int) :
    Tri Tryz.prog β 35 [.pointer (some ⟨s, 0, none⟩), .pointer (some ⟨m, 0, none⟩), .slice q 3 cp, .agg #[.int .i64 c.1, .int .i64 c.2.1, .int .i64 c.2.2.1, .int .i64 c.2.2.2.1, .int .i64 c.2.2.2.2.1, .int .i64 c.2.2.2.2.2.1, .int .i64 c.2.2.2.2.2.2.1, .int .i64 c.2.2.2.2.2.2.2.1, .bool c.2.2.2.2.2.2.2.2], .int .i64 n] (pt s (itC on st i j p) :: A :: swA m g ps w) (fun u L => u = .int .i64 (maptiV p w c n).2 ∧ L = pt s (itC on st i j p) :: A :: swA m g ps (maptiV p w c n).1) := by
  refine Tri.intro tt_ok Tryz.func35 rfl rfl Tryz.ntmps35 rfl fun F => ?_
  obtain ⟨op, dev, ev, num, coll, tgt, b, a, v⟩ := c
  unfold maptiV
  simp only
  (refine G tt_ok pk35 ?_; repeat (refine G1 tt_ok pk35 ?_; intro _))
  refine ke rfl rfl (device83 β s m g w.B hw.1 hw.2.1 on st i j hp dev) ?_
  have hd := deviceV_ok w.B p dev
  generalize deviceV w.B p dev = x at hd ⊢
  obtain ⟨d, e⟩ := x
  simp only at hd ⊢
  (refine G tt_ok pk35 ?_; repeat (refine G1 tt_ok pk35 ?_; intro _))
  by_cases he : e = 0
  · subst he
    rw [if_neg (by simp)]
    (refine G tt_ok pk35 ?_; repeat (refine G1 tt_ok pk35 ?_; intro _))
    refine ke rfl rfl (route84 β m g w.B (by rw [hw.1]; omega) hw.2.1 d hd ev) ?_
    have hlt := devRt_lt w.B d ev
    generalize devRt w.B d ev = y at hlt ⊢
    obtain ⟨⟨r0, r1, r2⟩, e⟩ := y
    simp only at hlt ⊢
    (refine G tt_ok pk35 ?_; repeat (refine G1 tt_ok pk35 ?_; intro _))
    by_cases he : e = 0
    · subst he
      rw [if_neg (by simp)]
      (refine G tt_ok pk35 ?_; repeat (refine G1 tt_ok pk35 ?_; intro _))
      by_cases hn1 : n < 8192
      · rw [decide_eq_true hn1, if_pos (.inl hn1)]
        (refine G tt_ok pk35 ?_; repeat (refine G1 tt_ok pk35 ?_; intro _))
        exact CW.ret (fin_ret rfl pk_ ⟨rfl, rfl⟩)
      · rw [decide_eq_false hn1]
        (refine G tt_ok pk35 ?_; repeat (refine G1 tt_ok pk35 ?_; intro _))
        by_cases hn2 : n ≥ 16384
        · rw [decide_eq_true hn2, if_pos (.inr hn2)]
          (refine G tt_ok pk35 ?_; repeat (refine G1 tt_ok pk35 ?_; intro _))
          exact CW.ret (fin_ret rfl pk_ ⟨rfl, rfl⟩)
        · rw [decide_eq_false hn2, if_neg (by omega)]
          (refine G tt_ok pk35 ?_; repeat (refine G1 tt_ok pk35 ?_; intro _))
          refine ke rfl rfl (target85 β m g w.B (by rw [hw.1]; omega) hw.2.1 64 64 coll) ?_
          generalize targetV w.B 64 64 coll = t
          obtain ⟨t0, t1, e⟩ := t
          simp only
          (refine G tt_ok pk35 ?_; repeat (refine G1 tt_ok pk35 ?_; intro _))
          by_cases he : e = 0
          · subst he
            rw [if_neg (by simp)]
            (refine G tt_ok pk35 ?_; repeat (refine G1 tt_ok pk35 ?_; intro _))
            have hok1 : (fgO d w (ev, (r0, r1, r2))).ok := by
              unfold fgO
              cases r2 with
              | true => exact ⟨(devSet_in (fgW_ok hw hlt.2.1).1 (fgW_ok hw hlt.2.1).2.1 hd ev (0, 0, false)).1, (devSet_in (fgW_ok hw hlt.2.1).1 (fgW_ok hw hlt.2.1).2.1 hd ev (0, 0, false)).2, (fgW_ok hw hlt.2.1).2.2⟩
              | false => exact hw
            have hok2 := invS_ok hok1 coll n
            cases r2 with
            | true =>
              have e1 : fgO d w (ev, (r0, r1, true)) = fgV d w (ev, (r0, r1, true)) := rfl
              rw [e1] at hok1 hok2 ⊢
              (refine G tt_ok pk35 ?_; repeat (refine G1 tt_ok pk35 ?_; intro _))
              refine ke rfl rfl (forget79 β s m g cp hS hp hw on st i j hd (ev, (r0, r1, true)) hlt.2.1) ?_
              generalize fgV d w (ev, (r0, r1, true)) = w1 at hok1 hok2 ⊢
              (refine G tt_ok pk35 ?_; repeat (refine G1 tt_ok pk35 ?_; intro _))
              refine ke rfl rfl (side40 β s m g w1.B hok1.1 hok1.2.1 on st i j p (cp := cp) hS.hS hS.hl coll) ?_
              unfold invS at hok2 ⊢
              rcases sideV_cases w1.B coll with ⟨e, he, h⟩ | ⟨k, hk, h⟩
              · rw [h] at hok2 ⊢
                simp only at hok2 ⊢
                (refine G tt_ok pk35 ?_; repeat (refine G1 tt_ok pk35 ?_; intro _))
                rw [show (e == 0) = false by simp [he]]
                (refine G tt_ok pk35 ?_; repeat (refine G1 tt_ok pk35 ?_; intro _))
                refine ke rfl rfl (setRoute87 β m g w1.B (by rw [hok2.1]; omega) hok2.2.1 d hd ev (n, coll, true)) ?_
                (refine G tt_ok pk35 ?_; repeat (refine G1 tt_ok pk35 ?_; intro _))
                exact CW.ret (fin_ret rfl pk_ ⟨rfl, rfl⟩)
              · rw [h] at hok2 ⊢
                simp only at hok2 ⊢
                (refine G tt_ok pk35 ?_; repeat (refine G1 tt_ok pk35 ?_; intro _))
                refine ke rfl rfl (inv86C β m g ps hok1 hk (n := n) (by omega)) ?_
                (refine G tt_ok pk35 ?_; repeat (refine G1 tt_ok pk35 ?_; intro _))
                refine ke rfl rfl (setRoute87 β m g (w1.inv k n).B (by rw [hok2.1]; omega) hok2.2.1 d hd ev (n, coll, true)) ?_
                (refine G tt_ok pk35 ?_; repeat (refine G1 tt_ok pk35 ?_; intro _))
                exact CW.ret (fin_ret rfl pk_ ⟨rfl, rfl⟩)
            | false =>
              have e1 : fgO d w (ev, (r0, r1, false)) = w := rfl
              rw [e1] at hok1 hok2 ⊢
              (refine G tt_ok pk35 ?_; repeat (refine G1 tt_ok pk35 ?_; intro _))
              refine ke rfl rfl (side40 β s m g w.B hok1.1 hok1.2.1 on st i j p (cp := cp) hS.hS hS.hl coll) ?_
              unfold invS at hok2 ⊢
              rcases sideV_cases w.B coll with ⟨e, he, h⟩ | ⟨k, hk, h⟩
              · rw [h] at hok2 ⊢
                simp only at hok2 ⊢
                (refine G tt_ok pk35 ?_; repeat (refine G1 tt_ok pk35 ?_; intro _))
                rw [show (e == 0) = false by simp [he]]
                (refine G tt_ok pk35 ?_; repeat (refine G1 tt_ok pk35 ?_; intro _))
                refine ke rfl rfl (setRoute87 β m g w.B (by rw [hok2.1]; omega) hok2.2.1 d hd ev (n, coll, true)) ?_
                (refine G tt_ok pk35 ?_; repeat (refine G1 tt_ok pk35 ?_; intro _))
                exact CW.ret (fin_ret rfl pk_ ⟨rfl, rfl⟩)
              · rw [h] at hok2 ⊢
                simp only at hok2 ⊢
                (refine G tt_ok pk35 ?_; repeat (refine G1 tt_ok pk35 ?_; intro _))
                refine ke rfl rfl (inv86C β m g ps hok1 hk (n := n) (by omega)) ?_
                (refine G tt_ok pk35 ?_; repeat (refine G1 tt_ok pk35 ?_; intro _))
                refine ke rfl rfl (setRoute87 β m g (w.inv k n).B (by rw [hok2.1]; omega) hok2.2.1 d hd ev (n, coll, true)) ?_
                (refine G tt_ok pk35 ?_; repeat (refine G1 tt_ok pk35 ?_; intro _))
                exact CW.ret (fin_ret rfl pk_ ⟨rfl, rfl⟩)
          · rw [show (e != 0) = true by simp [he], if_pos he]
            (refine G tt_ok pk35 ?_; repeat (refine G1 tt_ok pk35 ?_; intro _))
            exact CW.ret (fin_ret rfl pk_ ⟨rfl, rfl⟩)
    · rw [show (e != 0) = true by simp [he], if_pos he]
      (refine G tt_ok pk35 ?_; repeat (refine G1 tt_ok pk35 ?_; intro _))
      exact CW.ret (fin_ret rfl pk_ ⟨rfl, rfl⟩)
  · rw [show (e != 0) = true by simp [he], if_pos he]
    (refine G tt_ok pk35 ?_; repeat (refine G1 tt_ok pk35 ?_; intro _))
    exact CW.ret (fin_ret rfl pk_ ⟨rfl, rfl⟩)
end Go.Proofs.YthhfoppaaehepaaGreatDoor.Sl
namespace Go.Proofs.YthhfoppaaehepaaGreatDoor.Sl
open Go Go.RowKit Go.Proofs
set_option linter.unusedVariables false
set_option linter.unusedSimpArgs false
attribute [local irreducible] CW Tri OW
set_option maxRecDepth 10000
@[reducible] def pk36 : List (Nat × Plan) := []
@[reducible] def pk37 : List (Nat × Plan) := []
@[reducible] def pk39 : List (Nat × Plan) := []
@[reducible] def pk34 : List (Nat × Plan) := [(3, [(0, 0, []), (1, 0, []), (2, 0, []), (3, 0, []), (4, 0, []), (5, 0, []), (6, 0, []), (7, 0, []), (8, 0, []), (9, 0, []), (10, 0, []), (11, 1, [4, 6, 8, 10]), (12, 0, [])])]
@[reducible] def pk42 : List (Nat × Plan) := [(3, [(0, 0, []), (1, 0, []), (2, 0, []), (3, 0, []), (4, 0, []), (5, 0, []), (6, 0, []), (7, 0, []), (8, 0, []), (9, 0, []), (10, 0, []), (11, 1, [3, 5, 8, 10])])]
def mvO (w : SW) (c n : Int) (t : Nat) : SW := match sideV w.B c with
  | (some k, _) => w.move n k t
  | (none, _) => w
theorem mvO_ok {w : SW} (hw : w.ok) (c : Int) {n : Int} (hn : n ≤ 9223372036854775807) {t : Nat} (ht : t < 3) : (mvO w c n t).ok := by
  unfold mvO
  rcases sideV_cases w.B c with ⟨e, he, h⟩ | ⟨k, hk, h⟩
  · rw [h]; exact hw
  · rw [h]; exact SW.move_ok hw hn hk ht
/-- An event's number goes by another collection from now on. -/
def moviV (p : Int) (w : SW) (c : Cm) : SW × Int := if (eventV w.B p c.2.1 c.2.2.1).2 ≠ 0 then (w, (eventV w.B p c.2.1 c.2.2.1).2) else
  match sideV w.B c.2.2.2.2.1 with
  | (none, e) => (w, e)
  | (some t, _) => (⟨(devSet ((mvO w (eventV w.B p c.2.1 c.2.2.1).1.2.1 (eventV w.B p c.2.1 c.2.2.1).1.1 t).inv t (eventV w.B p c.2.1 c.2.2.1).1.1).B
        (deviceV ((mvO w (eventV w.B p c.2.1 c.2.2.1).1.2.1 (eventV w.B p c.2.1 c.2.2.1).1.1 t).inv t (eventV w.B p c.2.1 c.2.2.1).1.1).B p c.2.1).1 c.2.2.1 ((eventV w.B p c.2.1 c.2.2.1).1.1, c.2.2.2.2.1, (eventV w.B p c.2.1 c.2.2.1).1.2.2)).1,
      ((mvO w (eventV w.B p c.2.1 c.2.2.1).1.2.1 (eventV w.B p c.2.1 c.2.2.1).1.1 t).inv t (eventV w.B p c.2.1 c.2.2.1).1.1).cs⟩,
      (devSet ((mvO w (eventV w.B p c.2.1 c.2.2.1).1.2.1 (eventV w.B p c.2.1 c.2.2.1).1.1 t).inv t (eventV w.B p c.2.1 c.2.2.1).1.1).B
        (deviceV ((mvO w (eventV w.B p c.2.1 c.2.2.1).1.2.1 (eventV w.B p c.2.1 c.2.2.1).1.1 t).inv t (eventV w.B p c.2.1 c.2.2.1).1.1).B p c.2.1).1 c.2.2.1 ((eventV w.B p c.2.1 c.2.2.1).1.1, c.2.2.2.2.1, (eventV w.B p c.2.1 c.2.2.1).1.2.2)).2)
set_option maxHeartbeats 8000000 in
theorem movi36 (β : Base) (s m g : Nat) {ps : List Nat} {A : Atom} {q : Option Addr} (cp : Nat) (hS : TsOk β A q ps) {p : Int} (hp : p = 0 ∨ p = 32) {w : SW} (hw : w.ok) (on st : Bool) (i j : Nat) (c : Cm) :
    Tri Tryz.prog β 36 [.pointer (some ⟨s, 0, none⟩), .pointer (some ⟨m, 0, none⟩), .slice q 3 cp, .agg #[.int .i64 c.1, .int .i64 c.2.1, .int .i64 c.2.2.1, .int .i64 c.2.2.2.1, .int .i64 c.2.2.2.2.1, .int .i64 c.2.2.2.2.2.1, .int .i64 c.2.2.2.2.2.2.1, .int .i64 c.2.2.2.2.2.2.2.1, .bool c.2.2.2.2.2.2.2.2]] (pt s (itC on st i j p) :: A :: swA m g ps w) (fun u L => u = .int .i64 (moviV p w c).2 ∧ L = pt s (itC on st i j p) :: A :: swA m g ps (moviV p w c).1) := by
  refine Tri.intro tt_ok Tryz.func36 rfl rfl Tryz.ntmps36 rfl fun F => ?_
  obtain ⟨op, dev, ev, num, coll, tgt, b, a, v⟩ := c
  unfold moviV
  simp only
  (refine G tt_ok pk36 ?_; repeat (refine G1 tt_ok pk36 ?_; intro _))
  refine ke rfl rfl (event43 β s m g w.B hw.1 hw.2.1 on st i j hp dev ev) ?_
  have hlt := eventV_lt w.B p dev ev
  generalize eventV w.B p dev ev = x at hlt ⊢
  obtain ⟨⟨r0, r1, r2⟩, e⟩ := x
  simp only at hlt ⊢
  (refine G tt_ok pk36 ?_; repeat (refine G1 tt_ok pk36 ?_; intro _))
  by_cases he : e = 0
  · subst he
    rw [if_neg (by simp)]
    (refine G tt_ok pk36 ?_; repeat (refine G1 tt_ok pk36 ?_; intro _))
    refine ke rfl rfl (side40 β s m g w.B hw.1 hw.2.1 on st i j p (cp := cp) hS.hS hS.hl coll) ?_
    rcases sideV_cases w.B coll with ⟨e, he, h⟩ | ⟨t, ht, h⟩
    · rw [h]
      (refine G tt_ok pk36 ?_; repeat (refine G1 tt_ok pk36 ?_; intro _))
      rw [show (e != 0) = true by simp [he]]
      (refine G tt_ok pk36 ?_; repeat (refine G1 tt_ok pk36 ?_; intro _))
      exact CW.ret (fin_ret rfl pk_ ⟨rfl, rfl⟩)
    · rw [h]
      simp only
      have hok1 := mvO_ok hw r1 (n := r0) hlt.2.1 ht
      have hok2 := SW.inv_ok hok1 ht r0
      (refine G tt_ok pk36 ?_; repeat (refine G1 tt_ok pk36 ?_; intro _))
      refine ke rfl rfl (side40 β s m g w.B hw.1 hw.2.1 on st i j p (cp := cp) hS.hS hS.hl r1) ?_
      unfold mvO at hok1 hok2 ⊢
      rcases sideV_cases w.B r1 with ⟨e, he, h⟩ | ⟨k, hk, h⟩
      · rw [h] at hok1 hok2 ⊢
        simp only at hok1 hok2 ⊢
        (refine G tt_ok pk36 ?_; repeat (refine G1 tt_ok pk36 ?_; intro _))
        rw [show (e == 0) = false by simp [he]]
        (refine G tt_ok pk36 ?_; repeat (refine G1 tt_ok pk36 ?_; intro _))
        refine ke rfl rfl (inv86C β m g ps hok1 ht (n := r0) hlt.2.1) ?_
        (refine G tt_ok pk36 ?_; repeat (refine G1 tt_ok pk36 ?_; intro _))
        refine ke rfl rfl (device83 β s m g (w.inv t r0).B hok2.1 hok2.2.1 on st i j hp dev) ?_
        (refine G tt_ok pk36 ?_; repeat (refine G1 tt_ok pk36 ?_; intro _))
        refine ke rfl rfl (setRoute87 β m g (w.inv t r0).B (by rw [hok2.1]; omega) hok2.2.1 (deviceV (w.inv t r0).B p dev).1 (deviceV_ok _ p dev) ev (r0, coll, r2)) ?_
        (refine G tt_ok pk36 ?_; repeat (refine G1 tt_ok pk36 ?_; intro _))
        exact CW.ret (fin_ret rfl pk_ ⟨rfl, rfl⟩)
      · rw [h] at hok1 hok2 ⊢
        simp only at hok1 hok2 ⊢
        (refine G tt_ok pk36 ?_; repeat (refine G1 tt_ok pk36 ?_; intro _))
        refine ke rfl rfl (move88 β m g (by rw [hS.hl]) hS.hn hw hk ht (n := r0) hlt.2.1) ?_
        generalize w.moves r0 k t = mv
        generalize w.move r0 k t = w1 at hok1 hok2 ⊢
        (refine G tt_ok pk36 ?_; repeat (refine G1 tt_ok pk36 ?_; intro _))
        refine ke rfl rfl (inv86C β m g ps hok1 ht (n := r0) hlt.2.1) ?_
        (refine G tt_ok pk36 ?_; repeat (refine G1 tt_ok pk36 ?_; intro _))
        refine ke rfl rfl (device83 β s m g (w1.inv t r0).B hok2.1 hok2.2.1 on st i j hp dev) ?_
        (refine G tt_ok pk36 ?_; repeat (refine G1 tt_ok pk36 ?_; intro _))
        refine ke rfl rfl (setRoute87 β m g (w1.inv t r0).B (by rw [hok2.1]; omega) hok2.2.1 (deviceV (w1.inv t r0).B p dev).1 (deviceV_ok _ p dev) ev (r0, coll, r2)) ?_
        (refine G tt_ok pk36 ?_; repeat (refine G1 tt_ok pk36 ?_; intro _))
        exact CW.ret (fin_ret rfl pk_ ⟨rfl, rfl⟩)
  · rw [show (e != 0) = true by simp [he], if_pos he]
    (refine G tt_ok pk36 ?_; repeat (refine G1 tt_ok pk36 ?_; intro _))
    exact CW.ret (fin_ret rfl pk_ ⟨rfl, rfl⟩)
/-- An event goes nowhere from now on. -/
def discardV (p : Int) (w : SW) (c : Cm) : SW × Int := if (eventV w.B p c.2.1 c.2.2.1).2 ≠ 0 then (w, (eventV w.B p c.2.1 c.2.2.1).2) else
  (fgV (deviceV w.B p c.2.1).1 w (c.2.2.1, (eventV w.B p c.2.1 c.2.2.1).1), 0)
set_option maxHeartbeats 8000000 in
theorem discard37 (β : Base) (s m g : Nat) {ps : List Nat} {A : Atom} {q : Option Addr} (cp : Nat) (hS : TsOk β A q ps) {p : Int} (hp : p = 0 ∨ p = 32) {w : SW} (hw : w.ok) (on st : Bool) (i j : Nat) (c : Cm) :
    Tri Tryz.prog β 37 [.pointer (some ⟨s, 0, none⟩), .pointer (some ⟨m, 0, none⟩), .slice q 3 cp, .agg #[.int .i64 c.1, .int .i64 c.2.1, .int .i64 c.2.2.1, .int .i64 c.2.2.2.1, .int .i64 c.2.2.2.2.1, .int .i64 c.2.2.2.2.2.1, .int .i64 c.2.2.2.2.2.2.1, .int .i64 c.2.2.2.2.2.2.2.1, .bool c.2.2.2.2.2.2.2.2]] (pt s (itC on st i j p) :: A :: swA m g ps w) (fun u L => u = .int .i64 (discardV p w c).2 ∧ L = pt s (itC on st i j p) :: A :: swA m g ps (discardV p w c).1) := by
  refine Tri.intro tt_ok Tryz.func37 rfl rfl Tryz.ntmps37 rfl fun F => ?_
  obtain ⟨op, dev, ev, num, coll, tgt, b, a, v⟩ := c
  unfold discardV
  simp only
  (refine G tt_ok pk37 ?_; repeat (refine G1 tt_ok pk37 ?_; intro _))
  refine ke rfl rfl (event43 β s m g w.B hw.1 hw.2.1 on st i j hp dev ev) ?_
  have hlt := eventV_lt w.B p dev ev
  generalize eventV w.B p dev ev = x at hlt ⊢
  obtain ⟨⟨r0, r1, r2⟩, e⟩ := x
  simp only at hlt ⊢
  (refine G tt_ok pk37 ?_; repeat (refine G1 tt_ok pk37 ?_; intro _))
  by_cases he : e = 0
  · subst he
    rw [if_neg (by simp)]
    (refine G tt_ok pk37 ?_; repeat (refine G1 tt_ok pk37 ?_; intro _))
    refine ke rfl rfl (device83 β s m g w.B hw.1 hw.2.1 on st i j hp dev) ?_
    (refine G tt_ok pk37 ?_; repeat (refine G1 tt_ok pk37 ?_; intro _))
    refine ke rfl rfl (forget79 β s m g cp hS hp hw on st i j (deviceV_ok w.B p dev) (ev, (r0, r1, r2)) hlt.2.1) ?_
    (refine G tt_ok pk37 ?_; repeat (refine G1 tt_ok pk37 ?_; intro _))
    exact CW.ret (fin_ret rfl pk_ ⟨rfl, rfl⟩)
  · rw [show (e != 0) = true by simp [he], if_pos he]
    (refine G tt_ok pk37 ?_; repeat (refine G1 tt_ok pk37 ?_; intro _))
    exact CW.ret (fin_ret rfl pk_ ⟨rfl, rfl⟩)
/-- What is told of an event's number, told again. -/
def invE (p : Int) (w : SW) (c : Cm) : SW × Int := if (eventV w.B p c.2.1 c.2.2.1).2 ≠ 0 then (w, (eventV w.B p c.2.1 c.2.2.1).2) else
  match sideV w.B (eventV w.B p c.2.1 c.2.2.1).1.2.1 with
  | (none, e) => (w, e)
  | (some k, _) => (w.inv k (eventV w.B p c.2.1 c.2.2.1).1.1, if idxV k (eventV w.B p c.2.1 c.2.2.1).1.1 then 0 else 150)
set_option maxHeartbeats 8000000 in
theorem inv39 (β : Base) (s m g : Nat) {ps : List Nat} {A : Atom} {q : Option Addr} (cp : Nat) (hS : TsOk β A q ps) {p : Int} (hp : p = 0 ∨ p = 32) {w : SW} (hw : w.ok) (on st : Bool) (i j : Nat) (c : Cm) :
    Tri Tryz.prog β 39 [.pointer (some ⟨s, 0, none⟩), .pointer (some ⟨m, 0, none⟩), .slice q 3 cp, .agg #[.int .i64 c.1, .int .i64 c.2.1, .int .i64 c.2.2.1, .int .i64 c.2.2.2.1, .int .i64 c.2.2.2.2.1, .int .i64 c.2.2.2.2.2.1, .int .i64 c.2.2.2.2.2.2.1, .int .i64 c.2.2.2.2.2.2.2.1, .bool c.2.2.2.2.2.2.2.2]] (pt s (itC on st i j p) :: A :: swA m g ps w) (fun u L => u = .int .i64 (invE p w c).2 ∧ L = pt s (itC on st i j p) :: A :: swA m g ps (invE p w c).1) := by
  refine Tri.intro tt_ok Tryz.func39 rfl rfl Tryz.ntmps39 rfl fun F => ?_
  obtain ⟨op, dev, ev, num, coll, tgt, b, a, v⟩ := c
  unfold invE
  simp only
  (refine G tt_ok pk39 ?_; repeat (refine G1 tt_ok pk39 ?_; intro _))
  refine ke rfl rfl (event43 β s m g w.B hw.1 hw.2.1 on st i j hp dev ev) ?_
  have hlt := eventV_lt w.B p dev ev
  generalize eventV w.B p dev ev = x at hlt ⊢
  obtain ⟨⟨r0, r1, r2⟩, e⟩ := x
  simp only at hlt ⊢
  (refine G tt_ok pk39 ?_; repeat (refine G1 tt_ok pk39 ?_; intro _))
  by_cases he : e = 0
  · subst he
    rw [if_neg (by simp)]
    (refine G tt_ok pk39 ?_; repeat (refine G1 tt_ok pk39 ?_; intro _))
    refine ke rfl rfl (side40 β s m g w.B hw.1 hw.2.1 on st i j p (cp := cp) hS.hS hS.hl r1) ?_
    rcases sideV_cases w.B r1 with ⟨e, he, h⟩ | ⟨k, hk, h⟩
    · rw [h]
      (refine G tt_ok pk39 ?_; repeat (refine G1 tt_ok pk39 ?_; intro _))
      rw [show (e != 0) = true by simp [he]]
      (refine G tt_ok pk39 ?_; repeat (refine G1 tt_ok pk39 ?_; intro _))
      exact CW.ret (fin_ret rfl pk_ ⟨rfl, rfl⟩)
    · rw [h]
      (refine G tt_ok pk39 ?_; repeat (refine G1 tt_ok pk39 ?_; intro _))
      refine ke rfl rfl (inv86C β m g ps hw hk (n := r0) hlt.2.1) ?_
      (refine G tt_ok pk39 ?_; repeat (refine G1 tt_ok pk39 ?_; intro _))
      exact CW.ret (fin_ret rfl pk_ ⟨rfl, rfl⟩)
  · rw [show (e != 0) = true by simp [he], if_pos he]
    (refine G tt_ok pk39 ?_; repeat (refine G1 tt_ok pk39 ?_; intro _))
    exact CW.ret (fin_ret rfl pk_ ⟨rfl, rfl⟩)
/-- A collection goes to a processor from now on. -/
def mapcV (w : SW) (c : Cm) : SW × Int := if c.2.2.2.2.2.2.2.2 = true ∧ c.2.2.2.2.2.1 ≥ 3 then (w, 130) else
  (⟨(setTg w.B 64 64 c.2.2.2.2.1 c.2.2.2.2.2.1 c.2.2.2.2.2.2.2.2).1, w.cs⟩, (setTg w.B 64 64 c.2.2.2.2.1 c.2.2.2.2.2.1 c.2.2.2.2.2.2.2.2).2)
set_option maxHeartbeats 8000000 in
theorem mapc34 (β : Base) (s m g : Nat) {ps : List Nat} {A : Atom} {q : Option Addr} (cp : Nat) (hS : TsOk β A q ps) {p : Int} (hp : p = 0 ∨ p = 32) {w : SW} (hw : w.ok) (on st : Bool) (i j : Nat) (c : Cm) :
    Tri Tryz.prog β 34 [.pointer (some ⟨s, 0, none⟩), .pointer (some ⟨m, 0, none⟩), .slice q 3 cp, .agg #[.int .i64 c.1, .int .i64 c.2.1, .int .i64 c.2.2.1, .int .i64 c.2.2.2.1, .int .i64 c.2.2.2.2.1, .int .i64 c.2.2.2.2.2.1, .int .i64 c.2.2.2.2.2.2.1, .int .i64 c.2.2.2.2.2.2.2.1, .bool c.2.2.2.2.2.2.2.2]] (pt s (itC on st i j p) :: A :: swA m g ps w) (fun u L => u = .int .i64 (mapcV w c).2 ∧ L = pt s (itC on st i j p) :: A :: swA m g ps (mapcV w c).1) := by
  refine Tri.intro tt_ok Tryz.func34 rfl rfl Tryz.ntmps34 rfl fun F => ?_
  obtain ⟨op, dev, ev, num, coll, tgt, b, a, v⟩ := c
  unfold mapcV
  simp only
  (refine G tt_ok pk34 ?_; repeat (refine G1 tt_ok pk34 ?_; intro _))
  cases v with
  | false =>
    rw [if_neg (by simp)]
    (refine G tt_ok pk34 ?_; repeat (refine G1 tt_ok pk34 ?_; intro _))
    refine ke rfl rfl (setTarget82 β m g w.B (by rw [hw.1]; omega) 64 64 coll tgt false) ?_
    (refine G tt_ok pk34 ?_; repeat (refine G1 tt_ok pk34 ?_; intro _))
    exact CW.ret (fin_ret rfl pk_ ⟨rfl, rfl⟩)
  | true =>
    (refine G tt_ok pk34 ?_; repeat (refine G1 tt_ok pk34 ?_; intro _))
    by_cases ht : tgt ≥ 3
    · rw [if_pos ⟨rfl, ht⟩, decide_eq_true (show tgt ≥ ((3 : Nat) : Int) from ht)]
      (refine G tt_ok pk34 ?_; repeat (refine G1 tt_ok pk34 ?_; intro _))
      exact CW.ret (fin_ret rfl pk_ ⟨rfl, rfl⟩)
    · rw [if_neg (fun h => ht h.2), decide_eq_false (show ¬ tgt ≥ ((3 : Nat) : Int) from ht)]
      (refine G tt_ok pk34 ?_; repeat (refine G1 tt_ok pk34 ?_; intro _))
      refine ke rfl rfl (setTarget82 β m g w.B (by rw [hw.1]; omega) 64 64 coll tgt true) ?_
      (refine G tt_ok pk34 ?_; repeat (refine G1 tt_ok pk34 ?_; intro _))
      exact CW.ret (fin_ret rfl pk_ ⟨rfl, rfl⟩)
/-- All that wait by one processor wait by another one from now on. -/
def movallV (w : SW) (c : Cm) : SW × Int := if c.2.2.2.2.2.1 ≥ 3 ∨ c.2.2.2.1 ≥ 3 then (w, 130) else (w.moveA c.2.2.2.2.2.1.toNat c.2.2.2.1.toNat, 0)
set_option maxHeartbeats 8000000 in
theorem movall42 (β : Base) (s m g : Nat) {ps : List Nat} {A : Atom} {q : Option Addr} (cp : Nat) (hS : TsOk β A q ps) {p : Int} (hp : p = 0 ∨ p = 32) {w : SW} (hw : w.ok) (on st : Bool) (i j : Nat) (c : Cm) (ht : 0 ≤ c.2.2.2.2.2.1) (hn : 0 ≤ c.2.2.2.1) :
    Tri Tryz.prog β 42 [.pointer (some ⟨s, 0, none⟩), .pointer (some ⟨m, 0, none⟩), .slice q 3 cp, .agg #[.int .i64 c.1, .int .i64 c.2.1, .int .i64 c.2.2.1, .int .i64 c.2.2.2.1, .int .i64 c.2.2.2.2.1, .int .i64 c.2.2.2.2.2.1, .int .i64 c.2.2.2.2.2.2.1, .int .i64 c.2.2.2.2.2.2.2.1, .bool c.2.2.2.2.2.2.2.2]] (pt s (itC on st i j p) :: A :: swA m g ps w) (fun u L => u = .int .i64 (movallV w c).2 ∧ L = pt s (itC on st i j p) :: A :: swA m g ps (movallV w c).1) := by
  refine Tri.intro tt_ok Tryz.func42 rfl rfl Tryz.ntmps42 rfl fun F => ?_
  obtain ⟨op, dev, ev, num, coll, tgt, b, a, v⟩ := c
  unfold movallV
  simp only at ht hn ⊢
  (refine G tt_ok pk42 ?_; repeat (refine G1 tt_ok pk42 ?_; intro _))
  by_cases h1 : tgt ≥ 3
  · rw [if_pos (.inl h1), decide_eq_true (show tgt ≥ ((3 : Nat) : Int) from h1)]
    (refine G tt_ok pk42 ?_; repeat (refine G1 tt_ok pk42 ?_; intro _))
    exact CW.ret (fin_ret rfl pk_ ⟨rfl, rfl⟩)
  · rw [decide_eq_false (show ¬ tgt ≥ ((3 : Nat) : Int) from h1)]
    (refine G tt_ok pk42 ?_; repeat (refine G1 tt_ok pk42 ?_; intro _))
    by_cases h2 : num ≥ 3
    · rw [if_pos (.inr h2), decide_eq_true (show num ≥ ((3 : Nat) : Int) from h2)]
      (refine G tt_ok pk42 ?_; repeat (refine G1 tt_ok pk42 ?_; intro _))
      exact CW.ret (fin_ret rfl pk_ ⟨rfl, rfl⟩)
    · rw [if_neg (by omega), decide_eq_false (show ¬ num ≥ ((3 : Nat) : Int) from h2)]
      obtain ⟨x, rfl⟩ : ∃ k : Nat, tgt = (k : Int) := ⟨tgt.toNat, by omega⟩
      obtain ⟨y, rfl⟩ : ∃ k : Nat, num = (k : Int) := ⟨num.toNat, by omega⟩
      have hx : x < 3 := by omega
      have hy : y < 3 := by omega
      obtain ⟨u, hu⟩ : ∃ u, ps[x]? = some u := ⟨_, List.getElem?_eq_getElem (by rw [hS.hl]; exact hx)⟩
      obtain ⟨z, hz⟩ : ∃ z, ps[y]? = some z := ⟨_, List.getElem?_eq_getElem (by rw [hS.hl]; exact hy)⟩
      have hgu : u = ps.getD x 0 := by rw [List.getD_eq_getElem?_getD, hu]; rfl
      have hgz : z = ps.getD y 0 := by rw [List.getD_eq_getElem?_getD, hz]; rfl
      (refine G tt_ok pk42 ?_; repeat (refine G1 tt_ok pk42 ?_; intro _))
      (refine SQ.idxG tt_ok rfl rfl (hS.hS) (by repeat (first | exact .h | apply AtA.t)) (x) (rfl) (hx) rfl ?_)
      (refine G tt_ok pk42 ?_; repeat (refine G1 tt_ok pk42 ?_; intro _))
      (refine SQ.ldG tt_ok rfl rfl (hS.hS) (by repeat (first | exact .h | apply AtA.t)) (by omega) (fun cur hcs => pt_cur hcs hu) ?_)
      (refine G tt_ok pk42 ?_; repeat (refine G1 tt_ok pk42 ?_; intro _))
      (refine SQ.idxG tt_ok rfl rfl (hS.hS) (by repeat (first | exact .h | apply AtA.t)) (y) (rfl) (hy) rfl ?_)
      (refine G tt_ok pk42 ?_; repeat (refine G1 tt_ok pk42 ?_; intro _))
      (refine SQ.ldG tt_ok rfl rfl (hS.hS) (by repeat (first | exact .h | apply AtA.t)) (by omega) (fun cur hcs => pt_cur hcs hz) ?_)
      (refine G tt_ok pk42 ?_; repeat (refine G1 tt_ok pk42 ?_; intro _))
      rw [hgu, hgz]
      (refine SQ.callA rfl rfl (moveAll90 β m g hS.hl hS.hn hw hx hy) (by repeat (first | exact .n | exact Rm.h | exact Rm.of own_row | exact Rm.of row_close0 | apply Tk.c | apply Rm.t)) ?_; rintro _ _ ⟨⟨n, rfl⟩, rfl⟩; refine ⟨(by repeat (first | exact trivial | refine ⟨trivial, ?_⟩ | refine ⟨RdAt.slr hS.hS (by repeat (first | exact .h | apply AtA.t)) (by omega) (fun cur hcs => hgz ▸ pt_cur hcs hz), ?_⟩ | refine ⟨RdAt.slr hS.hS (by repeat (first | exact .h | apply AtA.t)) (by omega) (fun cur hcs => hgu ▸ pt_cur hcs hu), ?_⟩ | refine ⟨wk (by repeat (first | exact .h | exact .q | apply At.t)) (by rfl), ?_⟩)), ?_⟩)
      (refine G tt_ok pk42 ?_; repeat (refine G1 tt_ok pk42 ?_; intro _))
      exact CW.ret (fin_ret rfl pk_ ⟨rfl, rfl⟩)
end Go.Proofs.YthhfoppaaehepaaGreatDoor.Sl
namespace Go.Proofs.YthhfoppaaehepaaGreatDoor.Sl
open Go Go.RowKit Go.Proofs
set_option linter.unusedVariables false
set_option linter.unusedSimpArgs false
attribute [local irreducible] CW Tri OW
set_option maxRecDepth 10000
theorem encL_get (c : Cm) : ∀ {f : Nat} {W : List Nat}, encL c f = some W → ∀ g, g < f → ((partV' c.1 g).2 = false → getF c g = 0) ∧ 0 ≤ getF c g ∧ getF c g < ((2 ^ (partV' c.1 g).1.2.2 : Nat) : Int)
  | 0, _, _ => fun g hg => absurd hg (by omega)
  | f + 1, W, h => by
    unfold encL at h
    cases h1 : encL c f with
    | none => rw [h1] at h; cases h
    | some V =>
      rw [h1] at h
      simp only at h
      unfold encS at h
      split at h
      · cases h
      · rename_i hc
        intro g hg
        by_cases e : g = f
        · subst e
          refine ⟨fun h2 => ?_, ?_, ?_⟩
          · by_cases h3 : getF c g = 0
            · exact h3
            · exact absurd (.inl ⟨h2, h3⟩) hc
          · by_cases h3 : getF c g < 0
            · exact absurd (.inr (.inl h3)) hc
            · omega
          · by_cases h3 : getF c g ≥ ((2 ^ (partV' c.1 g).1.2.2 : Nat) : Int)
            · exact absurd (.inr (.inr h3)) hc
            · omega
        · exact encL_get c h1 g (by omega)
theorem enc_get {c : Cm} (h : (encV c).2 = 0) : knownV c.1 = true ∧ c.2.2.2.2.2.2.2.1 % 256 = 0 ∧ ∀ g, g < 8 → ((partV' c.1 g).2 = false → getF c g = 0) ∧ 0 ≤ getF c g ∧ getF c g < ((2 ^ (partV' c.1 g).1.2.2 : Nat) : Int) := by
  unfold encV at h
  split at h
  · rename_i hc
    refine ⟨hc.1, hc.2, ?_⟩
    cases h1 : encL c 8 with
    | none => rw [h1] at h; exact absurd h (by simp)
    | some W => exact encL_get c h1
  · exact absurd h (by simp)
theorem enc_bits {c : Cm} (h : (encV c).2 = 0) : 0 ≤ c.2.2.2.2.2.2.1 ∧ c.2.2.2.2.2.2.1 ≤ 31 ∧ okPut (c.2.2.2.2.2.2.2.2, c.2.2.2.2.2.2.1, c.2.2.2.2.2.2.2.1) := by
  obtain ⟨_, h2, h3⟩ := enc_get h
  have h5 := (h3 5 (by omega)).2
  have h6 := (h3 6 (by omega)).2
  have e5 : (partV' c.1 5).1.2.2 = 5 := rfl
  have e6 : (partV' c.1 6).1.2.2 = 40 := rfl
  rw [e5] at h5
  rw [e6] at h6
  have g5 : getF c 5 = c.2.2.2.2.2.2.1 := rfl
  have g6 : getF c 6 = c.2.2.2.2.2.2.2.1 / 256 := rfl
  rw [g5] at h5
  rw [g6] at h6
  have h51 : c.2.2.2.2.2.2.1 ≤ 31 := by have := h5.2; omega
  refine ⟨h5.1, h51, fun _ => ⟨h5.1, h51, (c.2.2.2.2.2.2.2.1 / 256).toNat, ?_, ?_⟩⟩
  · have := h6.2; omega
  · simp only; omega
theorem enc_nums {c : Cm} (h : (encV c).2 = 0) : 0 ≤ c.2.1 ∧ c.2.1 < 4294967296 ∧ 0 ≤ c.2.2.1 ∧ c.2.2.1 < 4294967296 ∧ 0 ≤ c.2.2.2.1 ∧ 0 ≤ c.2.2.2.2.1 ∧ c.2.2.2.2.1 < 65536 ∧ 0 ≤ c.2.2.2.2.2.1 ∧ c.2.2.2.2.2.1 < 65536 := by
  obtain ⟨_, _, h3⟩ := enc_get h
  have h0 : 0 ≤ c.2.1 ∧ c.2.1 < ((2 ^ 32 : Nat) : Int) := (h3 0 (by omega)).2
  have h1 : 0 ≤ c.2.2.1 ∧ c.2.2.1 < ((2 ^ 32 : Nat) : Int) := (h3 1 (by omega)).2
  have h2 : 0 ≤ c.2.2.2.1 := (h3 2 (by omega)).2.1
  have h4 : 0 ≤ c.2.2.2.2.1 ∧ c.2.2.2.2.1 < ((2 ^ 16 : Nat) : Int) := (h3 3 (by omega)).2
  have h5 : 0 ≤ c.2.2.2.2.2.1 ∧ c.2.2.2.2.2.1 < ((2 ^ 16 : Nat) : Int) := (h3 4 (by omega)).2
  omega
theorem wrN_in {B : List Nat} (hB : B.length = 4096) (hb : byOk B) {a w : Nat} (v : Nat) (h : a + w ≤ 4096) : (wrN B a w v).length = 4096 ∧ byOk (wrN B a w v) := ⟨by rw [wrN_len _ (by omega), hB], wrN_ok _ _ _ hb⟩
theorem tabPut_in {B : List Nat} (hB : B.length = 4096) (hb : byOk B) (a s p id : Int) (d : Dv) : (tabPut B a s p id d).1.length = 4096 ∧ byOk (tabPut B a s p id d).1 := by
  unfold tabPut
  cases h : slotA B a s p id with
  | none => exact ⟨hB, hb⟩
  | some A => exact wrN_in hB hb _ (by have := slotA_in h; omega)
theorem setTg_in {B : List Nat} (hB : B.length = 4096) (hb : byOk B) (c t : Int) (v : Bool) : (setTg B 64 64 c t v).1.length = 4096 ∧ byOk (setTg B 64 64 c t v).1 := by
  unfold setTg
  generalize (if v = true then 2 ^ 63 + t.toNat else 0) = x
  split
  · exact ⟨hB, hb⟩
  · split
    · exact ⟨hB, hb⟩
    · split
      · exact ⟨hB, hb⟩
      · simp only
        unfold memWr
        split
        · rename_i h
          obtain ⟨A, W, h1, h2, h3, h4, _⟩ := acc_in (by rw [hB]; omega) h
          rw [h1, h2]
          exact wrN_in hB hb _ (by simp only [Int.toNat_natCast]; omega)
        · exact ⟨hB, hb⟩
theorem waitsV_ok {p : Int} {w : SW} (hw : w.ok) (dev ev : Int) (v : Bool) : (waitsV p w dev ev v).1.ok := by
  have hlt := eventV_lt w.B p dev ev
  unfold waitsV
  split
  · exact hw
  · rcases sideV_cases w.B (eventV w.B p dev ev).1.2.1 with ⟨e, he, h⟩ | ⟨k, hk, h⟩
    · rw [h]; exact hw
    · rw [h]; exact SW.set_ok hw hk hlt.2.1 v
theorem mapdV_ok {p : Int} {w : SW} (hw : w.ok) {c : Cm} (h0 : 0 ≤ c.2.2.2.2.2.2.1) (h1 : c.2.2.2.2.2.2.1 ≤ 31) : (mapdV p w c).1.ok := by
  unfold mapdV
  split
  · exact hw
  · split
    · exact hw
    · rename_i hbad
      have hk := fgA_ok (tabGet_ok w.B 0 64 p c.2.1) hw
      have hin : (wpV c.2.2.2.2.2.2.2.2 c.2.2.2.2.2.2.1 c.2.2.2.2.2.2.2.1 (fgA (tabGet w.B 0 64 p c.2.1).1 w).B).length = 4096 ∧ byOk (wpV c.2.2.2.2.2.2.2.2 c.2.2.2.2.2.2.1 c.2.2.2.2.2.2.2.1 (fgA (tabGet w.B 0 64 p c.2.1).1 w).B) := by
        unfold wpV
        split
        · rename_i hv
          unfold badW at hbad
          rw [hv, Bool.true_and, hw.1] at hbad
          have hev := evN_le h1
          have hh : holdsV 4096 c.2.2.2.2.2.2.2.1 (8 * evN c.2.2.2.2.2.2.1) = true := by
            cases h : holdsV 4096 c.2.2.2.2.2.2.2.1 (8 * evN c.2.2.2.2.2.2.1) with
            | true => rfl
            | false => rw [h] at hbad; simp at hbad
          obtain ⟨A, W, e1, e2, _, hle⟩ := holds_in hh (by omega)
          rw [e1, e2]
          simp only [Int.toNat_natCast]
          exact ⟨by rw [wipe_len (by rw [hk.1]; exact hle), hk.1], wipe_ok hk.2.1⟩
        · exact ⟨hk.1, hk.2.1⟩
      obtain ⟨hB, hb⟩ := tabPut_in hin.1 hin.2 0 64 p c.2.1 (c.2.2.2.2.2.2.2.2, c.2.2.2.2.2.2.1, c.2.2.2.2.2.2.2.1)
      exact ⟨hB, hb, hk.2.2⟩
theorem fgO_ok {d : Dv} (hd : okDv d) {w : SW} (hw : w.ok) {x : Er} (h1 : x.2.1 ≤ 9223372036854775807) : (fgO d w x).ok := by
  unfold fgO
  split
  · have h := fgW_ok hw h1
    obtain ⟨hB, hb⟩ := devSet_in h.1 h.2.1 hd x.1 (0, 0, false)
    exact ⟨hB, hb, h.2.2⟩
  · exact hw
theorem maptiV_ok {p : Int} {w : SW} (hw : w.ok) (c : Cm) (n : Int) : (maptiV p w c n).1.ok := by
  have hd := deviceV_ok w.B p c.2.1
  unfold maptiV
  repeat' split
  all_goals first | exact hw | skip
  have hr := devRt_lt w.B (deviceV w.B p c.2.1).1 c.2.2.1
  have h1 := invS_ok (fgO_ok hd hw (x := (c.2.2.1, (devRt w.B (deviceV w.B p c.2.1).1 c.2.2.1).1)) hr.2.1) c.2.2.2.2.1 n
  obtain ⟨hB, hb⟩ := devSet_in h1.1 h1.2.1 hd c.2.2.1 (n, c.2.2.2.2.1, true)
  exact ⟨hB, hb, h1.2.2⟩
theorem moviV_ok {p : Int} {w : SW} (hw : w.ok) (c : Cm) : (moviV p w c).1.ok := by
  have hlt := eventV_lt w.B p c.2.1 c.2.2.1
  unfold moviV
  split
  · exact hw
  · rcases sideV_cases w.B c.2.2.2.2.1 with ⟨e, he, h⟩ | ⟨t, ht, h⟩
    · rw [h]; exact hw
    · rw [h]
      simp only
      have h1 := SW.inv_ok (mvO_ok hw (eventV w.B p c.2.1 c.2.2.1).1.2.1 hlt.2.1 ht) ht (eventV w.B p c.2.1 c.2.2.1).1.1
      obtain ⟨hB, hb⟩ := devSet_in h1.1 h1.2.1 (deviceV_ok _ p c.2.1) c.2.2.1 ((eventV w.B p c.2.1 c.2.2.1).1.1, c.2.2.2.2.1, (eventV w.B p c.2.1 c.2.2.1).1.2.2)
      exact ⟨hB, hb, h1.2.2⟩
theorem discardV_ok {p : Int} {w : SW} (hw : w.ok) (c : Cm) : (discardV p w c).1.ok := by
  have hlt := eventV_lt w.B p c.2.1 c.2.2.1
  unfold discardV
  split
  · exact hw
  · have h := fgW_ok hw (r := (eventV w.B p c.2.1 c.2.2.1).1) hlt.2.1
    obtain ⟨hB, hb⟩ := devSet_in h.1 h.2.1 (deviceV_ok w.B p c.2.1) c.2.2.1 (0, 0, false)
    exact ⟨hB, hb, h.2.2⟩
theorem invE_ok {p : Int} {w : SW} (hw : w.ok) (c : Cm) : (invE p w c).1.ok := by
  unfold invE
  split
  · exact hw
  · rcases sideV_cases w.B (eventV w.B p c.2.1 c.2.2.1).1.2.1 with ⟨e, he, h⟩ | ⟨k, hk, h⟩
    · rw [h]; exact hw
    · rw [h]; exact SW.inv_ok hw hk _
theorem mapcV_ok {w : SW} (hw : w.ok) (c : Cm) : (mapcV w c).1.ok := by
  unfold mapcV
  split
  · exact hw
  · obtain ⟨hB, hb⟩ := setTg_in hw.1 hw.2.1 c.2.2.2.2.1 c.2.2.2.2.2.1 c.2.2.2.2.2.2.2.2
    exact ⟨hB, hb, hw.2.2⟩
theorem movallV_ok {w : SW} (hw : w.ok) {c : Cm} (h1 : 0 ≤ c.2.2.2.2.2.1) (h2 : 0 ≤ c.2.2.2.1) : (movallV w c).1.ok := by
  unfold movallV
  split
  · exact hw
  · exact SW.moveA_ok hw (by omega) (by omega)
def invallV (w : SW) (c : Int) : SW × Int := match sideV w.B c with
  | (some k, _) => (w.invA k, 0)
  | (none, e) => (w, e)
/-- A command is carried out. -/
def doV (p : Int) (w : SW) (c : Cm) : SW × Int := if (encV c).2 ≠ 0 then (w, (encV c).2) else if c.1 = 8 then mapdV p w c else if c.1 = 9 then mapcV w c else if c.1 = 10 then maptiV p w c c.2.2.2.1 else if c.1 = 11 then maptiV p w c (8192 + c.2.2.1) else
  if c.1 = 1 then moviV p w c else if c.1 = 15 then discardV p w c else if c.1 = 3 then waitsV p w c.2.1 c.2.2.1 true else if c.1 = 4 then waitsV p w c.2.1 c.2.2.1 false else if c.1 = 12 then invE p w c else
  if c.1 = 13 then invallV w c.2.2.2.2.1 else if c.1 = 14 then movallV w c else if c.1 = 5 then (w, if c.2.2.2.2.2.1 ≥ 3 then 130 else 0) else (w, 160)
theorem ite_ok {α : Type} {Q : α → Prop} {c : Prop} [Decidable c] {a b : α} (h1 : Q a) (h2 : Q b) : Q (if c then a else b) := by split <;> assumption
theorem doV_ok {p : Int} {w : SW} (hw : w.ok) (c : Cm) : (doV p w c).1.ok := by
  by_cases h : (encV c).2 ≠ 0
  · unfold doV; rw [if_pos h]; exact hw
  · unfold doV
    rw [if_neg h]
    have h0 : (encV c).2 = 0 := by omega
    have hbt := enc_bits h0
    have hnm := enc_nums h0
    have hinv : (invallV w c.2.2.2.2.1).1.ok := by
      unfold invallV
      rcases sideV_cases w.B c.2.2.2.2.1 with ⟨e, he, h⟩ | ⟨k, hk, h⟩
      · rw [h]; exact hw
      · rw [h]; exact SW.invA_ok hw hk
    exact ite_ok (Q := fun r : SW × Int => r.1.ok) (mapdV_ok hw hbt.1 hbt.2.1) (ite_ok (Q := fun r : SW × Int => r.1.ok) (mapcV_ok hw c) (ite_ok (Q := fun r : SW × Int => r.1.ok) (maptiV_ok hw c _) (ite_ok (Q := fun r : SW × Int => r.1.ok) (maptiV_ok hw c _) (ite_ok (Q := fun r : SW × Int => r.1.ok) (moviV_ok hw c) (ite_ok (Q := fun r : SW × Int => r.1.ok) (discardV_ok hw c) (ite_ok (Q := fun r : SW × Int => r.1.ok) (waitsV_ok hw _ _ _) (ite_ok (Q := fun r : SW × Int => r.1.ok) (waitsV_ok hw _ _ _) (ite_ok (Q := fun r : SW × Int => r.1.ok) (invE_ok hw c) (ite_ok (Q := fun r : SW × Int => r.1.ok) (hinv) (ite_ok (Q := fun r : SW × Int => r.1.ok) (movallV_ok hw (by omega) (by omega)) (ite_ok (Q := fun r : SW × Int => r.1.ok) (hw) (hw))))))))))))
end Go.Proofs.YthhfoppaaehepaaGreatDoor.Sl
namespace Go.Proofs.YthhfoppaaehepaaGreatDoor.Sl
open Go Go.RowKit Go.Proofs
set_option linter.unusedVariables false
set_option linter.unusedSimpArgs false
attribute [local irreducible] CW Tri OW
set_option maxRecDepth 10000
@[reducible] def pk14 : List (Nat × Plan) := []
@[reducible] def pk22 : List (Nat × Plan) := []
set_option maxHeartbeats 8000000 in
theorem do14 (β : Base) (s m g : Nat) {ps : List Nat} {A : Atom} {q : Option Addr} (cp : Nat) (hS : TsOk β A q ps) {p : Int} (hp : p = 0 ∨ p = 32) {w : SW} (hw : w.ok) (on st : Bool) (i j : Nat) (c : Cm) :
    Tri Tryz.prog β 14 [.pointer (some ⟨s, 0, none⟩), .pointer (some ⟨m, 0, none⟩), .slice q 3 cp, .agg #[.int .i64 c.1, .int .i64 c.2.1, .int .i64 c.2.2.1, .int .i64 c.2.2.2.1, .int .i64 c.2.2.2.2.1, .int .i64 c.2.2.2.2.2.1, .int .i64 c.2.2.2.2.2.2.1, .int .i64 c.2.2.2.2.2.2.2.1, .bool c.2.2.2.2.2.2.2.2]] (pt s (itC on st i j p) :: A :: swA m g ps w) (fun u L => u = .int .i64 (doV p w c).2 ∧ L = pt s (itC on st i j p) :: A :: swA m g ps (doV p w c).1) := by
  refine Tri.intro tt_ok Tryz.func14 rfl rfl Tryz.ntmps14 rfl fun F => ?_
  have hbt := enc_bits (c := c)
  have hnm := enc_nums (c := c)
  unfold doV
  obtain ⟨op, dev, ev, num, coll, tgt, b, a, v⟩ := c
  (refine G tt_ok pk14 ?_; repeat (refine G1 tt_ok pk14 ?_; intro _))
  refine ke rfl rfl (encode32 β (op, dev, ev, num, coll, tgt, b, a, v)) ?_
  generalize encV (op, dev, ev, num, coll, tgt, b, a, v) = x at hbt hnm ⊢
  obtain ⟨W, e⟩ := x
  simp only at hbt hnm ⊢
  (refine G tt_ok pk14 ?_; repeat (refine G1 tt_ok pk14 ?_; intro _))
  by_cases he : e = 0
  · subst he
    have hbt := hbt rfl
    have hnm := hnm rfl
    rw [if_neg (by simp)]
    (refine G tt_ok pk14 ?_; repeat (refine G1 tt_ok pk14 ?_; intro _))
    by_cases h8 : op = 8
    · subst h8
      rw [if_pos rfl]
      (refine G tt_ok pk14 ?_; repeat (refine G1 tt_ok pk14 ?_; intro _))
      refine ke rfl rfl (mapd33 β s m g cp hS hp hw on st i j (8, dev, ev, num, coll, tgt, b, a, v) hbt.1 hbt.2.1 hbt.2.2) ?_
      (refine G tt_ok pk14 ?_; repeat (refine G1 tt_ok pk14 ?_; intro _))
      exact CW.ret (fin_ret rfl pk_ ⟨rfl, rfl⟩)
    · rw [if_neg h8, show (op == 8) = false by simp [h8]]
      (refine G tt_ok pk14 ?_; repeat (refine G1 tt_ok pk14 ?_; intro _))
      by_cases h9 : op = 9
      · subst h9
        rw [if_pos rfl]
        (refine G tt_ok pk14 ?_; repeat (refine G1 tt_ok pk14 ?_; intro _))
        refine ke rfl rfl (mapc34 β s m g cp hS hp hw on st i j (9, dev, ev, num, coll, tgt, b, a, v)) ?_
        (refine G tt_ok pk14 ?_; repeat (refine G1 tt_ok pk14 ?_; intro _))
        exact CW.ret (fin_ret rfl pk_ ⟨rfl, rfl⟩)
      · rw [if_neg h9, show (op == 9) = false by simp [h9]]
        (refine G tt_ok pk14 ?_; repeat (refine G1 tt_ok pk14 ?_; intro _))
        by_cases h10 : op = 10
        · subst h10
          rw [if_pos rfl]
          (refine G tt_ok pk14 ?_; repeat (refine G1 tt_ok pk14 ?_; intro _))
          refine ke rfl rfl (mapti35 β s m g cp hS hp hw on st i j (10, dev, ev, num, coll, tgt, b, a, v) num) ?_
          (refine G tt_ok pk14 ?_; repeat (refine G1 tt_ok pk14 ?_; intro _))
          exact CW.ret (fin_ret rfl pk_ ⟨rfl, rfl⟩)
        · rw [if_neg h10, show (op == 10) = false by simp [h10]]
          (refine G tt_ok pk14 ?_; repeat (refine G1 tt_ok pk14 ?_; intro _))
          by_cases h11 : op = 11
          · subst h11
            rw [if_pos rfl]
            (refine G tt_ok pk14 ?_; repeat (refine G1 tt_ok pk14 ?_; intro _))
            rw [show IntKind.i64.wrap (8192 + ev) = 8192 + ev from wrap_id (by omega) (by omega)]
            (refine G tt_ok pk14 ?_; repeat (refine G1 tt_ok pk14 ?_; intro _))
            refine ke rfl rfl (mapti35 β s m g cp hS hp hw on st i j (11, dev, ev, num, coll, tgt, b, a, v) (8192 + ev)) ?_
            (refine G tt_ok pk14 ?_; repeat (refine G1 tt_ok pk14 ?_; intro _))
            exact CW.ret (fin_ret rfl pk_ ⟨rfl, rfl⟩)
          · rw [if_neg h11, show (op == 11) = false by simp [h11]]
            (refine G tt_ok pk14 ?_; repeat (refine G1 tt_ok pk14 ?_; intro _))
            by_cases h1 : op = 1
            · subst h1
              rw [if_pos rfl]
              (refine G tt_ok pk14 ?_; repeat (refine G1 tt_ok pk14 ?_; intro _))
              refine ke rfl rfl (movi36 β s m g cp hS hp hw on st i j (1, dev, ev, num, coll, tgt, b, a, v)) ?_
              (refine G tt_ok pk14 ?_; repeat (refine G1 tt_ok pk14 ?_; intro _))
              exact CW.ret (fin_ret rfl pk_ ⟨rfl, rfl⟩)
            · rw [if_neg h1, show (op == 1) = false by simp [h1]]
              (refine G tt_ok pk14 ?_; repeat (refine G1 tt_ok pk14 ?_; intro _))
              by_cases h15 : op = 15
              · subst h15
                rw [if_pos rfl]
                (refine G tt_ok pk14 ?_; repeat (refine G1 tt_ok pk14 ?_; intro _))
                refine ke rfl rfl (discard37 β s m g cp hS hp hw on st i j (15, dev, ev, num, coll, tgt, b, a, v)) ?_
                (refine G tt_ok pk14 ?_; repeat (refine G1 tt_ok pk14 ?_; intro _))
                exact CW.ret (fin_ret rfl pk_ ⟨rfl, rfl⟩)
              · rw [if_neg h15, show (op == 15) = false by simp [h15]]
                (refine G tt_ok pk14 ?_; repeat (refine G1 tt_ok pk14 ?_; intro _))
                by_cases h3 : op = 3
                · subst h3
                  rw [if_pos rfl]
                  (refine G tt_ok pk14 ?_; repeat (refine G1 tt_ok pk14 ?_; intro _))
                  refine ke rfl rfl (waits38 β s m g cp hS hp hw on st i j dev ev true) ?_
                  (refine G tt_ok pk14 ?_; repeat (refine G1 tt_ok pk14 ?_; intro _))
                  exact CW.ret (fin_ret rfl pk_ ⟨rfl, rfl⟩)
                · rw [if_neg h3, show (op == 3) = false by simp [h3]]
                  (refine G tt_ok pk14 ?_; repeat (refine G1 tt_ok pk14 ?_; intro _))
                  by_cases h4 : op = 4
                  · subst h4
                    rw [if_pos rfl]
                    (refine G tt_ok pk14 ?_; repeat (refine G1 tt_ok pk14 ?_; intro _))
                    refine ke rfl rfl (waits38 β s m g cp hS hp hw on st i j dev ev false) ?_
                    (refine G tt_ok pk14 ?_; repeat (refine G1 tt_ok pk14 ?_; intro _))
                    exact CW.ret (fin_ret rfl pk_ ⟨rfl, rfl⟩)
                  · rw [if_neg h4, show (op == 4) = false by simp [h4]]
                    (refine G tt_ok pk14 ?_; repeat (refine G1 tt_ok pk14 ?_; intro _))
                    by_cases h12 : op = 12
                    · subst h12
                      rw [if_pos rfl]
                      (refine G tt_ok pk14 ?_; repeat (refine G1 tt_ok pk14 ?_; intro _))
                      refine ke rfl rfl (inv39 β s m g cp hS hp hw on st i j (12, dev, ev, num, coll, tgt, b, a, v)) ?_
                      (refine G tt_ok pk14 ?_; repeat (refine G1 tt_ok pk14 ?_; intro _))
                      exact CW.ret (fin_ret rfl pk_ ⟨rfl, rfl⟩)
                    · rw [if_neg h12, show (op == 12) = false by simp [h12]]
                      (refine G tt_ok pk14 ?_; repeat (refine G1 tt_ok pk14 ?_; intro _))
                      by_cases h13 : op = 13
                      · subst h13
                        rw [if_pos rfl]
                        (refine G tt_ok pk14 ?_; repeat (refine G1 tt_ok pk14 ?_; intro _))
                        refine ke rfl rfl (side40 β s m g w.B hw.1 hw.2.1 on st i j p (cp := cp) hS.hS hS.hl coll) ?_
                        unfold invallV
                        rcases sideV_cases w.B coll with ⟨e, he, h⟩ | ⟨k, hk, h⟩
                        · rw [h]
                          (refine G tt_ok pk14 ?_; repeat (refine G1 tt_ok pk14 ?_; intro _))
                          rw [show (e == 0) = false by simp [he]]
                          (refine G tt_ok pk14 ?_; repeat (refine G1 tt_ok pk14 ?_; intro _))
                          exact CW.ret (fin_ret rfl pk_ ⟨rfl, rfl⟩)
                        · rw [h]
                          (refine G tt_ok pk14 ?_; repeat (refine G1 tt_ok pk14 ?_; intro _))
                          refine ke rfl rfl (invAll41C β m g ps hw hk) ?_
                          (refine G tt_ok pk14 ?_; repeat (refine G1 tt_ok pk14 ?_; intro _))
                          exact CW.ret (fin_ret rfl pk_ ⟨rfl, rfl⟩)
                      · rw [if_neg h13, show (op == 13) = false by simp [h13]]
                        (refine G tt_ok pk14 ?_; repeat (refine G1 tt_ok pk14 ?_; intro _))
                        by_cases h14 : op = 14
                        · subst h14
                          rw [if_pos rfl]
                          (refine G tt_ok pk14 ?_; repeat (refine G1 tt_ok pk14 ?_; intro _))
                          refine ke rfl rfl (movall42 β s m g cp hS hp hw on st i j (14, dev, ev, num, coll, tgt, b, a, v) (by simp only; omega) (by simp only; omega)) ?_
                          (refine G tt_ok pk14 ?_; repeat (refine G1 tt_ok pk14 ?_; intro _))
                          exact CW.ret (fin_ret rfl pk_ ⟨rfl, rfl⟩)
                        · rw [if_neg h14, show (op == 14) = false by simp [h14]]
                          (refine G tt_ok pk14 ?_; repeat (refine G1 tt_ok pk14 ?_; intro _))
                          by_cases h5 : op = 5
                          · subst h5
                            rw [if_pos rfl]
                            (refine G tt_ok pk14 ?_; repeat (refine G1 tt_ok pk14 ?_; intro _))
                            by_cases ht : tgt ≥ 3
                            · rw [if_pos ht, decide_eq_true (show tgt ≥ ((3 : Nat) : Int) from ht)]
                              (refine G tt_ok pk14 ?_; repeat (refine G1 tt_ok pk14 ?_; intro _))
                              exact CW.ret (fin_ret rfl pk_ ⟨rfl, rfl⟩)
                            · rw [if_neg ht, decide_eq_false (show ¬ tgt ≥ ((3 : Nat) : Int) from ht)]
                              (refine G tt_ok pk14 ?_; repeat (refine G1 tt_ok pk14 ?_; intro _))
                              exact CW.ret (fin_ret rfl pk_ ⟨rfl, rfl⟩)
                          · rw [if_neg h5, show (op == 5) = false by simp [h5]]
                            (refine G tt_ok pk14 ?_; repeat (refine G1 tt_ok pk14 ?_; intro _))
                            exact CW.ret (fin_ret rfl pk_ ⟨rfl, rfl⟩)
  · rw [show (e != 0) = true by simp [he], if_pos he]
    (refine G tt_ok pk14 ?_; repeat (refine G1 tt_ok pk14 ?_; intro _))
    exact CW.ret (fin_ret rfl pk_ ⟨rfl, rfl⟩)
/-- The service: memory and collections, whether it is stalled, which command is next. -/
structure IW where
  w : SW
  st : Bool
  i : Nat
def IW.ok (x : IW) : Prop := x.w.ok ∧ x.i < 10
def nxI (i j : Nat) : Nat := if lefN i j = 0 then i else (i + 1) % 10
/-- The next command is carried out. -/
def stepV (p : Int) (on : Bool) (j : Nat) (x : IW) : IW × Cm × Int := if on = false then (x, cm0, 191) else if x.st then (x, cm0, 190) else
  if (headV x.w.B x.i j).2 = 170 then (x, cm0, 170) else if (headV x.w.B x.i j).2 ≠ 0 then (⟨x.w, true, x.i⟩, cm0, (headV x.w.B x.i j).2) else
  if (doV p x.w (headV x.w.B x.i j).1).2 ≠ 0 then (⟨(doV p x.w (headV x.w.B x.i j).1).1, true, x.i⟩, cm0, (doV p x.w (headV x.w.B x.i j).1).2) else
  (⟨(doV p x.w (headV x.w.B x.i j).1).1, false, nxI x.i j⟩, (headV x.w.B x.i j).1, 0)
theorem nxI_lt {i : Nat} (j : Nat) (h : i < 10) : nxI i j < 10 := by unfold nxI; split <;> omega
theorem stepV_ok {p : Int} {on : Bool} {j : Nat} {x : IW} (h : x.ok) : (stepV p on j x).1.ok := by
  unfold stepV
  repeat' split
  all_goals first | exact h | exact ⟨h.1, h.2⟩ | exact ⟨doV_ok h.1 _, h.2⟩ | exact ⟨doV_ok h.1 _, nxI_lt j h.2⟩
theorem headV_170 {B : List Nat} {i j : Nat} (h : (headV B i j).2 = 170) : (headV B i j).1 = cm0 ∧ lefN i j = 0 := by
  unfold headV at h ⊢
  split
  · rename_i e; exact ⟨rfl, e⟩
  · rename_i e
    rw [if_neg e] at h
    unfold decV at h
    split at h <;> exact absurd h (by simp)
set_option maxHeartbeats 8000000 in
theorem step22 (β : Base) (s m g : Nat) {ps : List Nat} {A : Atom} {q : Option Addr} (cp : Nat) (hS : TsOk β A q ps) {p : Int} (hp : p = 0 ∨ p = 32) {x : IW} (hx : x.ok) (on : Bool) {j : Nat} (hj : j < 10) :
    Tri Tryz.prog β 22 [.pointer (some ⟨s, 0, none⟩), .pointer (some ⟨m, 0, none⟩), .slice q 3 cp] (pt s (itC on x.st x.i j p) :: A :: swA m g ps x.w) (fun u L => u = .tuple #[.agg (cmC (stepV p on j x).2.1).toArray, .int .i64 (stepV p on j x).2.2] ∧ L = pt s (itC on (stepV p on j x).1.st (stepV p on j x).1.i j p) :: A :: swA m g ps (stepV p on j x).1.w) := by
  refine Tri.intro tt_ok Tryz.func22 rfl rfl Tryz.ntmps22 rfl fun F => ?_
  obtain ⟨w, st, i⟩ := x
  obtain ⟨hw, hi⟩ := hx
  unfold stepV
  simp only at hw hi ⊢
  (refine G tt_ok pk22 ?_; repeat (refine G1 tt_ok pk22 ?_; intro _))
  cases on with
  | false =>
    (refine G tt_ok pk22 ?_; repeat (refine G1 tt_ok pk22 ?_; intro _))
    exact CW.ret (fin_cells [_, _] ⟨(by first | exact ⟨_, _, _, _, 0, rfl, rfl, rfl, rfl⟩ | exact ⟨_, _, _, _, 1, rfl, rfl, rfl, rfl⟩ | exact ⟨_, _, _, _, 2, rfl, rfl, rfl, rfl⟩ | exact ⟨_, _, _, _, 3, rfl, rfl, rfl, rfl⟩ | exact ⟨_, _, _, _, 4, rfl, rfl, rfl, rfl⟩ | exact ⟨_, _, _, _, 5, rfl, rfl, rfl, rfl⟩ | exact ⟨_, _, _, _, 6, rfl, rfl, rfl, rfl⟩ | exact ⟨_, _, _, _, 7, rfl, rfl, rfl, rfl⟩ | exact ⟨_, _, _, _, 8, rfl, rfl, rfl, rfl⟩ | exact ⟨_, _, _, _, 9, rfl, rfl, rfl, rfl⟩ | exact ⟨_, _, _, _, 10, rfl, rfl, rfl, rfl⟩ | exact ⟨_, _, _, _, 11, rfl, rfl, rfl, rfl⟩ | exact ⟨_, _, _, _, 12, rfl, rfl, rfl, rfl⟩ | exact ⟨_, _, _, _, 13, rfl, rfl, rfl, rfl⟩ | exact ⟨_, _, _, _, 14, rfl, rfl, rfl, rfl⟩ | exact ⟨_, _, _, _, 15, rfl, rfl, rfl, rfl⟩ | exact ⟨_, _, _, _, 16, rfl, rfl, rfl, rfl⟩ | exact ⟨_, _, _, _, 17, rfl, rfl, rfl, rfl⟩ | exact ⟨_, _, _, _, 18, rfl, rfl, rfl, rfl⟩ | exact ⟨_, _, _, _, 19, rfl, rfl, rfl, rfl⟩ | exact ⟨_, _, _, _, 20, rfl, rfl, rfl, rfl⟩ | exact ⟨_, _, _, _, 21, rfl, rfl, rfl, rfl⟩ | exact ⟨_, _, _, _, 22, rfl, rfl, rfl, rfl⟩ | exact ⟨_, _, _, _, 23, rfl, rfl, rfl, rfl⟩), rfl, trivial⟩ pk_ ⟨rfl, rfl⟩)
  | true =>
    (refine G tt_ok pk22 ?_; repeat (refine G1 tt_ok pk22 ?_; intro _))
    rw [if_neg (by simp)]
    cases st with
    | true =>
      (refine G tt_ok pk22 ?_; repeat (refine G1 tt_ok pk22 ?_; intro _))
      exact CW.ret (fin_cells [_, _] ⟨(by first | exact ⟨_, _, _, _, 0, rfl, rfl, rfl, rfl⟩ | exact ⟨_, _, _, _, 1, rfl, rfl, rfl, rfl⟩ | exact ⟨_, _, _, _, 2, rfl, rfl, rfl, rfl⟩ | exact ⟨_, _, _, _, 3, rfl, rfl, rfl, rfl⟩ | exact ⟨_, _, _, _, 4, rfl, rfl, rfl, rfl⟩ | exact ⟨_, _, _, _, 5, rfl, rfl, rfl, rfl⟩ | exact ⟨_, _, _, _, 6, rfl, rfl, rfl, rfl⟩ | exact ⟨_, _, _, _, 7, rfl, rfl, rfl, rfl⟩ | exact ⟨_, _, _, _, 8, rfl, rfl, rfl, rfl⟩ | exact ⟨_, _, _, _, 9, rfl, rfl, rfl, rfl⟩ | exact ⟨_, _, _, _, 10, rfl, rfl, rfl, rfl⟩ | exact ⟨_, _, _, _, 11, rfl, rfl, rfl, rfl⟩ | exact ⟨_, _, _, _, 12, rfl, rfl, rfl, rfl⟩ | exact ⟨_, _, _, _, 13, rfl, rfl, rfl, rfl⟩ | exact ⟨_, _, _, _, 14, rfl, rfl, rfl, rfl⟩ | exact ⟨_, _, _, _, 15, rfl, rfl, rfl, rfl⟩ | exact ⟨_, _, _, _, 16, rfl, rfl, rfl, rfl⟩ | exact ⟨_, _, _, _, 17, rfl, rfl, rfl, rfl⟩ | exact ⟨_, _, _, _, 18, rfl, rfl, rfl, rfl⟩ | exact ⟨_, _, _, _, 19, rfl, rfl, rfl, rfl⟩ | exact ⟨_, _, _, _, 20, rfl, rfl, rfl, rfl⟩ | exact ⟨_, _, _, _, 21, rfl, rfl, rfl, rfl⟩ | exact ⟨_, _, _, _, 22, rfl, rfl, rfl, rfl⟩ | exact ⟨_, _, _, _, 23, rfl, rfl, rfl, rfl⟩), rfl, trivial⟩ pk_ ⟨rfl, rfl⟩)
    | false =>
      rw [if_neg (by simp)]
      (refine G tt_ok pk22 ?_; repeat (refine G1 tt_ok pk22 ?_; intro _))
      refine ke rfl rfl (head52 β m g w.B hw.1 hw.2.1 hi hj) ?_
      have h170 := headV_170 (B := w.B) (i := i) (j := j)
      generalize headV w.B i j = h at h170 ⊢
      obtain ⟨c, e⟩ := h
      simp only at h170 ⊢
      (refine G tt_ok pk22 ?_; repeat (refine G1 tt_ok pk22 ?_; intro _))
      by_cases h1 : e = 170
      · subst h1
        have h170 := (h170 rfl).1
        subst h170
        rw [if_pos rfl]
        (refine G tt_ok pk22 ?_; repeat (refine G1 tt_ok pk22 ?_; intro _))
        exact CW.ret (fin_cells [_, _] ⟨(by first | exact ⟨_, _, _, _, 0, rfl, rfl, rfl, rfl⟩ | exact ⟨_, _, _, _, 1, rfl, rfl, rfl, rfl⟩ | exact ⟨_, _, _, _, 2, rfl, rfl, rfl, rfl⟩ | exact ⟨_, _, _, _, 3, rfl, rfl, rfl, rfl⟩ | exact ⟨_, _, _, _, 4, rfl, rfl, rfl, rfl⟩ | exact ⟨_, _, _, _, 5, rfl, rfl, rfl, rfl⟩ | exact ⟨_, _, _, _, 6, rfl, rfl, rfl, rfl⟩ | exact ⟨_, _, _, _, 7, rfl, rfl, rfl, rfl⟩ | exact ⟨_, _, _, _, 8, rfl, rfl, rfl, rfl⟩ | exact ⟨_, _, _, _, 9, rfl, rfl, rfl, rfl⟩ | exact ⟨_, _, _, _, 10, rfl, rfl, rfl, rfl⟩ | exact ⟨_, _, _, _, 11, rfl, rfl, rfl, rfl⟩ | exact ⟨_, _, _, _, 12, rfl, rfl, rfl, rfl⟩ | exact ⟨_, _, _, _, 13, rfl, rfl, rfl, rfl⟩ | exact ⟨_, _, _, _, 14, rfl, rfl, rfl, rfl⟩ | exact ⟨_, _, _, _, 15, rfl, rfl, rfl, rfl⟩ | exact ⟨_, _, _, _, 16, rfl, rfl, rfl, rfl⟩ | exact ⟨_, _, _, _, 17, rfl, rfl, rfl, rfl⟩ | exact ⟨_, _, _, _, 18, rfl, rfl, rfl, rfl⟩ | exact ⟨_, _, _, _, 19, rfl, rfl, rfl, rfl⟩ | exact ⟨_, _, _, _, 20, rfl, rfl, rfl, rfl⟩ | exact ⟨_, _, _, _, 21, rfl, rfl, rfl, rfl⟩ | exact ⟨_, _, _, _, 22, rfl, rfl, rfl, rfl⟩ | exact ⟨_, _, _, _, 23, rfl, rfl, rfl, rfl⟩), rfl, trivial⟩ pk_ ⟨rfl, rfl⟩)
      · rw [if_neg h1, show (e == 170) = false by simp [h1]]
        (refine G tt_ok pk22 ?_; repeat (refine G1 tt_ok pk22 ?_; intro _))
        by_cases he : e = 0
        · subst he
          rw [if_neg (by simp)]
          (refine G tt_ok pk22 ?_; repeat (refine G1 tt_ok pk22 ?_; intro _))
          refine ke rfl rfl (do14 β s m g cp hS hp hw true false i j c) ?_
          generalize doV p w c = r
          obtain ⟨w2, e2⟩ := r
          simp only
          (refine G tt_ok pk22 ?_; repeat (refine G1 tt_ok pk22 ?_; intro _))
          by_cases he2 : e2 = 0
          · subst he2
            rw [if_neg (by simp)]
            (refine G tt_ok pk22 ?_; repeat (refine G1 tt_ok pk22 ?_; intro _))
            refine ke rfl rfl (pass19 β s true false p hi hj) ?_
            (refine G tt_ok pk22 ?_; repeat (refine G1 tt_ok pk22 ?_; intro _))
            exact CW.ret (fin_cells [_, _] ⟨(by first | exact ⟨_, _, _, _, 0, rfl, rfl, rfl, rfl⟩ | exact ⟨_, _, _, _, 1, rfl, rfl, rfl, rfl⟩ | exact ⟨_, _, _, _, 2, rfl, rfl, rfl, rfl⟩ | exact ⟨_, _, _, _, 3, rfl, rfl, rfl, rfl⟩ | exact ⟨_, _, _, _, 4, rfl, rfl, rfl, rfl⟩ | exact ⟨_, _, _, _, 5, rfl, rfl, rfl, rfl⟩ | exact ⟨_, _, _, _, 6, rfl, rfl, rfl, rfl⟩ | exact ⟨_, _, _, _, 7, rfl, rfl, rfl, rfl⟩ | exact ⟨_, _, _, _, 8, rfl, rfl, rfl, rfl⟩ | exact ⟨_, _, _, _, 9, rfl, rfl, rfl, rfl⟩ | exact ⟨_, _, _, _, 10, rfl, rfl, rfl, rfl⟩ | exact ⟨_, _, _, _, 11, rfl, rfl, rfl, rfl⟩ | exact ⟨_, _, _, _, 12, rfl, rfl, rfl, rfl⟩ | exact ⟨_, _, _, _, 13, rfl, rfl, rfl, rfl⟩ | exact ⟨_, _, _, _, 14, rfl, rfl, rfl, rfl⟩ | exact ⟨_, _, _, _, 15, rfl, rfl, rfl, rfl⟩ | exact ⟨_, _, _, _, 16, rfl, rfl, rfl, rfl⟩ | exact ⟨_, _, _, _, 17, rfl, rfl, rfl, rfl⟩ | exact ⟨_, _, _, _, 18, rfl, rfl, rfl, rfl⟩ | exact ⟨_, _, _, _, 19, rfl, rfl, rfl, rfl⟩ | exact ⟨_, _, _, _, 20, rfl, rfl, rfl, rfl⟩ | exact ⟨_, _, _, _, 21, rfl, rfl, rfl, rfl⟩ | exact ⟨_, _, _, _, 22, rfl, rfl, rfl, rfl⟩ | exact ⟨_, _, _, _, 23, rfl, rfl, rfl, rfl⟩), rfl, trivial⟩ pk_ ⟨rfl, rfl⟩)
          · rw [if_pos he2, show (e2 != 0) = true by simp [he2]]
            (refine G tt_ok pk22 ?_; repeat (refine G1 tt_ok pk22 ?_; intro _))
            exact CW.ret (fin_cells [_, _] ⟨(by first | exact ⟨_, _, _, _, 0, rfl, rfl, rfl, rfl⟩ | exact ⟨_, _, _, _, 1, rfl, rfl, rfl, rfl⟩ | exact ⟨_, _, _, _, 2, rfl, rfl, rfl, rfl⟩ | exact ⟨_, _, _, _, 3, rfl, rfl, rfl, rfl⟩ | exact ⟨_, _, _, _, 4, rfl, rfl, rfl, rfl⟩ | exact ⟨_, _, _, _, 5, rfl, rfl, rfl, rfl⟩ | exact ⟨_, _, _, _, 6, rfl, rfl, rfl, rfl⟩ | exact ⟨_, _, _, _, 7, rfl, rfl, rfl, rfl⟩ | exact ⟨_, _, _, _, 8, rfl, rfl, rfl, rfl⟩ | exact ⟨_, _, _, _, 9, rfl, rfl, rfl, rfl⟩ | exact ⟨_, _, _, _, 10, rfl, rfl, rfl, rfl⟩ | exact ⟨_, _, _, _, 11, rfl, rfl, rfl, rfl⟩ | exact ⟨_, _, _, _, 12, rfl, rfl, rfl, rfl⟩ | exact ⟨_, _, _, _, 13, rfl, rfl, rfl, rfl⟩ | exact ⟨_, _, _, _, 14, rfl, rfl, rfl, rfl⟩ | exact ⟨_, _, _, _, 15, rfl, rfl, rfl, rfl⟩ | exact ⟨_, _, _, _, 16, rfl, rfl, rfl, rfl⟩ | exact ⟨_, _, _, _, 17, rfl, rfl, rfl, rfl⟩ | exact ⟨_, _, _, _, 18, rfl, rfl, rfl, rfl⟩ | exact ⟨_, _, _, _, 19, rfl, rfl, rfl, rfl⟩ | exact ⟨_, _, _, _, 20, rfl, rfl, rfl, rfl⟩ | exact ⟨_, _, _, _, 21, rfl, rfl, rfl, rfl⟩ | exact ⟨_, _, _, _, 22, rfl, rfl, rfl, rfl⟩ | exact ⟨_, _, _, _, 23, rfl, rfl, rfl, rfl⟩), rfl, trivial⟩ pk_ ⟨rfl, rfl⟩)
        · rw [if_pos he, show (e == 0) = false by simp [he]]
          (refine G tt_ok pk22 ?_; repeat (refine G1 tt_ok pk22 ?_; intro _))
          rw [show (e != 0) = true by simp [he]]
          (refine G tt_ok pk22 ?_; repeat (refine G1 tt_ok pk22 ?_; intro _))
          exact CW.ret (fin_cells [_, _] ⟨(by first | exact ⟨_, _, _, _, 0, rfl, rfl, rfl, rfl⟩ | exact ⟨_, _, _, _, 1, rfl, rfl, rfl, rfl⟩ | exact ⟨_, _, _, _, 2, rfl, rfl, rfl, rfl⟩ | exact ⟨_, _, _, _, 3, rfl, rfl, rfl, rfl⟩ | exact ⟨_, _, _, _, 4, rfl, rfl, rfl, rfl⟩ | exact ⟨_, _, _, _, 5, rfl, rfl, rfl, rfl⟩ | exact ⟨_, _, _, _, 6, rfl, rfl, rfl, rfl⟩ | exact ⟨_, _, _, _, 7, rfl, rfl, rfl, rfl⟩ | exact ⟨_, _, _, _, 8, rfl, rfl, rfl, rfl⟩ | exact ⟨_, _, _, _, 9, rfl, rfl, rfl, rfl⟩ | exact ⟨_, _, _, _, 10, rfl, rfl, rfl, rfl⟩ | exact ⟨_, _, _, _, 11, rfl, rfl, rfl, rfl⟩ | exact ⟨_, _, _, _, 12, rfl, rfl, rfl, rfl⟩ | exact ⟨_, _, _, _, 13, rfl, rfl, rfl, rfl⟩ | exact ⟨_, _, _, _, 14, rfl, rfl, rfl, rfl⟩ | exact ⟨_, _, _, _, 15, rfl, rfl, rfl, rfl⟩ | exact ⟨_, _, _, _, 16, rfl, rfl, rfl, rfl⟩ | exact ⟨_, _, _, _, 17, rfl, rfl, rfl, rfl⟩ | exact ⟨_, _, _, _, 18, rfl, rfl, rfl, rfl⟩ | exact ⟨_, _, _, _, 19, rfl, rfl, rfl, rfl⟩ | exact ⟨_, _, _, _, 20, rfl, rfl, rfl, rfl⟩ | exact ⟨_, _, _, _, 21, rfl, rfl, rfl, rfl⟩ | exact ⟨_, _, _, _, 22, rfl, rfl, rfl, rfl⟩ | exact ⟨_, _, _, _, 23, rfl, rfl, rfl, rfl⟩), rfl, trivial⟩ pk_ ⟨rfl, rfl⟩)
end Go.Proofs.YthhfoppaaehepaaGreatDoor.Sl
namespace Go.Proofs.YthhfoppaaehepaaGreatDoor.Sl
open Go Go.RowKit Go.Proofs
set_option linter.unusedVariables false
set_option linter.unusedSimpArgs false
attribute [local irreducible] CW Tri OW
set_option maxRecDepth 10000
@[reducible] def pk64 : List (Nat × Plan) := []
@[reducible] def pk21 : List (Nat × Plan) := []
/-- A stalled service goes on. -/
def resI (st : Bool) (i j : Nat) (v : Bool) : Nat := if st && v then nxI i j else i
theorem resume64 (β : Base) (s : Nat) (on st : Bool) {i j : Nat} (p : Int) (hi : i < 10) (hj : j < 10) (v : Bool) : Tri Tryz.prog β 64 [.pointer (some ⟨s, 0, none⟩), .bool v] [pt s (itC on st i j p)]
    (fun u L => u = .tuple #[] ∧ L = [pt s (itC on false (resI st i j v) j p)]) := by
  refine Tri.intro tt_ok Tryz.func64 rfl rfl Tryz.ntmps64 rfl fun F => ?_
  unfold resI
  (refine G tt_ok pk64 ?_; repeat (refine G1 tt_ok pk64 ?_; intro _))
  cases st with
  | false =>
    (refine G tt_ok pk64 ?_; repeat (refine G1 tt_ok pk64 ?_; intro _))
    exact fin_normal (vs := []) rfl pk_ ⟨rfl, rfl⟩
  | true =>
    (refine G tt_ok pk64 ?_; repeat (refine G1 tt_ok pk64 ?_; intro _))
    cases v with
    | false =>
      (refine G tt_ok pk64 ?_; repeat (refine G1 tt_ok pk64 ?_; intro _))
      exact fin_normal (vs := []) rfl pk_ ⟨rfl, rfl⟩
    | true =>
      (refine G tt_ok pk64 ?_; repeat (refine G1 tt_ok pk64 ?_; intro _))
      refine ke rfl rfl (pass19 β s on true p hi hj) ?_
      (refine G tt_ok pk64 ?_; repeat (refine G1 tt_ok pk64 ?_; intro _))
      exact fin_normal (vs := []) rfl pk_ ⟨rfl, rfl⟩
/-- As many commands are carried out as there are, r at most: how many, what is told. -/
def runV (p : Int) (on : Bool) (j : Nat) : Nat → Nat → IW → IW × Nat × Int
  | 0, n, x => (x, n, 0)
  | r + 1, n, x => if (stepV p on j x).2.2 = 170 then ((stepV p on j x).1, n, 0) else if (stepV p on j x).2.2 ≠ 0 then ((stepV p on j x).1, n, (stepV p on j x).2.2) else runV p on j r (n + 1) (stepV p on j x).1
theorem runV_s (p : Int) (on : Bool) (j r n : Nat) (x : IW) : runV p on j (r + 1) n x = if (stepV p on j x).2.2 = 170 then ((stepV p on j x).1, n, 0) else if (stepV p on j x).2.2 ≠ 0 then ((stepV p on j x).1, n, (stepV p on j x).2.2) else runV p on j r (n + 1) (stepV p on j x).1 := rfl
set_option maxHeartbeats 8000000 in
theorem run21 (β : Base) (s m g : Nat) {ps : List Nat} {A : Atom} {q : Option Addr} (cp : Nat) (hS : TsOk β A q ps) {p : Int} (hp : p = 0 ∨ p = 32) {x : IW} (hx : x.ok) (on : Bool) {j : Nat} (hj : j < 10) {N : Nat} (hN : N ≤ 1000000) :
    Tri Tryz.prog β 21 [.pointer (some ⟨s, 0, none⟩), .pointer (some ⟨m, 0, none⟩), .slice q 3 cp, .int .i64 N] (pt s (itC on x.st x.i j p) :: A :: swA m g ps x.w) (fun u L => u = .tuple #[.int .i64 (runV p on j N 0 x).2.1, .int .i64 (runV p on j N 0 x).2.2] ∧
      L = pt s (itC on (runV p on j N 0 x).1.st (runV p on j N 0 x).1.i j p) :: A :: swA m g ps (runV p on j N 0 x).1.w) := by
  refine Tri.intro tt_ok Tryz.func21 rfl rfl Tryz.ntmps21 rfl fun F => ?_
  have hm : (if (0 : Int) < (N : Int) then (N : Int) else 0) = (N : Int) := by split <;> omega
  (refine G tt_ok pk21 ?_; repeat (refine G1 tt_ok pk21 ?_; intro _))
  rw [hm]
  (refine G tt_ok pk21 ?_; repeat (refine G1 tt_ok pk21 ?_; intro _))
  refine CW.loop (α := Nat × IW) (fun y => y.1 ≤ N ∧ y.2.ok ∧ runV p on j (N - y.1) y.1 y.2 = runV p on j N 0 x)
    (fun y => [(15, .int .i64 y.1), (14, .int .i64 N), (0, .pointer (some ⟨s, 0, none⟩)), (1, .pointer (some ⟨m, 0, none⟩)), (2, .slice q 3 cp), (3, .int .i64 N), (8, .int .i64 0), (9, .int .i64 0)])
    (fun y => pt s (itC on y.2.st y.2.i j p) :: A :: swA m g ps y.2.w) (fun y => N - y.1) (0, x) ⟨by simp, hx, by simp⟩ ⟨rfl, rfl, rfl, rfl, rfl, rfl, rfl, rfl, trivial⟩ pk_ ?_
  rintro ⟨n, y⟩ ⟨hn, hy, hE⟩
  simp only at hn hy hE ⊢
  (refine G tt_ok pk21 ?_; repeat (refine G1 tt_ok pk21 ?_; intro _))
  by_cases hlt : n < N
  · rw [decide_eq_true (show (n : Int) < N by omega)]
    have hwr : IntKind.i64.wrap ((n : Int) + 1) = ((n + 1 : Nat) : Int) := by rw [wrap_i64]; split <;> omega
    obtain ⟨r, hr⟩ : ∃ r, N - n = r + 1 := ⟨N - n - 1, by omega⟩
    rw [hr, runV_s] at hE
    have hok := stepV_ok (p := p) (on := on) (j := j) hy
    (refine G tt_ok pk21 ?_; repeat (refine G1 tt_ok pk21 ?_; intro _))
    refine ke rfl rfl (step22 β s m g cp hS hp hy on hj) ?_
    generalize stepV p on j y = z at hE hok ⊢
    obtain ⟨z, c, e⟩ := z
    simp only at hE hok ⊢
    (refine G tt_ok pk21 ?_; repeat (refine G1 tt_ok pk21 ?_; intro _))
    by_cases h1 : e = 170
    · subst h1
      rw [if_pos rfl] at hE
      rw [← hE]
      (refine G tt_ok pk21 ?_; repeat (refine G1 tt_ok pk21 ?_; intro _))
      exact CW.ret (fin_ret rfl pk_ ⟨rfl, rfl⟩)
    · rw [if_neg h1] at hE
      rw [show (e == 170) = false by simp [h1]]
      (refine G tt_ok pk21 ?_; repeat (refine G1 tt_ok pk21 ?_; intro _))
      by_cases he : e = 0
      · subst he
        rw [if_neg (by simp)] at hE
        (refine G tt_ok pk21 ?_; repeat (refine G1 tt_ok pk21 ?_; intro _))
        refine ⟨(n + 1, z), ⟨by simp; omega, hok, ?_⟩, by simp; omega, ⟨by rw [← hwr]; rfl, rfl, rfl, rfl, rfl, rfl, rfl, rfl, trivial⟩, pk_⟩
        simp only
        rw [show N - (n + 1) = r by omega]
        exact hE
      · rw [if_pos he] at hE
        rw [← hE, show (e != 0) = true by simp [he]]
        (refine G tt_ok pk21 ?_; repeat (refine G1 tt_ok pk21 ?_; intro _))
        exact CW.ret (fin_ret rfl pk_ ⟨rfl, rfl⟩)
  · rw [decide_eq_false (show ¬ (n : Int) < N by omega)]
    (refine G tt_ok pk21 ?_; repeat (refine G1 tt_ok pk21 ?_; intro _))
    refine CW.exit ?_
    (refine G tt_ok pk21 ?_; repeat (refine G1 tt_ok pk21 ?_; intro _))
    rw [hm]
    (refine G tt_ok pk21 ?_; repeat (refine G1 tt_ok pk21 ?_; intro _))
    rw [show N - n = 0 by omega] at hE
    have hE2 : (y, n, 0) = runV p on j N 0 x := by rw [← hE]; rfl
    rw [← hE2]
    have hnN : n = N := by omega
    rw [hnN]
    exact CW.ret (fin_ret rfl pk_ ⟨rfl, rfl⟩)
end Go.Proofs.YthhfoppaaehepaaGreatDoor.Sl
namespace Go.Proofs.YthhfoppaaehepaaGreatDoor.Sl
open Go Go.RowKit Go.Proofs
set_option linter.unusedVariables false
set_option linter.unusedSimpArgs false
attribute [local irreducible] CW Tri OW
set_option maxRecDepth 10000
@[reducible] def pk177 : List (Nat × Plan) := []
@[reducible] def pk175 : List (Nat × Plan) := []
@[reducible] def pk159 : List (Nat × Plan) := []
@[reducible] def pk126 : List (Nat × Plan) := []
/-- The table of the numbers of zeros. -/
def tzT : List Nat := [0, 1, 56, 2, 57, 49, 28, 3, 61, 58, 42, 50, 38, 29, 17, 4, 62, 47, 59, 36, 45, 43, 51, 22, 53, 39, 33, 30, 24, 18, 12, 5, 63, 55, 48, 27, 60, 41, 37, 16, 46, 35, 44, 21, 52, 32, 23, 11, 54, 26, 40, 15, 34, 20, 31, 10, 25, 14, 19, 9, 13, 8, 7, 6]
def TabOk (β : Base) : Prop := 0 < β.heap.size ∧ ∃ t fz, β.heap[0]? = some (.cells (bys tzT).toArray t fz)
theorem tab_ent {β : Base} (h : TabOk β) (L : List Atom) : Ent L (pq β false 0 (bys tzT) :: L) := fun k s => by
  refine ⟨k, ⟨Hp.emp, k, ⟨rfl, h.1, ?_⟩, s, Hp.emp_disj _, (Hp.emp_add _).symm⟩, Hp.le_refl k⟩
  obtain ⟨t, fz, e⟩ := h.2
  exact ⟨t, fz, e⟩
def tzI (y : Nat) : Nat := (y &&& (2 ^ 64 - y)) * 285870213051353865 % 2 ^ 64 / 2 ^ 58
/-- The least number of a word. -/
def lowB (y : Nat) : Nat := tzT.getD (tzI y) 0
theorem getD_some {l : List Nat} {k : Nat} (h : k < l.length) : l[k]? = some (l.getD k 0) := by
  rw [List.getD_eq_getElem?_getD, List.getElem?_eq_getElem h, Option.getD_some]
theorem lowB_lt (y : Nat) : lowB y < 64 := by
  unfold lowB
  have h : ∀ x ∈ tzT, x < 64 := by decide
  rw [List.getD_eq_getElem?_getD]
  cases e : tzT[tzI y]? with
  | none => decide
  | some x => exact h x (List.mem_of_getElem? e)
theorem neg64 {y : Nat} (h0 : 0 < y) (hy : y < 2 ^ 64) : IntKind.u64.wrap (0 - (y : Int)) = ((2 ^ 64 - y : Nat) : Int) := by
  rw [wrap_u64]; have : (2 : Nat) ^ 64 = 18446744073709551616 := rfl; omega
theorem tzI_lt (y : Nat) : tzI y < 64 := by
  unfold tzI
  generalize (y &&& (2 ^ 64 - y)) * 285870213051353865 = z
  have h : z % 2 ^ 64 < 2 ^ 64 := Nat.mod_lt _ (by decide)
  have h2 : (2 : Nat) ^ 64 = 64 * 2 ^ 58 := by decide
  exact Nat.div_lt_of_lt_mul (by rw [Nat.mul_comm, ← h2]; exact h)
theorem tz_ix {y : Nat} (h0 : 0 < y) (hy : y < 2 ^ 64) : (IntKind.u64.wrap (IntKind.u64.wrap ((BitVec.ofInt IntKind.u64.bits (y : Int) &&& BitVec.ofInt IntKind.u64.bits (IntKind.u64.wrap (0 - (y : Int)))).toNat : Int) * 285870213051353865)).fdiv (2 ^ min 58 IntKind.u64.bits) = ((tzI y : Nat) : Int) := by
  rw [neg64 h0 hy, and64 hy (by omega), show (((y &&& (2 ^ 64 - y) : Nat) : Int) * 285870213051353865) = (((y &&& (2 ^ 64 - y)) * 285870213051353865 : Nat) : Int) by simp]
  rw [wrap_u64, show ((((y &&& (2 ^ 64 - y)) * 285870213051353865 : Nat) : Int) % 18446744073709551616) = (((y &&& (2 ^ 64 - y)) * 285870213051353865 % 2 ^ 64 : Nat) : Int) by simp]
  exact fdivN _ 58 (by omega)
set_option maxHeartbeats 4000000 in
theorem tz177 (β : Base) (hG : TabOk β) {y : Nat} (h0 : 0 < y) (hy : y < 2 ^ 64) : Tri Tryz.prog β 177 [.int .u64 y] [] (fun v L => v = .int .i64 (lowB y) ∧ L = []) := by
  refine Tri.intro tt_ok Tryz.func177 rfl rfl Tryz.ntmps177 rfl fun F => ?_
  (refine G tt_ok pk177 ?_; repeat (refine G1 tt_ok pk177 ?_; intro _))
  rw [show ((y : Int) == 0) = false by simp; omega]
  (refine G tt_ok pk177 ?_; repeat (refine G1 tt_ok pk177 ?_; intro _))
  rw [tz_ix h0 hy]
  have hr : tzT[tzI y]? = some (lowB y) := getD_some (show tzI y < tzT.length from tzI_lt y)
  have hlt := tzI_lt y
  have hl := lowB_lt y
  have hE := tab_ent hG
  generalize tzI y = n at hr hlt ⊢
  generalize lowB y = x at hr hl ⊢
  generalize tzT = Z at hr hE
  refine SQ.idx tt_ok rfl rfl n rfl hlt (o' := 0 + n * 1) rfl ?_
  refine SQ.ent _ (hE _) ?_
  (refine SQ.ldA tt_ok rfl rfl (by repeat (first | exact .h | exact .q | apply At.t)) (bys_at hr) ?_)
  (refine G tt_ok pk177 ?_; repeat (refine G1 tt_ok pk177 ?_; intro _))
  rw [wrap_id (x := ((x : Nat) : Int)) (by omega) (by omega)]
  exact CW.ret (fin_ret rfl pk_ ⟨rfl, rfl⟩)
theorem wC_one (a : Nat) : scal (wC a) = true := rfl
set_option maxHeartbeats 4000000 in
theorem clone175 (β : Base) (q : Option Addr) (c : Nat) {U : List Nat} (hU : setOk U) :
    Tri Tryz.prog β 175 [.slice q U.length c] [rowO q c U] (fun v L => ∃ q1 c1, v = .slice q1 U.length c1 ∧ L = [rowO q c U, rowA q1 U.length (U.flatMap wC)]) := by
  refine Tri.intro tt_ok Tryz.func175 rfl rfl Tryz.ntmps175 rfl fun F => ?_
  match U, hU with
  | [], _ =>
    unfold rowO
    refine CW.ent own_q (CW.pure_ fun hq => ?_)
    rcases hq with rfl | ⟨g, rfl⟩
    · (refine G tt_ok pk175 ?_; repeat (refine G1 tt_ok pk175 ?_; intro _))
      exact CW.ret (fin_ret rfl (A := [own 80 1 (.slice none 0 c) 0 [], rowA none 0 []]) (Ent.trans row_nil (Ent.perm (List.Perm.swap _ _ _))) ⟨none, 0, rfl, rfl⟩)
    · (refine G tt_ok pk175 ?_; repeat (refine G1 tt_ok pk175 ?_; intro _))
      refine SQ.builtO tt_ok rfl rfl rfl rfl (fun b => ⟨(by repeat (first | exact trivial | refine ⟨trivial, ?_⟩ | refine ⟨wk (by repeat (first | exact .h | exact .q | apply At.t)) (by rfl), ?_⟩)), ?_⟩)
      (refine G tt_ok pk175 ?_; repeat (refine G1 tt_ok pk175 ?_; intro _))
      refine SQ.appG tt_ok rfl rfl 0 rfl (A := own 80 1 (.slice (some ⟨g, 0, none⟩) 0 c) 0 []) (news := []) (sz := 1) slr_own (.t .h) rfl rfl rfl (by simp) (by decide) (by show (0 + 0) * 8 ≤ _; omega) (fun v' => ⟨(by repeat (first | exact trivial | refine ⟨trivial, ?_⟩ | refine ⟨wk (by repeat (first | exact .h | exact .q | apply At.t)) (by rfl), ?_⟩)), ?_⟩)
      refine SQ.ent _ (Ent.head (own_shape _ _ _ _ _)) ?_
      refine SQ.open_ fun x => ?_
      refine SQ.pure_ fun hv => ?_
      subst hv
      (refine G tt_ok pk175 ?_; repeat (refine G1 tt_ok pk175 ?_; intro _))
      exact CW.ret (fin_ret rfl (A := [own 80 1 (.slice (some ⟨g, 0, none⟩) 0 c) 0 [], rowA x.1 0 []]) (Ent.trans (Ent.head (L := [own 80 1 (.slice (some ⟨g, 0, none⟩) 0 c) 0 []]) own_row) (Ent.perm (List.Perm.swap _ _ _))) ⟨x.1, x.2, rfl, rfl⟩)
  | [y], _ =>
    unfold rowO
    refine CW.ent row_q (CW.pure_ fun hq => ?_)
    rcases hq with ⟨_, h⟩ | ⟨g, rfl⟩
    · exact absurd h (by simp)
    (refine G tt_ok pk175 ?_; repeat (refine G1 tt_ok pk175 ?_; intro _))
    refine SQ.builtO tt_ok rfl rfl rfl rfl (fun b => ⟨(by repeat (first | exact trivial | refine ⟨trivial, ?_⟩ | refine ⟨wk (by repeat (first | exact .h | exact .q | apply At.t)) (by rfl), ?_⟩)), ?_⟩)
    (refine G tt_ok pk175 ?_; repeat (refine G1 tt_ok pk175 ?_; intro _))
    refine SQ.appG tt_ok rfl rfl 0 rfl (A := rowA (some ⟨g, 0, none⟩) 1 (([y] : List Nat).flatMap wC)) (news := ([y] : List Nat).flatMap wC) (sz := 1) (slr_row rfl) (.t .h) rfl rfl rfl (one_flat wC_one [y]) (by show 0 + 1 ≤ _; omega) (by show (0 + 1) * 8 ≤ _; omega) (fun v' => ⟨(by repeat (first | exact trivial | refine ⟨trivial, ?_⟩ | refine ⟨wk (by repeat (first | exact .h | exact .q | apply At.t)) (by rfl), ?_⟩)), ?_⟩)
    refine SQ.ent _ (Ent.head (own_shape _ _ _ _ _)) ?_
    refine SQ.open_ fun x => ?_
    refine SQ.pure_ fun hv => ?_
    subst hv
    (refine G tt_ok pk175 ?_; repeat (refine G1 tt_ok pk175 ?_; intro _))
    exact CW.ret (fin_ret rfl (A := [rowA (some ⟨g, 0, none⟩) 1 (([y] : List Nat).flatMap wC), rowA x.1 1 (([y] : List Nat).flatMap wC)]) (Ent.trans (Ent.head (L := [rowA (some ⟨g, 0, none⟩) 1 (([y] : List Nat).flatMap wC)]) own_row) (Ent.perm (List.Perm.swap _ _ _))) ⟨x.1, x.2, rfl, rfl⟩)
set_option maxHeartbeats 4000000 in
theorem all126 (β : Base) (S : Nat) (q : Option Addr) (c : Nat) {U : List Nat} (hU : setOk U) :
    Tri Tryz.prog β 126 [.pointer (some ⟨S, 0, none⟩)] (setL S q c U) (fun v L => ∃ b1 b2 q1 c1, v = .func (.func 176) #[] #[.pointer (some ⟨b1, 0, none⟩), .pointer (some ⟨b2, 0, none⟩)] ∧
      L = [pt b1 [.slice q1 U.length c1], rowA q1 U.length (U.flatMap wC), pt b2 [.int .i64 0]] ++ setL S q c U) := by
  have h159 : Tri Tryz.prog β 159 [.pointer (some ⟨S, 0, none⟩), .int .i64 0] (setL S q c U) (fun v L => ∃ b1 b2 q1 c1, v = .func (.func 176) #[] #[.pointer (some ⟨b1, 0, none⟩), .pointer (some ⟨b2, 0, none⟩)] ∧
      L = [pt b1 [.slice q1 U.length c1], rowA q1 U.length (U.flatMap wC), pt b2 [.int .i64 0]] ++ setL S q c U) := by
    refine Tri.intro tt_ok Tryz.func159 rfl rfl Tryz.ntmps159 rfl fun F => ?_
    unfold setL
    (refine G tt_ok pk159 ?_; repeat (refine G1 tt_ok pk159 ?_; intro _))
    rename_i b2
    (refine ka rfl rfl (clone175 β q c hU) ?_; rintro _ _ ⟨q1, c1, rfl, rfl⟩; refine w_ ?_)
    (refine G tt_ok pk159 ?_; repeat (refine G1 tt_ok pk159 ?_; intro _))
    rename_i b1
    exact CW.ret (fin_ret rfl (A := [pt b1 [.slice q1 U.length c1], rowA q1 U.length (U.flatMap wC), pt b2 [.int .i64 0]] ++ [pt S [.slice q U.length c], rowO q c U]) pk_ ⟨b1, b2, q1, c1, rfl, rfl⟩)
  refine Tri.intro tt_ok Tryz.func126 rfl rfl Tryz.ntmps126 rfl fun F => ?_
  (refine G tt_ok pk126 ?_; repeat (refine G1 tt_ok pk126 ?_; intro _))
  (refine ka rfl rfl (h159) ?_; rintro _ _ ⟨b1, b2, q1, c1, rfl, rfl⟩; refine w_ ?_)
  (refine G tt_ok pk126 ?_; repeat (refine G1 tt_ok pk126 ?_; intro _))
  exact CW.ret (fin_ret rfl (A := [pt b1 [.slice q1 U.length c1], rowA q1 U.length (U.flatMap wC), pt b2 [.int .i64 0]] ++ setL S q c U) pk_ ⟨b1, b2, q1, c1, rfl, rfl⟩)
end Go.Proofs.YthhfoppaaehepaaGreatDoor.Sl
namespace Go.Proofs.YthhfoppaaehepaaGreatDoor.Sl
open Go Go.RowKit Go.Proofs
set_option linter.unusedVariables false
set_option linter.unusedSimpArgs false
attribute [local irreducible] CW Tri OW
set_option maxRecDepth 10000
@[reducible] def pk176 : List (Nat × Plan) := []
/-- The numbers of a word, rising. -/
def bitsN (y : Nat) : List Nat := if h : y = 0 then [] else lowB y :: bitsN (y &&& (y - 1))
termination_by y
decreasing_by have := @Nat.and_le_right y (y - 1); omega
theorem bitsN_0 : bitsN 0 = [] := by rw [bitsN]; simp
theorem bitsN_s {y : Nat} (h : y ≠ 0) : bitsN y = lowB y :: bitsN (y &&& (y - 1)) := by rw [bitsN]; simp [h]
theorem bitsN_lt : ∀ (n y : Nat), y ≤ n → ∀ x ∈ bitsN y, x < 64
  | 0, y, h => by
    obtain rfl : y = 0 := by omega
    rw [bitsN_0]; simp
  | n + 1, y, h => by
    by_cases h0 : y = 0
    · subst h0; rw [bitsN_0]; simp
    · rw [bitsN_s h0]
      intro x hx
      rcases List.mem_cons.1 hx with rfl | hx
      · exact lowB_lt y
      · exact bitsN_lt n _ (by have := @Nat.and_le_right y (y - 1); omega) x hx
def bitsU (U : List Nat) : List Int := match U with
  | [] => []
  | y :: _ => (bitsN y).map Int.ofNat
theorem bitsU_lt {U : List Nat} : ∀ x ∈ bitsU U, ∃ i : Nat, i < 64 ∧ x = (i : Int) := by
  intro x hx
  match U, hx with
  | y :: _, hx =>
    simp only [bitsU, List.mem_map] at hx
    obtain ⟨i, hi, rfl⟩ := hx
    exact ⟨i, bitsN_lt y y (Nat.le_refl _) i hi, rfl⟩
theorem and_pred {y : Nat} (h0 : y ≠ 0) (hy : y < 2 ^ 64) : IntKind.u64.wrap ((BitVec.ofInt IntKind.u64.bits (y : Int) &&& BitVec.ofInt IntKind.u64.bits (IntKind.u64.wrap ((y : Int) - 1))).toNat : Int) = ((y &&& (y - 1) : Nat) : Int) := by
  rw [show IntKind.u64.wrap ((y : Int) - 1) = ((y - 1 : Nat) : Int) by rw [wrap_u64]; have : (2 : Nat) ^ 64 = 18446744073709551616 := rfl; omega]
  exact and64 hy (by omega)
set_option maxHeartbeats 8000000 in
theorem iter176 (β : Base) (hG : TabOk β) (b1 b2 : Nat) (q : Option Addr) (c : Nat) {U : List Nat} (hU : setOk U) :
    Iter Tryz.prog β 176 [.pointer (some ⟨b1, 0, none⟩), .pointer (some ⟨b2, 0, none⟩)] [pt b1 [.slice q U.length c], rowA q U.length (U.flatMap wC), pt b2 [.int .i64 0]] iC (bitsU U) := by
  intro l J Jx hY
  refine Tri.intro tt_ok Tryz.func176 rfl rfl Tryz.ntmps176 rfl fun F => ?_
  (refine G tt_ok pk176 ?_; repeat (refine G1 tt_ok pk176 ?_; intro _))
  refine CW.loop (α := Nat) (fun k => k ≤ U.length) (fun k => [(9, .int .i64 k), (8, .int .i64 U.length), (7, .slice q U.length c), (0, .func (.yield l) #[] #[]), (1, .pointer (some ⟨b1, 0, none⟩)), (2, .pointer (some ⟨b2, 0, none⟩))])
    (fun k => [J (if k = 0 then [] else bitsU U), pt b1 [.slice q U.length c], rowA q U.length (U.flatMap wC), pt b2 [.int .i64 0]]) (fun k => U.length - k) 0 (by omega) ⟨rfl, rfl, rfl, rfl, rfl, rfl, trivial⟩ (by rw [if_pos rfl]; exact pk_) ?_
  intro k hk
  (refine G tt_ok pk176 ?_; repeat (refine G1 tt_ok pk176 ?_; intro _))
  match U, hU, k, hk with
  | [], _, 0, _ =>
    rw [if_pos rfl, decide_eq_false (show ¬ (((0 : Nat) : Int) < (([] : List Nat).length : Nat)) by simp)]
    (refine G tt_ok pk176 ?_; repeat (refine G1 tt_ok pk176 ?_; intro _))
    refine CW.exit ?_
    (refine G tt_ok pk176 ?_; repeat (refine G1 tt_ok pk176 ?_; intro _))
    exact fin_normal (vs := []) rfl (A := [J [], pt b1 [.slice q ([] : List Nat).length c], rowA q ([] : List Nat).length (([] : List Nat).flatMap wC), pt b2 [.int .i64 0]]) pk_ (.inl rfl)
  | [], _, k + 1, hk => exact absurd hk (by simp)
  | [y], _, 1, _ =>
    rw [if_neg (by simp), decide_eq_false (show ¬ (((1 : Nat) : Int) < (([y] : List Nat).length : Nat)) by simp)]
    (refine G tt_ok pk176 ?_; repeat (refine G1 tt_ok pk176 ?_; intro _))
    refine CW.exit ?_
    (refine G tt_ok pk176 ?_; repeat (refine G1 tt_ok pk176 ?_; intro _))
    exact fin_normal (vs := []) rfl (A := [J (bitsU [y]), pt b1 [.slice q ([y] : List Nat).length c], rowA q ([y] : List Nat).length (([y] : List Nat).flatMap wC), pt b2 [.int .i64 0]]) pk_ (.inl rfl)
  | [y], _, k + 2, hk => exact absurd hk (by simp)
  | [y], hU, 0, _ =>
    have hy : y < 2 ^ 64 := hU.2 y (by simp)
    rw [if_pos rfl, decide_eq_true (show (((0 : Nat) : Int) < (([y] : List Nat).length : Nat)) by simp)]
    (refine G tt_ok pk176 ?_; repeat (refine G1 tt_ok pk176 ?_; intro _))
    (refine SQ.idxR tt_ok rfl rfl (by repeat (first | exact .h | apply AtR.t)) (0) (rfl) (by show 0 < 1; omega) rfl ?_)
    (refine G tt_ok pk176 ?_; repeat (refine G1 tt_ok pk176 ?_; intro _))
    (refine SQ.ldR tt_ok rfl rfl (by repeat (first | exact .h | apply AtR.t)) (by show 0 < 1; omega) (fun X => rfl) ?_)
    (refine G tt_ok pk176 ?_; repeat (refine G1 tt_ok pk176 ?_; intro _))
    refine CW.loop (α := Nat × List Int) (fun x => x.1 < 2 ^ 64 ∧ x.2 ++ (bitsN x.1).map Int.ofNat = bitsU [y]) (fun x => [(5, .int .u64 x.1), (4, .int .i64 0), (9, .int .i64 ((0 : Nat) : Int)), (8, .int .i64 ([y] : List Nat).length), (7, .slice q ([y] : List Nat).length c), (0, .func (.yield l) #[] #[]), (1, .pointer (some ⟨b1, 0, none⟩)), (2, .pointer (some ⟨b2, 0, none⟩))])
      (fun x => [J x.2, pt b1 [.slice q ([y] : List Nat).length c], rowA q ([y] : List Nat).length (([y] : List Nat).flatMap wC), pt b2 [.int .i64 0]]) (fun x => x.1) (y, []) ⟨hy, rfl⟩ ⟨rfl, rfl, rfl, rfl, rfl, rfl, rfl, rfl, trivial⟩ pk_ ?_
    rintro ⟨z, pre⟩ ⟨hz, hE⟩
    simp only at hz hE ⊢
    (refine G tt_ok pk176 ?_; repeat (refine G1 tt_ok pk176 ?_; intro _))
    by_cases h0 : z = 0
    · subst h0
      rw [bitsN_0, List.map_nil, List.append_nil] at hE
      subst hE
      rw [show ((((0 : Nat) : Int)) != 0) = false from rfl]
      (refine G tt_ok pk176 ?_; repeat (refine G1 tt_ok pk176 ?_; intro _))
      refine CW.exit ?_
      (refine G tt_ok pk176 ?_; repeat (refine G1 tt_ok pk176 ?_; intro _))
      exact ⟨1, by simp, by simp, ⟨rfl, rfl, rfl, rfl, rfl, rfl, trivial⟩, by rw [if_neg (by simp)]; exact pk_⟩
    · rw [show ((z : Int) != 0) = true by simp; omega]
      (refine G tt_ok pk176 ?_; repeat (refine G1 tt_ok pk176 ?_; intro _))
      rw [show IntKind.i64.wrap (64 * 0) = 0 from rfl]
      refine ke rfl rfl (tz177 β hG (y := z) (by omega) hz) ?_
      (refine G tt_ok pk176 ?_; repeat (refine G1 tt_ok pk176 ?_; intro _))
      have hb := lowB_lt z
      rw [show IntKind.i64.wrap (0 + ((lowB z : Nat) : Int)) = ((lowB z : Nat) : Int) by rw [wrap_id (by omega) (by omega)]; omega]
      rw [and_pred h0 hz]
      rw [bitsN_s h0, List.map_cons] at hE
      have hand := @Nat.and_le_right z (z - 1)
      (refine G tt_ok pk176 ?_; repeat (refine G1 tt_ok pk176 ?_; intro _))
      rw [decide_eq_true (show ((lowB z : Nat) : Int) ≥ 0 by omega)]
      (refine G tt_ok pk176 ?_; repeat (refine G1 tt_ok pk176 ?_; intro _))
      have hpre : (pre ++ [((lowB z : Nat) : Int)]) <+: bitsU [y] := ⟨(bitsN (z &&& (z - 1))).map Int.ofNat, by rw [← hE]; simp⟩
      (refine SQ.yieldA rfl rfl (hY pre _ hpre) (by repeat (first | exact .n | exact Rm.h | exact Rm.of own_row | exact Rm.of row_close0 | apply Tk.c | apply Rm.t)) ?_; rintro _ _ (⟨rfl, rfl⟩ | ⟨rfl, rfl⟩) <;> refine w_ ?_)
      · (refine G tt_ok pk176 ?_; repeat (refine G1 tt_ok pk176 ?_; intro _))
        exact ⟨(z &&& (z - 1), pre ++ [((lowB z : Nat) : Int)]), ⟨by simp only; omega, by rw [← hE]; simp⟩, by simp only; omega, ⟨rfl, rfl, rfl, rfl, rfl, rfl, rfl, rfl, trivial⟩, pk_⟩
      · (refine G tt_ok pk176 ?_; repeat (refine G1 tt_ok pk176 ?_; intro _))
        exact CW.ret (fin_ret (vs := []) rfl (A := [Jx (pre ++ [((lowB z : Nat) : Int)]), pt b1 [.slice q ([y] : List Nat).length c], rowA q ([y] : List Nat).length (([y] : List Nat).flatMap wC), pt b2 [.int .i64 0]]) pk_ (.inr ⟨pre ++ [((lowB z : Nat) : Int)], rfl⟩))
end Go.Proofs.YthhfoppaaehepaaGreatDoor.Sl
namespace Go.Proofs.YthhfoppaaehepaaGreatDoor.Sl
open Go Go.RowKit Go.Proofs
set_option linter.unusedVariables false
set_option linter.unusedSimpArgs false
attribute [local irreducible] CW Tri OW
set_option maxRecDepth 10000
@[reducible] def pk70 : List (Nat × Plan) := []
def disS (k : Nat) (s : List Nat × List Nat) (x : Int) : List Nat × List Nat := (takeS s.1 x.toNat, stP s.2 k x.toNat true)
/-- A collection is disabled: what waits is written. -/
def disV (k : Nat) (U B : List Nat) : List Nat × List Nat := (bitsU U).foldl (disS k) (U, B)
theorem disS_ok {k : Nat} (hk : k < 3) : ∀ {xs : List Int} {s : List Nat × List Nat}, (∀ x ∈ xs, ∃ i : Nat, i < 64 ∧ x = (i : Int)) → setOk s.1 → s.2.length = 4096 → byOk s.2 → setOk (xs.foldl (disS k) s).1 ∧ (xs.foldl (disS k) s).2.length = 4096 ∧ byOk (xs.foldl (disS k) s).2
  | [], s, _, h1, h2, h3 => ⟨h1, h2, h3⟩
  | x :: xs, s, h, h1, h2, h3 => by
    obtain ⟨i, hi, rfl⟩ := h x (by simp)
    exact disS_ok hk (s := disS k s i) (fun y hy => h y (by simp [hy])) (takeS_ok h1 _) (stP_len h2 hk (by simpa using hi) true) (stP_ok h3 _ _ _)
set_option maxHeartbeats 8000000 in
theorem disable70 (β : Base) (hG : TabOk β) (p r S m g : Nat) (q : Option Addr) (c : Nat) {k : Nat} (hk : k < 3) (on : Bool) {U : List Nat} (hU : setOk U) (B : List Nat) (hB : B.length = 4096) (hb : byOk B) :
    Tri Tryz.prog β 70 [.pointer (some ⟨p, 0, none⟩), .pointer (some ⟨m, 0, none⟩)] (colA p r S q c k on U ++ memA m g B)
      (fun u L => u = .tuple #[] ∧ L = colA p r S q c k false (disV k U B).1 ++ memA m g (disV k U B).2) := by
  refine Tri.intro tt_ok Tryz.func70 rfl rfl Tryz.ntmps70 rfl fun F => ?_
  have e0 : ∀ on U, colA p r S q c k on U = pt p (lpC k on r S) :: setL S q c U := fun _ _ => rfl
  rw [e0]
  (refine G tt_ok pk70 ?_; repeat (refine G1 tt_ok pk70 ?_; intro _))
  rename_i c1 c2
  (refine ka rfl rfl (all126 β S q c hU) ?_; rintro _ _ ⟨b1, b2, q1, n1, rfl, rfl⟩; refine w_ ?_)
  (refine G tt_ok pk70 ?_; repeat (refine G1 tt_ok pk70 ?_; intro _))
  have hI := iter176 β hG b1 b2 q1 n1 hU
  refine CW.rangeA rfl hI (by repeat (first | exact .n | exact Rm.h | apply Tk.c | apply Rm.t)) (fun pre => [pt c1 [.pointer (some ⟨p, 0, none⟩)], pt c2 [.pointer (some ⟨m, 0, none⟩)], pt p (lpC k on r S)] ++ (setL S q c (pre.foldl (disS k) (U, B)).1 ++ memA m g (pre.foldl (disS k) (U, B)).2))
    (fun _ _ => False) (by unfold setL memA; exact pk_) (fun _ => rfl) (by decide) ?_ ?_ (fun _ _ h => h.elim)
  · intro pre x hpre lp fm rec1
    have hok := disS_ok hk (s := (U, B)) (fun y hy => bitsU_lt y (hpre.subset (by simp [hy]))) hU hB hb (xs := pre)
    obtain ⟨i, hi, rfl⟩ := bitsU_lt x (hpre.subset (by simp))
    have e1 : (pre ++ [(i : Int)]).foldl (disS k) (U, B) = disS k (pre.foldl (disS k) (U, B)) i := by rw [List.foldl_append]; rfl
    simp only [e1]
    generalize pre.foldl (disS k) (U, B) = s at hok ⊢
    obtain ⟨U1, B1⟩ := s
    have e3 : disS k (U1, B1) (i : Int) = (takeS U1 i, stP B1 k i true) := rfl
    simp only [e3] at hok ⊢
    (refine G tt_ok pk70 ?_; repeat (refine G1 tt_ok pk70 ?_; intro _))
    intro fm2 rec2
    (refine G tt_ok pk70 ?_; repeat (refine G1 tt_ok pk70 ?_; intro _))
    refine ke rfl rfl (take127 β S q c hok.1 hi) ?_
    (refine G tt_ok pk70 ?_; repeat (refine G1 tt_ok pk70 ?_; intro _))
    refine ke rfl rfl (store106 β p m g hk on r S B1 hok.2.1 hok.2.2 hi true) ?_
    (refine G tt_ok pk70 ?_; repeat (refine G1 tt_ok pk70 ?_; intro _))
    unfold setL memA
    exact pk_
  · (refine G tt_ok pk70 ?_; repeat (refine G1 tt_ok pk70 ?_; intro _))
    have e2 : (bitsU U).foldl (disS k) (U, B) = disV k U B := rfl
    rw [e2]
    refine fin_normal (vs := []) rfl (A := colA p r S q c k false (disV k U B).1 ++ memA m g (disV k U B).2) (by rw [e0]; unfold setL memA; exact pk_) ⟨rfl, rfl⟩
/-- A collection is disabled. -/
def SW.dis (w : SW) (k : Nat) : SW := ⟨(disV k (w.at_ k).U w.B).2, w.cs.set k ⟨false, (disV k (w.at_ k).U w.B).1, (w.at_ k).C⟩⟩
theorem SW.dis_ok {w : SW} (hw : w.ok) {k : Nat} (hk : k < 3) : (w.dis k).ok := by
  obtain ⟨hB, hb, hc⟩ := hw
  obtain ⟨hU, hC⟩ := hc.2 k hk
  obtain ⟨h1, h2, h3⟩ := disS_ok hk (xs := bitsU (w.at_ k).U) (s := ((w.at_ k).U, w.B)) bitsU_lt hU hB hb
  exact ⟨h2, h3, hc.set hk h1 hC⟩
set_option maxHeartbeats 4000000 in
theorem disable70C (β : Base) (hG : TabOk β) (m g : Nat) (ps : List Nat) {w : SW} (hw : w.ok) {k : Nat} (hk : k < 3) :
    Tri Tryz.prog β 70 [cpV ps k, .pointer (some ⟨m, 0, none⟩)] (swA m g ps w) (fun u L => u = .tuple #[] ∧ L = swA m g ps (w.dis k)) := by
  obtain ⟨hB, hb, hc⟩ := hw
  obtain ⟨hU, hC⟩ := hc.2 k hk
  have T := fun p r S q c => disable70 β hG p r S m g q c hk (w.at_ k).on hU w.B hB hb
  refine Tri.colsE (fun p => [.pointer (some ⟨p, 0, none⟩), .pointer (some ⟨m, 0, none⟩)]) (T 0 0 0 none 0).en hk ?_
  intro p r S q c
  unfold colA setL memA
  have T1 := T p r S q c
  unfold colA setL memA at T1
  refine Tri.post (T1.fr (F := [pt r (bys (w.at_ k).C)])) ?_
  rintro v L ⟨A', ⟨rfl, rfl⟩, rfl⟩
  exact ⟨_, pk_, q, c, rfl, rfl⟩
end Go.Proofs.YthhfoppaaehepaaGreatDoor.Sl
namespace Go.Proofs.YthhfoppaaehepaaGreatDoor.Sl
open Go Go.RowKit Go.Proofs
set_option linter.unusedVariables false
set_option linter.unusedSimpArgs false
attribute [local irreducible] CW Tri OW
set_option maxRecDepth 10000
theorem BQ.abs {P : Program} {β : Base} {rnd : Option (Nat × Loop)} {N : Nat} {T : TT} {ops : Array Oper} {K : Env → List Atom → Prop} {F : Nat} {l0 : Array Bool} {e0 : Env} {L0 : List Atom}
    (h : ∀ B : Nat → Array Bool → Env → List Atom → Prop, (∀ f listed env L (l' : List Nat), (Region.ready .any ops listed == l' && !l'.isEmpty) = true → AllL (fun i => ∃ o, ops[i]? = some o ∧ noSD o = true ∧ SQ P β rnd N T ops (B f (listed.setIfInBounds i true)) [⟨i, o, 1, []⟩] [] env L) l' → B (f + 1) listed env L) →
      (∀ listed env L, Region.ready .any ops listed = [] ∧ K env L → B 0 listed env L) → B F l0 e0 L0) : BQ P β rnd N T ops K F l0 e0 L0 :=
  h (BQ P β rnd N T ops K) (fun f listed env L l' hl ha => by
    simp only [Bool.and_eq_true, beq_iff_eq] at hl
    obtain ⟨h1, h2⟩ := hl
    refine ⟨?_, fun i hi => all_of l' h1 ha i hi⟩
    rw [h1]
    intro e
    subst e
    simp at h2) (fun _ _ _ h => h)
theorem dp_ {P : Program} {β : Base} {rnd : Option (Nat × Loop)} {N : Nat} {T : TT} {ops : Array Oper} {B : Nat → Array Bool → Env → List Atom → Prop} {f : Nat} {l l' : Array Bool} {obs : Obs} {env E : Env} {L A : List Atom} (hb : B f l' E A) (hl : l = l' := by decide +kernel)
    (hc : covers env E := by repeat (first | exact trivial | refine ⟨rfl, ?_⟩)) (hA : Ent L A := by (try unfold setL); exact pk_) : SQ P β rnd N T ops (B f l) [] obs env L :=
  SQ.env_ E hc.look (SQ.ent _ hA (SQ.nil (by rw [hl]; exact hb)))
theorem made_bys (n : Nat) : (madeCells ti5.zero.cells (n * ti5.size)).toList = bys (List.replicate n 0) := by
  have := made_flat_of (enc := byC) (a := 0) ti5.zero.cells rfl (by decide) n
  exact this
set_option maxHeartbeats 8000000 in
theorem new57 (β : Base) (m g : Nat) {k : Nat} (hk : k < 3) (B : List Nat) (hB : B.length = 4096) :
    Tri Tryz.prog β 57 [.pointer (some ⟨m, 0, none⟩), .int .i64 ((20 + 16 * k : Nat) : Int), .agg #[.int .i64 480, .int .i64 64], .agg #[.int .i64 ((560 + 16 * k : Nat) : Int), .int .i64 8]] (memA m g B)
      (fun v L => ∃ p r S, v = .tuple #[.pointer (some ⟨p, 0, none⟩), .int .i64 0] ∧ L = pt p (lpC k false r S) :: pt r (bys (List.replicate (20 + 16 * k) 0)) :: (setL S none 0 [] ++ memA m g B)) := by
  refine Tri.intro tt_ok Tryz.func57 rfl rfl Tryz.ntmps57 rfl fun F => ?_
  (refine G tt_ok [] ?_; repeat (refine G1 tt_ok [] ?_; intro _))
  rename_i c6 c7
  rw [decide_eq_false (show ¬ ((20 + 16 * k : Nat) : Int) < 1 by omega)]
  (refine G tt_ok [] ?_; repeat (refine G1 tt_ok [] ?_; intro _))
  rw [decide_eq_false (show ¬ ((20 + 16 * k : Nat) : Int) > 512 by omega)]
  (refine G tt_ok [] ?_; repeat (refine G1 tt_ok [] ?_; intro _))
  refine ke rfl rfl (holds29 β m (some ⟨g, 0, none⟩) (n := B.length) B.length (by omega) 480 64) ?_
  rw [show holdsV B.length 480 64 = true by rw [hB]; rfl]
  (refine G tt_ok [] ?_; repeat (refine G1 tt_ok [] ?_; intro _))
  refine ke rfl rfl (holds29 β m (some ⟨g, 0, none⟩) (n := B.length) B.length (by omega) ((560 + 16 * k : Nat) : Int) 8) ?_
  rw [show holdsV B.length ((560 + 16 * k : Nat) : Int) 8 = true by rw [hB]; unfold holdsV; simp; omega]
  (refine G tt_ok [] ?_; repeat (refine G1 tt_ok [] ?_; intro _))
  rw [decide_eq_false (show ¬ (64 : Int) < ((20 + 16 * k : Nat) : Int) by omega)]
  (refine G tt_ok [] ?_; repeat (refine G1 tt_ok [] ?_; intro _))
  rw [show IntKind.i64.wrap (((20 + 16 * k : Nat) : Int) + 7) = ((27 + 16 * k : Nat) : Int) by rw [wrap_id (by omega) (by omega)]; omega]
  (refine G tt_ok [] ?_; repeat (refine G1 tt_ok [] ?_; intro _))
  rw [show IntKind.i64.wrap (((27 + 16 * k : Nat) : Int).tdiv 8) = (((27 + 16 * k) / 8 : Nat) : Int) by rw [Int.tdiv_eq_ediv_of_nonneg (by omega), wrap_id (by omega) (by omega)]; omega]
  rw [decide_eq_false (show ¬ (8 : Int) < (((27 + 16 * k) / 8 : Nat) : Int) by omega)]
  (refine G tt_ok [] ?_; repeat (refine G1 tt_ok [] ?_; intro _))
  refine CW.regionB tt_ok (by kernel_rfl) (α := Nat × Nat × Nat) (fun y => [(8, .pointer (some ⟨y.2.2, 0, none⟩)), (9, .int .i64 0)]) (fun y => pt y.2.2 (lpC k false y.1 y.2.1) :: pt y.1 (bys (List.replicate (20 + 16 * k) 0)) :: (setL y.2.1 none 0 [] ++ memA m g B)) ?_ (fun y => ?_)
  rotate_left
  · (refine G tt_ok [] ?_; repeat (refine G1 tt_ok [] ?_; intro _))
    exact CW.ret (fin_ret rfl (A := pt y.2.2 (lpC k false y.1 y.2.1) :: pt y.1 (bys (List.replicate (20 + 16 * k) 0)) :: (setL y.2.1 none 0 [] ++ memA m g B)) pk_ ⟨y.2.2, y.1, y.2.1, rfl, rfl⟩)
  refine BQ.abs fun B1 hs hz => ?_
  have b012345 : ∀ x : Nat × Nat, B1 4 #[true, true, true, true, true, true, false, false, false, false] ([(40, .int .i64 ((20 + 16 * k : Nat) : Int)), (41, .agg #[.int .i64 480, .int .i64 64]), (42, .agg #[.int .i64 ((560 + 16 * k : Nat) : Int), .int .i64 8]), (43, .int .i64 ((20 + 16 * k : Nat) : Int)), (44, .slice (some ⟨x.1, 0, none⟩) (20 + 16 * k) (20 + 16 * k)), (45, .pointer (some ⟨x.2, 0, none⟩))] ++ [(1, .int .i64 ((20 + 16 * k : Nat) : Int)), (6, .pointer (some ⟨c6, 0, none⟩)), (7, .pointer (some ⟨c7, 0, none⟩))]) ([pt x.1 (madeCells ti5.zero.cells ((20 + 16 * k) * ti5.size)).toList] ++ (setL x.2 none 0 [] ++ ([pt c6 [.int .i64 480, .int .i64 64], pt c7 [.int .i64 ((560 + 16 * k : Nat) : Int), .int .i64 8], pt m [.slice (some ⟨g, 0, none⟩) B.length B.length], pt g (bys B)]))) := fun x => by
    refine hs _ _ _ _ [6] (by decide +kernel) ⟨⟨_, rfl, rfl, ?_⟩, trivial⟩
    refine SQ.pures1 tt_ok rfl ?_
    refine SQ.nil ?_
    refine hs _ _ _ _ [7] (by decide +kernel) ⟨⟨_, rfl, rfl, ?_⟩, trivial⟩
    refine SQ.new _ _ rfl rfl fun p => ?_
    refine SQ.nil ?_
    refine hs _ _ _ _ [8] (by decide +kernel) ⟨⟨_, rfl, rfl, ?_⟩, trivial⟩
    refine SQ.pures1 tt_ok rfl ?_
    refine SQ.nil ?_
    refine hs _ _ _ _ [9] (by decide +kernel) ⟨⟨_, rfl, rfl, ?_⟩, trivial⟩
    refine SQ.pures1 tt_ok rfl ?_
    refine SQ.nil ?_
    exact hz _ _ _ ⟨by decide +kernel, (x.1, x.2, p), ⟨rfl, rfl, trivial⟩, by unfold setL memA; rw [← made_bys]; exact pk_⟩
  have b01234 : ∀ x : Nat × Nat, B1 5 #[true, true, true, true, true, false, false, false, false, false] ([(40, .int .i64 ((20 + 16 * k : Nat) : Int)), (41, .agg #[.int .i64 480, .int .i64 64]), (42, .agg #[.int .i64 ((560 + 16 * k : Nat) : Int), .int .i64 8]), (43, .int .i64 ((20 + 16 * k : Nat) : Int)), (44, .slice (some ⟨x.1, 0, none⟩) (20 + 16 * k) (20 + 16 * k))] ++ [(1, .int .i64 ((20 + 16 * k : Nat) : Int)), (6, .pointer (some ⟨c6, 0, none⟩)), (7, .pointer (some ⟨c7, 0, none⟩))]) ([pt x.1 (madeCells ti5.zero.cells ((20 + 16 * k) * ti5.size)).toList] ++ ([pt c6 [.int .i64 480, .int .i64 64], pt c7 [.int .i64 ((560 + 16 * k : Nat) : Int), .int .i64 8], pt m [.slice (some ⟨g, 0, none⟩) B.length B.length], pt g (bys B)])) := fun x => by
    refine hs _ _ _ _ [5] (by decide +kernel) ⟨⟨_, rfl, rfl, ?_⟩, trivial⟩
    · (refine SQ.callA rfl rfl (of104 β) .n ?_; rintro _ _ ⟨S1, rfl, rfl⟩; refine ⟨trivial, ?_⟩); exact dp_ (b012345 (x.1, S1))
  have b01235 : ∀ x : Nat × Nat, B1 5 #[true, true, true, true, false, true, false, false, false, false] ([(40, .int .i64 ((20 + 16 * k : Nat) : Int)), (41, .agg #[.int .i64 480, .int .i64 64]), (42, .agg #[.int .i64 ((560 + 16 * k : Nat) : Int), .int .i64 8]), (43, .int .i64 ((20 + 16 * k : Nat) : Int)), (45, .pointer (some ⟨x.2, 0, none⟩))] ++ [(1, .int .i64 ((20 + 16 * k : Nat) : Int)), (6, .pointer (some ⟨c6, 0, none⟩)), (7, .pointer (some ⟨c7, 0, none⟩))]) (setL x.2 none 0 [] ++ ([pt c6 [.int .i64 480, .int .i64 64], pt c7 [.int .i64 ((560 + 16 * k : Nat) : Int), .int .i64 8], pt m [.slice (some ⟨g, 0, none⟩) B.length B.length], pt g (bys B)])) := fun x => by
    refine hs _ _ _ _ [4] (by decide +kernel) ⟨⟨_, rfl, rfl, ?_⟩, trivial⟩
    · refine SQ.make tt_ok rfl rfl (20 + 16 * k) rfl rfl (by show (20 + 16 * k) * 1 ≤ _; omega) (by show 1 * (20 + 16 * k) ≤ _; omega) (by omega) (fun g1 => ⟨trivial, ?_⟩); exact dp_ (b012345 (g1, x.2))
  have b01345 : ∀ x : Nat × Nat, B1 5 #[true, true, false, true, true, true, false, false, false, false] ([(40, .int .i64 ((20 + 16 * k : Nat) : Int)), (41, .agg #[.int .i64 480, .int .i64 64]), (43, .int .i64 ((20 + 16 * k : Nat) : Int)), (44, .slice (some ⟨x.1, 0, none⟩) (20 + 16 * k) (20 + 16 * k)), (45, .pointer (some ⟨x.2, 0, none⟩))] ++ [(1, .int .i64 ((20 + 16 * k : Nat) : Int)), (6, .pointer (some ⟨c6, 0, none⟩)), (7, .pointer (some ⟨c7, 0, none⟩))]) ([pt x.1 (madeCells ti5.zero.cells ((20 + 16 * k) * ti5.size)).toList] ++ (setL x.2 none 0 [] ++ ([pt c6 [.int .i64 480, .int .i64 64], pt c7 [.int .i64 ((560 + 16 * k : Nat) : Int), .int .i64 8], pt m [.slice (some ⟨g, 0, none⟩) B.length B.length], pt g (bys B)]))) := fun x => by
    refine hs _ _ _ _ [2] (by decide +kernel) ⟨⟨_, rfl, rfl, ?_⟩, trivial⟩
    · refine ld_ tt_ok ?_; exact dp_ (b012345 x)
  have b02345 : ∀ x : Nat × Nat, B1 5 #[true, false, true, true, true, true, false, false, false, false] ([(40, .int .i64 ((20 + 16 * k : Nat) : Int)), (42, .agg #[.int .i64 ((560 + 16 * k : Nat) : Int), .int .i64 8]), (43, .int .i64 ((20 + 16 * k : Nat) : Int)), (44, .slice (some ⟨x.1, 0, none⟩) (20 + 16 * k) (20 + 16 * k)), (45, .pointer (some ⟨x.2, 0, none⟩))] ++ [(1, .int .i64 ((20 + 16 * k : Nat) : Int)), (6, .pointer (some ⟨c6, 0, none⟩)), (7, .pointer (some ⟨c7, 0, none⟩))]) ([pt x.1 (madeCells ti5.zero.cells ((20 + 16 * k) * ti5.size)).toList] ++ (setL x.2 none 0 [] ++ ([pt c6 [.int .i64 480, .int .i64 64], pt c7 [.int .i64 ((560 + 16 * k : Nat) : Int), .int .i64 8], pt m [.slice (some ⟨g, 0, none⟩) B.length B.length], pt g (bys B)]))) := fun x => by
    refine hs _ _ _ _ [1] (by decide +kernel) ⟨⟨_, rfl, rfl, ?_⟩, trivial⟩
    · refine ld_ tt_ok ?_; exact dp_ (b012345 x)
  have b12345 : ∀ x : Nat × Nat, B1 5 #[false, true, true, true, true, true, false, false, false, false] ([(41, .agg #[.int .i64 480, .int .i64 64]), (42, .agg #[.int .i64 ((560 + 16 * k : Nat) : Int), .int .i64 8]), (43, .int .i64 ((20 + 16 * k : Nat) : Int)), (44, .slice (some ⟨x.1, 0, none⟩) (20 + 16 * k) (20 + 16 * k)), (45, .pointer (some ⟨x.2, 0, none⟩))] ++ [(1, .int .i64 ((20 + 16 * k : Nat) : Int)), (6, .pointer (some ⟨c6, 0, none⟩)), (7, .pointer (some ⟨c7, 0, none⟩))]) ([pt x.1 (madeCells ti5.zero.cells ((20 + 16 * k) * ti5.size)).toList] ++ (setL x.2 none 0 [] ++ ([pt c6 [.int .i64 480, .int .i64 64], pt c7 [.int .i64 ((560 + 16 * k : Nat) : Int), .int .i64 8], pt m [.slice (some ⟨g, 0, none⟩) B.length B.length], pt g (bys B)]))) := fun x => by
    refine hs _ _ _ _ [0] (by decide +kernel) ⟨⟨_, rfl, rfl, ?_⟩, trivial⟩
    · refine SQ.pures1 tt_ok rfl ?_; exact dp_ (b012345 x)
  have b0123 : ∀ x : Nat × Nat, B1 6 #[true, true, true, true, false, false, false, false, false, false] ([(40, .int .i64 ((20 + 16 * k : Nat) : Int)), (41, .agg #[.int .i64 480, .int .i64 64]), (42, .agg #[.int .i64 ((560 + 16 * k : Nat) : Int), .int .i64 8]), (43, .int .i64 ((20 + 16 * k : Nat) : Int))] ++ [(1, .int .i64 ((20 + 16 * k : Nat) : Int)), (6, .pointer (some ⟨c6, 0, none⟩)), (7, .pointer (some ⟨c7, 0, none⟩))]) ([pt c6 [.int .i64 480, .int .i64 64], pt c7 [.int .i64 ((560 + 16 * k : Nat) : Int), .int .i64 8], pt m [.slice (some ⟨g, 0, none⟩) B.length B.length], pt g (bys B)]) := fun x => by
    refine hs _ _ _ _ [4, 5] (by decide +kernel) ⟨⟨_, rfl, rfl, ?_⟩, ⟨_, rfl, rfl, ?_⟩, trivial⟩
    · refine SQ.make tt_ok rfl rfl (20 + 16 * k) rfl rfl (by show (20 + 16 * k) * 1 ≤ _; omega) (by show 1 * (20 + 16 * k) ≤ _; omega) (by omega) (fun g1 => ⟨trivial, ?_⟩); exact dp_ (b01234 (g1, x.2))
    · (refine SQ.callA rfl rfl (of104 β) .n ?_; rintro _ _ ⟨S1, rfl, rfl⟩; refine ⟨trivial, ?_⟩); exact dp_ (b01235 (x.1, S1))
  have b0125 : ∀ x : Nat × Nat, B1 6 #[true, true, true, false, false, true, false, false, false, false] ([(40, .int .i64 ((20 + 16 * k : Nat) : Int)), (41, .agg #[.int .i64 480, .int .i64 64]), (42, .agg #[.int .i64 ((560 + 16 * k : Nat) : Int), .int .i64 8]), (45, .pointer (some ⟨x.2, 0, none⟩))] ++ [(1, .int .i64 ((20 + 16 * k : Nat) : Int)), (6, .pointer (some ⟨c6, 0, none⟩)), (7, .pointer (some ⟨c7, 0, none⟩))]) (setL x.2 none 0 [] ++ ([pt c6 [.int .i64 480, .int .i64 64], pt c7 [.int .i64 ((560 + 16 * k : Nat) : Int), .int .i64 8], pt m [.slice (some ⟨g, 0, none⟩) B.length B.length], pt g (bys B)])) := fun x => by
    refine hs _ _ _ _ [3] (by decide +kernel) ⟨⟨_, rfl, rfl, ?_⟩, trivial⟩
    · refine SQ.pures1 tt_ok rfl ?_; exact dp_ (b01235 x)
  have b0134 : ∀ x : Nat × Nat, B1 6 #[true, true, false, true, true, false, false, false, false, false] ([(40, .int .i64 ((20 + 16 * k : Nat) : Int)), (41, .agg #[.int .i64 480, .int .i64 64]), (43, .int .i64 ((20 + 16 * k : Nat) : Int)), (44, .slice (some ⟨x.1, 0, none⟩) (20 + 16 * k) (20 + 16 * k))] ++ [(1, .int .i64 ((20 + 16 * k : Nat) : Int)), (6, .pointer (some ⟨c6, 0, none⟩)), (7, .pointer (some ⟨c7, 0, none⟩))]) ([pt x.1 (madeCells ti5.zero.cells ((20 + 16 * k) * ti5.size)).toList] ++ ([pt c6 [.int .i64 480, .int .i64 64], pt c7 [.int .i64 ((560 + 16 * k : Nat) : Int), .int .i64 8], pt m [.slice (some ⟨g, 0, none⟩) B.length B.length], pt g (bys B)])) := fun x => by
    refine hs _ _ _ _ [2, 5] (by decide +kernel) ⟨⟨_, rfl, rfl, ?_⟩, ⟨_, rfl, rfl, ?_⟩, trivial⟩
    · refine ld_ tt_ok ?_; exact dp_ (b01234 x)
    · (refine SQ.callA rfl rfl (of104 β) .n ?_; rintro _ _ ⟨S1, rfl, rfl⟩; refine ⟨trivial, ?_⟩); exact dp_ (b01345 (x.1, S1))
  have b0135 : ∀ x : Nat × Nat, B1 6 #[true, true, false, true, false, true, false, false, false, false] ([(40, .int .i64 ((20 + 16 * k : Nat) : Int)), (41, .agg #[.int .i64 480, .int .i64 64]), (43, .int .i64 ((20 + 16 * k : Nat) : Int)), (45, .pointer (some ⟨x.2, 0, none⟩))] ++ [(1, .int .i64 ((20 + 16 * k : Nat) : Int)), (6, .pointer (some ⟨c6, 0, none⟩)), (7, .pointer (some ⟨c7, 0, none⟩))]) (setL x.2 none 0 [] ++ ([pt c6 [.int .i64 480, .int .i64 64], pt c7 [.int .i64 ((560 + 16 * k : Nat) : Int), .int .i64 8], pt m [.slice (some ⟨g, 0, none⟩) B.length B.length], pt g (bys B)])) := fun x => by
    refine hs _ _ _ _ [2, 4] (by decide +kernel) ⟨⟨_, rfl, rfl, ?_⟩, ⟨_, rfl, rfl, ?_⟩, trivial⟩
    · refine ld_ tt_ok ?_; exact dp_ (b01235 x)
    · refine SQ.make tt_ok rfl rfl (20 + 16 * k) rfl rfl (by show (20 + 16 * k) * 1 ≤ _; omega) (by show 1 * (20 + 16 * k) ≤ _; omega) (by omega) (fun g1 => ⟨trivial, ?_⟩); exact dp_ (b01345 (g1, x.2))
  have b0234 : ∀ x : Nat × Nat, B1 6 #[true, false, true, true, true, false, false, false, false, false] ([(40, .int .i64 ((20 + 16 * k : Nat) : Int)), (42, .agg #[.int .i64 ((560 + 16 * k : Nat) : Int), .int .i64 8]), (43, .int .i64 ((20 + 16 * k : Nat) : Int)), (44, .slice (some ⟨x.1, 0, none⟩) (20 + 16 * k) (20 + 16 * k))] ++ [(1, .int .i64 ((20 + 16 * k : Nat) : Int)), (6, .pointer (some ⟨c6, 0, none⟩)), (7, .pointer (some ⟨c7, 0, none⟩))]) ([pt x.1 (madeCells ti5.zero.cells ((20 + 16 * k) * ti5.size)).toList] ++ ([pt c6 [.int .i64 480, .int .i64 64], pt c7 [.int .i64 ((560 + 16 * k : Nat) : Int), .int .i64 8], pt m [.slice (some ⟨g, 0, none⟩) B.length B.length], pt g (bys B)])) := fun x => by
    refine hs _ _ _ _ [1, 5] (by decide +kernel) ⟨⟨_, rfl, rfl, ?_⟩, ⟨_, rfl, rfl, ?_⟩, trivial⟩
    · refine ld_ tt_ok ?_; exact dp_ (b01234 x)
    · (refine SQ.callA rfl rfl (of104 β) .n ?_; rintro _ _ ⟨S1, rfl, rfl⟩; refine ⟨trivial, ?_⟩); exact dp_ (b02345 (x.1, S1))
  have b0235 : ∀ x : Nat × Nat, B1 6 #[true, false, true, true, false, true, false, false, false, false] ([(40, .int .i64 ((20 + 16 * k : Nat) : Int)), (42, .agg #[.int .i64 ((560 + 16 * k : Nat) : Int), .int .i64 8]), (43, .int .i64 ((20 + 16 * k : Nat) : Int)), (45, .pointer (some ⟨x.2, 0, none⟩))] ++ [(1, .int .i64 ((20 + 16 * k : Nat) : Int)), (6, .pointer (some ⟨c6, 0, none⟩)), (7, .pointer (some ⟨c7, 0, none⟩))]) (setL x.2 none 0 [] ++ ([pt c6 [.int .i64 480, .int .i64 64], pt c7 [.int .i64 ((560 + 16 * k : Nat) : Int), .int .i64 8], pt m [.slice (some ⟨g, 0, none⟩) B.length B.length], pt g (bys B)])) := fun x => by
    refine hs _ _ _ _ [1, 4] (by decide +kernel) ⟨⟨_, rfl, rfl, ?_⟩, ⟨_, rfl, rfl, ?_⟩, trivial⟩
    · refine ld_ tt_ok ?_; exact dp_ (b01235 x)
    · refine SQ.make tt_ok rfl rfl (20 + 16 * k) rfl rfl (by show (20 + 16 * k) * 1 ≤ _; omega) (by show 1 * (20 + 16 * k) ≤ _; omega) (by omega) (fun g1 => ⟨trivial, ?_⟩); exact dp_ (b02345 (g1, x.2))
  have b0345 : ∀ x : Nat × Nat, B1 6 #[true, false, false, true, true, true, false, false, false, false] ([(40, .int .i64 ((20 + 16 * k : Nat) : Int)), (43, .int .i64 ((20 + 16 * k : Nat) : Int)), (44, .slice (some ⟨x.1, 0, none⟩) (20 + 16 * k) (20 + 16 * k)), (45, .pointer (some ⟨x.2, 0, none⟩))] ++ [(1, .int .i64 ((20 + 16 * k : Nat) : Int)), (6, .pointer (some ⟨c6, 0, none⟩)), (7, .pointer (some ⟨c7, 0, none⟩))]) ([pt x.1 (madeCells ti5.zero.cells ((20 + 16 * k) * ti5.size)).toList] ++ (setL x.2 none 0 [] ++ ([pt c6 [.int .i64 480, .int .i64 64], pt c7 [.int .i64 ((560 + 16 * k : Nat) : Int), .int .i64 8], pt m [.slice (some ⟨g, 0, none⟩) B.length B.length], pt g (bys B)]))) := fun x => by
    refine hs _ _ _ _ [1, 2] (by decide +kernel) ⟨⟨_, rfl, rfl, ?_⟩, ⟨_, rfl, rfl, ?_⟩, trivial⟩
    · refine ld_ tt_ok ?_; exact dp_ (b01345 x)
    · refine ld_ tt_ok ?_; exact dp_ (b02345 x)
  have b1234 : ∀ x : Nat × Nat, B1 6 #[false, true, true, true, true, false, false, false, false, false] ([(41, .agg #[.int .i64 480, .int .i64 64]), (42, .agg #[.int .i64 ((560 + 16 * k : Nat) : Int), .int .i64 8]), (43, .int .i64 ((20 + 16 * k : Nat) : Int)), (44, .slice (some ⟨x.1, 0, none⟩) (20 + 16 * k) (20 + 16 * k))] ++ [(1, .int .i64 ((20 + 16 * k : Nat) : Int)), (6, .pointer (some ⟨c6, 0, none⟩)), (7, .pointer (some ⟨c7, 0, none⟩))]) ([pt x.1 (madeCells ti5.zero.cells ((20 + 16 * k) * ti5.size)).toList] ++ ([pt c6 [.int .i64 480, .int .i64 64], pt c7 [.int .i64 ((560 + 16 * k : Nat) : Int), .int .i64 8], pt m [.slice (some ⟨g, 0, none⟩) B.length B.length], pt g (bys B)])) := fun x => by
    refine hs _ _ _ _ [0, 5] (by decide +kernel) ⟨⟨_, rfl, rfl, ?_⟩, ⟨_, rfl, rfl, ?_⟩, trivial⟩
    · refine SQ.pures1 tt_ok rfl ?_; exact dp_ (b01234 x)
    · (refine SQ.callA rfl rfl (of104 β) .n ?_; rintro _ _ ⟨S1, rfl, rfl⟩; refine ⟨trivial, ?_⟩); exact dp_ (b12345 (x.1, S1))
  have b1235 : ∀ x : Nat × Nat, B1 6 #[false, true, true, true, false, true, false, false, false, false] ([(41, .agg #[.int .i64 480, .int .i64 64]), (42, .agg #[.int .i64 ((560 + 16 * k : Nat) : Int), .int .i64 8]), (43, .int .i64 ((20 + 16 * k : Nat) : Int)), (45, .pointer (some ⟨x.2, 0, none⟩))] ++ [(1, .int .i64 ((20 + 16 * k : Nat) : Int)), (6, .pointer (some ⟨c6, 0, none⟩)), (7, .pointer (some ⟨c7, 0, none⟩))]) (setL x.2 none 0 [] ++ ([pt c6 [.int .i64 480, .int .i64 64], pt c7 [.int .i64 ((560 + 16 * k : Nat) : Int), .int .i64 8], pt m [.slice (some ⟨g, 0, none⟩) B.length B.length], pt g (bys B)])) := fun x => by
    refine hs _ _ _ _ [0, 4] (by decide +kernel) ⟨⟨_, rfl, rfl, ?_⟩, ⟨_, rfl, rfl, ?_⟩, trivial⟩
    · refine SQ.pures1 tt_ok rfl ?_; exact dp_ (b01235 x)
    · refine SQ.make tt_ok rfl rfl (20 + 16 * k) rfl rfl (by show (20 + 16 * k) * 1 ≤ _; omega) (by show 1 * (20 + 16 * k) ≤ _; omega) (by omega) (fun g1 => ⟨trivial, ?_⟩); exact dp_ (b12345 (g1, x.2))
  have b1345 : ∀ x : Nat × Nat, B1 6 #[false, true, false, true, true, true, false, false, false, false] ([(41, .agg #[.int .i64 480, .int .i64 64]), (43, .int .i64 ((20 + 16 * k : Nat) : Int)), (44, .slice (some ⟨x.1, 0, none⟩) (20 + 16 * k) (20 + 16 * k)), (45, .pointer (some ⟨x.2, 0, none⟩))] ++ [(1, .int .i64 ((20 + 16 * k : Nat) : Int)), (6, .pointer (some ⟨c6, 0, none⟩)), (7, .pointer (some ⟨c7, 0, none⟩))]) ([pt x.1 (madeCells ti5.zero.cells ((20 + 16 * k) * ti5.size)).toList] ++ (setL x.2 none 0 [] ++ ([pt c6 [.int .i64 480, .int .i64 64], pt c7 [.int .i64 ((560 + 16 * k : Nat) : Int), .int .i64 8], pt m [.slice (some ⟨g, 0, none⟩) B.length B.length], pt g (bys B)]))) := fun x => by
    refine hs _ _ _ _ [0, 2] (by decide +kernel) ⟨⟨_, rfl, rfl, ?_⟩, ⟨_, rfl, rfl, ?_⟩, trivial⟩
    · refine SQ.pures1 tt_ok rfl ?_; exact dp_ (b01345 x)
    · refine ld_ tt_ok ?_; exact dp_ (b12345 x)
  have b2345 : ∀ x : Nat × Nat, B1 6 #[false, false, true, true, true, true, false, false, false, false] ([(42, .agg #[.int .i64 ((560 + 16 * k : Nat) : Int), .int .i64 8]), (43, .int .i64 ((20 + 16 * k : Nat) : Int)), (44, .slice (some ⟨x.1, 0, none⟩) (20 + 16 * k) (20 + 16 * k)), (45, .pointer (some ⟨x.2, 0, none⟩))] ++ [(1, .int .i64 ((20 + 16 * k : Nat) : Int)), (6, .pointer (some ⟨c6, 0, none⟩)), (7, .pointer (some ⟨c7, 0, none⟩))]) ([pt x.1 (madeCells ti5.zero.cells ((20 + 16 * k) * ti5.size)).toList] ++ (setL x.2 none 0 [] ++ ([pt c6 [.int .i64 480, .int .i64 64], pt c7 [.int .i64 ((560 + 16 * k : Nat) : Int), .int .i64 8], pt m [.slice (some ⟨g, 0, none⟩) B.length B.length], pt g (bys B)]))) := fun x => by
    refine hs _ _ _ _ [0, 1] (by decide +kernel) ⟨⟨_, rfl, rfl, ?_⟩, ⟨_, rfl, rfl, ?_⟩, trivial⟩
    · refine SQ.pures1 tt_ok rfl ?_; exact dp_ (b02345 x)
    · refine ld_ tt_ok ?_; exact dp_ (b12345 x)
  have b012 : ∀ x : Nat × Nat, B1 7 #[true, true, true, false, false, false, false, false, false, false] ([(40, .int .i64 ((20 + 16 * k : Nat) : Int)), (41, .agg #[.int .i64 480, .int .i64 64]), (42, .agg #[.int .i64 ((560 + 16 * k : Nat) : Int), .int .i64 8])] ++ [(1, .int .i64 ((20 + 16 * k : Nat) : Int)), (6, .pointer (some ⟨c6, 0, none⟩)), (7, .pointer (some ⟨c7, 0, none⟩))]) ([pt c6 [.int .i64 480, .int .i64 64], pt c7 [.int .i64 ((560 + 16 * k : Nat) : Int), .int .i64 8], pt m [.slice (some ⟨g, 0, none⟩) B.length B.length], pt g (bys B)]) := fun x => by
    refine hs _ _ _ _ [3, 5] (by decide +kernel) ⟨⟨_, rfl, rfl, ?_⟩, ⟨_, rfl, rfl, ?_⟩, trivial⟩
    · refine SQ.pures1 tt_ok rfl ?_; exact dp_ (b0123 x)
    · (refine SQ.callA rfl rfl (of104 β) .n ?_; rintro _ _ ⟨S1, rfl, rfl⟩; refine ⟨trivial, ?_⟩); exact dp_ (b0125 (x.1, S1))
  have b013 : ∀ x : Nat × Nat, B1 7 #[true, true, false, true, false, false, false, false, false, false] ([(40, .int .i64 ((20 + 16 * k : Nat) : Int)), (41, .agg #[.int .i64 480, .int .i64 64]), (43, .int .i64 ((20 + 16 * k : Nat) : Int))] ++ [(1, .int .i64 ((20 + 16 * k : Nat) : Int)), (6, .pointer (some ⟨c6, 0, none⟩)), (7, .pointer (some ⟨c7, 0, none⟩))]) ([pt c6 [.int .i64 480, .int .i64 64], pt c7 [.int .i64 ((560 + 16 * k : Nat) : Int), .int .i64 8], pt m [.slice (some ⟨g, 0, none⟩) B.length B.length], pt g (bys B)]) := fun x => by
    refine hs _ _ _ _ [2, 4, 5] (by decide +kernel) ⟨⟨_, rfl, rfl, ?_⟩, ⟨_, rfl, rfl, ?_⟩, ⟨_, rfl, rfl, ?_⟩, trivial⟩
    · refine ld_ tt_ok ?_; exact dp_ (b0123 x)
    · refine SQ.make tt_ok rfl rfl (20 + 16 * k) rfl rfl (by show (20 + 16 * k) * 1 ≤ _; omega) (by show 1 * (20 + 16 * k) ≤ _; omega) (by omega) (fun g1 => ⟨trivial, ?_⟩); exact dp_ (b0134 (g1, x.2))
    · (refine SQ.callA rfl rfl (of104 β) .n ?_; rintro _ _ ⟨S1, rfl, rfl⟩; refine ⟨trivial, ?_⟩); exact dp_ (b0135 (x.1, S1))
  have b015 : ∀ x : Nat × Nat, B1 7 #[true, true, false, false, false, true, false, false, false, false] ([(40, .int .i64 ((20 + 16 * k : Nat) : Int)), (41, .agg #[.int .i64 480, .int .i64 64]), (45, .pointer (some ⟨x.2, 0, none⟩))] ++ [(1, .int .i64 ((20 + 16 * k : Nat) : Int)), (6, .pointer (some ⟨c6, 0, none⟩)), (7, .pointer (some ⟨c7, 0, none⟩))]) (setL x.2 none 0 [] ++ ([pt c6 [.int .i64 480, .int .i64 64], pt c7 [.int .i64 ((560 + 16 * k : Nat) : Int), .int .i64 8], pt m [.slice (some ⟨g, 0, none⟩) B.length B.length], pt g (bys B)])) := fun x => by
    refine hs _ _ _ _ [2, 3] (by decide +kernel) ⟨⟨_, rfl, rfl, ?_⟩, ⟨_, rfl, rfl, ?_⟩, trivial⟩
    · refine ld_ tt_ok ?_; exact dp_ (b0125 x)
    · refine SQ.pures1 tt_ok rfl ?_; exact dp_ (b0135 x)
  have b023 : ∀ x : Nat × Nat, B1 7 #[true, false, true, true, false, false, false, false, false, false] ([(40, .int .i64 ((20 + 16 * k : Nat) : Int)), (42, .agg #[.int .i64 ((560 + 16 * k : Nat) : Int), .int .i64 8]), (43, .int .i64 ((20 + 16 * k : Nat) : Int))] ++ [(1, .int .i64 ((20 + 16 * k : Nat) : Int)), (6, .pointer (some ⟨c6, 0, none⟩)), (7, .pointer (some ⟨c7, 0, none⟩))]) ([pt c6 [.int .i64 480, .int .i64 64], pt c7 [.int .i64 ((560 + 16 * k : Nat) : Int), .int .i64 8], pt m [.slice (some ⟨g, 0, none⟩) B.length B.length], pt g (bys B)]) := fun x => by
    refine hs _ _ _ _ [1, 4, 5] (by decide +kernel) ⟨⟨_, rfl, rfl, ?_⟩, ⟨_, rfl, rfl, ?_⟩, ⟨_, rfl, rfl, ?_⟩, trivial⟩
    · refine ld_ tt_ok ?_; exact dp_ (b0123 x)
    · refine SQ.make tt_ok rfl rfl (20 + 16 * k) rfl rfl (by show (20 + 16 * k) * 1 ≤ _; omega) (by show 1 * (20 + 16 * k) ≤ _; omega) (by omega) (fun g1 => ⟨trivial, ?_⟩); exact dp_ (b0234 (g1, x.2))
    · (refine SQ.callA rfl rfl (of104 β) .n ?_; rintro _ _ ⟨S1, rfl, rfl⟩; refine ⟨trivial, ?_⟩); exact dp_ (b0235 (x.1, S1))
  have b025 : ∀ x : Nat × Nat, B1 7 #[true, false, true, false, false, true, false, false, false, false] ([(40, .int .i64 ((20 + 16 * k : Nat) : Int)), (42, .agg #[.int .i64 ((560 + 16 * k : Nat) : Int), .int .i64 8]), (45, .pointer (some ⟨x.2, 0, none⟩))] ++ [(1, .int .i64 ((20 + 16 * k : Nat) : Int)), (6, .pointer (some ⟨c6, 0, none⟩)), (7, .pointer (some ⟨c7, 0, none⟩))]) (setL x.2 none 0 [] ++ ([pt c6 [.int .i64 480, .int .i64 64], pt c7 [.int .i64 ((560 + 16 * k : Nat) : Int), .int .i64 8], pt m [.slice (some ⟨g, 0, none⟩) B.length B.length], pt g (bys B)])) := fun x => by
    refine hs _ _ _ _ [1, 3] (by decide +kernel) ⟨⟨_, rfl, rfl, ?_⟩, ⟨_, rfl, rfl, ?_⟩, trivial⟩
    · refine ld_ tt_ok ?_; exact dp_ (b0125 x)
    · refine SQ.pures1 tt_ok rfl ?_; exact dp_ (b0235 x)
  have b034 : ∀ x : Nat × Nat, B1 7 #[true, false, false, true, true, false, false, false, false, false] ([(40, .int .i64 ((20 + 16 * k : Nat) : Int)), (43, .int .i64 ((20 + 16 * k : Nat) : Int)), (44, .slice (some ⟨x.1, 0, none⟩) (20 + 16 * k) (20 + 16 * k))] ++ [(1, .int .i64 ((20 + 16 * k : Nat) : Int)), (6, .pointer (some ⟨c6, 0, none⟩)), (7, .pointer (some ⟨c7, 0, none⟩))]) ([pt x.1 (madeCells ti5.zero.cells ((20 + 16 * k) * ti5.size)).toList] ++ ([pt c6 [.int .i64 480, .int .i64 64], pt c7 [.int .i64 ((560 + 16 * k : Nat) : Int), .int .i64 8], pt m [.slice (some ⟨g, 0, none⟩) B.length B.length], pt g (bys B)])) := fun x => by
    refine hs _ _ _ _ [1, 2, 5] (by decide +kernel) ⟨⟨_, rfl, rfl, ?_⟩, ⟨_, rfl, rfl, ?_⟩, ⟨_, rfl, rfl, ?_⟩, trivial⟩
    · refine ld_ tt_ok ?_; exact dp_ (b0134 x)
    · refine ld_ tt_ok ?_; exact dp_ (b0234 x)
    · (refine SQ.callA rfl rfl (of104 β) .n ?_; rintro _ _ ⟨S1, rfl, rfl⟩; refine ⟨trivial, ?_⟩); exact dp_ (b0345 (x.1, S1))
  have b035 : ∀ x : Nat × Nat, B1 7 #[true, false, false, true, false, true, false, false, false, false] ([(40, .int .i64 ((20 + 16 * k : Nat) : Int)), (43, .int .i64 ((20 + 16 * k : Nat) : Int)), (45, .pointer (some ⟨x.2, 0, none⟩))] ++ [(1, .int .i64 ((20 + 16 * k : Nat) : Int)), (6, .pointer (some ⟨c6, 0, none⟩)), (7, .pointer (some ⟨c7, 0, none⟩))]) (setL x.2 none 0 [] ++ ([pt c6 [.int .i64 480, .int .i64 64], pt c7 [.int .i64 ((560 + 16 * k : Nat) : Int), .int .i64 8], pt m [.slice (some ⟨g, 0, none⟩) B.length B.length], pt g (bys B)])) := fun x => by
    refine hs _ _ _ _ [1, 2, 4] (by decide +kernel) ⟨⟨_, rfl, rfl, ?_⟩, ⟨_, rfl, rfl, ?_⟩, ⟨_, rfl, rfl, ?_⟩, trivial⟩
    · refine ld_ tt_ok ?_; exact dp_ (b0135 x)
    · refine ld_ tt_ok ?_; exact dp_ (b0235 x)
    · refine SQ.make tt_ok rfl rfl (20 + 16 * k) rfl rfl (by show (20 + 16 * k) * 1 ≤ _; omega) (by show 1 * (20 + 16 * k) ≤ _; omega) (by omega) (fun g1 => ⟨trivial, ?_⟩); exact dp_ (b0345 (g1, x.2))
  have b123 : ∀ x : Nat × Nat, B1 7 #[false, true, true, true, false, false, false, false, false, false] ([(41, .agg #[.int .i64 480, .int .i64 64]), (42, .agg #[.int .i64 ((560 + 16 * k : Nat) : Int), .int .i64 8]), (43, .int .i64 ((20 + 16 * k : Nat) : Int))] ++ [(1, .int .i64 ((20 + 16 * k : Nat) : Int)), (6, .pointer (some ⟨c6, 0, none⟩)), (7, .pointer (some ⟨c7, 0, none⟩))]) ([pt c6 [.int .i64 480, .int .i64 64], pt c7 [.int .i64 ((560 + 16 * k : Nat) : Int), .int .i64 8], pt m [.slice (some ⟨g, 0, none⟩) B.length B.length], pt g (bys B)]) := fun x => by
    refine hs _ _ _ _ [0, 4, 5] (by decide +kernel) ⟨⟨_, rfl, rfl, ?_⟩, ⟨_, rfl, rfl, ?_⟩, ⟨_, rfl, rfl, ?_⟩, trivial⟩
    · refine SQ.pures1 tt_ok rfl ?_; exact dp_ (b0123 x)
    · refine SQ.make tt_ok rfl rfl (20 + 16 * k) rfl rfl (by show (20 + 16 * k) * 1 ≤ _; omega) (by show 1 * (20 + 16 * k) ≤ _; omega) (by omega) (fun g1 => ⟨trivial, ?_⟩); exact dp_ (b1234 (g1, x.2))
    · (refine SQ.callA rfl rfl (of104 β) .n ?_; rintro _ _ ⟨S1, rfl, rfl⟩; refine ⟨trivial, ?_⟩); exact dp_ (b1235 (x.1, S1))
  have b125 : ∀ x : Nat × Nat, B1 7 #[false, true, true, false, false, true, false, false, false, false] ([(41, .agg #[.int .i64 480, .int .i64 64]), (42, .agg #[.int .i64 ((560 + 16 * k : Nat) : Int), .int .i64 8]), (45, .pointer (some ⟨x.2, 0, none⟩))] ++ [(1, .int .i64 ((20 + 16 * k : Nat) : Int)), (6, .pointer (some ⟨c6, 0, none⟩)), (7, .pointer (some ⟨c7, 0, none⟩))]) (setL x.2 none 0 [] ++ ([pt c6 [.int .i64 480, .int .i64 64], pt c7 [.int .i64 ((560 + 16 * k : Nat) : Int), .int .i64 8], pt m [.slice (some ⟨g, 0, none⟩) B.length B.length], pt g (bys B)])) := fun x => by
    refine hs _ _ _ _ [0, 3] (by decide +kernel) ⟨⟨_, rfl, rfl, ?_⟩, ⟨_, rfl, rfl, ?_⟩, trivial⟩
    · refine SQ.pures1 tt_ok rfl ?_; exact dp_ (b0125 x)
    · refine SQ.pures1 tt_ok rfl ?_; exact dp_ (b1235 x)
  have b134 : ∀ x : Nat × Nat, B1 7 #[false, true, false, true, true, false, false, false, false, false] ([(41, .agg #[.int .i64 480, .int .i64 64]), (43, .int .i64 ((20 + 16 * k : Nat) : Int)), (44, .slice (some ⟨x.1, 0, none⟩) (20 + 16 * k) (20 + 16 * k))] ++ [(1, .int .i64 ((20 + 16 * k : Nat) : Int)), (6, .pointer (some ⟨c6, 0, none⟩)), (7, .pointer (some ⟨c7, 0, none⟩))]) ([pt x.1 (madeCells ti5.zero.cells ((20 + 16 * k) * ti5.size)).toList] ++ ([pt c6 [.int .i64 480, .int .i64 64], pt c7 [.int .i64 ((560 + 16 * k : Nat) : Int), .int .i64 8], pt m [.slice (some ⟨g, 0, none⟩) B.length B.length], pt g (bys B)])) := fun x => by
    refine hs _ _ _ _ [0, 2, 5] (by decide +kernel) ⟨⟨_, rfl, rfl, ?_⟩, ⟨_, rfl, rfl, ?_⟩, ⟨_, rfl, rfl, ?_⟩, trivial⟩
    · refine SQ.pures1 tt_ok rfl ?_; exact dp_ (b0134 x)
    · refine ld_ tt_ok ?_; exact dp_ (b1234 x)
    · (refine SQ.callA rfl rfl (of104 β) .n ?_; rintro _ _ ⟨S1, rfl, rfl⟩; refine ⟨trivial, ?_⟩); exact dp_ (b1345 (x.1, S1))
  have b135 : ∀ x : Nat × Nat, B1 7 #[false, true, false, true, false, true, false, false, false, false] ([(41, .agg #[.int .i64 480, .int .i64 64]), (43, .int .i64 ((20 + 16 * k : Nat) : Int)), (45, .pointer (some ⟨x.2, 0, none⟩))] ++ [(1, .int .i64 ((20 + 16 * k : Nat) : Int)), (6, .pointer (some ⟨c6, 0, none⟩)), (7, .pointer (some ⟨c7, 0, none⟩))]) (setL x.2 none 0 [] ++ ([pt c6 [.int .i64 480, .int .i64 64], pt c7 [.int .i64 ((560 + 16 * k : Nat) : Int), .int .i64 8], pt m [.slice (some ⟨g, 0, none⟩) B.length B.length], pt g (bys B)])) := fun x => by
    refine hs _ _ _ _ [0, 2, 4] (by decide +kernel) ⟨⟨_, rfl, rfl, ?_⟩, ⟨_, rfl, rfl, ?_⟩, ⟨_, rfl, rfl, ?_⟩, trivial⟩
    · refine SQ.pures1 tt_ok rfl ?_; exact dp_ (b0135 x)
    · refine ld_ tt_ok ?_; exact dp_ (b1235 x)
    · refine SQ.make tt_ok rfl rfl (20 + 16 * k) rfl rfl (by show (20 + 16 * k) * 1 ≤ _; omega) (by show 1 * (20 + 16 * k) ≤ _; omega) (by omega) (fun g1 => ⟨trivial, ?_⟩); exact dp_ (b1345 (g1, x.2))
  have b234 : ∀ x : Nat × Nat, B1 7 #[false, false, true, true, true, false, false, false, false, false] ([(42, .agg #[.int .i64 ((560 + 16 * k : Nat) : Int), .int .i64 8]), (43, .int .i64 ((20 + 16 * k : Nat) : Int)), (44, .slice (some ⟨x.1, 0, none⟩) (20 + 16 * k) (20 + 16 * k))] ++ [(1, .int .i64 ((20 + 16 * k : Nat) : Int)), (6, .pointer (some ⟨c6, 0, none⟩)), (7, .pointer (some ⟨c7, 0, none⟩))]) ([pt x.1 (madeCells ti5.zero.cells ((20 + 16 * k) * ti5.size)).toList] ++ ([pt c6 [.int .i64 480, .int .i64 64], pt c7 [.int .i64 ((560 + 16 * k : Nat) : Int), .int .i64 8], pt m [.slice (some ⟨g, 0, none⟩) B.length B.length], pt g (bys B)])) := fun x => by
    refine hs _ _ _ _ [0, 1, 5] (by decide +kernel) ⟨⟨_, rfl, rfl, ?_⟩, ⟨_, rfl, rfl, ?_⟩, ⟨_, rfl, rfl, ?_⟩, trivial⟩
    · refine SQ.pures1 tt_ok rfl ?_; exact dp_ (b0234 x)
    · refine ld_ tt_ok ?_; exact dp_ (b1234 x)
    · (refine SQ.callA rfl rfl (of104 β) .n ?_; rintro _ _ ⟨S1, rfl, rfl⟩; refine ⟨trivial, ?_⟩); exact dp_ (b2345 (x.1, S1))
  have b235 : ∀ x : Nat × Nat, B1 7 #[false, false, true, true, false, true, false, false, false, false] ([(42, .agg #[.int .i64 ((560 + 16 * k : Nat) : Int), .int .i64 8]), (43, .int .i64 ((20 + 16 * k : Nat) : Int)), (45, .pointer (some ⟨x.2, 0, none⟩))] ++ [(1, .int .i64 ((20 + 16 * k : Nat) : Int)), (6, .pointer (some ⟨c6, 0, none⟩)), (7, .pointer (some ⟨c7, 0, none⟩))]) (setL x.2 none 0 [] ++ ([pt c6 [.int .i64 480, .int .i64 64], pt c7 [.int .i64 ((560 + 16 * k : Nat) : Int), .int .i64 8], pt m [.slice (some ⟨g, 0, none⟩) B.length B.length], pt g (bys B)])) := fun x => by
    refine hs _ _ _ _ [0, 1, 4] (by decide +kernel) ⟨⟨_, rfl, rfl, ?_⟩, ⟨_, rfl, rfl, ?_⟩, ⟨_, rfl, rfl, ?_⟩, trivial⟩
    · refine SQ.pures1 tt_ok rfl ?_; exact dp_ (b0235 x)
    · refine ld_ tt_ok ?_; exact dp_ (b1235 x)
    · refine SQ.make tt_ok rfl rfl (20 + 16 * k) rfl rfl (by show (20 + 16 * k) * 1 ≤ _; omega) (by show 1 * (20 + 16 * k) ≤ _; omega) (by omega) (fun g1 => ⟨trivial, ?_⟩); exact dp_ (b2345 (g1, x.2))
  have b345 : ∀ x : Nat × Nat, B1 7 #[false, false, false, true, true, true, false, false, false, false] ([(43, .int .i64 ((20 + 16 * k : Nat) : Int)), (44, .slice (some ⟨x.1, 0, none⟩) (20 + 16 * k) (20 + 16 * k)), (45, .pointer (some ⟨x.2, 0, none⟩))] ++ [(1, .int .i64 ((20 + 16 * k : Nat) : Int)), (6, .pointer (some ⟨c6, 0, none⟩)), (7, .pointer (some ⟨c7, 0, none⟩))]) ([pt x.1 (madeCells ti5.zero.cells ((20 + 16 * k) * ti5.size)).toList] ++ (setL x.2 none 0 [] ++ ([pt c6 [.int .i64 480, .int .i64 64], pt c7 [.int .i64 ((560 + 16 * k : Nat) : Int), .int .i64 8], pt m [.slice (some ⟨g, 0, none⟩) B.length B.length], pt g (bys B)]))) := fun x => by
    refine hs _ _ _ _ [0, 1, 2] (by decide +kernel) ⟨⟨_, rfl, rfl, ?_⟩, ⟨_, rfl, rfl, ?_⟩, ⟨_, rfl, rfl, ?_⟩, trivial⟩
    · refine SQ.pures1 tt_ok rfl ?_; exact dp_ (b0345 x)
    · refine ld_ tt_ok ?_; exact dp_ (b1345 x)
    · refine ld_ tt_ok ?_; exact dp_ (b2345 x)
  have b01 : ∀ x : Nat × Nat, B1 8 #[true, true, false, false, false, false, false, false, false, false] ([(40, .int .i64 ((20 + 16 * k : Nat) : Int)), (41, .agg #[.int .i64 480, .int .i64 64])] ++ [(1, .int .i64 ((20 + 16 * k : Nat) : Int)), (6, .pointer (some ⟨c6, 0, none⟩)), (7, .pointer (some ⟨c7, 0, none⟩))]) ([pt c6 [.int .i64 480, .int .i64 64], pt c7 [.int .i64 ((560 + 16 * k : Nat) : Int), .int .i64 8], pt m [.slice (some ⟨g, 0, none⟩) B.length B.length], pt g (bys B)]) := fun x => by
    refine hs _ _ _ _ [2, 3, 5] (by decide +kernel) ⟨⟨_, rfl, rfl, ?_⟩, ⟨_, rfl, rfl, ?_⟩, ⟨_, rfl, rfl, ?_⟩, trivial⟩
    · refine ld_ tt_ok ?_; exact dp_ (b012 x)
    · refine SQ.pures1 tt_ok rfl ?_; exact dp_ (b013 x)
    · (refine SQ.callA rfl rfl (of104 β) .n ?_; rintro _ _ ⟨S1, rfl, rfl⟩; refine ⟨trivial, ?_⟩); exact dp_ (b015 (x.1, S1))
  have b02 : ∀ x : Nat × Nat, B1 8 #[true, false, true, false, false, false, false, false, false, false] ([(40, .int .i64 ((20 + 16 * k : Nat) : Int)), (42, .agg #[.int .i64 ((560 + 16 * k : Nat) : Int), .int .i64 8])] ++ [(1, .int .i64 ((20 + 16 * k : Nat) : Int)), (6, .pointer (some ⟨c6, 0, none⟩)), (7, .pointer (some ⟨c7, 0, none⟩))]) ([pt c6 [.int .i64 480, .int .i64 64], pt c7 [.int .i64 ((560 + 16 * k : Nat) : Int), .int .i64 8], pt m [.slice (some ⟨g, 0, none⟩) B.length B.length], pt g (bys B)]) := fun x => by
    refine hs _ _ _ _ [1, 3, 5] (by decide +kernel) ⟨⟨_, rfl, rfl, ?_⟩, ⟨_, rfl, rfl, ?_⟩, ⟨_, rfl, rfl, ?_⟩, trivial⟩
    · refine ld_ tt_ok ?_; exact dp_ (b012 x)
    · refine SQ.pures1 tt_ok rfl ?_; exact dp_ (b023 x)
    · (refine SQ.callA rfl rfl (of104 β) .n ?_; rintro _ _ ⟨S1, rfl, rfl⟩; refine ⟨trivial, ?_⟩); exact dp_ (b025 (x.1, S1))
  have b03 : ∀ x : Nat × Nat, B1 8 #[true, false, false, true, false, false, false, false, false, false] ([(40, .int .i64 ((20 + 16 * k : Nat) : Int)), (43, .int .i64 ((20 + 16 * k : Nat) : Int))] ++ [(1, .int .i64 ((20 + 16 * k : Nat) : Int)), (6, .pointer (some ⟨c6, 0, none⟩)), (7, .pointer (some ⟨c7, 0, none⟩))]) ([pt c6 [.int .i64 480, .int .i64 64], pt c7 [.int .i64 ((560 + 16 * k : Nat) : Int), .int .i64 8], pt m [.slice (some ⟨g, 0, none⟩) B.length B.length], pt g (bys B)]) := fun x => by
    refine hs _ _ _ _ [1, 2, 4, 5] (by decide +kernel) ⟨⟨_, rfl, rfl, ?_⟩, ⟨_, rfl, rfl, ?_⟩, ⟨_, rfl, rfl, ?_⟩, ⟨_, rfl, rfl, ?_⟩, trivial⟩
    · refine ld_ tt_ok ?_; exact dp_ (b013 x)
    · refine ld_ tt_ok ?_; exact dp_ (b023 x)
    · refine SQ.make tt_ok rfl rfl (20 + 16 * k) rfl rfl (by show (20 + 16 * k) * 1 ≤ _; omega) (by show 1 * (20 + 16 * k) ≤ _; omega) (by omega) (fun g1 => ⟨trivial, ?_⟩); exact dp_ (b034 (g1, x.2))
    · (refine SQ.callA rfl rfl (of104 β) .n ?_; rintro _ _ ⟨S1, rfl, rfl⟩; refine ⟨trivial, ?_⟩); exact dp_ (b035 (x.1, S1))
  have b05 : ∀ x : Nat × Nat, B1 8 #[true, false, false, false, false, true, false, false, false, false] ([(40, .int .i64 ((20 + 16 * k : Nat) : Int)), (45, .pointer (some ⟨x.2, 0, none⟩))] ++ [(1, .int .i64 ((20 + 16 * k : Nat) : Int)), (6, .pointer (some ⟨c6, 0, none⟩)), (7, .pointer (some ⟨c7, 0, none⟩))]) (setL x.2 none 0 [] ++ ([pt c6 [.int .i64 480, .int .i64 64], pt c7 [.int .i64 ((560 + 16 * k : Nat) : Int), .int .i64 8], pt m [.slice (some ⟨g, 0, none⟩) B.length B.length], pt g (bys B)])) := fun x => by
    refine hs _ _ _ _ [1, 2, 3] (by decide +kernel) ⟨⟨_, rfl, rfl, ?_⟩, ⟨_, rfl, rfl, ?_⟩, ⟨_, rfl, rfl, ?_⟩, trivial⟩
    · refine ld_ tt_ok ?_; exact dp_ (b015 x)
    · refine ld_ tt_ok ?_; exact dp_ (b025 x)
    · refine SQ.pures1 tt_ok rfl ?_; exact dp_ (b035 x)
  have b12 : ∀ x : Nat × Nat, B1 8 #[false, true, true, false, false, false, false, false, false, false] ([(41, .agg #[.int .i64 480, .int .i64 64]), (42, .agg #[.int .i64 ((560 + 16 * k : Nat) : Int), .int .i64 8])] ++ [(1, .int .i64 ((20 + 16 * k : Nat) : Int)), (6, .pointer (some ⟨c6, 0, none⟩)), (7, .pointer (some ⟨c7, 0, none⟩))]) ([pt c6 [.int .i64 480, .int .i64 64], pt c7 [.int .i64 ((560 + 16 * k : Nat) : Int), .int .i64 8], pt m [.slice (some ⟨g, 0, none⟩) B.length B.length], pt g (bys B)]) := fun x => by
    refine hs _ _ _ _ [0, 3, 5] (by decide +kernel) ⟨⟨_, rfl, rfl, ?_⟩, ⟨_, rfl, rfl, ?_⟩, ⟨_, rfl, rfl, ?_⟩, trivial⟩
    · refine SQ.pures1 tt_ok rfl ?_; exact dp_ (b012 x)
    · refine SQ.pures1 tt_ok rfl ?_; exact dp_ (b123 x)
    · (refine SQ.callA rfl rfl (of104 β) .n ?_; rintro _ _ ⟨S1, rfl, rfl⟩; refine ⟨trivial, ?_⟩); exact dp_ (b125 (x.1, S1))
  have b13 : ∀ x : Nat × Nat, B1 8 #[false, true, false, true, false, false, false, false, false, false] ([(41, .agg #[.int .i64 480, .int .i64 64]), (43, .int .i64 ((20 + 16 * k : Nat) : Int))] ++ [(1, .int .i64 ((20 + 16 * k : Nat) : Int)), (6, .pointer (some ⟨c6, 0, none⟩)), (7, .pointer (some ⟨c7, 0, none⟩))]) ([pt c6 [.int .i64 480, .int .i64 64], pt c7 [.int .i64 ((560 + 16 * k : Nat) : Int), .int .i64 8], pt m [.slice (some ⟨g, 0, none⟩) B.length B.length], pt g (bys B)]) := fun x => by
    refine hs _ _ _ _ [0, 2, 4, 5] (by decide +kernel) ⟨⟨_, rfl, rfl, ?_⟩, ⟨_, rfl, rfl, ?_⟩, ⟨_, rfl, rfl, ?_⟩, ⟨_, rfl, rfl, ?_⟩, trivial⟩
    · refine SQ.pures1 tt_ok rfl ?_; exact dp_ (b013 x)
    · refine ld_ tt_ok ?_; exact dp_ (b123 x)
    · refine SQ.make tt_ok rfl rfl (20 + 16 * k) rfl rfl (by show (20 + 16 * k) * 1 ≤ _; omega) (by show 1 * (20 + 16 * k) ≤ _; omega) (by omega) (fun g1 => ⟨trivial, ?_⟩); exact dp_ (b134 (g1, x.2))
    · (refine SQ.callA rfl rfl (of104 β) .n ?_; rintro _ _ ⟨S1, rfl, rfl⟩; refine ⟨trivial, ?_⟩); exact dp_ (b135 (x.1, S1))
  have b15 : ∀ x : Nat × Nat, B1 8 #[false, true, false, false, false, true, false, false, false, false] ([(41, .agg #[.int .i64 480, .int .i64 64]), (45, .pointer (some ⟨x.2, 0, none⟩))] ++ [(1, .int .i64 ((20 + 16 * k : Nat) : Int)), (6, .pointer (some ⟨c6, 0, none⟩)), (7, .pointer (some ⟨c7, 0, none⟩))]) (setL x.2 none 0 [] ++ ([pt c6 [.int .i64 480, .int .i64 64], pt c7 [.int .i64 ((560 + 16 * k : Nat) : Int), .int .i64 8], pt m [.slice (some ⟨g, 0, none⟩) B.length B.length], pt g (bys B)])) := fun x => by
    refine hs _ _ _ _ [0, 2, 3] (by decide +kernel) ⟨⟨_, rfl, rfl, ?_⟩, ⟨_, rfl, rfl, ?_⟩, ⟨_, rfl, rfl, ?_⟩, trivial⟩
    · refine SQ.pures1 tt_ok rfl ?_; exact dp_ (b015 x)
    · refine ld_ tt_ok ?_; exact dp_ (b125 x)
    · refine SQ.pures1 tt_ok rfl ?_; exact dp_ (b135 x)
  have b23 : ∀ x : Nat × Nat, B1 8 #[false, false, true, true, false, false, false, false, false, false] ([(42, .agg #[.int .i64 ((560 + 16 * k : Nat) : Int), .int .i64 8]), (43, .int .i64 ((20 + 16 * k : Nat) : Int))] ++ [(1, .int .i64 ((20 + 16 * k : Nat) : Int)), (6, .pointer (some ⟨c6, 0, none⟩)), (7, .pointer (some ⟨c7, 0, none⟩))]) ([pt c6 [.int .i64 480, .int .i64 64], pt c7 [.int .i64 ((560 + 16 * k : Nat) : Int), .int .i64 8], pt m [.slice (some ⟨g, 0, none⟩) B.length B.length], pt g (bys B)]) := fun x => by
    refine hs _ _ _ _ [0, 1, 4, 5] (by decide +kernel) ⟨⟨_, rfl, rfl, ?_⟩, ⟨_, rfl, rfl, ?_⟩, ⟨_, rfl, rfl, ?_⟩, ⟨_, rfl, rfl, ?_⟩, trivial⟩
    · refine SQ.pures1 tt_ok rfl ?_; exact dp_ (b023 x)
    · refine ld_ tt_ok ?_; exact dp_ (b123 x)
    · refine SQ.make tt_ok rfl rfl (20 + 16 * k) rfl rfl (by show (20 + 16 * k) * 1 ≤ _; omega) (by show 1 * (20 + 16 * k) ≤ _; omega) (by omega) (fun g1 => ⟨trivial, ?_⟩); exact dp_ (b234 (g1, x.2))
    · (refine SQ.callA rfl rfl (of104 β) .n ?_; rintro _ _ ⟨S1, rfl, rfl⟩; refine ⟨trivial, ?_⟩); exact dp_ (b235 (x.1, S1))
  have b25 : ∀ x : Nat × Nat, B1 8 #[false, false, true, false, false, true, false, false, false, false] ([(42, .agg #[.int .i64 ((560 + 16 * k : Nat) : Int), .int .i64 8]), (45, .pointer (some ⟨x.2, 0, none⟩))] ++ [(1, .int .i64 ((20 + 16 * k : Nat) : Int)), (6, .pointer (some ⟨c6, 0, none⟩)), (7, .pointer (some ⟨c7, 0, none⟩))]) (setL x.2 none 0 [] ++ ([pt c6 [.int .i64 480, .int .i64 64], pt c7 [.int .i64 ((560 + 16 * k : Nat) : Int), .int .i64 8], pt m [.slice (some ⟨g, 0, none⟩) B.length B.length], pt g (bys B)])) := fun x => by
    refine hs _ _ _ _ [0, 1, 3] (by decide +kernel) ⟨⟨_, rfl, rfl, ?_⟩, ⟨_, rfl, rfl, ?_⟩, ⟨_, rfl, rfl, ?_⟩, trivial⟩
    · refine SQ.pures1 tt_ok rfl ?_; exact dp_ (b025 x)
    · refine ld_ tt_ok ?_; exact dp_ (b125 x)
    · refine SQ.pures1 tt_ok rfl ?_; exact dp_ (b235 x)
  have b34 : ∀ x : Nat × Nat, B1 8 #[false, false, false, true, true, false, false, false, false, false] ([(43, .int .i64 ((20 + 16 * k : Nat) : Int)), (44, .slice (some ⟨x.1, 0, none⟩) (20 + 16 * k) (20 + 16 * k))] ++ [(1, .int .i64 ((20 + 16 * k : Nat) : Int)), (6, .pointer (some ⟨c6, 0, none⟩)), (7, .pointer (some ⟨c7, 0, none⟩))]) ([pt x.1 (madeCells ti5.zero.cells ((20 + 16 * k) * ti5.size)).toList] ++ ([pt c6 [.int .i64 480, .int .i64 64], pt c7 [.int .i64 ((560 + 16 * k : Nat) : Int), .int .i64 8], pt m [.slice (some ⟨g, 0, none⟩) B.length B.length], pt g (bys B)])) := fun x => by
    refine hs _ _ _ _ [0, 1, 2, 5] (by decide +kernel) ⟨⟨_, rfl, rfl, ?_⟩, ⟨_, rfl, rfl, ?_⟩, ⟨_, rfl, rfl, ?_⟩, ⟨_, rfl, rfl, ?_⟩, trivial⟩
    · refine SQ.pures1 tt_ok rfl ?_; exact dp_ (b034 x)
    · refine ld_ tt_ok ?_; exact dp_ (b134 x)
    · refine ld_ tt_ok ?_; exact dp_ (b234 x)
    · (refine SQ.callA rfl rfl (of104 β) .n ?_; rintro _ _ ⟨S1, rfl, rfl⟩; refine ⟨trivial, ?_⟩); exact dp_ (b345 (x.1, S1))
  have b35 : ∀ x : Nat × Nat, B1 8 #[false, false, false, true, false, true, false, false, false, false] ([(43, .int .i64 ((20 + 16 * k : Nat) : Int)), (45, .pointer (some ⟨x.2, 0, none⟩))] ++ [(1, .int .i64 ((20 + 16 * k : Nat) : Int)), (6, .pointer (some ⟨c6, 0, none⟩)), (7, .pointer (some ⟨c7, 0, none⟩))]) (setL x.2 none 0 [] ++ ([pt c6 [.int .i64 480, .int .i64 64], pt c7 [.int .i64 ((560 + 16 * k : Nat) : Int), .int .i64 8], pt m [.slice (some ⟨g, 0, none⟩) B.length B.length], pt g (bys B)])) := fun x => by
    refine hs _ _ _ _ [0, 1, 2, 4] (by decide +kernel) ⟨⟨_, rfl, rfl, ?_⟩, ⟨_, rfl, rfl, ?_⟩, ⟨_, rfl, rfl, ?_⟩, ⟨_, rfl, rfl, ?_⟩, trivial⟩
    · refine SQ.pures1 tt_ok rfl ?_; exact dp_ (b035 x)
    · refine ld_ tt_ok ?_; exact dp_ (b135 x)
    · refine ld_ tt_ok ?_; exact dp_ (b235 x)
    · refine SQ.make tt_ok rfl rfl (20 + 16 * k) rfl rfl (by show (20 + 16 * k) * 1 ≤ _; omega) (by show 1 * (20 + 16 * k) ≤ _; omega) (by omega) (fun g1 => ⟨trivial, ?_⟩); exact dp_ (b345 (g1, x.2))
  have b0 : ∀ x : Nat × Nat, B1 9 #[true, false, false, false, false, false, false, false, false, false] ([(40, .int .i64 ((20 + 16 * k : Nat) : Int))] ++ [(1, .int .i64 ((20 + 16 * k : Nat) : Int)), (6, .pointer (some ⟨c6, 0, none⟩)), (7, .pointer (some ⟨c7, 0, none⟩))]) ([pt c6 [.int .i64 480, .int .i64 64], pt c7 [.int .i64 ((560 + 16 * k : Nat) : Int), .int .i64 8], pt m [.slice (some ⟨g, 0, none⟩) B.length B.length], pt g (bys B)]) := fun x => by
    refine hs _ _ _ _ [1, 2, 3, 5] (by decide +kernel) ⟨⟨_, rfl, rfl, ?_⟩, ⟨_, rfl, rfl, ?_⟩, ⟨_, rfl, rfl, ?_⟩, ⟨_, rfl, rfl, ?_⟩, trivial⟩
    · refine ld_ tt_ok ?_; exact dp_ (b01 x)
    · refine ld_ tt_ok ?_; exact dp_ (b02 x)
    · refine SQ.pures1 tt_ok rfl ?_; exact dp_ (b03 x)
    · (refine SQ.callA rfl rfl (of104 β) .n ?_; rintro _ _ ⟨S1, rfl, rfl⟩; refine ⟨trivial, ?_⟩); exact dp_ (b05 (x.1, S1))
  have b1 : ∀ x : Nat × Nat, B1 9 #[false, true, false, false, false, false, false, false, false, false] ([(41, .agg #[.int .i64 480, .int .i64 64])] ++ [(1, .int .i64 ((20 + 16 * k : Nat) : Int)), (6, .pointer (some ⟨c6, 0, none⟩)), (7, .pointer (some ⟨c7, 0, none⟩))]) ([pt c6 [.int .i64 480, .int .i64 64], pt c7 [.int .i64 ((560 + 16 * k : Nat) : Int), .int .i64 8], pt m [.slice (some ⟨g, 0, none⟩) B.length B.length], pt g (bys B)]) := fun x => by
    refine hs _ _ _ _ [0, 2, 3, 5] (by decide +kernel) ⟨⟨_, rfl, rfl, ?_⟩, ⟨_, rfl, rfl, ?_⟩, ⟨_, rfl, rfl, ?_⟩, ⟨_, rfl, rfl, ?_⟩, trivial⟩
    · refine SQ.pures1 tt_ok rfl ?_; exact dp_ (b01 x)
    · refine ld_ tt_ok ?_; exact dp_ (b12 x)
    · refine SQ.pures1 tt_ok rfl ?_; exact dp_ (b13 x)
    · (refine SQ.callA rfl rfl (of104 β) .n ?_; rintro _ _ ⟨S1, rfl, rfl⟩; refine ⟨trivial, ?_⟩); exact dp_ (b15 (x.1, S1))
  have b2 : ∀ x : Nat × Nat, B1 9 #[false, false, true, false, false, false, false, false, false, false] ([(42, .agg #[.int .i64 ((560 + 16 * k : Nat) : Int), .int .i64 8])] ++ [(1, .int .i64 ((20 + 16 * k : Nat) : Int)), (6, .pointer (some ⟨c6, 0, none⟩)), (7, .pointer (some ⟨c7, 0, none⟩))]) ([pt c6 [.int .i64 480, .int .i64 64], pt c7 [.int .i64 ((560 + 16 * k : Nat) : Int), .int .i64 8], pt m [.slice (some ⟨g, 0, none⟩) B.length B.length], pt g (bys B)]) := fun x => by
    refine hs _ _ _ _ [0, 1, 3, 5] (by decide +kernel) ⟨⟨_, rfl, rfl, ?_⟩, ⟨_, rfl, rfl, ?_⟩, ⟨_, rfl, rfl, ?_⟩, ⟨_, rfl, rfl, ?_⟩, trivial⟩
    · refine SQ.pures1 tt_ok rfl ?_; exact dp_ (b02 x)
    · refine ld_ tt_ok ?_; exact dp_ (b12 x)
    · refine SQ.pures1 tt_ok rfl ?_; exact dp_ (b23 x)
    · (refine SQ.callA rfl rfl (of104 β) .n ?_; rintro _ _ ⟨S1, rfl, rfl⟩; refine ⟨trivial, ?_⟩); exact dp_ (b25 (x.1, S1))
  have b3 : ∀ x : Nat × Nat, B1 9 #[false, false, false, true, false, false, false, false, false, false] ([(43, .int .i64 ((20 + 16 * k : Nat) : Int))] ++ [(1, .int .i64 ((20 + 16 * k : Nat) : Int)), (6, .pointer (some ⟨c6, 0, none⟩)), (7, .pointer (some ⟨c7, 0, none⟩))]) ([pt c6 [.int .i64 480, .int .i64 64], pt c7 [.int .i64 ((560 + 16 * k : Nat) : Int), .int .i64 8], pt m [.slice (some ⟨g, 0, none⟩) B.length B.length], pt g (bys B)]) := fun x => by
    refine hs _ _ _ _ [0, 1, 2, 4, 5] (by decide +kernel) ⟨⟨_, rfl, rfl, ?_⟩, ⟨_, rfl, rfl, ?_⟩, ⟨_, rfl, rfl, ?_⟩, ⟨_, rfl, rfl, ?_⟩, ⟨_, rfl, rfl, ?_⟩, trivial⟩
    · refine SQ.pures1 tt_ok rfl ?_; exact dp_ (b03 x)
    · refine ld_ tt_ok ?_; exact dp_ (b13 x)
    · refine ld_ tt_ok ?_; exact dp_ (b23 x)
    · refine SQ.make tt_ok rfl rfl (20 + 16 * k) rfl rfl (by show (20 + 16 * k) * 1 ≤ _; omega) (by show 1 * (20 + 16 * k) ≤ _; omega) (by omega) (fun g1 => ⟨trivial, ?_⟩); exact dp_ (b34 (g1, x.2))
    · (refine SQ.callA rfl rfl (of104 β) .n ?_; rintro _ _ ⟨S1, rfl, rfl⟩; refine ⟨trivial, ?_⟩); exact dp_ (b35 (x.1, S1))
  have b5 : ∀ x : Nat × Nat, B1 9 #[false, false, false, false, false, true, false, false, false, false] ([(45, .pointer (some ⟨x.2, 0, none⟩))] ++ [(1, .int .i64 ((20 + 16 * k : Nat) : Int)), (6, .pointer (some ⟨c6, 0, none⟩)), (7, .pointer (some ⟨c7, 0, none⟩))]) (setL x.2 none 0 [] ++ ([pt c6 [.int .i64 480, .int .i64 64], pt c7 [.int .i64 ((560 + 16 * k : Nat) : Int), .int .i64 8], pt m [.slice (some ⟨g, 0, none⟩) B.length B.length], pt g (bys B)])) := fun x => by
    refine hs _ _ _ _ [0, 1, 2, 3] (by decide +kernel) ⟨⟨_, rfl, rfl, ?_⟩, ⟨_, rfl, rfl, ?_⟩, ⟨_, rfl, rfl, ?_⟩, ⟨_, rfl, rfl, ?_⟩, trivial⟩
    · refine SQ.pures1 tt_ok rfl ?_; exact dp_ (b05 x)
    · refine ld_ tt_ok ?_; exact dp_ (b15 x)
    · refine ld_ tt_ok ?_; exact dp_ (b25 x)
    · refine SQ.pures1 tt_ok rfl ?_; exact dp_ (b35 x)
  have x : Nat × Nat := (0, 0)
  refine hs _ _ _ _ [0, 1, 2, 3, 5] (by decide +kernel) ⟨⟨_, rfl, rfl, ?_⟩, ⟨_, rfl, rfl, ?_⟩, ⟨_, rfl, rfl, ?_⟩, ⟨_, rfl, rfl, ?_⟩, ⟨_, rfl, rfl, ?_⟩, trivial⟩
  · refine SQ.pures1 tt_ok rfl ?_; exact dp_ (b0 x)
  · refine ld_ tt_ok ?_; exact dp_ (b1 x)
  · refine ld_ tt_ok ?_; exact dp_ (b2 x)
  · refine SQ.pures1 tt_ok rfl ?_; exact dp_ (b3 x)
  · (refine SQ.callA rfl rfl (of104 β) .n ?_; rintro _ _ ⟨S1, rfl, rfl⟩; refine ⟨trivial, ?_⟩); exact dp_ (b5 (x.1, S1))
end Go.Proofs.YthhfoppaaehepaaGreatDoor.Sl
namespace Go.Proofs.YthhfoppaaehepaaGreatDoor.Sl
open Go Go.RowKit Go.Proofs
set_option linter.unusedVariables false
set_option linter.unusedSimpArgs false
attribute [local irreducible] CW Tri OW
set_option maxRecDepth 10000
@[reducible] def pk100 : List (Nat × Plan) := [(1, [(0, 0, []), (1, 0, []), (2, 0, []), (3, 0, []), (4, 0, []), (5, 0, []), (6, 0, []), (7, 0, []), (8, 0, []), (9, 0, []), (10, 0, []), (11, 0, []), (12, 0, []), (13, 0, []), (14, 0, []), (15, 0, []), (16, 0, []), (17, 0, []), (18, 0, []), (19, 0, []), (20, 0, []), (21, 0, []), (22, 0, []), (23, 0, []), (24, 0, []), (25, 0, []), (26, 0, []), (27, 0, []), (28, 0, []), (29, 0, []), (30, 0, []), (31, 0, [])])]
@[reducible] def pk145 : List (Nat × Plan) := [(6, [(0, 0, []), (1, 0, []), (2, 0, []), (3, 0, []), (4, 0, []), (5, 0, []), (6, 0, []), (7, 0, []), (8, 0, []), (9, 1, [])])]
theorem u8_nat (z : Int) : ∃ n : Nat, IntKind.u8.wrap z = (n : Int) := ⟨(z % 256).toNat, by unfold IntKind.wrap; simp [IntKind.signed, IntKind.bits]; omega⟩
theorem u64_nat (z : Int) : ∃ n : Nat, IntKind.u64.wrap z = (n : Int) := ⟨(z % 18446744073709551616).toNat, by rw [wrap_u64]; omega⟩
/-- The document's memory. -/
def dmA (m g : Nat) : Atom := exA fun B : List Nat => [pureA (B.length = 4096), pt m [.slice (some ⟨g, 0, none⟩) 4096 4096], pt g (bys B)]
theorem dm_close {m g : Nat} {B : List Nat} (h : B.length = 4096) : Ent [pt m [.slice (some ⟨g, 0, none⟩) 4096 4096], pt g (bys B)] [dmA m g] :=
  (Ent.pureA h).trans (Ent.exA (f := fun B : List Nat => [pureA (B.length = 4096), pt m [.slice (some ⟨g, 0, none⟩) 4096 4096], pt g (bys B)]) B)
theorem fair166 (β : Base) (a s : Int) : Tri Tryz.prog β 166 [.agg #[.int .i64 a, .int .i64 s]] [] (fun v L => (∃ b, v = .bool b) ∧ L = []) := by
  refine Tri.intro tt_ok Tryz.func166 rfl rfl Tryz.ntmps166 rfl fun F => ?_
  (repeat' (first | refine CW.seq ?_ | refine CW.region tt_ok rfl ?_ | refine CW.block ?_ | refine CW.skip ?_ | refine SQ.nil ?_ | refine SQ.pures1 tt_ok rfl ?_ | refine SQ.pure1 tt_ok rfl ?_ | refine SQ.new _ _ rfl rfl (fun _ => ?_) | refine SQ.ldA tt_ok rfl rfl (by repeat (first | exact .h | exact .q | apply At.t)) (by rfl) ?_ | refine SQ.stA tt_ok rfl rfl (by repeat (first | apply Up.h | apply Up.t)) (by rfl) (by rfl) (by exact trivial) ?_ | refine CW.cond_tt rfl ?_ | refine CW.cond_ff rfl ?_ | ((first | refine CW.cond rfl (fun hc => ?_) (fun hc => ?_) | refine SQ.gsplit rfl (fun hc => ?_) (fun hc => ?_)) <;> try (exfalso; simp_all; done))))
  all_goals exact CW.ret (fin_ret rfl (Ent.dropAll _) ⟨⟨_, rfl⟩, rfl⟩)
set_option maxHeartbeats 4000000 in
theorem holds100 (β : Base) (m g : Nat) (a s : Int) : Tri Tryz.prog β 100 [.pointer (some ⟨m, 0, none⟩), .agg #[.int .i64 a, .int .i64 s]] [dmA m g] (fun v L => v = .bool (holdsV 4096 a s) ∧ L = [dmA m g]) := by
  refine Tri.intro tt_ok Tryz.func100 rfl rfl Tryz.ntmps100 rfl fun F => ?_
  refine CW.open_ fun B => CW.pure_ fun hB => ?_
  unfold holdsV
  (refine G tt_ok pk100 ?_; repeat (refine G1 tt_ok pk100 ?_; intro _))
  by_cases h1 : a ≥ 0
  · rw [decide_eq_true h1]
    (refine G tt_ok pk100 ?_; repeat (refine G1 tt_ok pk100 ?_; intro _))
    by_cases h2 : s ≥ 0
    · rw [decide_eq_true h2]
      (refine G tt_ok pk100 ?_; repeat (refine G1 tt_ok pk100 ?_; intro _))
      by_cases h3 : s ≤ ((4096 : Nat) : Int)
      · rw [decide_eq_true h3]
        (refine G tt_ok pk100 ?_; repeat (refine G1 tt_ok pk100 ?_; intro _))
        rw [wrap_id (show -9223372036854775808 ≤ ((4096 : Nat) : Int) - s by omega) (by omega)]
        exact CW.ret (fin_ret rfl (Ent.trans pk_ (dm_close hB)) ⟨rfl, rfl⟩)
      · rw [decide_eq_false h3]
        (refine G tt_ok pk100 ?_; repeat (refine G1 tt_ok pk100 ?_; intro _))
        exact CW.ret (fin_ret rfl (Ent.trans pk_ (dm_close hB)) ⟨rfl, rfl⟩)
    · rw [decide_eq_false h2]
      (refine G tt_ok pk100 ?_; repeat (refine G1 tt_ok pk100 ?_; intro _))
      exact CW.ret (fin_ret rfl (Ent.trans pk_ (dm_close hB)) ⟨rfl, rfl⟩)
  · rw [decide_eq_false h1]
    (refine G tt_ok pk100 ?_; repeat (refine G1 tt_ok pk100 ?_; intro _))
    exact CW.ret (fin_ret rfl (Ent.trans pk_ (dm_close hB)) ⟨rfl, rfl⟩)
set_option maxHeartbeats 4000000 in
theorem meet142 (β : Base) (a s b t : Int) : Tri Tryz.prog β 142 [.agg #[.int .i64 a, .int .i64 s], .agg #[.int .i64 b, .int .i64 t]] [] (fun v L => (∃ b, v = .bool b) ∧ L = []) := by
  refine Tri.intro tt_ok Tryz.func142 rfl rfl Tryz.ntmps142 rfl fun F => ?_
  (refine G tt_ok [] ?_; repeat (refine G1 tt_ok [] ?_; intro _))
  (refine ka rfl rfl (fair166 β a s) ?_; rintro _ _ ⟨⟨f1, rfl⟩, rfl⟩; refine w_ ?_)
  cases f1 <;> (refine G tt_ok [] ?_; repeat (refine G1 tt_ok [] ?_; intro _))
  · exact CW.ret (fin_ret rfl (Ent.dropAll _) ⟨⟨_, rfl⟩, rfl⟩)
  (refine ka rfl rfl (fair166 β b t) ?_; rintro _ _ ⟨⟨f2, rfl⟩, rfl⟩; refine w_ ?_)
  cases f2 <;> (refine G tt_ok [] ?_; repeat (refine G1 tt_ok [] ?_; intro _))
  · exact CW.ret (fin_ret rfl (Ent.dropAll _) ⟨⟨_, rfl⟩, rfl⟩)
  (repeat' (first | refine CW.seq ?_ | refine CW.region tt_ok rfl ?_ | refine CW.block ?_ | refine CW.skip ?_ | refine SQ.nil ?_ | refine SQ.pures1 tt_ok rfl ?_ | refine SQ.pure1 tt_ok rfl ?_ | refine SQ.new _ _ rfl rfl (fun _ => ?_) | refine SQ.ldA tt_ok rfl rfl (by repeat (first | exact .h | exact .q | apply At.t)) (by rfl) ?_ | refine SQ.stA tt_ok rfl rfl (by repeat (first | apply Up.h | apply Up.t)) (by rfl) (by rfl) (by exact trivial) ?_ | refine CW.cond_tt rfl ?_ | refine CW.cond_ff rfl ?_ | ((first | refine CW.cond rfl (fun hc => ?_) (fun hc => ?_) | refine SQ.gsplit rfl (fun hc => ?_) (fun hc => ?_)) <;> try (exfalso; simp_all; done))))
  all_goals exact CW.ret (fin_ret rfl (Ent.dropAll _) ⟨⟨_, rfl⟩, rfl⟩)
def enOk (v : Value) : Prop := ∃ (a : Int) (ok : Bool), v = .tuple #[.int .i64 a, .bool ok] ∧ (ok = true → ∃ A : Nat, a = (A : Int) ∧ A + 8 ≤ 4096)
set_option maxHeartbeats 4000000 in
theorem entry101 (β : Base) (m g : Nat) (a s k : Int) : Tri Tryz.prog β 101 [.pointer (some ⟨m, 0, none⟩), .agg #[.int .i64 a, .int .i64 s], .int .i64 k] [dmA m g] (fun v L => enOk v ∧ L = [dmA m g]) := by
  refine Tri.intro tt_ok Tryz.func101 rfl rfl Tryz.ntmps101 rfl fun F => ?_
  (refine G tt_ok [] ?_; repeat (refine G1 tt_ok [] ?_; intro _))
  refine ke rfl rfl (holds100 β m g a s) ?_
  cases hh : holdsV 4096 a s with
  | false =>
    (refine G tt_ok [] ?_; repeat (refine G1 tt_ok [] ?_; intro _))
    exact CW.ret (fin_ret rfl pk_ ⟨⟨_, _, rfl, fun h => by cases h⟩, rfl⟩)
  | true =>
    unfold holdsV at hh
    simp only [Bool.and_eq_true, decide_eq_true_eq] at hh
    (refine G tt_ok [] ?_; repeat (refine G1 tt_ok [] ?_; intro _))
    by_cases h1 : k < 0
    · rw [decide_eq_true h1]
      (refine G tt_ok [] ?_; repeat (refine G1 tt_ok [] ?_; intro _))
      exact CW.ret (fin_ret rfl pk_ ⟨⟨_, _, rfl, fun h => by cases h⟩, rfl⟩)
    · rw [decide_eq_false h1]
      (refine G tt_ok [] ?_; repeat (refine G1 tt_ok [] ?_; intro _))
      by_cases h2 : k ≥ 131072
      · rw [decide_eq_true h2]
        (refine G tt_ok [] ?_; repeat (refine G1 tt_ok [] ?_; intro _))
        exact CW.ret (fin_ret rfl pk_ ⟨⟨_, _, rfl, fun h => by cases h⟩, rfl⟩)
      · rw [decide_eq_false h2]
        (refine G tt_ok [] ?_; repeat (refine G1 tt_ok [] ?_; intro _))
        rw [wrap_id (x := 8 * k) (by omega) (by omega), wrap_id (x := 8 * k + 8) (by omega) (by omega)]
        by_cases h3 : 8 * k + 8 > s
        · rw [decide_eq_true h3]
          (refine G tt_ok [] ?_; repeat (refine G1 tt_ok [] ?_; intro _))
          exact CW.ret (fin_ret rfl pk_ ⟨⟨_, _, rfl, fun h => by cases h⟩, rfl⟩)
        · rw [decide_eq_false h3]
          (refine G tt_ok [] ?_; repeat (refine G1 tt_ok [] ?_; intro _))
          rw [wrap_id (x := 8 * k) (by omega) (by omega), wrap_id (x := a + 8 * k) (by omega) (by omega)]
          exact CW.ret (fin_ret rfl pk_ ⟨⟨_, _, rfl, fun _ => ⟨(a + 8 * k).toNat, by omega, by omega⟩⟩, rfl⟩)
set_option maxHeartbeats 4000000 in
theorem get165 (β : Base) (m g : Nat) {A : Nat} (hA : A + 8 ≤ 4096) : Tri Tryz.prog β 165 [.pointer (some ⟨m, 0, none⟩), .int .i64 A] [dmA m g] (fun v L => (∃ (n : Nat) (b : Bool), v = .tuple #[.int .u64 n, .bool b]) ∧ L = [dmA m g]) := by
  refine Tri.intro tt_ok Tryz.func165 rfl rfl Tryz.ntmps165 rfl fun F => ?_
  refine CW.open_ fun B => CW.pure_ fun hB => ?_
  (refine G tt_ok [] ?_; repeat (refine G1 tt_ok [] ?_; intro _))
  refine CW.loop (α := Nat × Nat) (fun x => x.1 ≤ 8) (fun x => [(7, .int .i64 (7 - (x.1 : Int))), (6, .int .u64 x.2), (0, .pointer (some ⟨m, 0, none⟩)), (1, .int .i64 A)]) (fun x => [pt m [.slice (some ⟨g, 0, none⟩) 4096 4096], pt g (bys B)]) (fun x => 8 - x.1) (0, 0) (by simp) ⟨rfl, rfl, rfl, rfl, trivial⟩ pk_ ?_
  rintro ⟨i, x⟩ hi
  simp only at hi ⊢
  (refine G tt_ok [] ?_; repeat (refine G1 tt_ok [] ?_; intro _))
  by_cases hlt : i < 8
  · rw [decide_eq_true (show (7 : Int) - (i : Int) ≥ 0 by omega)]
    (refine G tt_ok [] ?_; repeat (refine G1 tt_ok [] ?_; intro _))
    rw [show IntKind.i64.wrap ((A : Int) + (7 - (i : Int))) = ((A + (7 - i) : Nat) : Int) by rw [wrap_id (by omega) (by omega)]; omega]
    refine SQ.idx tt_ok rfl rfl (A + (7 - i)) rfl (by omega) (o' := 0 + (A + (7 - i)) * 1) rfl ?_
    (refine SQ.ldA tt_ok rfl rfl (by repeat (first | exact .h | exact .q | apply At.t)) (bys_at (getD_some (show A + (7 - i) < B.length by omega))) ?_)
    (refine G tt_ok [] ?_; repeat (refine G1 tt_ok [] ?_; intro _))
    obtain ⟨z, hz⟩ := u64_nat (IntKind.u64.wrap ((x : Int) * 256) + IntKind.u64.wrap ((B.getD (A + (7 - i)) 0 : Nat) : Int))
    rw [hz]
    have e : IntKind.i64.wrap ((7 : Int) - (i : Int) - 1) = 7 - ((i + 1 : Nat) : Int) := by rw [wrap_id (by omega) (by omega)]; omega
    exact ⟨(i + 1, z), by simp; omega, by simp; omega, ⟨by rw [← e]; rfl, rfl, rfl, rfl, trivial⟩, pk_⟩
  · rw [decide_eq_false (show ¬ (7 : Int) - (i : Int) ≥ 0 by omega)]
    (refine G tt_ok [] ?_; repeat (refine G1 tt_ok [] ?_; intro _))
    refine CW.exit ?_
    (refine G tt_ok [] ?_; repeat (refine G1 tt_ok [] ?_; intro _))
    exact CW.ret (fin_ret rfl (Ent.trans pk_ (dm_close hB)) ⟨⟨_, _, rfl⟩, rfl⟩)
set_option maxHeartbeats 4000000 in
theorem put102 (β : Base) (m g : Nat) {A : Nat} (hA : A + 8 ≤ 4096) (v : Int) : Tri Tryz.prog β 102 [.pointer (some ⟨m, 0, none⟩), .int .i64 A, .int .u64 v] [dmA m g] (fun u L => u = .tuple #[] ∧ L = [dmA m g]) := by
  refine Tri.intro tt_ok Tryz.func102 rfl rfl Tryz.ntmps102 rfl fun F => ?_
  refine CW.open_ fun B => CW.pure_ fun hB => ?_
  (refine G tt_ok [] ?_; repeat (refine G1 tt_ok [] ?_; intro _))
  refine CW.loop (α := Nat × Int × List Nat) (fun x => x.1 ≤ 8 ∧ x.2.2.length = 4096) (fun x => [(6, .int .i64 x.1), (2, .int .u64 x.2.1), (0, .pointer (some ⟨m, 0, none⟩)), (1, .int .i64 A)]) (fun x => [pt m [.slice (some ⟨g, 0, none⟩) 4096 4096], pt g (bys x.2.2)]) (fun x => 8 - x.1) (0, v, B) ⟨by simp, hB⟩ ⟨rfl, rfl, rfl, rfl, trivial⟩ pk_ ?_
  rintro ⟨i, x, C⟩ ⟨hi, hC⟩
  simp only at hi hC ⊢
  (refine G tt_ok [] ?_; repeat (refine G1 tt_ok [] ?_; intro _))
  by_cases hlt : i < 8
  · rw [decide_eq_true (show (i : Int) < 8 by omega)]
    (refine G tt_ok [] ?_; repeat (refine G1 tt_ok [] ?_; intro _))
    rw [show IntKind.i64.wrap ((A : Int) + (i : Int)) = ((A + i : Nat) : Int) by rw [wrap_id (by omega) (by omega)]; omega]
    refine SQ.idx tt_ok rfl rfl (A + i) rfl (by omega) (o' := 0 + (A + i) * 1) rfl ?_
    obtain ⟨z, hz⟩ := u8_nat (x.tmod 256)
    rw [hz]
    (refine SQ.stA tt_ok rfl rfl (by repeat (first | apply Up.h | apply Up.t)) (by rfl) (bys_wr (show A + i < C.length by omega) z) (by exact trivial) ?_)
    (refine G tt_ok [] ?_; repeat (refine G1 tt_ok [] ?_; intro _))
    have e : IntKind.i64.wrap ((i : Int) + 1) = ((i + 1 : Nat) : Int) := by rw [wrap_id (by omega) (by omega)]; omega
    exact ⟨(i + 1, _, C.set (A + i) z), ⟨by simp; omega, by simp [hC]⟩, by simp; omega, ⟨by rw [← e]; rfl, rfl, rfl, rfl, trivial⟩, pk_⟩
  · rw [decide_eq_false (show ¬ (i : Int) < 8 by omega)]
    (refine G tt_ok [] ?_; repeat (refine G1 tt_ok [] ?_; intro _))
    refine CW.exit ?_
    (refine G tt_ok [] ?_; repeat (refine G1 tt_ok [] ?_; intro _))
    exact fin_normal (vs := []) rfl (Ent.trans pk_ (dm_close hC)) ⟨rfl, rfl⟩
set_option maxHeartbeats 4000000 in
theorem wipe145 (β : Base) (m g : Nat) (a s : Int) : Tri Tryz.prog β 145 [.pointer (some ⟨m, 0, none⟩), .agg #[.int .i64 a, .int .i64 s]] [dmA m g] (fun v L => (∃ e, v = .int .i64 e) ∧ L = [dmA m g]) := by
  refine Tri.intro tt_ok Tryz.func145 rfl rfl Tryz.ntmps145 rfl fun F => ?_
  (refine G tt_ok pk145 ?_; repeat (refine G1 tt_ok pk145 ?_; intro _))
  rename_i c3
  refine ke rfl rfl (holds100 β m g a s) ?_
  cases hh : holdsV 4096 a s with
  | false =>
    (refine G tt_ok pk145 ?_; repeat (refine G1 tt_ok pk145 ?_; intro _))
    exact CW.ret (fin_ret rfl pk_ ⟨⟨_, rfl⟩, rfl⟩)
  | true =>
    unfold holdsV at hh
    simp only [Bool.and_eq_true, decide_eq_true_eq] at hh
    obtain ⟨AN, rfl⟩ : ∃ k : Nat, a = (k : Int) := ⟨a.toNat, by omega⟩
    obtain ⟨SN, rfl⟩ : ∃ k : Nat, s = (k : Int) := ⟨s.toNat, by omega⟩
    (refine G tt_ok pk145 ?_; repeat (refine G1 tt_ok pk145 ?_; intro _))
    refine CW.ent (L' := dmA m g :: [pt c3 [.int .i64 AN, .int .i64 SN]]) pk_ ?_
    refine CW.open_ fun B => CW.pure_ fun hB => ?_
    refine CW.loop (α := Nat × List Nat) (fun x => x.1 ≤ SN ∧ x.2.length = 4096) (fun x => [(5, .int .i64 x.1), (0, .pointer (some ⟨m, 0, none⟩)), (3, .pointer (some ⟨c3, 0, none⟩))]) (fun x => [pt c3 [.int .i64 AN, .int .i64 SN], pt m [.slice (some ⟨g, 0, none⟩) 4096 4096], pt g (bys x.2)]) (fun x => SN - x.1) (0, B) ⟨by simp, hB⟩ ⟨rfl, rfl, rfl, trivial⟩ pk_ ?_
    rintro ⟨i, C⟩ ⟨hi, hC⟩
    simp only at hi hC ⊢
    (refine G tt_ok pk145 ?_; repeat (refine G1 tt_ok pk145 ?_; intro _))
    by_cases hlt : i < SN
    · rw [decide_eq_true (show (i : Int) < (SN : Int) by omega)]
      (refine G tt_ok pk145 ?_; repeat (refine G1 tt_ok pk145 ?_; intro _))
      rw [show IntKind.i64.wrap ((AN : Int) + (i : Int)) = ((AN + i : Nat) : Int) by rw [wrap_id (by omega) (by omega)]; omega]
      refine SQ.idx tt_ok rfl rfl (AN + i) rfl (by omega) (o' := 0 + (AN + i) * 1) rfl ?_
      (refine SQ.stA tt_ok rfl rfl (by repeat (first | apply Up.h | apply Up.t)) (by rfl) (bys_wr (show AN + i < C.length by omega) 0) (by repeat (first | exact trivial | refine ⟨trivial, ?_⟩ | refine ⟨wk (by repeat (first | exact .h | exact .q | apply At.t)) (by rfl), ?_⟩)) ?_)
      (refine G tt_ok pk145 ?_; repeat (refine G1 tt_ok pk145 ?_; intro _))
      have e : IntKind.i64.wrap ((i : Int) + 1) = ((i + 1 : Nat) : Int) := by rw [wrap_id (by omega) (by omega)]; omega
      exact ⟨(i + 1, C.set (AN + i) 0), ⟨by simp; omega, by simp [hC]⟩, by simp; omega, ⟨by rw [← e]; rfl, rfl, rfl, trivial⟩, pk_⟩
    · rw [decide_eq_false (show ¬ (i : Int) < (SN : Int) by omega)]
      (refine G tt_ok pk145 ?_; repeat (refine G1 tt_ok pk145 ?_; intro _))
      refine CW.exit ?_
      (refine G tt_ok pk145 ?_; repeat (refine G1 tt_ok pk145 ?_; intro _))
      exact CW.ret (fin_ret rfl (Ent.trans pk_ (dm_close hC)) ⟨⟨_, rfl⟩, rfl⟩)
end Go.Proofs.YthhfoppaaehepaaGreatDoor.Sl
