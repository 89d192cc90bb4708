/-
  Part 4 of the proof: contracts of the code's functions, and what is plain.
-/
import Derived.Test.YtakkogdmlbkdaaaGreatDoorM2
import Derived.Laws.CopyRow
import Derived.Laws.IdiomCopy
import Derived.Laws.Slices
import Derived.Test.YtakkogdmlbkdaaaGreatDoorM3
set_option linter.unusedVariables false
set_option linter.unusedSimpArgs false
set_option maxRecDepth 10000
open Go Go.RowKit Go.Proofs
namespace Go.Proofs.YtakkogdmlbkdaaaGreatDoor.Sl.It
attribute [local irreducible] CW Tri OW
@[reducible] def pk132 : List (Nat × Plan) := [(1, [(0, 0, []), (1, 0, []), (2, 0, []), (3, 0, []), (5, 0, []), (6, 0, []), (7, 0, []), (8, 0, []), (4, 1, [3, 8]), (9, 1, [3, 8]), (10, 0, []), (11, 1, [3, 8]), (12, 0, [])])]
@[reducible] def pk167 : List (Nat × Plan) := []
@[reducible] def pk121 : List (Nat × Plan) := [(1, [(0, 0, []), (1, 0, []), (2, 0, []), (3, 0, []), (5, 0, []), (6, 0, []), (7, 0, []), (8, 0, []), (4, 1, [3, 8]), (9, 1, [3, 8]), (10, 1, [3, 8]), (11, 0, [])])]
@[reducible] def pk198 : List (Nat × Plan) := []
set_option maxHeartbeats 4000000 in
theorem bcopy132 (β : Base) (p : Nat) {bs : List (Int × Int)} (hb : BkOk bs) : Tri Tryz.prog β 132 [.pointer (some ⟨p, 0, none⟩)] [bkA p bs] (fun v L => ∃ p', v = .pointer (some ⟨p', 0, none⟩) ∧ L = [bkA p bs, bkA p' bs]) := by
 refine Tri.bk (enters_of Tryz.func132 (by kernel_rfl) rfl) fun q c q2 c2 h1 h2 => ?_
 have hl := hb.2
 refine Tri.intro tt_ok Tryz.func132 rfl rfl Tryz.ntmps132 rfl fun F => ?_
 unfold bkL
 refine G tt_ok pk132 ?_
 (refine ka rfl rfl (clo168 β q c (ksB bs) (by simp) (by omega)) ?_; rintro _ _ ⟨r, d, hd, rfl, rfl⟩; refine w_ ?_)
 refine G tt_ok pk132 ?_
 (refine ka rfl rfl (clo168 β q2 c2 (vsB bs) (by simp) (by omega)) ?_; rintro _ _ ⟨r2, d2, hd2, rfl, rfl⟩; refine w_ ?_)
 (refine G tt_ok pk132 ?_; repeat (refine G1 tt_ok pk132 ?_; intro _))
 rename_i p'
 refine CW.ret (fin_ret rfl (A := [bkA p bs, bkA p' bs]) ?_ ⟨p', rfl, rfl⟩)
 refine (show Ent _ (bkL p q c q2 c2 bs ++ bkL p' r d r2 d2 bs) from by unfold bkL; exact pk_).trans ?_
 exact Ent.append (bk_shut h1 h2) (bk_shut hd hd2)
def thL (b1 b2 : Nat) (r : Option Addr) (d : Nat) (r2 : Option Addr) (d2 : Nat) (bs : List (Int × Int)) : List Atom :=
 [pt b1 [.slice r bs.length d], pt b2 [.slice r2 bs.length d2], own 3 1 (.slice r bs.length d) bs.length (iS (ksB bs)), own 3 1 (.slice r2 bs.length d2) bs.length (iS (vsB bs))]
set_option maxHeartbeats 4000000 in
theorem ball121 (β : Base) (p : Nat) {bs : List (Int × Int)} (hb : BkOk bs) : Tri Tryz.prog β 121 [.pointer (some ⟨p, 0, none⟩)] [bkA p bs]
  (fun v L => ∃ b1 b2 r d r2 d2, v = .func (.func 198) #[] #[.pointer (some ⟨b1, 0, none⟩), .pointer (some ⟨b2, 0, none⟩)] ∧ L = bkA p bs :: thL b1 b2 r d r2 d2 bs) := by
 have h167 : ∀ (r : Option Addr) (d : Nat) (r2 : Option Addr) (d2 : Nat), Tri Tryz.prog β 167 [.slice r bs.length d, .slice r2 bs.length d2] [] (fun v L => ∃ b1 b2, v = .func (.func 198) #[] #[.pointer (some ⟨b1, 0, none⟩), .pointer (some ⟨b2, 0, none⟩)] ∧ L = [pt b1 [.slice r bs.length d], pt b2 [.slice r2 bs.length d2]]) := by
  intro r d r2 d2
  refine Tri.intro tt_ok Tryz.func167 rfl rfl Tryz.ntmps167 rfl fun F => ?_
  (refine G tt_ok pk167 ?_; repeat (refine G1 tt_ok pk167 ?_; intro _))
  rename_i b1 b2
  exact CW.ret (fin_ret rfl (A := [pt b1 [.slice r bs.length d], pt b2 [.slice r2 bs.length d2]]) pk_ ⟨b1, b2, rfl, rfl⟩)
 refine Tri.bk (enters_of Tryz.func121 (by kernel_rfl) rfl) fun q c q2 c2 h1 h2 => ?_
 have hl := hb.2
 refine Tri.intro tt_ok Tryz.func121 rfl rfl Tryz.ntmps121 rfl fun F => ?_
 unfold bkL
 refine G tt_ok pk121 ?_
 (refine ka rfl rfl (clo168 β q c (ksB bs) (by simp) (by omega)) ?_; rintro _ _ ⟨r, d, hd, rfl, rfl⟩; refine w_ ?_)
 refine G tt_ok pk121 ?_
 (refine ka rfl rfl (clo168 β q2 c2 (vsB bs) (by simp) (by omega)) ?_; rintro _ _ ⟨r2, d2, hd2, rfl, rfl⟩; refine w_ ?_)
 refine G tt_ok pk121 ?_
 (refine ka rfl rfl (h167 r d r2 d2) ?_; rintro _ _ ⟨b1, b2, rfl, rfl⟩; refine w_ ?_)
 refine G tt_ok pk121 ?_
 refine CW.ret (fin_ret rfl (A := bkA p bs :: thL b1 b2 r d r2 d2 bs) ?_ ⟨b1, b2, r, d, r2, d2, rfl, rfl⟩)
 refine (show Ent _ (bkL p q c q2 c2 bs ++ thL b1 b2 r d r2 d2 bs) from by unfold bkL thL; exact pk_).trans ?_
 exact Ent.append (bk_shut h1 h2) (Ent.refl _)
@[reducible] def kvC (e : Int × Int) : List Value := [.int .i64 e.1, .int .i64 e.2]
set_option maxHeartbeats 4000000 in
theorem iter198 (β : Base) (b1 b2 : Nat) (r : Option Addr) (d : Nat) (r2 : Option Addr) (d2 : Nat) {bs : List (Int × Int)} (hl : bs.length ≤ 1000) :
  Iter Tryz.prog β 198 [.pointer (some ⟨b1, 0, none⟩), .pointer (some ⟨b2, 0, none⟩)] (thL b1 b2 r d r2 d2 bs) kvC bs := by
 intro l J Jx hY
 unfold thL at hY ⊢
 refine Tri.intro tt_ok Tryz.func198 rfl rfl Tryz.ntmps198 rfl fun F => ?_
 refine G tt_ok pk198 ?_
 refine CW.loop (α := Nat) (fun k => k ≤ bs.length) (fun k => [(8, .int .i64 k), (7, .int .i64 bs.length), (6, .slice r bs.length d), (0, .func (.yield l) #[] #[]), (1, .pointer (some ⟨b1, 0, none⟩)), (2, .pointer (some ⟨b2, 0, none⟩))])
  (fun k => [J (bs.take k), pt b1 [.slice r bs.length d], pt b2 [.slice r2 bs.length d2], own 3 1 (.slice r bs.length d) bs.length (iS (ksB bs)), own 3 1 (.slice r2 bs.length d2) bs.length (iS (vsB bs))]) (fun k => bs.length - k) 0 (by omega) ⟨rfl, rfl, rfl, rfl, rfl, rfl, trivial⟩ pk_ ?_
 intro k hk
 refine G tt_ok pk198 ?_
 by_cases hlt : k < bs.length
 ·rw [decide_eq_true (show (k : Int) < (bs.length : Int) by omega)]
  obtain ⟨y, hy⟩ : ∃ y, bs[k]? = some y := ⟨_, List.getElem?_eq_getElem hlt⟩
  have h1 : (ksB bs)[k]? = some y.1 := by rw [List.getElem?_map, hy]; rfl
  have h2 : (vsB bs)[k]? = some y.2 := by rw [List.getElem?_map, hy]; rfl
  have htk : bs.take (k + 1) = bs.take k ++ [y] := by rw [List.take_add_one, hy]; rfl
  have hwr : IntKind.i64.wrap ((k : Int) + 1) = ((k + 1 : Nat) : Int) := by rw [wrap_id (by omega) (by omega)]; simp
  refine G tt_ok pk198 ?_
  refine SQ.idxO tt_ok rfl rfl (k) (rfl) rfl ?_ (hlt := hlt)
  refine G tt_ok pk198 ?_
  refine SQ.ldO tt_ok rfl rfl ((i_at h1)) ?_
  refine G tt_ok pk198 ?_
  refine SQ.idxO tt_ok rfl rfl (k) (rfl) rfl ?_ (hlt := hlt)
  refine G tt_ok pk198 ?_
  refine SQ.ldO tt_ok rfl rfl ((i_at h2)) ?_
  refine G tt_ok pk198 ?_
  have hpre : (bs.take k ++ [y]) <+: bs := by rw [← htk]; exact List.take_prefix _ _
  (refine SQ.yieldA rfl rfl (hY (bs.take k) y hpre) (by repeat (first | exact .n | exact Rm.h | exact Rm.of own_row | exact Rm.of row_close0 | apply Tk.c | apply Rm.t)) ?_; rintro _ _ (⟨rfl, rfl⟩ | ⟨rfl, rfl⟩) <;> refine w_ ?_)
  ·refine G tt_ok pk198 ?_
   exact ⟨k + 1, by omega, by omega, ⟨by rw [← hwr]; rfl, rfl, rfl, rfl, rfl, rfl, trivial⟩, by rw [htk]; exact pk_⟩
  ·refine G tt_ok pk198 ?_
   exact CW.ret (fin_ret (vs := []) rfl (A := [Jx (bs.take k ++ [y]), pt b1 [.slice r bs.length d], pt b2 [.slice r2 bs.length d2], own 3 1 (.slice r bs.length d) bs.length (iS (ksB bs)), own 3 1 (.slice r2 bs.length d2) bs.length (iS (vsB bs))]) pk_ (.inr ⟨bs.take k ++ [y], rfl⟩))
 ·rw [decide_eq_false (show ¬ (k : Int) < (bs.length : Int) by omega)]
  refine G tt_ok pk198 ?_
  refine CW.exit ?_
  refine G tt_ok pk198 ?_
  have hE3 : bs.take k = bs := List.take_of_length_le (by omega)
  exact fin_normal (vs := []) rfl (A := [J bs, pt b1 [.slice r bs.length d], pt b2 [.slice r2 bs.length d2], own 3 1 (.slice r bs.length d) bs.length (iS (ksB bs)), own 3 1 (.slice r2 bs.length d2) bs.length (iS (vsB bs))]) (by rw [hE3]; exact pk_) (.inl rfl)
@[reducible] def pk104 : List (Nat × Plan) := []
@[reducible] def pk117 : List (Nat × Plan) := []
@[reducible] def pk36 : List (Nat × Plan) := []
@[reducible] def pk55 : List (Nat × Plan) := [(1, [(0, 0, []), (1, 0, []), (2, 0, []), (3, 0, []), (4, 0, []), (5, 1, [3, 4]), (6, 1, [3, 4]), (7, 0, []), (8, 0, []), (9, 0, []), (10, 0, []), (11, 0, [])])]
@[reducible] def pk79 : List (Nat × Plan) := [(1, [(0, 0, []), (1, 0, []), (2, 0, []), (3, 0, []), (4, 0, []), (5, 0, []), (6, 0, []), (7, 0, []), (9, 0, []), (10, 0, []), (11, 0, []), (12, 0, []), (8, 1, [3, 7, 12]), (13, 1, [3, 7, 12]), (14, 0, []), (15, 1, [3, 7, 12]), (16, 0, [])])]
structure Sh where
 ns : List (Int × Int)
 ks : List (Int × Int)
def Sh.ok (S : Sh) : Prop := (BkOk S.ns ∧ S.ns.length ≤ 512) ∧ (BkOk S.ks ∧ S.ks.length ≤ 512)
def shL (s np kp : Nat) (S : Sh) : List Atom := [pt s [.int .i64 512, .pointer (some ⟨np, 0, none⟩), .pointer (some ⟨kp, 0, none⟩)], bkA np S.ns, bkA kp S.ks]
def shA (s : Nat) (S : Sh) : Atom := exA fun x : Nat × Nat => shL s x.1 x.2 S
theorem sh_shut {s np kp : Nat} {S : Sh} : Ent (shL s np kp S) [shA s S] := Ent.exA (f := fun x : Nat × Nat => shL s x.1 x.2 S) (np, kp)
theorem Tri.sh {P : Program} {β : Base} {g : FuncId} {args : List Value} {s : Nat} {S : Sh} {A : List Atom} {R : Value → List Atom → Prop} (hE : Enters P g) (h : ∀ np kp, Tri P β g args (shL s np kp S ++ A) R) : Tri P β g args (shA s S :: A) R :=
 Tri.exI hE fun ⟨np, kp⟩ => h np kp
def kyV (d e : Int) : Int := IntKind.i64.wrap (IntKind.i64.wrap (d * 16) + e)
def mayE (d e : Int) : Bool := decide (d ≥ 0) && (decide (d < 32) && (decide (e ≥ 0) && decide (e < 16)))
@[reducible] def evX (d e : Int) : Value := .agg #[.int .i64 d, .int .i64 e]
theorem keyed104 (β : Base) (d e : Int) : Tri Tryz.prog β 104 [evX d e] [] (fun v L => v = .int .i64 (kyV d e) ∧ L = []) := by
 refine Tri.intro tt_ok Tryz.func104 rfl rfl Tryz.ntmps104 rfl fun F => ?_
 unfold kyV
 (refine G tt_ok pk104 ?_; repeat (refine G1 tt_ok pk104 ?_; intro _))
 exact CW.ret (fin_ret rfl (A := []) pk_ ⟨rfl, rfl⟩)
theorem smay105 (β : Base) (d e : Int) : Tri Tryz.prog β 105 [evX d e] [] (fun v L => v = .bool (mayE d e) ∧ L = []) := by
 refine Tri.intro tt_ok Tryz.func105 rfl rfl Tryz.ntmps105 rfl fun F => ?_
 unfold mayE
 (repeat' (first | refine CW.seq ?_ | refine CW.region tt_ok rfl ?_ | refine CW.block ?_ | refine CW.skip ?_ | refine SQ.nil ?_ | refine SQ.pures1 tt_ok rfl ?_ | refine SQ.pure1 tt_ok rfl ?_ | refine SQ.new _ _ rfl rfl (fun _ => ?_) | refine SQ.ldA tt_ok rfl rfl (by repeat (first | exact .h | exact .q | apply At.t)) (by rfl) ?_ | refine SQ.stA tt_ok rfl rfl (by repeat (first | apply Up.h | apply Up.t)) (by rfl) (by rfl) (by repeat (first | exact trivial | refine ⟨trivial, ?_⟩ | refine ⟨wk (by repeat (first | exact .h | exact .q | apply At.t)) (by rfl), ?_⟩)) ?_ | refine CW.cond_tt rfl ?_ | refine CW.cond_ff rfl ?_ | ((first | refine CW.cond rfl (fun hc => ?_) (fun hc => ?_) | refine SQ.gsplit rfl (fun hc => ?_) (fun hc => ?_)) <;> try (exfalso; simp_all; done))))
 all_goals exact CW.ret (fin_ret rfl (A := []) pk_ ⟨by (show Value.bool _ = Value.bool _); congr 1; rw [Bool.eq_iff_iff]; simp_all <;> omega, rfl⟩)
def unkV (k : Int) : Int × Int := (IntKind.i64.wrap (k.tdiv 16), k.tmod 16)
theorem unkeyed117 (β : Base) (k : Int) : Tri Tryz.prog β 117 [.int .i64 k] [] (fun v L => v = evX (unkV k).1 (unkV k).2 ∧ L = []) := by
 refine Tri.intro tt_ok Tryz.func117 rfl rfl Tryz.ntmps117 rfl fun F => ?_
 unfold unkV
 (refine G tt_ok pk117 ?_; repeat (refine G1 tt_ok pk117 ?_; intro _))
 exact CW.ret (fin_cells [_] ⟨cl_, trivial⟩ pk_ ⟨rfl, rfl⟩)
theorem snew36 (β : Base) : Tri Tryz.prog β 36 [.int .i64 512] [] (fun v L => ∃ s, v = .tuple #[.pointer (some ⟨s, 0, none⟩), .int .i64 0] ∧ L = [shA s ⟨[], []⟩]) := by
 refine Tri.intro tt_ok Tryz.func36 rfl rfl Tryz.ntmps36 rfl fun F => ?_
 refine G tt_ok pk36 ?_
 (refine ka rfl rfl (bnew86 β) ?_; rintro _ _ ⟨np, rfl, rfl⟩; refine w_ ?_)
 refine G tt_ok pk36 ?_
 (refine ka rfl rfl (bnew86 β) ?_; rintro _ _ ⟨kp, rfl, rfl⟩; refine w_ ?_)
 (refine G tt_ok pk36 ?_; repeat (refine G1 tt_ok pk36 ?_; intro _))
 rename_i s
 exact CW.ret (fin_ret rfl (A := [shA s ⟨[], []⟩]) ((show Ent _ (shL s np kp ⟨[], []⟩) from by unfold shL; exact pk_).trans sh_shut) ⟨s, rfl, rfl⟩)
def Sh.num (S : Sh) (d e : Int) : Option Int := if mayE d e then getB S.ns (kyV d e) else none
def errO (o : Option Int) : Value := .tuple #[.int .i64 (o.getD 0), .int .i64 (if o.isSome then 0 else 250)]
set_option maxHeartbeats 4000000 in
theorem snum55 (β : Base) (s : Nat) {S : Sh} (hS : S.ok) (d e : Int) : Tri Tryz.prog β 55 [.pointer (some ⟨s, 0, none⟩), evX d e] [shA s S] (fun v L => v = errO (S.num d e) ∧ L = [shA s S]) := by
 refine Tri.sh (enters_of Tryz.func55 (by kernel_rfl) rfl) fun np kp => ?_
 refine Tri.intro tt_ok Tryz.func55 rfl rfl Tryz.ntmps55 rfl fun F => ?_
 unfold shL
 (refine G tt_ok pk55 ?_; repeat (refine G1 tt_ok pk55 ?_; intro _))
 refine ke rfl rfl (keyed104 β d e) ?_
 refine G tt_ok pk55 ?_
 refine ke rfl rfl (bget103 β np hS.1.1 (kyV d e)) ?_
 refine G tt_ok pk55 ?_
 refine ke rfl rfl (smay105 β d e) ?_
 unfold Sh.num errO
 cases hm : mayE d e with
 | false =>
  refine G tt_ok pk55 ?_
  exact CW.ret (fin_ret rfl (A := [shA s S]) ((show Ent _ (shL s np kp S) from by unfold shL; exact pk_).trans sh_shut) ⟨rfl, rfl⟩)
 | true =>
  cases hg : getB S.ns (kyV d e) with
  | none =>
   refine G tt_ok pk55 ?_
   exact CW.ret (fin_ret rfl (A := [shA s S]) ((show Ent _ (shL s np kp S) from by unfold shL; exact pk_).trans sh_shut) ⟨rfl, rfl⟩)
  | some n =>
   refine G tt_ok pk55 ?_
   exact CW.ret (fin_ret rfl (A := [shA s S]) ((show Ent _ (shL s np kp S) from by unfold shL; exact pk_).trans sh_shut) ⟨rfl, rfl⟩)
theorem scopy79 (β : Base) (s : Nat) {S : Sh} (hS : S.ok) : Tri Tryz.prog β 79 [.pointer (some ⟨s, 0, none⟩)] [shA s S] (fun v L => ∃ s', v = .pointer (some ⟨s', 0, none⟩) ∧ L = [shA s S, shA s' S]) := by
 refine Tri.sh (enters_of Tryz.func79 (by kernel_rfl) rfl) fun np kp => ?_
 refine Tri.intro tt_ok Tryz.func79 rfl rfl Tryz.ntmps79 rfl fun F => ?_
 unfold shL
 refine G tt_ok pk79 ?_
 (refine ka rfl rfl (bcopy132 β np hS.1.1) ?_; rintro _ _ ⟨np', rfl, rfl⟩; refine w_ ?_)
 refine G tt_ok pk79 ?_
 (refine ka rfl rfl (bcopy132 β kp hS.2.1) ?_; rintro _ _ ⟨kp', rfl, rfl⟩; refine w_ ?_)
 (refine G tt_ok pk79 ?_; repeat (refine G1 tt_ok pk79 ?_; intro _))
 rename_i s'
 refine CW.ret (fin_ret rfl (A := [shA s S, shA s' S]) ?_ ⟨s', rfl, rfl⟩)
 exact (show Ent _ (shL s np kp S ++ shL s' np' kp' S) from by unfold shL; exact pk_).trans (Ent.append sh_shut sh_shut)
@[reducible] def pk75 : List (Nat × Plan) := [(3, [(0, 0, []), (1, 0, []), (2, 0, []), (3, 0, []), (4, 0, []), (5, 1, [3, 4]), (6, 1, [3, 4]), (7, 0, []), (8, 0, []), (9, 0, []), (10, 0, []), (11, 0, [])]), (11, [(0, 0, []), (1, 0, []), (2, 0, []), (3, 0, []), (4, 0, []), (6, 0, []), (5, 1, [3, 4]), (7, 1, [3, 4])]), (12, [(0, 0, []), (1, 0, []), (2, 0, []), (3, 0, []), (4, 0, []), (5, 0, []), (6, 1, [3, 5]), (7, 1, [3, 5])])]
@[reducible] def pk82 : List (Nat × Plan) := [(3, [(0, 0, []), (1, 0, []), (2, 0, []), (3, 0, []), (4, 0, []), (5, 1, [3, 4]), (6, 1, [3, 4]), (7, 0, []), (8, 0, []), (9, 0, []), (10, 0, []), (11, 0, [])])]
@[reducible] def pk73 : List (Nat × Plan) := []
@[reducible] def pk122 : List (Nat × Plan) := [(4, [(0, 0, []), (1, 0, []), (3, 0, []), (2, 1, [0]), (4, 1, []), (5, 0, [])])]
def leastK (ks : List (Int × Int)) : Nat := ((List.range (ks.length + 1)).find? (fun n : Nat => (getB ks (n : Int)).isNone)).getD 0
theorem count_up {ks : List (Int × Int)} : ∀ n : Nat, (∀ m : Nat, m < n → (getB ks (m : Int)).isSome = true) → n ≤ posB ks n
 | 0, _ => Nat.zero_le _
 | n + 1, h => by
  have ih := count_up n fun m hm => h m (by omega)
  have hm := h n (by omega)
  rw [← contains_get, List.contains_iff_mem] at hm
  have e : ∀ l : List Int, l.countP (· < ((n + 1 : Nat) : Int)) = l.countP (· < (n : Int)) + l.countP (· == (n : Int)) := by
   intro l
   induction l with
   | nil => rfl
   | cons a l ihl =>
    rw [List.countP_cons, List.countP_cons, List.countP_cons, ihl]
    by_cases h1 : a < (n : Int)
    ·rw [if_pos (by simp; omega), if_pos (by simpa using h1), if_neg (by simp; omega)]; omega
    ·by_cases h2 : a = (n : Int)
     ·rw [if_pos (by simp; omega), if_neg (by simpa using h1), if_pos (by simpa using h2)]; omega
     ·rw [if_neg (by simp; omega), if_neg (by simpa using h1), if_neg (by simpa using h2)]; omega
  unfold posB at ih ⊢
  rw [e]
  have : 0 < (ksB ks).countP (· == (n : Int)) := List.countP_pos_iff.2 ⟨_, hm, by simp⟩
  omega
theorem least_eq {ks : List (Int × Int)} {n : Nat} (h : ∀ m : Nat, m < n → (getB ks (m : Int)).isSome = true) (hn : getB ks (n : Int) = none) : leastK ks = n := by
 have h1 := count_up n h
 have h2 := pos_le ks n
 unfold leastK
 rw [List.find?_range_eq_some.2 ⟨by rw [hn]; rfl, by simp; omega, fun j hj => by have := h j hj; cases e : getB ks (j : Int) <;> simp_all⟩]
 rfl
def Sh.bind (S : Sh) (d e : Int) : (Int × Int) × Sh :=
 if mayE d e then match getB S.ns (kyV d e) with
  | some n => ((n, 0), S)
  | none => if leastK S.ks < 512 then (((leastK S.ks : Int), 0), ⟨putB S.ns (kyV d e) (leastK S.ks), putB S.ks (leastK S.ks) (kyV d e)⟩) else ((0, 2), S)
 else ((0, 1), S)
def Sh.free (S : Sh) (d e : Int) : (Int × Int) × Sh :=
 if mayE d e then match getB S.ns (kyV d e) with
  | some n => ((n, 0), ⟨delB S.ns (kyV d e), delB S.ks n⟩)
  | none => ((0, 250), S)
 else ((0, 1), S)
@[reducible] def pairI (r : Int × Int) : Value := .tuple #[.int .i64 r.1, .int .i64 r.2]
set_option maxHeartbeats 8000000 in
theorem sbind75 (β : Base) (s : Nat) {S : Sh} (hS : S.ok) (d e : Int) : Tri Tryz.prog β 75 [.pointer (some ⟨s, 0, none⟩), evX d e] [shA s S] (fun v L => v = pairI (S.bind d e).1 ∧ L = [shA s (S.bind d e).2]) := by
 have hl1 := hS.1.2
 have hl2 := hS.2.2
 refine Tri.sh (enters_of Tryz.func75 (by kernel_rfl) rfl) fun np kp => ?_
 refine Tri.intro tt_ok Tryz.func75 rfl rfl Tryz.ntmps75 rfl fun F => ?_
 unfold shL Sh.bind
 (refine G tt_ok pk75 ?_; repeat (refine G1 tt_ok pk75 ?_; intro _))
 rename_i c3
 refine ke rfl rfl (smay105 β d e) ?_
 cases hm : mayE d e with
 | false =>
  refine G tt_ok pk75 ?_
  exact CW.ret (fin_ret rfl (A := [shA s S]) ((show Ent _ (shL s np kp S) from by unfold shL; exact pk_).trans sh_shut) ⟨rfl, rfl⟩)
 | true =>
  refine G tt_ok pk75 ?_
  refine ke rfl rfl (keyed104 β d e) ?_
  refine G tt_ok pk75 ?_
  refine ke rfl rfl (bget103 β np hS.1.1 (kyV d e)) ?_
  cases hg : getB S.ns (kyV d e) with
  | some n =>
   refine G tt_ok pk75 ?_
   exact CW.ret (fin_ret rfl (A := [shA s S]) ((show Ent _ (shL s np kp S) from by unfold shL; exact pk_).trans sh_shut) ⟨rfl, rfl⟩)
  | none =>
   refine G tt_ok pk75 ?_
   refine CW.loop (α := Nat) (fun n => n ≤ 512 ∧ ∀ m : Nat, m < n → (getB S.ks (m : Int)).isSome = true) (fun n => [(8, .int .i64 n), (0, .pointer (some ⟨s, 0, none⟩)), (3, .pointer (some ⟨c3, 0, none⟩))])
    (fun n => [pt c3 [.int .i64 d, .int .i64 e], pt s [.int .i64 512, .pointer (some ⟨np, 0, none⟩), .pointer (some ⟨kp, 0, none⟩)], bkA np S.ns, bkA kp S.ks]) (fun n => 513 - n) 0 ⟨by omega, fun m hm => by omega⟩ ⟨rfl, rfl, rfl, trivial⟩ pk_ ?_
   rintro n ⟨hn, hall⟩
   refine G tt_ok pk75 ?_
   refine ke rfl rfl (bhas126 β kp hS.2.1 (n : Int)) ?_
   cases hk : getB S.ks (n : Int) with
   | some z =>
    refine G tt_ok pk75 ?_
    have hall2 : ∀ m : Nat, m < n + 1 → (getB S.ks (m : Int)).isSome = true := fun m hm => by
     rcases Nat.lt_succ_iff_lt_or_eq.1 hm with h | h
     ·exact hall m h
     ·rw [h, hk]; rfl
    have hle := Nat.le_trans (count_up (n + 1) hall2) (pos_le S.ks _)
    have hwr : IntKind.i64.wrap ((n : Int) + 1) = ((n + 1 : Nat) : Int) := by rw [wrap_id (by omega) (by omega)]; simp
    exact ⟨n + 1, ⟨by omega, hall2⟩, by omega, ⟨by rw [← hwr]; rfl, rfl, rfl, trivial⟩, pk_⟩
   | none =>
    rw [least_eq hall hk]
    refine G tt_ok pk75 ?_
    refine CW.exit ?_
    refine G tt_ok pk75 ?_
    by_cases hlt : n < 512
    ·rw [decide_eq_false (show ¬ (n : Int) ≥ 512 by omega), if_pos hlt]
     refine G tt_ok pk75 ?_
     refine ke rfl rfl (keyed104 β d e) ?_
     refine G tt_ok pk75 ?_
     refine ke rfl rfl (bput127 β np hS.1.1 (kyV d e) (n : Int) hg (by omega)) ?_
     refine G tt_ok pk75 ?_
     refine ke rfl rfl (keyed104 β d e) ?_
     refine G tt_ok pk75 ?_
     refine ke rfl rfl (bput127 β kp hS.2.1 (n : Int) (kyV d e) hk (by omega)) ?_
     refine G tt_ok pk75 ?_
     exact CW.ret (fin_ret rfl (A := [shA s ⟨putB S.ns (kyV d e) n, putB S.ks n (kyV d e)⟩]) ((show Ent _ (shL s np kp ⟨putB S.ns (kyV d e) n, putB S.ks n (kyV d e)⟩) from by unfold shL; exact pk_).trans sh_shut) ⟨rfl, rfl⟩)
    ·rw [decide_eq_true (show (n : Int) ≥ 512 by omega), if_neg hlt]
     refine G tt_ok pk75 ?_
     exact CW.ret (fin_ret rfl (A := [shA s S]) ((show Ent _ (shL s np kp S) from by unfold shL; exact pk_).trans sh_shut) ⟨rfl, rfl⟩)
set_option maxHeartbeats 4000000 in
theorem sfree82 (β : Base) (s : Nat) {S : Sh} (hS : S.ok) (d e : Int) : Tri Tryz.prog β 82 [.pointer (some ⟨s, 0, none⟩), evX d e] [shA s S] (fun v L => v = pairI (S.free d e).1 ∧ L = [shA s (S.free d e).2]) := by
 refine Tri.sh (enters_of Tryz.func82 (by kernel_rfl) rfl) fun np kp => ?_
 refine Tri.intro tt_ok Tryz.func82 rfl rfl Tryz.ntmps82 rfl fun F => ?_
 unfold shL Sh.free
 (refine G tt_ok pk82 ?_; repeat (refine G1 tt_ok pk82 ?_; intro _))
 refine ke rfl rfl (smay105 β d e) ?_
 cases hm : mayE d e with
 | false =>
  refine G tt_ok pk82 ?_
  exact CW.ret (fin_ret rfl (A := [shA s S]) ((show Ent _ (shL s np kp S) from by unfold shL; exact pk_).trans sh_shut) ⟨rfl, rfl⟩)
 | true =>
  refine G tt_ok pk82 ?_
  refine ke rfl rfl (keyed104 β d e) ?_
  refine G tt_ok pk82 ?_
  refine ke rfl rfl (btake134 β np hS.1.1 (kyV d e)) ?_
  cases hg : getB S.ns (kyV d e) with
  | none =>
   have hd : delB S.ns (kyV d e) = S.ns := by
    unfold delB
    rw [List.filter_eq_self]
    intro a ha
    rw [get_none] at hg
    have : a.1 ≠ kyV d e := fun h => hg a.2 (by rw [← h]; exact ha)
    simpa using this
   rw [hd]
   refine G tt_ok pk82 ?_
   exact CW.ret (fin_ret rfl (A := [shA s S]) ((show Ent _ (shL s np kp S) from by unfold shL; exact pk_).trans sh_shut) ⟨rfl, rfl⟩)
  | some n =>
   refine G tt_ok pk82 ?_
   refine ke rfl rfl (btake134 β kp hS.2.1 n) ?_
   refine G tt_ok pk82 ?_
   exact CW.ret (fin_ret rfl (A := [shA s ⟨delB S.ns (kyV d e), delB S.ks n⟩]) ((show Ent _ (shL s np kp ⟨delB S.ns (kyV d e), delB S.ks n⟩) from by unfold shL; exact pk_).trans sh_shut) ⟨rfl, rfl⟩)
@[reducible] def evkC (e : Int × Int) : List Value := [evX (unkV e.1).1 (unkV e.1).2, .int .i64 e.2]
def seL (b3 b1 b2 : Nat) (r : Option Addr) (d : Nat) (r2 : Option Addr) (d2 : Nat) (bs : List (Int × Int)) : List Atom :=
 pt b3 [.func (.func 198) #[] #[.pointer (some ⟨b1, 0, none⟩), .pointer (some ⟨b2, 0, none⟩)]] :: thL b1 b2 r d r2 d2 bs
theorem sall73 (β : Base) (s : Nat) {S : Sh} (hS : S.ok) : Tri Tryz.prog β 73 [.pointer (some ⟨s, 0, none⟩)] [shA s S]
  (fun v L => ∃ b3 b1 b2 r d r2 d2, v = .func (.func 122) #[] #[.pointer (some ⟨b3, 0, none⟩)] ∧ L = shA s S :: seL b3 b1 b2 r d r2 d2 S.ns) := by
 refine Tri.sh (enters_of Tryz.func73 (by kernel_rfl) rfl) fun np kp => ?_
 refine Tri.intro tt_ok Tryz.func73 rfl rfl Tryz.ntmps73 rfl fun F => ?_
 unfold shL
 refine G tt_ok pk73 ?_
 (refine ka rfl rfl (ball121 β np hS.1.1) ?_; rintro _ _ ⟨b1, b2, r, d, r2, d2, rfl, rfl⟩; refine w_ ?_)
 unfold thL
 (refine G tt_ok pk73 ?_; repeat (refine G1 tt_ok pk73 ?_; intro _))
 rename_i b3
 refine CW.ret (fin_ret rfl (A := shA s S :: seL b3 b1 b2 r d r2 d2 S.ns) ?_ ⟨b3, b1, b2, r, d, r2, d2, rfl, rfl⟩)
 refine (show Ent _ (shL s np kp S ++ seL b3 b1 b2 r d r2 d2 S.ns) from by unfold shL seL thL; exact pk_).trans ?_
 exact Ent.append sh_shut (Ent.refl _)
set_option maxHeartbeats 4000000 in
theorem iter122 (β : Base) (b3 b1 b2 : Nat) (r : Option Addr) (d : Nat) (r2 : Option Addr) (d2 : Nat) {bs : List (Int × Int)} (hl : bs.length ≤ 1000) :
  Iter Tryz.prog β 122 [.pointer (some ⟨b3, 0, none⟩)] (seL b3 b1 b2 r d r2 d2 bs) evkC bs := by
 intro l J Jx hY
 have hI := iter198 β b1 b2 r d r2 d2 hl
 unfold seL thL at hY ⊢
 unfold thL at hI
 refine Tri.intro tt_ok Tryz.func122 rfl rfl Tryz.ntmps122 rfl fun F => ?_
 (refine G tt_ok pk122 ?_; repeat (refine G1 tt_ok pk122 ?_; intro _))
 rename_i c2
 refine CW.rangeA rfl hI (by repeat (first | exact .n | exact Rm.h | apply Tk.c | apply Rm.t)) (fun pre => [J pre, pt c2 [.func (.yield l) #[] #[]], pt b3 [.func (.func 198) #[] #[.pointer (some ⟨b1, 0, none⟩), .pointer (some ⟨b2, 0, none⟩)]]])
  (fun c M => c = .ret ∧ ∃ pre, M = [Jx pre, pt c2 [.func (.yield l) #[] #[]], pt b3 [.func (.func 198) #[] #[.pointer (some ⟨b1, 0, none⟩), .pointer (some ⟨b2, 0, none⟩)]]]) pk_ (fun _ => rfl) (by decide) ?_ ?_ ?_
 ·intro pre x hpre lp fm rec1
  refine G tt_ok pk122 ?_
  intro fm2 rec2
  refine G tt_ok pk122 ?_
  refine ke rfl rfl (unkeyed117 β x.1) ?_
  refine G tt_ok pk122 ?_
  (refine SQ.yieldA rfl rfl (hY pre x hpre) (by repeat (first | exact .n | exact Rm.h | exact Rm.of own_row | exact Rm.of row_close0 | apply Tk.c | apply Rm.t)) ?_; rintro _ _ (⟨rfl, rfl⟩ | ⟨rfl, rfl⟩) <;> refine w_ ?_)
  ·refine G tt_ok pk122 ?_
   exact pk_
  ·refine G tt_ok pk122 ?_
   exact CW.ret ⟨_, ⟨rfl, pre ++ [x], rfl⟩, pk_⟩
 ·refine G tt_ok pk122 ?_
  exact fin_normal (vs := []) rfl (A := J bs :: pt b3 [.func (.func 198) #[] #[.pointer (some ⟨b1, 0, none⟩), .pointer (some ⟨b2, 0, none⟩)]] :: thL b1 b2 r d r2 d2 bs) (by unfold thL; exact pk_) (.inl rfl)
 ·rintro c M ⟨rfl, pre, rfl⟩
  exact CW.ret (fin_ret (vs := []) rfl (A := Jx pre :: pt b3 [.func (.func 198) #[] #[.pointer (some ⟨b1, 0, none⟩), .pointer (some ⟨b2, 0, none⟩)]] :: thL b1 b2 r d r2 d2 bs) (by unfold thL; exact pk_) (.inr ⟨pre, rfl⟩))
end Go.Proofs.YtakkogdmlbkdaaaGreatDoor.Sl.It
namespace Go.Proofs.YtakkogdmlbkdaaaGreatDoor.Sl
section
variable {P : Program} {β : Base} {rnd : Option (Nat × Loop)} {N : Nat} {env : Env} {L : List Atom} {K : Env → List Atom → Prop} {ops : Array Oper} {T : TT}
def cpE (T : TT) (N : Nat) (ops : Array Oper) (env : Env) (o : Oper) : Option (Nat × Option Addr × Nat × Option Addr × Nat) :=
 match dstE N ops env o with
 | some d => match o.op with
  | .call c => match c.callee, c.args.toList, c.argTypes.toList with
   | .builtin .copy, [x, y], [t, _] => match T.get t, ev env x, ev env y with
    | some ti, some (.slice q n _), some (.slice q2 m _) => match ti.desc with
     | .slice e => match T.get e with
      | some te => match Nat.beq te.size 1 with
       | true => some (d, q, n, q2, m)
       | false => none
      | none => none
     | _ => none
    | _, _, _ => none
   | _, _, _ => none
  | _ => none
 | none => none
theorem SQ.cpy_ (hT : TTok P T) {s : Stp} {r : List Stp} {obs : Obs} {d n m : Nat} {q q2 : Option Addr} (he : s.k = 1) (h : cpE T N ops env s.o = some (d, q, n, q2, m)) {M : List Atom} {v : Value}
  (hrun : ∀ (w : World) (Ds : List Nat) (fm : List Atom), Sat β w (hid Ds ⟨rnd, fm⟩ ++ L) → ∀ (t t2 ty e c c2 : Nat), P.underlying t = some (.slice e) → (P.info? e).map (·.size) = some 1 → ∃ w', (Builtin.copy_ #[t, t2] ty #[.slice q n c, .slice q2 m c2]).run P w = .ok v w' ∧ Sat β w' (hid Ds ⟨rnd, fm⟩ ++ M))
  (k : watchOk β obs M s.watch ∧ SQ P β rnd N T ops K r obs ((d, v) :: env) M) : SQ P β rnd N T ops K (s :: r) obs env L := by
 unfold cpE at h
 split at h <;> try (cases h; done)
 rename_i d' hde
 obtain ⟨hw, hd, hdl⟩ := dstE_eq hde
 split at h <;> try (cases h; done)
 rename_i c hop
 split at h <;> try (cases h; done)
 rename_i x y t t2 hc ha hat
 split at h <;> try (cases h; done)
 rename_i ti q0 n0 c0 q20 m0 c20 hti hx hy
 split at h <;> try (cases h; done)
 rename_i e hde2
 split at h <;> try (cases h; done)
 rename_i te hte
 split at h <;> try (cases h; done)
 rename_i hsz
 simp only [Option.some.injEq, Prod.mk.injEq] at h
 obtain ⟨rfl, rfl, rfl, rfl, rfl⟩ := h
 refine SQ.act he hw fun fm nn Qx a w st0 => ?_
 obtain ⟨hen, Ds, hds, st⟩ := st0
 have hu := (hT.get hti).1.1
 rw [hde2] at hu
 obtain ⟨inf, hinf, hsz2, _, _⟩ := (hT.get hte).info
 obtain ⟨w', hr, s2⟩ := hrun w Ds fm st t t2 s.o.type e c0 c20 hu (by rw [hinf]; simp [hsz2, Nat.eq_of_beq_eq_true hsz])
 have e2 : (execOp a.eval s.o).run P w = .ok (.value v) w' := by
  obtain ⟨si, ⟨dst, op, type, pos, after, guard⟩, se, sw⟩ := s
  obtain ⟨callee, args, ats⟩ := c
  simp only at hop hc ha hat
  subst hop
  subst hc
  obtain rfl : args = #[x, y] := Array.toList_inj.1 (by simpa using ha)
  obtain rfl : ats = #[t, t2] := Array.toList_inj.1 (by simpa using hat)
  simp only [execOp, resolve, invoke, builtin, Sem.run_bind, Sem.run_pure, Result.andThen]
  have e3 : (#[x, y] : Array Operand).map a.eval = #[.slice q0 n0 c0, .slice q20 m0 c20] := by simp [hen.eval hx, hen.eval hy]
  rw [e3, hr]
 rw [e2]
 exact ⟨_, _, ⟨by rw [hd]; exact hen.put hdl _, Ds, by rw [hd]; exact hds, s2⟩, k⟩
theorem SQ.cpy0 (hT : TTok P T) {s : Stp} {r : List Stp} {obs : Obs} {d n m : Nat} {q q2 : Option Addr} (he : s.k = 1) (h : cpE T N ops env s.o = some (d, q, n, q2, m)) (h0 : Nat.min m n = 0)
  (k : watchOk β obs L s.watch ∧ SQ P β rnd N T ops K r obs ((d, .int .i64 0) :: env) L) : SQ P β rnd N T ops K (s :: r) obs env L :=
 SQ.cpy_ hT he h (fun w Ds fm st t t2 ty e c c2 hu hs => ⟨w, run_copy_none w t t2 ty e q q2 n c m c2 hu hs h0, st⟩) k
theorem SQ.cpy (hT : TTok P T) {s : Stp} {r : List Stp} {obs : Obs} {d n m b off : Nat} {q2 : Option Addr} (he : s.k = 1) (h : cpE T N ops env s.o = some (d, some ⟨b, off, none⟩, n, q2, m))
  {cs news : List Value} {M : List Atom} {A : Atom} (hu : Up b cs (cs.take off ++ news ++ cs.drop (off + m)) L M) (hS : SlR β A q2 m 1 news) (ha : AtA A L) (h0 : 0 < m) (hm : m ≤ n) (hl : news.length = m) (hfit : off + m ≤ cs.length) (h1 : ∀ u ∈ news, u.oneCell' = true)
  (k : watchOk β obs M s.watch ∧ SQ P β rnd N T ops K r obs ((d, .int .i64 m) :: env) M) : SQ P β rnd N T ops K (s :: r) obs env L := by
 obtain ⟨j, hL, rfl⟩ := hu.idx
 obtain ⟨Ma, pa⟩ := ha.rm
 refine SQ.ent _ ((Ent.perm pa).trans (Ent.head (hS.is h0))) (SQ.pure_ fun hq => SQ.ent _ (Ent.perm pa.symm) ?_)
 refine SQ.cpy_ hT he h (fun w Ds fm st t t2 ty e c c2 hue hs => ?_) k
 obtain ⟨_, tt, hbb⟩ := st.cell_pt (hid_at hL)
 have hr : Reads β w (gb q2) (go q2) news := by
  have hS2 := hS
  rw [hq] at hS2
  have := reads_slr hS2 ha (by simpa using hl) _ w st
  exact this
 rw [hq]
 have hrun := run_copy_row (P := P) w t t2 ty e b off n c ⟨gb q2, go q2, none⟩ m c2 cs.toArray tt news hue hs hbb (by rw [hl]; exact (Nat.min_eq_left hm).symm) hr (by simpa [hl] using hfit) h1
 refine ⟨_, ?_, st.store (cs' := cs.take off ++ news ++ cs.drop (off + m)) hL⟩
 rw [hrun, hl]
 rfl
def slLE (T : TT) (N : Nat) (ops : Array Oper) (env : Env) (o : Oper) : Option (Nat × Option Addr × Nat × Nat × Int × Nat) :=
 match dstE N ops env o with
 | some d => match o.op with
  | .slice t x (some y) none none => match ev env y with
   | some (.int _ l) => match T.get t, ev env x with
    | some ti, some (.slice q n c) => match ti.desc with
     | .slice e => match T.get e with
      | some te => some (d, q, n, c, l, te.size)
      | none => none
     | _ => none
    | _, _ => none
   | _ => none
  | _ => none
 | none => none
theorem SQ.slcL (hT : TTok P T) {s : Stp} {r : List Stp} {obs : Obs} {d n c sz : Nat} {q : Option Addr} {l : Int} (hk : Nat.ble s.k 1 = true) (hh : slLE T N ops env s.o = some (d, q, n, c, l, sz)) (lo : Nat) (hl : l = (lo : Int)) (h1 : lo ≤ n) {v : Value}
  (hv : sliced q lo n c sz = v) (k : SQ P β rnd N T ops K r obs ((d, v) :: env) L) : SQ P β rnd N T ops K (s :: r) obs env L := by
 subst hv
 unfold slLE at hh
 split at hh <;> try (cases hh; done)
 rename_i d' hde
 obtain ⟨hw, hd, hdl⟩ := dstE_eq hde
 split at hh <;> try (cases hh; done)
 rename_i t x y hop
 split at hh <;> try (cases hh; done)
 rename_i k1 l' hy
 split at hh <;> try (cases hh; done)
 rename_i ti q' n' c' hti hx
 split at hh <;> try (cases hh; done)
 rename_i e hde2
 split at hh <;> try (cases hh; done)
 rename_i te hte
 simp only [Option.some.injEq, Prod.mk.injEq] at hh
 obtain ⟨rfl, rfl, rfl, rfl, rfl, rfl⟩ := hh
 refine SQ.val' hk hw hd hdl (fun ρ hρ w => ?_) k
 obtain ⟨si, ⟨dst, op, type, pos, after, guard⟩, se, sw⟩ := s
 simp only at hop
 subst hop
 have hu := (hT.get hti).1.1
 rw [hde2] at hu
 have hel : P.elem t = e := by simp [Program.elem, hu]
 have hu2 : P.underlying t = some (.slice (P.elem t)) := by rw [hel]; exact hu
 subst hl
 simp only [execOp, Option.map_some, Option.map_none, hρ _ _ hx, hρ _ _ hy]
 simp only [Sem.run_bind, run_sliceAt_slice w _ _ _ _ _ hu2, run_slice_l w t q' n' c' hu2 k1 (lo : Int) (by omega) (by omega), hel, (hT.get hte).run_sizeOf, Result.andThen, Int.toNat_natCast, Sem.run_pure]
def slHE (T : TT) (N : Nat) (ops : Array Oper) (env : Env) (o : Oper) : Option (Nat × Option Addr × Nat × Nat × Int × Nat) :=
 match dstE N ops env o with
 | some d => match o.op with
  | .slice t x none (some y) none => match ev env y with
   | some (.int _ l) => match T.get t, ev env x with
    | some ti, some (.slice q n c) => match ti.desc with
     | .slice e => match T.get e with
      | some te => some (d, q, n, c, l, te.size)
      | none => none
     | _ => none
    | _, _ => none
   | _ => none
  | _ => none
 | none => none
theorem SQ.slcH (hT : TTok P T) {s : Stp} {r : List Stp} {obs : Obs} {d n c sz : Nat} {q : Option Addr} {l : Int} (hk : Nat.ble s.k 1 = true) (hh : slHE T N ops env s.o = some (d, q, n, c, l, sz)) (lo : Nat) (hl : l = (lo : Int)) (h1 : lo ≤ c) {v : Value}
  (hv : sliced q 0 lo c sz = v) (k : SQ P β rnd N T ops K r obs ((d, v) :: env) L) : SQ P β rnd N T ops K (s :: r) obs env L := by
 subst hv
 unfold slHE at hh
 split at hh <;> try (cases hh; done)
 rename_i d' hde
 obtain ⟨hw, hd, hdl⟩ := dstE_eq hde
 split at hh <;> try (cases hh; done)
 rename_i t x y hop
 split at hh <;> try (cases hh; done)
 rename_i k1 l' hy
 split at hh <;> try (cases hh; done)
 rename_i ti q' n' c' hti hx
 split at hh <;> try (cases hh; done)
 rename_i e hde2
 split at hh <;> try (cases hh; done)
 rename_i te hte
 simp only [Option.some.injEq, Prod.mk.injEq] at hh
 obtain ⟨rfl, rfl, rfl, rfl, rfl, rfl⟩ := hh
 refine SQ.val' hk hw hd hdl (fun ρ hρ w => ?_) k
 obtain ⟨si, ⟨dst, op, type, pos, after, guard⟩, se, sw⟩ := s
 simp only at hop
 subst hop
 have hu := (hT.get hti).1.1
 rw [hde2] at hu
 have hel : P.elem t = e := by simp [Program.elem, hu]
 have hu2 : P.underlying t = some (.slice (P.elem t)) := by rw [hel]; exact hu
 subst hl
 simp only [execOp, Option.map_some, Option.map_none, hρ _ _ hx, hρ _ _ hy]
 simp only [Sem.run_bind, run_sliceAt_slice w _ _ _ _ _ hu2, run_slice_h w t q' n' c' hu2 k1 (lo : Int) (by omega) (by omega), hel, (hT.get hte).run_sizeOf, Result.andThen, Int.toNat_natCast, Sem.run_pure]
end
end Go.Proofs.YtakkogdmlbkdaaaGreatDoor.Sl
namespace Go.Proofs.YtakkogdmlbkdaaaGreatDoor.Sl.It
attribute [local irreducible] CW Tri OW
@[reducible] def pk64 : List (Nat × Plan) := []
@[reducible] def pk77 : List (Nat × Plan) := []
@[reducible] def pk27 : List (Nat × Plan) := [(3, [(0, 0, []), (1, 0, []), (2, 0, []), (3, 0, []), (4, 0, []), (5, 0, []), (6, 0, []), (7, 0, []), (8, 0, []), (9, 0, []), (10, 0, []), (11, 0, []), (12, 1, [3, 5, 7, 9]), (13, 0, []), (14, 0, [])])]
@[reducible] def pk26 : List (Nat × Plan) := [(3, [(0, 0, []), (1, 0, []), (2, 0, []), (3, 0, []), (4, 0, []), (5, 0, []), (6, 0, []), (7, 0, []), (8, 1, [])])]
theorem one_bys (B : List Nat) : ∀ u ∈ bys B, u.oneCell' = true := one_flat (fun _ => rfl) B
theorem slr_pt {β : Base} {g off W : Nat} {cs news : List Value} (h : (cs.drop off).take W = news) : SlR β (pt g cs) (some ⟨g, off, none⟩) W 1 news := fun h2 a => .inr ⟨g, off, cs, rfl, by rw [Nat.mul_one]; exact h, .inl (by obtain ⟨t, rfl⟩ := a; exact ⟨t, (0, 0), by simp [Hp.one]⟩)⟩
set_option maxHeartbeats 4000000 in
theorem clone64 (β : Base) (g off c : Nat) (cs : List Value) (C : List Nat) (h0 : 0 < C.length) (hw : C.length ≤ 1000000) (hc : (cs.drop off).take C.length = bys C) :
  Tri Tryz.prog β 64 [.slice (some ⟨g, off, none⟩) C.length c] [pt g cs] (fun v L => ∃ b X, v = .slice (some ⟨b, 0, none⟩) C.length (C.length + (X : List Value).length) ∧ L = [pt g cs, pt b (bys C ++ X)]) := by
 have hl := bys_len C
 have hone := one_bys C
 refine Tri.intro tt_ok Tryz.func64 rfl rfl Tryz.ntmps64 rfl fun F => ?_
 generalize hn : C.length = n at h0 hw hc hl ⊢
 refine G tt_ok pk64 ?_
 refine SQ.builtO tt_ok rfl rfl rfl rfl (fun b => ⟨trivial, ?_⟩)
 refine G tt_ok pk64 ?_
 refine SQ.append0 tt_ok rfl rfl (A := pt g cs) (news := bys C) (sz := 1) (slr_pt hc) .h rfl (by rw [hl]; show n = n * 1; omega) rfl hone (by omega) (by show n * 1 ≤ _; omega) (fun q1 c1 hc1 => ⟨trivial, ?_⟩)
 refine SQ.ent _ (Ent.head (own_open h0)) ?_
 refine SQ.open_ fun x => ?_
 obtain ⟨b2, X⟩ := x
 refine SQ.pure_ fun hx => ?_
 obtain ⟨rfl, h1, h2, h3⟩ := hx
 replace h3 : (bys C ++ X).length = c1 * 1 := h3
 rw [List.length_append] at h3
 simp only at h2 ⊢
 obtain rfl : c1 = n + X.length := by rw [hl] at h3; omega
 refine G tt_ok pk64 ?_
 refine CW.ret (fin_ret rfl (A := [pt g cs, pt b2 (bys C ++ X)]) ?_ ⟨b2, X, rfl, rfl⟩)
 exact (Ent.append (L := [_]) ptT_pt (Ent.refl _)).trans pk_
theorem mcopy77 (β : Base) (m : Nat) (g : Gr) {B : List Nat} (h0 : 0 < B.length) (hn : B.length ≤ 1000000) :
  Tri Tryz.prog β 77 [.pointer (some ⟨m, 0, none⟩)] (memA m g B) (fun v L => ∃ m' g', v = .pointer (some ⟨m', 0, none⟩) ∧ L = memA m g B ++ memA m' g' B) := by
 refine Tri.intro tt_ok Tryz.func77 rfl rfl Tryz.ntmps77 rfl fun F => ?_
 unfold memA
 refine G tt_ok pk77 ?_
 (refine ka rfl rfl (clone64 β g.1 0 (B.length + g.2.length) (bys B ++ g.2) B h0 hn (by rw [List.drop_zero, ← bys_len B]; exact List.take_left)) ?_; rintro _ _ ⟨b, X, rfl, rfl⟩; refine w_ ?_)
 (refine G tt_ok pk77 ?_; repeat (refine G1 tt_ok pk77 ?_; intro _))
 rename_i m'
 exact CW.ret (fin_ret rfl (A := memA m g B ++ memA m' (b, X) B) (by unfold memA; exact pk_) ⟨m', (b, X), rfl, rfl⟩)
set_option maxHeartbeats 4000000 in
theorem mbytes27 (β : Base) (m : Nat) (g : Gr) {B : List Nat} (hn : B.length ≤ 1000000) {A W : Nat} (h0 : 0 < W) (hle : A + W ≤ B.length) :
  Tri Tryz.prog β 27 [.pointer (some ⟨m, 0, none⟩), .agg #[.int .i64 (A : Int), .int .i64 (W : Int)]] (memA m g B)
   (fun v L => ∃ b X, v = .tuple #[.slice (some ⟨b, 0, none⟩) W (W + (X : List Value).length), .int .i64 0] ∧ L = memA m g B ++ [pt b (bys ((B.drop A).take W) ++ X)]) := by
 refine Tri.intro tt_ok Tryz.func27 rfl rfl Tryz.ntmps27 rfl fun F => ?_
 have hh : holdsV B.length A W = true := by unfold holdsV; simp; omega
 have hlC : ((B.drop A).take W).length = W := by simp; omega
 unfold memA
 (refine G tt_ok pk27 ?_; repeat (refine G1 tt_ok pk27 ?_; intro _))
 refine ke rfl rfl (holds29 β m (some ⟨g.1, 0, none⟩) (B.length + g.2.length) hn A W) ?_
 rw [hh]
 refine G tt_ok pk27 ?_
 rw [wrap_id (show -9223372036854775808 ≤ (A : Int) + W by omega) (by omega)]
 (refine SQ.slc tt_ok rfl rfl (A) (A + W) (rfl) (by omega) (by omega) (by omega) (by omega) (o' := A) (n' := W) (c' := B.length + g.2.length - A) (by show _ + _ * 1 = _; omega) (by omega) (by omega) ?_)
 refine G tt_ok pk27 ?_
 have hcl := clone64 β g.1 A (B.length + g.2.length - A) (bys B ++ g.2) ((B.drop A).take W) (by omega) (by omega) (by
  rw [hlC, List.drop_append_of_le_length (by rw [bys_len]; omega), List.take_append_of_le_length (by rw [List.length_drop, bys_len]; omega)]
  have e : ∀ B : List Nat, bys B = B.map fun (b : Nat) => Value.int .u8 (b : Int) := fun B => by
   unfold bys
   induction B with
   | nil => rfl
   | cons b B ih => rw [List.flatMap_cons, ih]; rfl
  rw [e, e, List.map_take, List.map_drop])
 rw [hlC] at hcl
 (refine ka rfl rfl (hcl) ?_; rintro _ _ ⟨b, X, rfl, rfl⟩; refine w_ ?_)
 refine G tt_ok pk27 ?_
 exact CW.ret (fin_ret rfl (A := memA m g B ++ [pt b (bys ((B.drop A).take W) ++ X)]) (by unfold memA; exact pk_) ⟨b, X, rfl, rfl⟩)
def putN (B : List Nat) (A : Nat) (C : List Nat) : List Nat := B.take A ++ C ++ B.drop (A + C.length)
theorem putN_len {B : List Nat} {A : Nat} {C : List Nat} (h : A + C.length ≤ B.length) : (putN B A C).length = B.length := by
 unfold putN; simp only [List.length_append, List.length_take, List.length_drop]; omega
theorem bys_put {B : List Nat} {A : Nat} {C : List Nat} {X : List Value} (h : A + C.length ≤ B.length) : (bys B ++ X).take A ++ bys C ++ (bys B ++ X).drop (A + C.length) = bys (putN B A C) ++ X := by
 have hl := bys_len B
 have e : ∀ B : List Nat, bys B = B.map fun (b : Nat) => Value.int .u8 (b : Int) := fun B => by
  unfold bys
  induction B with
  | nil => rfl
  | cons b B ih => rw [List.flatMap_cons, ih]; rfl
 rw [List.take_append_of_le_length (by omega), List.drop_append_of_le_length (by omega)]
 unfold putN
 rw [e, e, e]
 simp [List.map_take, List.map_drop]
set_option maxHeartbeats 4000000 in
theorem mput26 (β : Base) (m : Nat) (g : Gr) {B : List Nat} (hn : B.length ≤ 1000000) {A W : Nat} (hle : A + W ≤ B.length) {S : Atom} {q : Option Addr} {C : List Nat} (c : Nat) (hS : SlR β S q C.length 1 (bys C)) (hC : C.length ≤ W) (hA : A < B.length) :
  Tri Tryz.prog β 26 [.pointer (some ⟨m, 0, none⟩), .agg #[.int .i64 (A : Int), .int .i64 (W : Int)], .slice q C.length c] (memA m g B ++ [S])
   (fun v L => v = .int .i64 0 ∧ L = memA m g (putN B A C) ++ [S]) := by
 refine Tri.intro tt_ok Tryz.func26 rfl rfl Tryz.ntmps26 rfl fun F => ?_
 have hh : holdsV B.length A W = true := by unfold holdsV; simp; omega
 have hlC := bys_len C
 have hfit : A + C.length ≤ (bys B ++ g.2).length := by rw [List.length_append, bys_len]; omega
 have hput := bys_put (X := g.2) (show A + C.length ≤ B.length by omega)
 have hpl := putN_len (B := B) (A := A) (C := C) (by omega)
 have hone := one_bys C
 unfold memA
 rw [hpl]
 generalize hk : C.length = k at hC hlC hput hS hfit hpl ⊢
 (refine G tt_ok pk26 ?_; repeat (refine G1 tt_ok pk26 ?_; intro _))
 refine ke rfl rfl (holds29 β m (some ⟨g.1, 0, none⟩) (B.length + g.2.length) hn A W) ?_
 rw [hh]
 refine G tt_ok pk26 ?_
 rw [decide_eq_false (show ¬ ((k : Int) > (W : Int)) by omega)]
 refine G tt_ok pk26 ?_
 refine SQ.slcL tt_ok rfl rfl A rfl (by omega) (v := .slice (some ⟨g.1, A, none⟩) (B.length - A) (B.length + g.2.length - A)) (by rw [sliced_some (by omega)]; show Value.slice (some ⟨g.1, 0 + A * 1, none⟩) _ _ = _; rw [Nat.zero_add, Nat.mul_one]) ?_
 refine G tt_ok pk26 ?_
 by_cases h0 : k = 0
 ·subst h0
  have hC0 : C = [] := List.eq_nil_of_length_eq_zero hk
  subst hC0
  refine SQ.cpy0 tt_ok rfl rfl (by simp) ⟨trivial, ?_⟩
  refine G tt_ok pk26 ?_
  have e1 : putN B A [] = B := by unfold putN; simp
  rw [e1]
  exact CW.ret (fin_ret rfl (A := [pt m [.slice (some ⟨g.1, 0, none⟩) B.length (B.length + g.2.length)], pt g.1 (bys B ++ g.2), S]) pk_ ⟨rfl, rfl⟩)
 ·refine SQ.cpy tt_ok rfl rfl (by repeat (first | apply Up.h | apply Up.t)) hS (show AtA S [_, _, _, S] from .t (.t (.t .h))) (by omega) (by omega) hlC hfit hone ⟨trivial, ?_⟩
  rw [hput]
  refine G tt_ok pk26 ?_
  exact CW.ret (fin_ret rfl (A := [pt m [.slice (some ⟨g.1, 0, none⟩) B.length (B.length + g.2.length)], pt g.1 (bys (putN B A C) ++ g.2), S]) pk_ ⟨rfl, rfl⟩)
end Go.Proofs.YtakkogdmlbkdaaaGreatDoor.Sl.It
namespace Go.Proofs.YtakkogdmlbkdaaaGreatDoor.Sl
attribute [local irreducible] CW Tri OW
@[reducible] def pk52 : List (Nat × Plan) := [(6, [(0, 0, []), (1, 0, []), (2, 0, []), (3, 0, []), (4, 0, []), (5, 0, []), (6, 0, []), (7, 0, []), (8, 0, []), (9, 0, []), (10, 1, [3, 7, 8])])]
theorem and2_is (v : Nat) (hv : v < 2 ^ 64) : (IntKind.u64.wrap ((BitVec.ofInt IntKind.u64.bits (v : Int) &&& BitVec.ofInt IntKind.u64.bits 2).toNat : Int) == 2) = decide (v / 2 % 2 = 1) := by
 have h := and64 (b := 2) hv (by decide)
 rw [show IntKind.u64.wrap ((BitVec.ofInt IntKind.u64.bits (v : Int) &&& BitVec.ofInt IntKind.u64.bits 2).toNat : Int) = ((v &&& 2 : Nat) : Int) from h, nat_and_two, Bool.eq_iff_iff]
 simp only [beq_iff_eq, decide_eq_true_eq]
 omega
theorem and1_is (v : Nat) (hv : v < 2 ^ 64) : (IntKind.u64.wrap ((BitVec.ofInt IntKind.u64.bits (v : Int) &&& BitVec.ofInt IntKind.u64.bits 1).toNat : Int) == 1) = decide (v % 2 = 1) := by
 have h := and64_1 hv
 rw [show IntKind.u64.wrap ((BitVec.ofInt IntKind.u64.bits (v : Int) &&& BitVec.ofInt IntKind.u64.bits 1).toNat : Int) = ((v % 2 : Nat) : Int) from h, Bool.eq_iff_iff]
 simp only [beq_iff_eq, decide_eq_true_eq]
 omega
def DS.wrOwnV (D : DS) (k r f c : Int) (v : Nat) : DS × Int :=
 if rightV D.xs.length k then (match D.xs[k.toNat]? with
  | some x => (if r = 3 then { D with xs := D.xs.set k.toNat { x with sl := decide (v / 2 % 2 = 1) } } else { D with xs := D.xs.set k.toNat { x with es := (Bn.wrK 0 x.es r f c v (cntV c)).1 } }, 0)
  | none => (D, 0))
 else (D, 130)
set_option maxHeartbeats 4000000 in
theorem wrOwn27 (β : Base) (d : Nat) (D : DS) (k r f c : Int) (v : Nat) (hv : v < 2 ^ 64) : Tri Tryz.prog β 52 [.pointer (some ⟨d, 0, none⟩), .int .i64 k, .agg #[.int .i64 r, .int .i64 f, .int .i64 c], .int .u64 v] (dA d D) (fun u L => u = .int .i64 (D.wrOwnV k r f c v).2 ∧ L = dA d (D.wrOwnV k r f c v).1) := by
 obtain ⟨o0, o1, sb, sq, sc, sh, qc, cc, xs⟩ := D
 refine Tri.intro tt_ok Tryz.func52 rfl rfl Tryz.ntmps52 rfl fun F => ?_
 unfold dA DS.wrOwnV
 simp only
 (refine G tt_ok pk52 ?_; repeat (refine G1 tt_ok pk52 ?_; intro _))
 refine ke rfl rfl (right55 β d _ _ _ rfl rfl rfl qc xs.length cc k) ?_
 cases hr : rightV xs.length k with
 | false =>
  refine G tt_ok pk52 ?_
  exact CW.ret (fin_ret rfl pk_ ⟨rfl, rfl⟩)
 | true =>
  obtain ⟨x, hx, hl, hk⟩ := right_at hr
  rw [if_pos rfl, hx]
  simp only
  refine G tt_ok pk52 ?_
  refine CW.ent (Rm.to (A := rowA qc xs.length (xs.flatMap crC)) (by repeat (first | exact Rm.h | apply Rm.t)) (row_open (by omega))) ?_
  refine CW.open_ fun y => ?_
  obtain ⟨g, rest⟩ := y
  refine CW.pure_ fun hv => ?_
  simp only at hv
  subst hv
  refine CW.ent (Rm.to (A := bksA xs) (by repeat (first | exact Rm.h | apply Rm.t)) (bks_open hx)) ?_
  by_cases h3 : r = 3
  ·subst h3
   refine G tt_ok pk52 ?_
   refine SQ.idx tt_ok rfl rfl k.toNat hk hl (o' := 0 + k.toNat * 2) rfl ?_
   refine G tt_ok pk52 ?_
   refine SQ.stA tt_ok rfl rfl (by repeat (first | apply Up.h | apply Up.t)) (by rfl) (wr_sl hx _ rest) (by repeat (first | exact trivial | refine ⟨trivial, ?_⟩ | refine ⟨wk (by repeat (first | exact .h | exact .q | apply At.t)) (by rfl), ?_⟩)) ?_
   rw [and2_is v hv]
   refine G tt_ok pk52 ?_
   refine CW.ret (fin_ret rfl (A := dA d ⟨o0, o1, sb, sq, sc, sh, some ⟨g, 0, none⟩, cc, xs.set k.toNat { x with sl := decide (v / 2 % 2 = 1) }⟩) ?_ ⟨rfl, rfl⟩)
   unfold dA
   simp only [List.length_set]
   refine Ent.trans (Rm.to (A := pt g ((xs.set k.toNat { x with sl := decide (v / 2 % 2 = 1) }).flatMap crC ++ rest)) (by repeat (first | exact Rm.h | apply Rm.t)) (row_close (n := xs.length))) ?_
   refine Ent.trans (Tk.to (As := CR.bank { x with sl := decide (v / 2 % 2 = 1) } ++ [bksA (xs.eraseIdx k.toNat)]) (by repeat (first | exact .n | exact Rm.h | apply Tk.c | apply Rm.t)) (bks_close _ hl)) ?_
   exact pk_
  ·rw [if_neg h3]
   refine G tt_ok pk52 ?_
   rw [show (r == 3) = false by simp [h3]]
   refine G tt_ok pk52 ?_
   refine SQ.idx tt_ok rfl rfl k.toNat hk hl (o' := 0 + k.toNat * 2) rfl ?_
   refine G tt_ok pk52 ?_
   refine SQ.ldA tt_ok rfl rfl (by repeat (first | exact .h | exact .q | apply At.t)) (rd_own hx rest) ?_
   refine G tt_ok pk52 ?_
   (refine ka rfl rfl (Bn.write13 β x.b x.q x.c (first := 0) (es0 := x.es) (by omega) (by omega) r f c v) ?_; rintro _ _ ⟨rfl, rfl⟩; refine ⟨(by repeat (first | exact trivial | refine ⟨trivial, ?_⟩ | refine ⟨wk (by repeat (first | exact .h | exact .q | apply At.t)) (rd_own hx rest), ?_⟩ | refine ⟨wk (by repeat (first | exact .h | exact .q | apply At.t)) (by rfl), ?_⟩)), ?_⟩)
   refine G tt_ok pk52 ?_
   refine CW.ret (fin_ret rfl (A := dA d ⟨o0, o1, sb, sq, sc, sh, some ⟨g, 0, none⟩, cc, xs.set k.toNat { x with es := (Bn.wrK 0 x.es r f c v (cntV c)).1 }⟩) ?_ ⟨rfl, rfl⟩)
   unfold dA
   simp only [List.length_set]
   rw [flat_set_same (enc := crC) (y := { x with es := (Bn.wrK 0 x.es r f c v (cntV c)).1 }) hx rfl]
   refine Ent.trans (Rm.to (A := pt g (xs.flatMap crC ++ rest)) (by repeat (first | exact Rm.h | apply Rm.t)) (row_close (n := xs.length))) ?_
   refine Ent.trans (Tk.to (As := CR.bank { x with es := (Bn.wrK 0 x.es r f c v (cntV c)).1 } ++ [bksA (xs.eraseIdx k.toNat)]) (by repeat (first | exact .n | exact Rm.h | apply Tk.c | apply Rm.t)) (bks_close _ hl)) ?_
   exact pk_
@[reducible] def pk89 : List (Nat × Plan) := [(9, [(0, 0, []), (1, 0, []), (2, 0, []), (3, 0, []), (4, 0, []), (5, 0, []), (6, 1, [3, 5]), (7, 0, []), (8, 0, []), (9, 0, []), (10, 2, []), (11, 1, []), (12, 0, [])]), (12, [(0, 0, []), (1, 0, []), (2, 0, []), (3, 0, []), (4, 0, []), (5, 0, []), (6, 0, []), (7, 1, [3, 5, 6])]), (5, [(0, 0, []), (1, 0, []), (2, 0, []), (3, 0, []), (4, 0, []), (5, 0, []), (6, 1, [3, 4])])]
theorem and_mod {a k : Nat} (ha : a < 2 ^ 64) (hk : k ≤ 63) : IntKind.u64.wrap ((BitVec.ofInt IntKind.u64.bits (a : Int) &&& BitVec.ofInt IntKind.u64.bits ((2 ^ k - 1 : Nat) : Int)).toNat : Int) = ((a % 2 ^ k : Nat) : Int) := by
  have h1 : (2 : Nat) ^ k ≤ 2 ^ 63 := Nat.pow_le_pow_right (by omega) hk
  have e63 : (2 : Nat) ^ 63 = 9223372036854775808 := rfl
  have e64 : (2 : Nat) ^ 64 = 18446744073709551616 := rfl
  have h2 := and64 ha (b := 2 ^ k - 1) (by omega)
  rw [Nat.and_two_pow_sub_one_eq_mod] at h2
  exact h2
def routeV (v : Nat) : Int × Bool := (((v % 256 : Nat) : Int), decide (v / 2 ^ 31 % 2 = 1))
theorem route70 (β : Base) (v : Nat) (hv : v < 2 ^ 64) : Tri Tryz.prog β 140 [.int .u64 v] [] (fun u L => u = .agg #[.int .i64 (routeV v).1, .bool (routeV v).2] ∧ L = []) := by
  refine Tri.intro tt_ok Tryz.func140 rfl rfl Tryz.ntmps140 rfl fun F => ?_
  (refine G tt_ok [] ?_; repeat (refine G1 tt_ok [] ?_; intro _))
  refine CW.ret (fin_cells [_] ⟨⟨_, _, _, _, 0, rfl, rfl, rfl, rfl⟩, trivial⟩ (Ent.dropAll _) ⟨?_, rfl⟩)
  have h1 : IntKind.i64.wrap (IntKind.u64.wrap ((BitVec.ofInt IntKind.u64.bits (v : Int) &&& BitVec.ofInt IntKind.u64.bits 255).toNat : Int)) = ((v % 256 : Nat) : Int) := by
    have h := and_mod (k := 8) hv (by omega)
    rw [show IntKind.u64.wrap ((BitVec.ofInt IntKind.u64.bits (v : Int) &&& BitVec.ofInt IntKind.u64.bits 255).toNat : Int) = ((v % 256 : Nat) : Int) from h]
    exact wrap_id (by omega) (by omega)
  have h2 := bit64 hv (show 31 < 64 by omega)
  unfold routeV packV
  simp only
  rw [← h1]
  have h3 : decide (v / 2 ^ 31 % 2 = 1) = (IntKind.u64.wrap ((BitVec.ofInt IntKind.u64.bits ((v : Int).fdiv (2 ^ min 31 IntKind.u64.bits)) &&& BitVec.ofInt IntKind.u64.bits 1).toNat : Int) == 1) := by
    rw [h2, Bool.eq_iff_iff]
    simp only [beq_iff_eq, decide_eq_true_eq]
    omega
  rw [h3]
def DS.wrV (D : DS) (off w : Int) (v : Nat) : DS × Int :=
  if (distV off w).2 ≠ 0 then (D, (distV off w).2) else
  (if (distV off w).1.1 = 1 then { D with o0 := decide (v % 2 = 1), o1 := decide (v / 2 % 2 = 1) }
   else if (distV off w).1.1 = 13 then (match Br.atE 32 D.sh (distV off w).1.2.1 with
     | some e => { D with sh := (Br.putV 32 D.sh (distV off w).1.2.1 (e.1, routeV v)).1 }
     | none => D)
   else { D with sh := (Br.wrK 32 D.sh (distV off w).1.1 (distV off w).1.2.1 (distV off w).1.2.2 v (cntV (distV off w).1.2.2)).1 }, 0)
theorem getR_some (β : Base) (b : Nat) (q0 : Option Addr) (c0 : Nat) {first id : Int} {es : List Br.En} {e : Br.En} (h0 : 0 ≤ first) (h1 : first ≤ 16384) (h3 : id < 9223372036854775808) (h : Br.atE first es id = some e) :
    Tri Tryz.prog β 139 [.pointer (some ⟨b, 0, none⟩), .int .i64 id] (Br.bkA b q0 c0 first es) (fun v L => v = .tuple #[.agg #[.bool e.1.1.1, .bool e.1.1.2.1, .bool e.1.1.2.2.1, .bool e.1.1.2.2.2, .bool e.1.2.1, .int .i64 e.1.2.2.1, .int .i64 e.1.2.2.2, .int .i64 e.2.1, .bool e.2.2], .int .i64 0] ∧ L = Br.bkA b q0 c0 first es) := by
  have := getR β b q0 c0 (es := es) h0 h1 h3
  rw [show Br.getV first es id = (e, 0) by unfold Br.getV; rw [h]] at this
  exact this
theorem getR_none (β : Base) (b : Nat) (q0 : Option Addr) (c0 : Nat) {first id : Int} {es : List Br.En} (h0 : 0 ≤ first) (h1 : first ≤ 16384) (h3 : id < 9223372036854775808) (h : Br.atE first es id = none) :
    Tri Tryz.prog β 139 [.pointer (some ⟨b, 0, none⟩), .int .i64 id] (Br.bkA b q0 c0 first es) (fun v L => v = .tuple #[.agg #[.bool false, .bool false, .bool false, .bool false, .bool false, .int .i64 0, .int .i64 0, .int .i64 0, .bool false], .int .i64 90] ∧ L = Br.bkA b q0 c0 first es) := by
  have := getR β b q0 c0 (es := es) h0 h1 h3
  rw [show Br.getV first es id = (Br.zeroE, 90) by unfold Br.getV; rw [h]] at this
  exact this
theorem putR (β : Base) (b : Nat) (q0 : Option Addr) (c0 : Nat) {first id : Int} {es : List Br.En} (l : Ln) (t : Int × Bool) (h0 : 0 ≤ first) (h1 : first ≤ 16384) (h3 : id < 9223372036854775808) :
    Tri Tryz.prog β 141 [.pointer (some ⟨b, 0, none⟩), .int .i64 id, .agg #[.bool l.1.1, .bool l.1.2.1, .bool l.1.2.2.1, .bool l.1.2.2.2, .bool l.2.1, .int .i64 l.2.2.1, .int .i64 l.2.2.2, .int .i64 t.1, .bool t.2]] (Br.bkA b q0 c0 first es) (fun v L => v = .int .i64 (Br.putV first es id (l, t)).2 ∧ L = Br.bkA b q0 c0 first (Br.putV first es id (l, t)).1) := Br.put30 β b q0 c0 (l, t) h0 h1 h3
theorem distV_id (off w : Int) : (distV off w).1.2.1 < 9223372036854775808 := by
  unfold distV findV
  split
  · simp
  · split
    · simp
    · split
      · simp
      · split
        · unfold outV; split
          · exact Bn.wrap_lt _
          · simp
        · simp
set_option maxHeartbeats 8000000 in
theorem write32 (β : Base) (d : Nat) (D : DS) (off w : Int) (v : Nat) (hv : v < 2 ^ 64) : Tri Tryz.prog β 89 [.pointer (some ⟨d, 0, none⟩), .int .i64 off, .int .i64 w, .int .u64 v] (dA d D) (fun u L => u = .int .i64 (D.wrV off w v).2 ∧ L = dA d (D.wrV off w v).1) := by
  obtain ⟨o0, o1, sb, sq, sc, sh, qc, cc, xs⟩ := D
  refine Tri.intro tt_ok Tryz.func89 rfl rfl Tryz.ntmps89 rfl fun F => ?_
  unfold dA DS.wrV
  simp only
  have hD := regsDist69 β off w
  have hpid := distV_id off w
  generalize distV off w = P at hD hpid ⊢
  obtain ⟨⟨pr, pf, pc⟩, e⟩ := P
  simp only at hD hpid ⊢
  refine G tt_ok pk89 ?_
  refine ke rfl rfl (hD) ?_
  (refine G tt_ok pk89 ?_; repeat (refine G1 tt_ok pk89 ?_; intro _))
  by_cases he : e = 0
  · subst he
    rw [if_neg (by simp)]
    refine G tt_ok pk89 ?_
    by_cases h1 : pr = 1
    · subst h1
      rw [if_pos rfl]
      refine G tt_ok pk89 ?_
      refine SQ.bArr tt_ok rfl rfl ?_
      refine G tt_ok pk89 ?_
      rw [and2_is v hv, and1_is v hv]
      exact CW.ret (fin_ret rfl (A := dA d ⟨decide (v % 2 = 1), decide (v / 2 % 2 = 1), sb, sq, sc, sh, qc, cc, xs⟩) pk_ ⟨rfl, rfl⟩)
    · rw [if_neg h1, show (pr == 1) = false by simp [h1]]
      refine G tt_ok pk89 ?_
      by_cases h13 : pr = 13
      · subst h13
        rw [if_pos rfl]
        refine G tt_ok pk89 ?_
        cases ha : Br.atE 32 sh pf with
        | none =>
          refine ke rfl rfl (getR_none β sb sq sc (first := 32) (id := pf) (es := sh) (by omega) (by omega) hpid ha) ?_
          (refine G tt_ok pk89 ?_; repeat (refine G1 tt_ok pk89 ?_; intro _))
          refine ke rfl rfl (route70 β v hv) ?_
          refine G tt_ok pk89 ?_
          exact CW.ret (fin_ret rfl (A := dA d ⟨o0, o1, sb, sq, sc, sh, qc, cc, xs⟩) pk_ ⟨rfl, rfl⟩)
        | some en =>
          refine ke rfl rfl (getR_some β sb sq sc (first := 32) (id := pf) (es := sh) (by omega) (by omega) hpid ha) ?_
          (refine G tt_ok pk89 ?_; repeat (refine G1 tt_ok pk89 ?_; intro _))
          refine ke rfl rfl (route70 β v hv) ?_
          refine G tt_ok pk89 ?_
          refine ke rfl rfl (putR β sb sq sc (first := 32) (id := pf) (es := sh) en.1 (routeV v) (by omega) (by omega) hpid) ?_
          refine G tt_ok pk89 ?_
          exact CW.ret (fin_ret rfl (A := dA d ⟨o0, o1, sb, sq, sc, (Br.putV 32 sh pf (en.1, routeV v)).1, qc, cc, xs⟩) pk_ ⟨rfl, rfl⟩)
      · rw [if_neg h13, show (pr == 13) = false by simp [h13]]
        refine G tt_ok pk89 ?_
        refine ke rfl rfl (Br.write13 β sb sq sc (first := 32) (es0 := sh) (by omega) (by omega) pr pf pc v) ?_
        refine G tt_ok pk89 ?_
        exact CW.ret (fin_ret rfl (A := dA d ⟨o0, o1, sb, sq, sc, (Br.wrK 32 sh pr pf pc v (cntV pc)).1, qc, cc, xs⟩) pk_ ⟨rfl, rfl⟩)
  · rw [if_pos he, show (e != 0) = true by simp [he]]
    refine G tt_ok pk89 ?_
    exact CW.ret (fin_ret rfl pk_ ⟨rfl, rfl⟩)
theorem putN (β : Base) (b : Nat) (q0 : Option Addr) (c0 : Nat) {first id : Int} {es : List Bn.En} (l : Ln) (h0 : 0 ≤ first) (h1 : first ≤ 16384) (h3 : id < 9223372036854775808) :
  Tri Tryz.prog β 155 [.pointer (some ⟨b, 0, none⟩), .int .i64 id, .agg #[.bool l.1.1, .bool l.1.2.1, .bool l.1.2.2.1, .bool l.1.2.2.2, .bool l.2.1, .int .i64 l.2.2.1, .int .i64 l.2.2.2]] (Bn.bkA b q0 c0 first es) (fun v L => v = .int .i64 (Bn.putV first es id (l, ())).2 ∧ L = Bn.bkA b q0 c0 first (Bn.putV first es id (l, ())).1) := Bn.put30 β b q0 c0 (l, ()) h0 h1 h3
def ownK : Nat → List Bn.En
 | 0 => List.replicate 32 (Bn.zeroE.1, ())
 | k + 1 => (Bn.doV 0 (ownK k) k 8).1
def newCR (x : CR) : Prop := x.es = ownK 16 ∧ x.sl = false
theorem bks_nil {L : List Atom} : Ent L (bksA [] :: L) := fun h s => ⟨h, ⟨Hp.emp, h, rfl, s, Hp.emp_disj _, (Hp.emp_add _).symm⟩, Hp.le_refl h⟩
theorem bks_snoc {xs : List CR} {x : CR} : Ent (x.bank ++ [bksA xs]) [bksA (xs ++ [x])] := by
 have e1 := Ent.unpack (xs.flatMap CR.bank) []
 rw [List.append_nil] at e1
 have e2 := Ent.pack ((xs ++ [x]).flatMap CR.bank) []
 rw [List.append_nil] at e2
 refine (Ent.append (Ent.refl _) e1).trans (Ent.trans (Ent.perm ?_) e2)
 rw [List.flatMap_append]
 simp only [List.flatMap_cons, List.flatMap_nil, List.append_nil]
 exact List.perm_append_comm
set_option maxHeartbeats 8000000 in
theorem new11 (β : Base) {n s : Int} (hn0 : 1 ≤ n) (hn1 : n ≤ 8) (hs0 : 0 ≤ s) (hs1 : s ≤ 64) : Tri Tryz.prog β 35 [.int .i64 n, .int .i64 s] [] (fun v L => ∃ d D, v = .tuple #[.pointer (some ⟨d, 0, none⟩), .int .i64 0] ∧ L = dA d D ∧ D.o0 = false ∧ D.o1 = false ∧ D.sh = List.replicate s.toNat (Br.zeroE.1, (0, false)) ∧ (D.xs.length : Int) = n ∧ ∀ x ∈ D.xs, newCR x) := by
 refine Tri.intro tt_ok Tryz.func35 rfl rfl Tryz.ntmps35 rfl fun F => ?_
 refine G tt_ok [] ?_
 rw [decide_eq_false (show ¬ n < 1 by omega)]
 refine G tt_ok [] ?_
 rw [decide_eq_false (show ¬ n > 8 by omega)]
 refine G tt_ok [] ?_
 rw [decide_eq_false (show ¬ s < 0 by omega)]
 refine G tt_ok [] ?_
 rw [decide_eq_false (show ¬ s > 64 by omega)]
 refine G tt_ok [] ?_
 (refine ka rfl rfl (Br.bankNew β (first := 32) (n := s) (by omega) hs0 (by omega) (0, false)) ?_; rintro _ _ ⟨sb, sq, sc, rfl, rfl⟩; refine w_ ?_)
 (refine G tt_ok [] ?_; repeat (refine G1 tt_ok [] ?_; intro _))
 rename_i d
 refine CW.loop (α := List CR × Option Addr × Nat) (fun x => (x.1.length : Int) ≤ n ∧ ∀ y ∈ x.1, newCR y) (fun x => [(36, .int .i64 x.1.length), (35, .int .i64 n), (8, .pointer (some ⟨d, 0, none⟩))])
  (fun x => [pt d [.bool false, .bool false, .pointer (some ⟨sb, 0, none⟩), .slice x.2.1 x.1.length x.2.2], own 173 2 (.slice x.2.1 x.1.length x.2.2) x.1.length (x.1.flatMap crC), bksA x.1] ++ Br.bkA sb sq sc 32 (List.replicate s.toNat (Br.zeroE.1, (0, false)))) (fun x => n.toNat - x.1.length) ([], none, 0) ⟨by simp; omega, by simp⟩ ⟨rfl, rfl, rfl, trivial⟩ ?_ ?_
 ·refine Ent.trans ((own_nil 173 2).trans bks_nil) ?_
  exact pk_
 rintro ⟨xs, qc, cc⟩ ⟨hl, hnew⟩
 simp only at hl hnew ⊢
 refine G tt_ok [] ?_
 by_cases hlt : (xs.length : Int) < n
 ·have hw : IntKind.i64.wrap ((xs.length : Int) + 1) = ((xs.length + 1 : Nat) : Int) := by rw [wrap_i64]; split <;> omega
  rw [decide_eq_true hlt]
  refine G tt_ok [] ?_
  (refine ka rfl rfl (Bn.bankNew β (first := 0) (n := 32) (by omega) (by omega) (by omega) ()) ?_; rintro _ _ ⟨b, bq, bc, rfl, rfl⟩; refine w_ ?_)
  refine G tt_ok [] ?_
  refine CW.loop (α := Nat) (fun j => j ≤ 16) (fun j => [(43, .int .i64 j), (9, .pointer (some ⟨b, 0, none⟩)), (36, .int .i64 xs.length), (35, .int .i64 n), (8, .pointer (some ⟨d, 0, none⟩))])
   (fun j => Bn.bkA b bq bc 0 (ownK j) ++ ([pt d [.bool false, .bool false, .pointer (some ⟨sb, 0, none⟩), .slice qc xs.length cc], own 173 2 (.slice qc xs.length cc) xs.length (xs.flatMap crC), bksA xs] ++ Br.bkA sb sq sc 32 (List.replicate s.toNat (Br.zeroE.1, (0, false))))) (fun j => 16 - j) 0 (by omega) ⟨rfl, rfl, rfl, rfl, rfl, trivial⟩ pk_ ?_
  intro j hj
  refine G tt_ok [] ?_
  generalize e1 : decide ((j : Int) < 16) = cc2
  cases cc2
  ·have : j = 16 := by simp at e1; omega
   subst this
   refine G tt_ok [] ?_
   refine CW.exit ?_
   refine G tt_ok [] ?_
   (refine SQ.built tt_ok rfl rfl (fun _ => w_ ?_))
   refine G tt_ok [] ?_
   have hx' : newCR ⟨b, bq, bc, ownK 16, false⟩ := ⟨rfl, rfl⟩
   refine SQ.append tt_ok rfl rfl 4 rfl 0 (q := true) rfl (crC ⟨b, bq, bc, ownK 16, false⟩) rfl rfl rfl (scal_eq rfl) (by omega) (by show (xs.length + 1) * 16 ≤ _; omega) (fun v' => ⟨(by repeat (first | exact trivial | refine ⟨trivial, ?_⟩ | refine ⟨wk (by repeat (first | exact .h | exact .q | apply At.t)) (by rfl), ?_⟩)), ?_⟩)
   refine SQ.ent _ (Ent.head (own_shape _ _ _ _ _)) ?_
   refine SQ.open_ fun z => ?_
   refine SQ.pure_ fun hv => ?_
   subst hv
   refine G tt_ok [] ?_
   refine ⟨(xs ++ [⟨b, bq, bc, ownK 16, false⟩], z.1, z.2), ⟨by simp; omega, fun y hy => ?_⟩, by simp; omega, ⟨by rw [show (xs ++ [(⟨b, bq, bc, ownK 16, false⟩ : CR)]).length = xs.length + 1 by simp, ← hw]; rfl, rfl, rfl, trivial⟩, ?_⟩
   ·rcases List.mem_append.1 hy with h | h
    ·exact hnew y h
    ·rw [List.mem_singleton.1 h]; exact hx'
   ·simp only
    rw [show (xs ++ [(⟨b, bq, bc, ownK 16, false⟩ : CR)]).length = xs.length + 1 by simp, show (xs ++ [(⟨b, bq, bc, ownK 16, false⟩ : CR)]).flatMap crC = xs.flatMap crC ++ crC ⟨b, bq, bc, ownK 16, false⟩ by simp]
    refine Ent.trans (Tk.to (As := CR.bank ⟨b, bq, bc, ownK 16, false⟩ ++ [bksA xs]) (by repeat (first | exact .n | exact Rm.h | apply Tk.c | apply Rm.t)) bks_snoc) ?_
    exact pk_
  ·have hlt2 : j < 16 := by simp at e1; omega
   have hw2 : IntKind.i64.wrap ((j : Int) + 1) = ((j + 1 : Nat) : Int) := by rw [wrap_i64]; split <;> omega
   refine G tt_ok [] ?_
   refine ke rfl rfl (Bn.do35 β b bq bc (first := 0) (id := (j : Int)) (x := 8) (es := ownK j) (by omega) (by omega) (by omega)) ?_
   refine G tt_ok [] ?_
   exact ⟨j + 1, by omega, by omega, ⟨by rw [← hw2]; rfl, rfl, rfl, rfl, rfl, trivial⟩, pk_⟩
 ·rw [decide_eq_false hlt]
  refine G tt_ok [] ?_
  refine CW.exit ?_
  refine G tt_ok [] ?_
  refine CW.ret (fin_ret rfl (A := dA d ⟨false, false, sb, sq, sc, List.replicate s.toNat (Br.zeroE.1, (0, false)), qc, cc, xs⟩) ?_ ?_)
  ·exact Ent.trans (Rm.to (A := own 173 2 (.slice qc xs.length cc) xs.length (xs.flatMap crC)) (by repeat (first | exact Rm.h | apply Rm.t)) own_row) pk_
  ·exact ⟨d, _, rfl, rfl, rfl, rfl, rfl, by simp only; omega, hnew⟩
@[reducible] def pk212 : List (Nat × Plan) := [(2, [(0, 0, []), (1, 0, []), (2, 0, []), (3, 0, []), (4, 0, []), (5, 0, []), (6, 0, []), (7, 0, []), (8, 1, [0, 3, 4, 7])]), (9, [(0, 0, []), (1, 0, []), (3, 0, []), (2, 1, [0, 3]), (4, 0, []), (5, 0, []), (6, 0, []), (7, 0, []), (8, 0, []), (9, 0, []), (10, 1, []), (11, 0, []), (12, 0, [])])]
def seenA (es : List Bn.En) : List (Int × Ln) := (Bn.allV 0 es).map fun p => (p.1, p.2.1)
def seenB (sh : List Br.En) (xs : List CR) (k : Int) (ps : List (Int × Br.En)) : List (Int × Ln) := (ps.filter fun p => targetV sh xs p.1 == k).map fun p => (p.1, p.2.1)
def DS.seenV (D : DS) (k : Int) : List (Int × Ln) := if rightV D.xs.length k then (match D.xs[k.toNat]? with
 | some x => seenA x.es ++ seenB D.sh D.xs k (Br.allV 32 D.sh)
 | none => []) else []
@[reducible] def ilC (x : Int × Ln) : List Value := [.int .i64 x.1, .agg #[.bool x.2.1.1, .bool x.2.1.2.1, .bool x.2.1.2.2.1, .bool x.2.1.2.2.2, .bool x.2.2.1, .int .i64 x.2.2.2.1, .int .i64 x.2.2.2.2]]
theorem seen26 (β : Base) (d : Nat) (k : Int) : Tri Tryz.prog β 196 [.pointer (some ⟨d, 0, none⟩), .int .i64 k] [] (fun v L => ∃ b2 b3, v = .func (.func 212) #[] #[.pointer (some ⟨b2, 0, none⟩), .pointer (some ⟨b3, 0, none⟩)] ∧ L = [pt b2 [.pointer (some ⟨d, 0, none⟩)], pt b3 [.int .i64 k]]) := by
 refine Tri.intro tt_ok Tryz.func196 rfl rfl Tryz.ntmps196 rfl fun F => ?_
 (refine G tt_ok [] ?_; repeat (refine G1 tt_ok [] ?_; intro _))
 rename_i b2 b3
 refine CW.ret (fin_ret rfl (A := [pt b2 [.pointer (some ⟨d, 0, none⟩)], pt b3 [.int .i64 k]]) pk_ ?_)
 exact ⟨b2, b3, rfl, rfl⟩
theorem map_pre {α β : Type} (f : α → β) {l m : List α} (h : l <+: m) : l.map f <+: m.map f := by
 obtain ⟨t, rfl⟩ := h; rw [List.map_append]; exact List.prefix_append _ _
theorem filter_pre {α : Type} (f : α → Bool) {l m : List α} (h : l <+: m) : l.filter f <+: m.filter f := by
 obtain ⟨t, rfl⟩ := h; rw [List.filter_append]; exact List.prefix_append _ _
set_option maxHeartbeats 8000000 in
theorem iter63 (β : Base) (d b2 b3 : Nat) (D : DS) (k : Int) (hn8 : D.xs.length ≤ 8) (hns : D.sh.length ≤ 64) (hes : ∀ x ∈ D.xs, x.es.length = 32) :
  Iter Tryz.prog β 212 [.pointer (some ⟨b2, 0, none⟩), .pointer (some ⟨b3, 0, none⟩)] ([pt b2 [.pointer (some ⟨d, 0, none⟩)], pt b3 [.int .i64 k]] ++ dA d D) ilC (D.seenV k) := by
 intro l J Jx hY
 obtain ⟨o0, o1, sb, sq, sc, sh, qc, cc, xs⟩ := D
 unfold dA DS.seenV at hY ⊢
 simp only at hY hn8 hns hes ⊢
 refine Tri.intro tt_ok Tryz.func212 rfl rfl Tryz.ntmps212 rfl fun F => ?_
 (refine G tt_ok pk212 ?_; repeat (refine G1 tt_ok pk212 ?_; intro _))
 rename_i by_
 refine ke rfl rfl (right55 β d _ _ _ rfl rfl rfl qc xs.length cc k) ?_
 cases hr : rightV xs.length k with
 | false =>
  refine G tt_ok pk212 ?_
  exact CW.ret (fin_ret rfl (A := J [] :: ([pt b2 [.pointer (some ⟨d, 0, none⟩)], pt b3 [.int .i64 k]] ++ ([pt d [.bool o0, .bool o1, .pointer (some ⟨sb, 0, none⟩), .slice qc xs.length cc], rowA qc xs.length (xs.flatMap crC), bksA xs] ++ Br.bkA sb sq sc 32 sh))) pk_ (.inl rfl))
 | true =>
  obtain ⟨x, hx, hl, hk⟩ := right_at hr
  rw [hr, if_pos rfl, hx] at hY
  rw [if_pos rfl, hx]
  simp only at hY ⊢
  have hxl := hes x (List.mem_of_getElem? hx)
  refine G tt_ok pk212 ?_
  refine SQ.ent _ (Rm.to (A := rowA qc xs.length (xs.flatMap crC)) (by repeat (first | exact Rm.h | apply Rm.t)) (row_open (by omega))) ?_
  refine SQ.open_ fun z => ?_
  obtain ⟨g, rest⟩ := z
  refine SQ.pure_ fun hv => ?_
  simp only at hv
  subst hv
  refine SQ.ent _ (Rm.to (A := bksA xs) (by repeat (first | exact Rm.h | apply Rm.t)) (bks_open hx)) ?_
  refine G tt_ok pk212 ?_
  refine SQ.idx tt_ok rfl rfl k.toNat hk hl (o' := 0 + k.toNat * 2) rfl ?_
  refine G tt_ok pk212 ?_
  refine SQ.ldA tt_ok rfl rfl (by repeat (first | exact .h | exact .q | apply At.t)) (rd_own hx rest) ?_
  refine G tt_ok pk212 ?_
  (refine ka rfl rfl (Bn.all21 β x.b x.q x.c 0 x.es (by omega)) ?_; rintro _ _ ⟨c1, c3, q1, n1, rfl, rfl⟩; refine ⟨(by repeat (first | exact trivial | refine ⟨trivial, ?_⟩ | refine ⟨wk (by repeat (first | exact .h | exact .q | apply At.t)) (rd_own hx rest), ?_⟩ | refine ⟨wk (by repeat (first | exact .h | exact .q | apply At.t)) (by rfl), ?_⟩)), ?_⟩)
  refine G tt_ok pk212 ?_
  refine CW.ent (Rm.to (A := pt g (xs.flatMap crC ++ rest)) (by repeat (first | exact Rm.h | apply Rm.t)) (row_close (n := xs.length))) ?_
  generalize (some ⟨g, 0, none⟩ : Option Addr) = qc at hY ⊢
  refine CW.ent (Rm.to (A := rowA q1 x.es.length (x.es.flatMap Bn.enC)) (by repeat (first | exact Rm.h | apply Rm.t)) (row_rd β (sz := 7) (flatE_len (sz := 7) (fun _ => rfl) x.es))) ?_
  refine CW.open_ fun B => CW.pure_ fun hB => ?_
  refine CW.ent (L' := [pt c3 [.slice q1 x.es.length n1], pt c1 [.pointer (some ⟨x.b, 0, none⟩)], pt x.b [.int .i64 0, .slice x.q x.es.length x.c], B, J [], pt by_ [.func (.yield l) #[] #[]], pt b2 [.pointer (some ⟨d, 0, none⟩)], pt b3 [.int .i64 k], pt d [.bool o0, .bool o1, .pointer (some ⟨sb, 0, none⟩), .slice qc xs.length cc], rowA qc xs.length (xs.flatMap crC), rowA x.q x.es.length (x.es.flatMap Bn.enC), bksA (xs.eraseIdx k.toNat)] ++ Br.bkA sb sq sc 32 sh) pk_ ?_
  refine CW.rangeFunc rfl (Bn.iter43 β x.b c1 c3 hB (by omega) (by omega) (by omega) rfl) [0, 0, 0, 0] rfl
   (fun pre => [J (pre.map fun p => (p.1, p.2.1)), pt by_ [.func (.yield l) #[] #[]], pt b2 [.pointer (some ⟨d, 0, none⟩)], pt b3 [.int .i64 k], pt d [.bool o0, .bool o1, .pointer (some ⟨sb, 0, none⟩), .slice qc xs.length cc], rowA qc xs.length (xs.flatMap crC), rowA x.q x.es.length (x.es.flatMap Bn.enC), bksA (xs.eraseIdx k.toNat)] ++ Br.bkA sb sq sc 32 sh)
   (fun c M => c = .ret ∧ ∃ pre, M = [Jx pre, pt by_ [.func (.yield l) #[] #[]], pt b2 [.pointer (some ⟨d, 0, none⟩)], pt b3 [.int .i64 k], pt d [.bool o0, .bool o1, .pointer (some ⟨sb, 0, none⟩), .slice qc xs.length cc], rowA qc xs.length (xs.flatMap crC), rowA x.q x.es.length (x.es.flatMap Bn.enC), bksA (xs.eraseIdx k.toNat)] ++ Br.bkA sb sq sc 32 sh) (Ent.refl _) (fun _ => rfl) (by decide) ?_ ?_ ?_
  ·intro pre p hpre lp fm rec1
   obtain ⟨e, he, rfl⟩ := Bn.allV_pre hpre
   have hp2 : (pre.map fun p => (p.1, p.2.1)) ++ [((0 : Int) + pre.length, e.1)] <+: seenA x.es ++ seenB sh xs k (Br.allV 32 sh) := by
    have := map_pre (fun p : Int × Bn.En => (p.1, p.2.1)) hpre
    rw [List.map_append] at this
    exact this.trans (List.prefix_append _ _)
   have hmap : ((pre ++ [((0 : Int) + pre.length, e)]).map fun p : Int × Bn.En => (p.1, p.2.1)) = (pre.map fun p => (p.1, p.2.1)) ++ [((0 : Int) + pre.length, e.1)] := by rw [List.map_append]; rfl
   rw [hmap]
   (refine G tt_ok pk212 ?_; repeat (refine G1 tt_ok pk212 ?_; intro _))
   intro fm2 rec2
   refine CW.ent (Tk.to (As := x.bank ++ [bksA (xs.eraseIdx k.toNat)]) (by repeat (first | exact .n | exact Rm.h | apply Tk.c | apply Rm.t)) (bks_shut hx)) ?_
   refine G tt_ok pk212 ?_
   (refine SQ.yieldA rfl rfl (hY (pre.map fun p => (p.1, p.2.1)) ((0 : Int) + pre.length, e.1) hp2) (by repeat (first | exact .n | exact Rm.h | exact Rm.of own_row | exact Rm.of row_close0 | apply Tk.c | apply Rm.t)) ?_; rintro _ _ (⟨rfl, rfl⟩ | ⟨rfl, rfl⟩) <;> refine w_ ?_)
   ·refine G tt_ok pk212 ?_
    refine Ent.trans (Rm.to (A := bksA xs) (by repeat (first | exact Rm.h | apply Rm.t)) (bks_open hx)) ?_
    exact Tk.ent (by repeat (first | exact .n | exact Rm.h | apply Tk.c | apply Rm.t))
   ·refine G tt_ok pk212 ?_
    refine CW.ret ?_
    refine ⟨_, ⟨rfl, (pre.map fun p => (p.1, p.2.1)) ++ [((0 : Int) + pre.length, e.1)], rfl⟩, ?_⟩
    refine Ent.trans (Rm.to (A := bksA xs) (by repeat (first | exact Rm.h | apply Rm.t)) (bks_open hx)) ?_
    exact Tk.ent (by repeat (first | exact .n | exact Rm.h | apply Tk.c | apply Rm.t))
  ·refine CW.ent (Tk.to (As := x.bank ++ [bksA (xs.eraseIdx k.toNat)]) (by repeat (first | exact .n | exact Rm.h | apply Tk.c | apply Rm.t)) (bks_shut hx)) ?_
   rw [show ((Bn.allV 0 x.es).map fun p => (p.1, p.2.1)) = seenA x.es from rfl]
   refine G tt_ok pk212 ?_
   (refine ka rfl rfl (Br.all21 β sb sq sc 32 sh (by omega)) ?_; rintro _ _ ⟨e1, e3, q2, n2, rfl, rfl⟩; refine w_ ?_)
   refine G tt_ok pk212 ?_
   refine CW.ent (Rm.to (A := rowA q2 sh.length (sh.flatMap Br.enC)) (by repeat (first | exact Rm.h | apply Rm.t)) (row_rd β (sz := 9) (flatE_len (sz := 9) (fun _ => rfl) sh))) ?_
   refine CW.open_ fun B2 => CW.pure_ fun hB2 => ?_
   refine CW.ent (L' := [pt e3 [.slice q2 sh.length n2], pt e1 [.pointer (some ⟨sb, 0, none⟩)], pt sb [.int .i64 32, .slice sq sh.length sc], B2, J (seenA x.es), pt by_ [.func (.yield l) #[] #[]], pt b2 [.pointer (some ⟨d, 0, none⟩)], pt b3 [.int .i64 k], pt d [.bool o0, .bool o1, .pointer (some ⟨sb, 0, none⟩), .slice qc xs.length cc], rowA qc xs.length (xs.flatMap crC), bksA xs, rowA sq sh.length (sh.flatMap Br.enC)]) (Tk.ent (by repeat (first | exact .n | exact Rm.h | apply Tk.c | apply Rm.t))) ?_
   refine CW.rangeFunc rfl (Br.iter43 β sb e1 e3 hB2 (by omega) (by omega) (by omega) rfl) [0, 0, 0, 0] rfl
    (fun pre => [J (seenA x.es ++ seenB sh xs k pre), pt by_ [.func (.yield l) #[] #[]], pt b2 [.pointer (some ⟨d, 0, none⟩)], pt b3 [.int .i64 k], pt d [.bool o0, .bool o1, .pointer (some ⟨sb, 0, none⟩), .slice qc xs.length cc], rowA qc xs.length (xs.flatMap crC), bksA xs, rowA sq sh.length (sh.flatMap Br.enC)])
    (fun c M => c = .ret ∧ ∃ pre, M = [Jx pre, pt by_ [.func (.yield l) #[] #[]], pt b2 [.pointer (some ⟨d, 0, none⟩)], pt b3 [.int .i64 k], pt d [.bool o0, .bool o1, .pointer (some ⟨sb, 0, none⟩), .slice qc xs.length cc], rowA qc xs.length (xs.flatMap crC), bksA xs, rowA sq sh.length (sh.flatMap Br.enC)]) ?_ (fun _ => rfl) (by decide) ?_ ?_ ?_
   ·rw [show seenB sh xs k [] = [] from rfl, List.append_nil]
    exact Ent.refl _
   ·intro pre p hpre lp fm rec1
    obtain ⟨e, he, rfl⟩ := Br.allV_pre hpre
    have hplt : pre.length < sh.length := (List.getElem?_eq_some_iff.1 he).1
    have hsb : seenB sh xs k (pre ++ [((32 : Int) + pre.length, e)]) = seenB sh xs k pre ++ if (targetV sh xs (32 + pre.length) == k) = true then [((32 : Int) + pre.length, e.1)] else [] := by
     unfold seenB
     rw [List.filter_append, List.map_append]
     congr 1
     simp only [List.filter_cons, List.filter_nil]
     split <;> rfl
    have hp2 : seenA x.es ++ seenB sh xs k (pre ++ [((32 : Int) + pre.length, e)]) <+: seenA x.es ++ seenB sh xs k (Br.allV 32 sh) := List.prefix_append_right_inj _ |>.2 (map_pre _ (filter_pre _ hpre))
    rw [hsb] at hp2 ⊢
    (refine G tt_ok pk212 ?_; repeat (refine G1 tt_ok pk212 ?_; intro _))
    intro fm2 rec2
    refine G tt_ok pk212 ?_
    refine ke rfl rfl (target19 β d o0 o1 sb sq sc sh qc cc xs (by omega) (32 + pre.length) (by omega)) ?_
    refine G tt_ok pk212 ?_
    cases ht : (targetV sh xs (32 + pre.length) == k) with
    | false =>
     simp only [ht, Bool.false_eq_true, if_false, List.append_nil] at hp2 ⊢
     refine G tt_ok pk212 ?_
     exact Tk.ent (by repeat (first | exact .n | exact Rm.h | apply Tk.c | apply Rm.t))
    | true =>
     simp only [ht, if_true] at hp2 ⊢
     rw [← List.append_assoc] at hp2 ⊢
     refine G tt_ok pk212 ?_
     (refine SQ.yieldA rfl rfl (hY (seenA x.es ++ seenB sh xs k pre) ((32 : Int) + pre.length, e.1) hp2) (by repeat (first | exact .n | exact Rm.h | exact Rm.of own_row | exact Rm.of row_close0 | apply Tk.c | apply Rm.t)) ?_; rintro _ _ (⟨rfl, rfl⟩ | ⟨rfl, rfl⟩) <;> refine w_ ?_)
     ·refine G tt_ok pk212 ?_
      exact Tk.ent (by repeat (first | exact .n | exact Rm.h | apply Tk.c | apply Rm.t))
     ·refine G tt_ok pk212 ?_
      refine CW.ret ?_
      refine ⟨_, ⟨rfl, (seenA x.es ++ seenB sh xs k pre) ++ [((32 : Int) + pre.length, e.1)], rfl⟩, ?_⟩
      exact Tk.ent (by repeat (first | exact .n | exact Rm.h | apply Tk.c | apply Rm.t))
   ·refine fin_normal (vs := []) rfl (A := J (seenA x.es ++ seenB sh xs k (Br.allV 32 sh)) :: ([pt b2 [.pointer (some ⟨d, 0, none⟩)], pt b3 [.int .i64 k]] ++ ([pt d [.bool o0, .bool o1, .pointer (some ⟨sb, 0, none⟩), .slice qc xs.length cc], rowA qc xs.length (xs.flatMap crC), bksA xs] ++ Br.bkA sb sq sc 32 sh))) (Tk.ent (by repeat (first | exact .n | exact Rm.h | apply Tk.c | apply Rm.t))) (.inl rfl)
   ·rintro c M ⟨rfl, pre, rfl⟩
    refine CW.ret ?_
    exact fin_ret rfl (A := Jx pre :: ([pt b2 [.pointer (some ⟨d, 0, none⟩)], pt b3 [.int .i64 k]] ++ ([pt d [.bool o0, .bool o1, .pointer (some ⟨sb, 0, none⟩), .slice qc xs.length cc], rowA qc xs.length (xs.flatMap crC), bksA xs] ++ Br.bkA sb sq sc 32 sh))) (Tk.ent (by repeat (first | exact .n | exact Rm.h | apply Tk.c | apply Rm.t))) (.inr ⟨pre, rfl⟩)
  ·rintro c M ⟨rfl, pre, rfl⟩
   refine CW.ret ?_
   refine fin_ret rfl (A := Jx pre :: ([pt b2 [.pointer (some ⟨d, 0, none⟩)], pt b3 [.int .i64 k]] ++ ([pt d [.bool o0, .bool o1, .pointer (some ⟨sb, 0, none⟩), .slice qc xs.length cc], rowA qc xs.length (xs.flatMap crC), bksA xs] ++ Br.bkA sb sq sc 32 sh))) ?_ (.inr ⟨pre, rfl⟩)
   refine Ent.trans (Tk.to (As := x.bank ++ [bksA (xs.eraseIdx k.toNat)]) (by repeat (first | exact .n | exact Rm.h | apply Tk.c | apply Rm.t)) (bks_shut hx)) ?_
   exact Tk.ent (by repeat (first | exact .n | exact Rm.h | apply Tk.c | apply Rm.t))
@[reducible] def pk195 : List (Nat × Plan) := [(5, [(0, 0, []), (1, 0, []), (2, 0, []), (3, 0, []), (4, 0, []), (5, 0, []), (6, 0, []), (7, 0, []), (8, 0, []), (9, 0, []), (10, 0, []), (11, 0, []), (12, 0, []), (13, 0, []), (14, 1, [1, 3, 5, 9, 13]), (15, 0, []), (16, 0, []), (17, 0, []), (18, 0, []), (19, 0, []), (20, 1, []), (21, 0, []), (22, 0, [])])]
def takeP (o0 o1 : Bool) (p : Int × Ln) : Bool := p.2.2.1 && ((if p.2.2.2.1 = 0 then o0 else o1) && readyI p.2.1)
def DS.readyV (D : DS) (k : Int) : List (Int × Ln) := if asleepV D.xs k then [] else (D.seenV k).filter (takeP D.o0 D.o1)
theorem ready17 (β : Base) (d : Nat) (k : Int) : Tri Tryz.prog β 163 [.pointer (some ⟨d, 0, none⟩), .int .i64 k] [] (fun v L => ∃ b2 b3, v = .func (.func 195) #[] #[.pointer (some ⟨b2, 0, none⟩), .pointer (some ⟨b3, 0, none⟩)] ∧ L = [pt b2 [.pointer (some ⟨d, 0, none⟩)], pt b3 [.int .i64 k]]) := by
 refine Tri.intro tt_ok Tryz.func163 rfl rfl Tryz.ntmps163 rfl fun F => ?_
 (refine G tt_ok [] ?_; repeat (refine G1 tt_ok [] ?_; intro _))
 rename_i b2 b3
 refine CW.ret (fin_ret rfl (A := [pt b2 [.pointer (some ⟨d, 0, none⟩)], pt b3 [.int .i64 k]]) pk_ ?_)
 exact ⟨b2, b3, rfl, rfl⟩
theorem readyIs (β : Base) (i : Iq) : Tri Tryz.prog β 180 [.agg #[.bool i.1, .bool i.2.1, .bool i.2.2.1, .bool i.2.2.2]] [] (fun v L => v = .bool (readyI i) ∧ L = []) := ready60 β _ _ _ _
theorem rd_on {o0 o1 : Bool} {u w : Value} {g : Int} (h0 : 0 ≤ g) (h1 : g ≤ 1) : rdv ti4 [.bool o0, .bool o1, u, w] (0 + g.toNat * 1) = some (.bool (if g = 0 then o0 else o1)) := by
 have : g = 0 ∨ g = 1 := by omega
 rcases this with rfl | rfl <;> rfl
set_option maxHeartbeats 8000000 in
theorem iter51 (β : Base) (d b2 b3 : Nat) (D : DS) (k : Int) (hn8 : D.xs.length ≤ 8) (hns : D.sh.length ≤ 64) (hes : ∀ x ∈ D.xs, x.es.length = 32) (hgr : ∀ p ∈ D.seenV k, 0 ≤ p.2.2.2.1 ∧ p.2.2.2.1 ≤ 1) :
  Iter Tryz.prog β 195 [.pointer (some ⟨b2, 0, none⟩), .pointer (some ⟨b3, 0, none⟩)] ([pt b2 [.pointer (some ⟨d, 0, none⟩)], pt b3 [.int .i64 k]] ++ dA d D) ilC (D.readyV k) := by
 intro l J Jx hY
 refine Tri.intro tt_ok Tryz.func195 rfl rfl Tryz.ntmps195 rfl fun F => ?_
 unfold DS.readyV at hY ⊢
 (refine G tt_ok pk195 ?_; repeat (refine G1 tt_ok pk195 ?_; intro _))
 rename_i by_
 refine ke rfl rfl (asleep22 β d D k) ?_
 cases hs : asleepV D.xs k with
 | true =>
  refine G tt_ok pk195 ?_
  exact CW.ret (fin_ret rfl (A := J [] :: ([pt b2 [.pointer (some ⟨d, 0, none⟩)], pt b3 [.int .i64 k]] ++ dA d D)) pk_ (.inl rfl))
 | false =>
  rw [hs] at hY
  simp only [Bool.false_eq_true, if_false] at hY ⊢
  refine G tt_ok pk195 ?_
  (refine ka rfl rfl (seen26 β d k) ?_; rintro _ _ ⟨s2, s3, rfl, rfl⟩; refine w_ ?_)
  refine G tt_ok pk195 ?_
  refine CW.ent (L' := ([pt s2 [.pointer (some ⟨d, 0, none⟩)], pt s3 [.int .i64 k]] ++ dA d D) ++ [J [], pt by_ [.func (.yield l) #[] #[]], pt b2 [.pointer (some ⟨d, 0, none⟩)], pt b3 [.int .i64 k]]) pk_ ?_
  refine CW.rangeFunc rfl (iter63 β d s2 s3 D k hn8 hns hes) [0, 0, 0, 0, 0, 0, 0] rfl
   (fun pre => [J (pre.filter (takeP D.o0 D.o1)), pt by_ [.func (.yield l) #[] #[]], pt b2 [.pointer (some ⟨d, 0, none⟩)], pt b3 [.int .i64 k]])
   (fun c M => c = .ret ∧ ∃ pre, M = [Jx pre, pt by_ [.func (.yield l) #[] #[]], pt b2 [.pointer (some ⟨d, 0, none⟩)], pt b3 [.int .i64 k]]) (Ent.refl _) (fun _ => rfl) (by decide) ?_ ?_ ?_
  ·intro pre p hpre lp fm rec1
   obtain ⟨hg0, hg1⟩ := hgr p (hpre.subset (by simp : p ∈ pre ++ [p]))
   have hfl : (pre ++ [p]).filter (takeP D.o0 D.o1) = pre.filter (takeP D.o0 D.o1) ++ if takeP D.o0 D.o1 p = true then [p] else [] := by
    rw [List.filter_append]
    congr 1
    rw [List.filter_cons, List.filter_nil]
   have hp2 := filter_pre (takeP D.o0 D.o1) hpre
   rw [hfl] at hp2 ⊢
   (refine G tt_ok pk195 ?_; repeat (refine G1 tt_ok pk195 ?_; intro _))
   intro fm2 rec2
   refine G tt_ok pk195 ?_
   obtain ⟨id, iq, en, g, pr⟩ := p
   rw [show takeP D.o0 D.o1 (id, iq, en, g, pr) = (en && ((if g = 0 then D.o0 else D.o1) && readyI iq)) from rfl] at hp2 ⊢
   simp only at hg0 hg1 hp2 ⊢
   cases en with
   | false =>
    simp only [Bool.false_and, Bool.false_eq_true, if_false, List.append_nil] at hp2 ⊢
    refine G tt_ok pk195 ?_
    exact pk_
   | true =>
    simp only [Bool.true_and] at hp2 ⊢
    refine G tt_ok pk195 ?_
    refine SQ.idx tt_ok rfl rfl g.toNat (by omega) (by omega) (o' := 0 + g.toNat * 1) rfl ?_
    refine SQ.ldA tt_ok rfl rfl (by repeat (first | exact .h | exact .q | apply At.t)) (rd_on hg0 hg1) ?_
    refine G tt_ok pk195 ?_
    have hon := fun u w => rd_on (o0 := D.o0) (o1 := D.o1) (u := u) (w := w) hg0 hg1
    generalize (if g = 0 then D.o0 else D.o1) = on at hp2 hon ⊢
    cases on with
    | false =>
     simp only [Bool.false_and, Bool.false_eq_true, if_false, List.append_nil] at hp2 ⊢
     refine G tt_ok pk195 ?_
     exact pk_
    | true =>
     simp only [Bool.true_and] at hp2 ⊢
     refine G tt_ok pk195 ?_
     (refine ka rfl rfl (readyIs β iq) ?_; rintro _ _ ⟨rfl, rfl⟩; refine ⟨(by repeat (first | exact trivial | refine ⟨trivial, ?_⟩ | refine ⟨wk (by repeat (first | exact .h | exact .q | apply At.t)) (hon _ _), ?_⟩ | refine ⟨wk (by repeat (first | exact .h | exact .q | apply At.t)) (by rfl), ?_⟩)), ?_⟩)
     generalize readyI iq = rd at hp2 ⊢
     cases rd with
     | false =>
      simp only [Bool.false_eq_true, if_false, List.append_nil] at hp2 ⊢
      refine G tt_ok pk195 ?_
      exact pk_
     | true =>
      simp only [if_true] at hp2 ⊢
      refine G tt_ok pk195 ?_
      (refine SQ.yieldA rfl rfl (hY (pre.filter (takeP D.o0 D.o1)) (id, iq, true, g, pr) hp2) (by repeat (first | exact .n | exact Rm.h | exact Rm.of own_row | exact Rm.of row_close0 | apply Tk.c | apply Rm.t)) ?_; rintro _ _ (⟨rfl, rfl⟩ | ⟨rfl, rfl⟩) <;> refine w_ ?_)
      ·refine G tt_ok pk195 ?_
       exact pk_
      ·refine G tt_ok pk195 ?_
       refine CW.ret ?_
       refine ⟨_, ⟨rfl, pre.filter (takeP D.o0 D.o1) ++ [(id, iq, true, g, pr)], rfl⟩, ?_⟩
       exact pk_
  ·exact fin_normal (vs := []) rfl (A := J ((D.seenV k).filter (takeP D.o0 D.o1)) :: ([pt b2 [.pointer (some ⟨d, 0, none⟩)], pt b3 [.int .i64 k]] ++ dA d D)) pk_ (.inl rfl)
  ·rintro c M ⟨rfl, pre, rfl⟩
   refine CW.ret ?_
   exact fin_ret rfl (A := Jx pre :: ([pt b2 [.pointer (some ⟨d, 0, none⟩)], pt b3 [.int .i64 k]] ++ dA d D)) pk_ (.inr ⟨pre, rfl⟩)
theorem before56 (β : Base) (p i q j : Int) : Tri Tryz.prog β 114 [.int .i64 p, .int .i64 i, .int .i64 q, .int .i64 j] [] (fun v L => v = .bool (decide (p < q) || (p == q && decide (i < j))) ∧ L = []) := by
 refine Tri.intro tt_ok Tryz.func114 rfl rfl Tryz.ntmps114 rfl fun F => ?_
 (repeat' (first | refine CW.seq ?_ | refine CW.region tt_ok rfl ?_ | refine CW.block ?_ | refine CW.skip ?_ | refine SQ.nil ?_ | refine SQ.pures1 tt_ok rfl ?_ | refine SQ.pure1 tt_ok rfl ?_ | refine SQ.new _ _ rfl rfl (fun _ => ?_) | refine SQ.ldA tt_ok rfl rfl (by repeat (first | exact .h | exact .q | apply At.t)) (by rfl) ?_ | refine SQ.stA tt_ok rfl rfl (by repeat (first | apply Up.h | apply Up.t)) (by rfl) (by rfl) (by exact trivial) ?_ | refine CW.cond_tt rfl ?_ | refine CW.cond_ff rfl ?_ | ((first | refine CW.cond rfl (fun hc => ?_) (fun hc => ?_) | refine SQ.gsplit rfl (fun hc => ?_) (fun hc => ?_)) <;> try (exfalso; simp_all; done))))
 all_goals (refine CW.ret (fin_ret rfl (Ent.refl _) ⟨?_, rfl⟩); simp_all [packV])
abbrev Cd := Int × Int × Int × Bool
def beforeV (p i q j : Int) : Bool := decide (p < q) || (p == q && decide (i < j))
def bestS (c : Cd) (p : Int × Ln) : Cd := if (!c.2.2.2 || beforeV p.2.2.2.2 p.1 c.2.1 c.1) = true then (p.1, p.2.2.2.2, p.2.2.2.1, true) else c
def bestL (ps : List (Int × Ln)) : Cd := ps.foldl bestS (0, 0, 0, false)
theorem before56' (β : Base) (p i q j : Int) : Tri Tryz.prog β 114 [.int .i64 p, .int .i64 i, .int .i64 q, .int .i64 j] [] (fun v L => v = .bool (beforeV p i q j) ∧ L = []) := before56 β p i q j
set_option maxHeartbeats 4000000 in
theorem best20 (β : Base) (d : Nat) (D : DS) (k : Int) (hn8 : D.xs.length ≤ 8) (hns : D.sh.length ≤ 64) (hes : ∀ x ∈ D.xs, x.es.length = 32) (hgr : ∀ p ∈ D.seenV k, 0 ≤ p.2.2.2.1 ∧ p.2.2.2.1 ≤ 1) :
  Tri Tryz.prog β 112 [.pointer (some ⟨d, 0, none⟩), .int .i64 k] (dA d D) (fun v L => v = .agg #[.int .i64 (bestL (D.readyV k)).1, .int .i64 (bestL (D.readyV k)).2.1, .int .i64 (bestL (D.readyV k)).2.2.1, .bool (bestL (D.readyV k)).2.2.2] ∧ L = dA d D) := by
 refine Tri.intro tt_ok Tryz.func112 rfl rfl Tryz.ntmps112 rfl fun F => ?_
 (refine G tt_ok [] ?_; repeat (refine G1 tt_ok [] ?_; intro _))
 rename_i b4 b5
 (refine ka rfl rfl (ready17 β d k) ?_; rintro _ _ ⟨s2, s3, rfl, rfl⟩; refine w_ ?_)
 refine G tt_ok [] ?_
 refine CW.ent (L' := ([pt s2 [.pointer (some ⟨d, 0, none⟩)], pt s3 [.int .i64 k]] ++ dA d D) ++ [pt b5 [.int .i64 0, .int .i64 0, .int .i64 0, .bool false], pt b4 [.int .i64 0, .int .i64 0, .int .i64 0, .bool false]]) pk_ ?_
 refine CW.rangeFunc rfl (iter51 β d s2 s3 D k hn8 hns hes hgr) [0, 0, 0, 0, 0, 0, 0] rfl
  (fun pre => [pt b5 [.int .i64 (bestL pre).1, .int .i64 (bestL pre).2.1, .int .i64 (bestL pre).2.2.1, .bool (bestL pre).2.2.2], pt b4 [.int .i64 0, .int .i64 0, .int .i64 0, .bool false]])
  (fun _ _ => False) (Ent.refl _) (fun _ => rfl) (by decide) ?_ ?_ (fun _ _ h => h.elim)
 ·intro pre p hpre lp fm rec1
  have hst : bestL (pre ++ [p]) = bestS (bestL pre) p := by unfold bestL; rw [List.foldl_append]; rfl
  rw [hst]
  generalize bestL pre = c
  obtain ⟨ci, cp, cg, cis⟩ := c
  obtain ⟨id, iq, en, g, pr⟩ := p
  unfold bestS
  simp only
  (refine G tt_ok [] ?_; repeat (refine G1 tt_ok [] ?_; intro _))
  intro fm2 rec2
  refine G tt_ok [] ?_
  cases cis with
  | false =>
   refine G tt_ok [] ?_
   exact pk_
  | true =>
   refine G tt_ok [] ?_
   refine ke rfl rfl (before56' β pr id cp ci) ?_
   cases hb : beforeV pr id cp ci with
   | true =>
    refine G tt_ok [] ?_
    exact pk_
   | false =>
    refine G tt_ok [] ?_
    exact pk_
 ·refine G tt_ok [] ?_
  refine CW.ret (fin_cells [_] ⟨⟨_, _, _, _, 1, rfl, rfl, rfl, rfl⟩, trivial⟩ (A := dA d D) pk_ ⟨rfl, rfl⟩)
end Go.Proofs.YtakkogdmlbkdaaaGreatDoor.Sl
namespace Go.Proofs.YtakkogdmlbkdaaaGreatDoor.Sl.It
attribute [local irreducible] CW Tri OW
@[reducible] def pk133 : List (Nat × Plan) := []
@[reducible] def pk80 : List (Nat × Plan) := [(2, [(0, 0, []), (1, 0, []), (2, 0, []), (3, 0, []), (5, 0, []), (6, 0, []), (7, 0, []), (8, 0, []), (4, 1, [3, 8]), (9, 1, [3, 8]), (10, 0, []), (11, 1, []), (12, 0, []), (13, 1, [])])]
@[reducible] def pk164 : List (Nat × Plan) := [(4, [(0, 0, []), (1, 0, []), (2, 0, []), (3, 0, []), (4, 0, []), (5, 0, []), (6, 0, []), (7, 0, []), (8, 0, []), (9, 0, []), (10, 0, []), (11, 0, []), (12, 0, []), (13, 0, []), (14, 0, []), (15, 0, []), (16, 0, []), (17, 1, [3, 6, 12, 15]), (18, 0, []), (19, 0, [])])]
@[reducible] def pk113 : List (Nat × Plan) := []
theorem setcopy133 (β : Base) (S : Nat) (q : Option Addr) (c : Nat) {U : List Nat} (hU : setOk U) :
  Tri Tryz.prog β 133 [.pointer (some ⟨S, 0, none⟩)] (setL S q c U) (fun v L => ∃ S' q' c', v = .pointer (some ⟨S', 0, none⟩) ∧ L = setL S q c U ++ setL S' q' c' U) := by
 refine Tri.intro tt_ok Tryz.func133 rfl rfl Tryz.ntmps133 rfl fun F => ?_
 unfold setL
 refine G tt_ok pk133 ?_
 (refine ka rfl rfl (clone175 β q c hU) ?_; rintro _ _ ⟨q', c', rfl, rfl⟩; refine w_ ?_)
 (refine G tt_ok pk133 ?_; repeat (refine G1 tt_ok pk133 ?_; intro _))
 rename_i S'
 exact CW.ret (fin_ret rfl (A := setL S q c U ++ setL S' q' c' U) (by unfold setL; exact pk_) ⟨S', q', c', rfl, rfl⟩)
set_option maxHeartbeats 4000000 in
theorem lcopy80 (β : Base) (x : Lp) (hU : setOk x.U) (hC : x.C.length = 512) :
  Tri Tryz.prog β 80 [.pointer (some ⟨x.p, 0, none⟩)] (colF x) (fun v L => ∃ y : Lp, v = .pointer (some ⟨y.p, 0, none⟩) ∧ y.k = x.k ∧ y.pc = x.pc ∧ L = colF x ++ colF y) := by
 obtain ⟨p, r, S, k, q, c, on, U, C⟩ := x
 simp only at hU hC ⊢
 refine Tri.intro tt_ok Tryz.func80 rfl rfl Tryz.ntmps80 rfl fun F => ?_
 have hcl := clone64 β r.1 0 (512 + r.2.length) (bys C ++ r.2) C (by omega) (by omega) (by rw [List.drop_zero, ← bys_len C]; exact List.take_left)
 rw [hC] at hcl
 unfold colF colA
 (refine G tt_ok pk80 ?_; repeat (refine G1 tt_ok pk80 ?_; intro _))
 (refine ka rfl rfl (hcl) ?_; rintro _ _ ⟨b, X, rfl, rfl⟩; refine w_ ?_)
 refine G tt_ok pk80 ?_
 (refine ka rfl rfl (setcopy133 β S q c hU) ?_; rintro _ _ ⟨S', q', c', rfl, rfl⟩; refine w_ ?_)
 refine G tt_ok pk80 ?_
 rename_i p'
 refine CW.ret (fin_ret rfl (A := colF ⟨p, r, S, k, q, c, on, U, C⟩ ++ colF ⟨p', (b, X), S', k, q', c', on, U, C⟩) ?_ ⟨⟨p', (b, X), S', k, q', c', on, U, C⟩, rfl, rfl, rfl, rfl⟩)
 unfold colF colA setL
 exact pk_
def supI (C : List Nat) (i : Nat) : Bool := decide (C.getD i 0 % 2 = 1)
def supP (C : List Nat) (i : Nat) : Int := andI ((C.getD i 0 : Nat) : Int) 248
theorem and1_u8 {y : Nat} (hy : y < 256) : (IntKind.u8.wrap ((BitVec.ofInt IntKind.u8.bits (y : Int) &&& BitVec.ofInt IntKind.u8.bits 1).toNat : Int) == 1) = decide (y % 2 = 1) := by
 have h : ∀ z : Fin 256, (IntKind.u8.wrap ((BitVec.ofInt IntKind.u8.bits (z.1 : Int) &&& BitVec.ofInt IntKind.u8.bits 1).toNat : Int) == 1) = decide (z.1 % 2 = 1) := by decide +kernel
 exact h ⟨y, hy⟩
set_option maxHeartbeats 4000000 in
theorem setup164 (β : Base) (p : Nat) (r : Gr) (S k : Nat) (on : Bool) {C : List Nat} (hC : C.length = 512) (hb : byOk C) {i : Nat} (hi : i < 512) :
  Tri Tryz.prog β 164 [.pointer (some ⟨p, 0, none⟩), .int .i64 ((8192 + i : Nat) : Int)] [pt p (lpC k on r S), pt r.1 (bys C ++ r.2)]
   (fun v L => v = .tuple #[.bool (supI C i), .int .i64 (supP C i)] ∧ L = [pt p (lpC k on r S), pt r.1 (bys C ++ r.2)]) := by
 refine Tri.intro tt_ok Tryz.func164 rfl rfl Tryz.ntmps164 rfl fun F => ?_
 have hc : C[i]? = some (C.getD i 0) := by rw [List.getD_eq_getElem?_getD, List.getElem?_eq_getElem (by omega)]; rfl
 have hy := hb _ (List.mem_of_getElem? hc)
 unfold supI supP
 generalize C.getD i 0 = y at hc hy ⊢
 refine G tt_ok pk164 ?_
 refine ke rfl rfl (index45 β p k on r S ((8192 + i : Nat) : Int)) ?_
 rw [show idxV ((8192 + i : Nat) : Int) = true by unfold idxV; rw [wrap_id (by omega) (by omega)]; simp; omega, show IntKind.i64.wrap (((8192 + i : Nat) : Int) - 8192) = (i : Int) by rw [wrap_id (by omega) (by omega)]; omega]
 refine G tt_ok pk164 ?_
 refine SQ.idx tt_ok rfl rfl i rfl hi (o' := 0 + i * 1) rfl ?_
 (refine SQ.ldA tt_ok rfl rfl (by repeat (first | exact .h | exact .q | apply At.t)) (bys_at hc) ?_)
 refine G tt_ok pk164 ?_
 refine SQ.idx tt_ok rfl rfl i rfl hi (o' := 0 + i * 1) rfl ?_
 (refine SQ.ldA tt_ok rfl rfl (by repeat (first | exact .h | exact .q | apply At.t)) (bys_at hc) ?_)
 refine G tt_ok pk164 ?_
 rw [show IntKind.i64.wrap (y : Int) = (y : Int) by rw [wrap_id (by omega) (by omega)]]
 (refine ka rfl rfl (real48 β (y : Int)) ?_; rintro _ _ ⟨rfl, rfl⟩; refine ⟨(by repeat (first | exact trivial | refine ⟨trivial, ?_⟩ | refine ⟨wk (by repeat (first | exact .h | exact .q | apply At.t)) (bys_at hc), ?_⟩ | refine ⟨wk (by repeat (first | exact .h | exact .q | apply At.t)) (bys_at hc), ?_⟩ | refine ⟨wk (by repeat (first | exact .h | exact .q | apply At.t)) (by rfl), ?_⟩)), ?_⟩)
 rw [and1_u8 hy]
 refine G tt_ok pk164 ?_
 exact CW.ret (fin_ret rfl (A := [pt p (lpC k on r S), pt r.1 (bys C ++ r.2)]) pk_ ⟨rfl, rfl⟩)
def stepC (C : List Nat) (c : Cd) (x : Int) : Cd := if supI C x.toNat && (!c.2.2.2 || beforeV (supP C x.toNat) (8192 + x) c.2.1 c.1) then (8192 + x, supP C x.toNat, 1, true) else c
def bestC (C U : List Nat) : Cd := (bitsU U).foldl (stepC C) (0, 0, 0, false)
@[reducible] def cdL (c : Cd) : List Value := [.int .i64 c.1, .int .i64 c.2.1, .int .i64 c.2.2.1, .bool c.2.2.2]
set_option maxHeartbeats 8000000 in
theorem best113 (β : Base) (hG : TabOk β) (p : Nat) (r : Gr) (S k : Nat) (q : Option Addr) (cc : Nat) (on : Bool) {U : List Nat} (hU : setOk U) {C : List Nat} (hC : C.length = 512) (hb : byOk C) :
  Tri Tryz.prog β 113 [.pointer (some ⟨p, 0, none⟩)] (colA p r S q cc k on U ++ [pt r.1 (bys C ++ r.2)])
   (fun v L => v = .agg (cdL (bestC C U)).toArray ∧ L = colA p r S q cc k on U ++ [pt r.1 (bys C ++ r.2)]) := by
 refine Tri.intro tt_ok Tryz.func113 rfl rfl Tryz.ntmps113 rfl fun F => ?_
 have e0 : colA p r S q cc k on U = pt p (lpC k on r S) :: setL S q cc U := rfl
 rw [e0]
 (refine G tt_ok pk113 ?_; repeat (refine G1 tt_ok pk113 ?_; intro _))
 rename_i c1 c2 c3
 (refine ka rfl rfl (all126 β S q cc hU) ?_; rintro _ _ ⟨b1, b2, q1, n1, rfl, rfl⟩; refine w_ ?_)
 refine G tt_ok pk113 ?_
 have hI := iter176 β hG b1 b2 q1 n1 hU.2 (by have := hU.1; omega)
 refine CW.rangeA rfl hI (by repeat (first | exact .n | exact Rm.h | apply Tk.c | apply Rm.t)) (fun pre => [pt c3 (cdL (pre.foldl (stepC C) (0, 0, 0, false))), pt c2 (cdL (0, 0, 0, false)), pt c1 [.pointer (some ⟨p, 0, none⟩)], pt p (lpC k on r S), pt r.1 (bys C ++ r.2)] ++ setL S q cc U)
  (fun _ _ => False) (by unfold setL; exact pk_) (fun _ => rfl) (by decide) ?_ ?_ (fun _ _ h => h.elim)
 ·intro pre x hpre lp fm rec1
  obtain ⟨i, hi, rfl⟩ := bitsU_lt hU x (hpre.subset (by simp))
  have e1 : (pre ++ [(i : Int)]).foldl (stepC C) (0, 0, 0, false) = stepC C (pre.foldl (stepC C) (0, 0, 0, false)) i := by rw [List.foldl_append]; rfl
  simp only [e1]
  generalize pre.foldl (stepC C) (0, 0, 0, false) = c
  obtain ⟨ci, cp, cg, cis⟩ := c
  unfold stepC setL
  rw [Int.toNat_natCast]
  simp only
  refine G tt_ok pk113 ?_
  intro fm2 rec2
  refine G tt_ok pk113 ?_
  have w1 : IntKind.i64.wrap (8192 + (i : Int)) = ((8192 + i : Nat) : Int) := by rw [wrap_id (by omega) (by omega)]; omega
  rw [w1, show (8192 + (i : Int)) = ((8192 + i : Nat) : Int) by omega]
  refine G tt_ok pk113 ?_
  refine ke rfl rfl (setup164 β p r S k on hC hb hi) ?_
  generalize supP C i = pr
  cases hs : supI C i with
  | false =>
   refine G tt_ok pk113 ?_
   exact pk_
  | true =>
   cases cis with
   | false =>
    refine G tt_ok pk113 ?_
    exact pk_
   | true =>
    refine G tt_ok pk113 ?_
    refine ke rfl rfl (before56' β pr ((8192 + i : Nat) : Int) cp ci) ?_
    cases hbf : beforeV pr ((8192 + i : Nat) : Int) cp ci with
    | true =>
     refine G tt_ok pk113 ?_
     exact pk_
    | false =>
     refine G tt_ok pk113 ?_
     exact pk_
 ·rw [show (memU 0 U).foldl (stepC C) (0, 0, 0, false) = bestC C U from rfl]
  generalize bestC C U = c
  obtain ⟨ci, cp, cg, cis⟩ := c
  unfold setL
  refine G tt_ok pk113 ?_
  refine CW.ret (fin_cells [_] ⟨cl_, trivial⟩ (A := colA p r S q cc k on U ++ [pt r.1 (bys C ++ r.2)]) (by rw [e0]; unfold setL; exact pk_) ⟨rfl, rfl⟩)
@[reducible] def pk74 : List (Nat × Plan) := [(1, [(0, 0, []), (1, 0, []), (2, 0, []), (3, 0, []), (4, 0, []), (5, 0, []), (6, 0, []), (7, 0, []), (8, 0, []), (9, 1, [7, 8]), (10, 0, [])]), (4, [(0, 0, []), (1, 0, []), (2, 0, []), (3, 0, []), (4, 0, []), (5, 0, []), (6, 0, []), (7, 0, []), (8, 0, []), (9, 0, []), (10, 0, []), (11, 1, [6, 10]), (12, 0, []), (13, 0, []), (14, 0, []), (15, 0, []), (16, 0, [])])]
attribute [local irreducible] invK enK enV waitL
variable {T nc : Nat}
def cmdV (j : Nat) (x : IW) (c : Cm) : IW × Nat × Int :=
 if (putV x.w.B x.i j c).2.2 ≠ 0 then (⟨⟨(putV x.w.B x.i j c).1, x.w.cs⟩, x.st, x.i⟩, (putV x.w.B x.i j c).2.1, (putV x.w.B x.i j c).2.2)
 else if (runV 64 true (putV x.w.B x.i j c).2.1 1 0 ⟨⟨(putV x.w.B x.i j c).1, x.w.cs⟩, x.st, x.i⟩).2.2 ≠ 0 then
  (⟨(runV 64 true (putV x.w.B x.i j c).2.1 1 0 ⟨⟨(putV x.w.B x.i j c).1, x.w.cs⟩, x.st, x.i⟩).1.w, false,
   resI (runV 64 true (putV x.w.B x.i j c).2.1 1 0 ⟨⟨(putV x.w.B x.i j c).1, x.w.cs⟩, x.st, x.i⟩).1.st (runV 64 true (putV x.w.B x.i j c).2.1 1 0 ⟨⟨(putV x.w.B x.i j c).1, x.w.cs⟩, x.st, x.i⟩).1.i (putV x.w.B x.i j c).2.1 true⟩,
   (putV x.w.B x.i j c).2.1, (runV 64 true (putV x.w.B x.i j c).2.1 1 0 ⟨⟨(putV x.w.B x.i j c).1, x.w.cs⟩, x.st, x.i⟩).2.2)
 else ((runV 64 true (putV x.w.B x.i j c).2.1 1 0 ⟨⟨(putV x.w.B x.i j c).1, x.w.cs⟩, x.st, x.i⟩).1, (putV x.w.B x.i j c).2.1, 0)
theorem runV1_ok {j : Nat} {x : IW} (h : x.ok T nc) : (runV 64 true j 1 0 x).1.ok T nc := by
 have h1 := stepV_ok (p := 64) (on := true) (j := j) h
 rw [runV_s]
 split
 ·exact h1
 ·split
  ·exact h1
  ·exact h1
theorem cmdV_ok {j : Nat} {x : IW} (hx : x.ok T nc) (hj : j < 32) (c : Cm) : (cmdV j x c).1.ok T nc ∧ (cmdV j x c).2.1 < 32 := by
 obtain ⟨⟨hB, hb, hc⟩, hi⟩ := hx
 obtain ⟨h1, h2, h3⟩ := putV_in (i := x.i) (c := c) hB hb hj
 have hx1 : (⟨⟨(putV x.w.B x.i j c).1, x.w.cs⟩, x.st, x.i⟩ : IW).ok T nc := ⟨⟨h1, h2, hc⟩, hi⟩
 have hr := runV1_ok (j := (putV x.w.B x.i j c).2.1) hx1
 unfold cmdV
 split
 ·exact ⟨hx1, h3⟩
 ·split
  ·refine ⟨⟨hr.1, ?_⟩, h3⟩
   unfold resI
   split
   ·exact nxI_lt _ hr.2
   ·exact hr.2
  ·exact ⟨hr, h3⟩
set_option maxHeartbeats 4000000 in
theorem command74 (β : Base) (h m : Nat) (g : Gr) {ps : List Nat} {A : Atom} {q : Option Addr} (cp : Nat) (hS : TsOk β A q ps nc) (dv fv sv : Value) {x : IW} (hx : x.ok T nc) {j : Nat} (hj : j < 32) (c : Cm) :
  Tri Tryz.prog β 74 [.pointer (some ⟨h, 0, none⟩), .agg (cmC c).toArray] (pt h (itH (.pointer (some ⟨m, 0, none⟩), dv, fv, .slice q nc cp, sv) true x.st x.i j 64) :: A :: swA m g ps x.w)
   (fun u L => u = .int .i64 (cmdV j x c).2.2 ∧ L = pt h (itH (.pointer (some ⟨m, 0, none⟩), dv, fv, .slice q nc cp, sv) true (cmdV j x c).1.st (cmdV j x c).1.i (cmdV j x c).2.1 64) :: A :: swA m g ps (cmdV j x c).1.w) := by
 obtain ⟨⟨hB, hb, hc⟩, hi⟩ := hx
 obtain ⟨h1, h2, h3⟩ := putV_in (i := x.i) (c := c) hB hb hj
 have hx1 : (⟨⟨(putV x.w.B x.i j c).1, x.w.cs⟩, x.st, x.i⟩ : IW).ok T nc := ⟨⟨h1, h2, hc⟩, hi⟩
 have hr := runV1_ok (j := (putV x.w.B x.i j c).2.1) hx1
 have hput := put51 β m g (h, (.pointer (some ⟨m, 0, none⟩), dv, fv, .slice q nc cp, sv)) x.w.B hB true x.st 64 hi hj c
 have hrun := run21 β (h, (.pointer (some ⟨m, 0, none⟩), dv, fv, .slice q nc cp, sv)) m g cp hS (.inr rfl : (64 : Int) = 0 ∨ (64 : Int) = 64) hx1 true h3 (N := 1) (by omega)
 simp only at hput hrun
 unfold cmdV
 refine Tri.intro tt_ok Tryz.func74 rfl rfl Tryz.ntmps74 rfl fun F => ?_
 unfold swA
 unfold swA at hrun
 generalize putV x.w.B x.i j c = pv at hput hrun h1 h2 h3 hx1 hr ⊢
 obtain ⟨B1, j1, e1⟩ := pv
 simp only at hput hrun h1 h2 h3 hx1 hr ⊢
 (refine G tt_ok pk74 ?_; repeat (refine G1 tt_ok pk74 ?_; intro _))
 refine ke rfl rfl (hput) ?_
 by_cases he : e1 = 0
 ·subst he
  rw [if_neg (by simp)]
  generalize runV 64 true j1 1 0 ⟨⟨B1, x.w.cs⟩, x.st, x.i⟩ = rv at hrun hr ⊢
  obtain ⟨⟨w2, st2, i2⟩, n2, e2⟩ := rv
  simp only at hrun hr ⊢
  refine G tt_ok pk74 ?_
  refine ke rfl rfl (hrun) ?_
  by_cases he2 : e2 = 0
  ·subst he2
   rw [if_neg (by simp)]
   refine G tt_ok pk74 ?_
   exact CW.ret (fin_ret rfl (A := pt h (itH (.pointer (some ⟨m, 0, none⟩), dv, fv, .slice q nc cp, sv) true st2 i2 j1 64) :: A :: (colsA ps w2.cs :: memA m g w2.B)) pk_ ⟨rfl, rfl⟩)
  ·rw [if_pos he2]
   refine G tt_ok pk74 ?_
   rw [show (e2 != 0) = true by simp [he2]]
   refine G tt_ok pk74 ?_
   have hres := resume64 β (h, (.pointer (some ⟨m, 0, none⟩), dv, fv, .slice q nc cp, sv)) true st2 64 hr.2 h3 true
   simp only at hres
   refine ke rfl rfl (hres) ?_
   refine G tt_ok pk74 ?_
   exact CW.ret (fin_ret rfl (A := pt h (itH (.pointer (some ⟨m, 0, none⟩), dv, fv, .slice q nc cp, sv) true false (resI st2 i2 j1 true) j1 64) :: A :: (colsA ps w2.cs :: memA m g w2.B)) pk_ ⟨rfl, rfl⟩)
 ·rw [if_pos he]
  refine G tt_ok pk74 ?_
  rw [show (e1 != 0) = true by simp [he]]
  refine G tt_ok pk74 ?_
  exact CW.ret (fin_ret rfl (A := pt h (itH (.pointer (some ⟨m, 0, none⟩), dv, fv, .slice q nc cp, sv) true x.st x.i j1 64) :: A :: (colsA ps x.w.cs :: memA m g B1)) pk_ ⟨rfl, rfl⟩)
end Go.Proofs.YtakkogdmlbkdaaaGreatDoor.Sl.It
namespace Go.Proofs.YtakkogdmlbkdaaaGreatDoor.Sl
attribute [local irreducible] CW Tri OW
structure OB where
 b : Nat
 q : Option Addr
 c : Nat
 q2 : Option Addr
 c2 : Nat
structure RS where
 s : OB
 qk : Option Addr
 ck : Nat
 qa : Option Addr
 ca : Nat
 qo : Option Addr
 co : Nat
 qs : Option Addr
 cs : Nat
 os : List OB
structure OkD (R : RS) (D : DS) : Prop where
 one : 1 ≤ D.xs.length
 x8 : D.xs.length ≤ 8
 es : ∀ x ∈ D.xs, x.es.length = 32 ∧ Bn.okL x.es
 sh : D.sh.length ≤ 64
 ok : Br.okL D.sh
 os : R.os.length = D.xs.length
 rt : ∀ e ∈ D.sh, 0 ≤ e.2.1 ∧ e.2.1 ≤ 255
theorem allN_mem {f : Int} {es : List Bn.En} {q : Int × Bn.En} (h : q ∈ Bn.allV f es) : ∃ (i : Nat) (e : Bn.En), es[i]? = some e ∧ q = (f + i, e) := by
 obtain ⟨i, hi, e⟩ := List.getElem_of_mem h
 rw [Bn.allV_len] at hi
 have h2 := Bn.allV_at (first := f) (List.getElem?_eq_getElem hi)
 refine ⟨i, _, List.getElem?_eq_getElem hi, ?_⟩
 rw [List.getElem?_eq_getElem (by rw [Bn.allV_len]; exact hi), e] at h2
 exact Option.some.inj h2
theorem allR_mem {f : Int} {es : List Br.En} {q : Int × Br.En} (h : q ∈ Br.allV f es) : ∃ (i : Nat) (e : Br.En), es[i]? = some e ∧ q = (f + i, e) := by
 obtain ⟨i, hi, e⟩ := List.getElem_of_mem h
 rw [Br.allV_len] at hi
 have h2 := Br.allV_at (first := f) (List.getElem?_eq_getElem hi)
 refine ⟨i, _, List.getElem?_eq_getElem hi, ?_⟩
 rw [List.getElem?_eq_getElem (by rw [Br.allV_len]; exact hi), e] at h2
 exact Option.some.inj h2
theorem seenV_get {D : DS} {k : Int} (hes : ∀ x ∈ D.xs, x.es.length = 32 ∧ Bn.okL x.es) (hok : Br.okL D.sh) {p : Int × Ln} (h : p ∈ D.seenV k) : D.getV k p.1 = (p.2, 0) ∧ 0 ≤ p.2.2.2.1 ∧ p.2.2.2.1 ≤ 1 := by
 unfold DS.seenV at h
 cases hr : rightV D.xs.length k with
 | false => rw [hr] at h; simp at h
 | true =>
  obtain ⟨x, hx, hl, hk⟩ := right_at hr
  have hx32 := hes x (List.mem_of_getElem? hx)
  rw [if_pos hr, hx] at h
  simp only [List.mem_append] at h
  unfold DS.getV
  rw [if_pos hr, hx]
  rcases h with h | h
  ·unfold seenA at h
   obtain ⟨q, hq, rfl⟩ := List.mem_map.1 h
   obtain ⟨i, e, he, rfl⟩ := allN_mem hq
   have hi := (List.getElem?_eq_some_iff.1 he).1
   simp only
   rw [if_pos (by omega), show Bn.getV 0 x.es (0 + (i : Int)) = (e, 0) by unfold Bn.getV; rw [Bn.atE_iff.2 ⟨i, rfl, he⟩]]
   obtain ⟨g1, g2, _⟩ := Bn.okL_at hx32.2 he
   exact ⟨rfl, g1, g2⟩
  ·unfold seenB at h
   obtain ⟨q, hq, rfl⟩ := List.mem_map.1 h
   obtain ⟨i, e, he, rfl⟩ := allR_mem (List.mem_filter.1 hq).1
   simp only
   rw [if_neg (by omega), show Br.getV 32 D.sh (32 + (i : Int)) = (e, 0) by unfold Br.getV; rw [Br.atE_iff.2 ⟨i, rfl, he⟩]]
   obtain ⟨g1, g2, _⟩ := Br.okL_at hok he
   exact ⟨rfl, g1, g2⟩
def plX (x : CR) : List Bn.En × Bool := (x.es, x.sl)
def x0 : CR := ⟨0, none, 0, ownK 16, false⟩
theorem ownK_len : ∀ k, (ownK k).length = 32
 | 0 => by simp [ownK]
 | k + 1 => by unfold ownK; rw [Bn.doV_len]; exact ownK_len k
@[reducible] def pk78 : List (Nat × Plan) := [(1, [(0, 0, []), (1, 0, []), (2, 0, []), (3, 0, []), (4, 0, []), (5, 0, []), (6, 0, []), (7, 0, []), (8, 1, [3, 7]), (9, 0, []), (10, 1, [3, 7]), (11, 0, [])]), (5, [(0, 0, []), (1, 0, []), (2, 0, []), (3, 0, []), (4, 0, []), (5, 0, []), (6, 0, []), (8, 0, []), (9, 0, []), (7, 1, [4, 6, 9]), (10, 0, []), (11, 1, [4, 6, 9]), (12, 1, []), (13, 0, []), (14, 0, []), (15, 1, [])])]
def DS.like (D E : DS) : Prop := D.o0 = E.o0 ∧ D.o1 = E.o1 ∧ D.sh = E.sh ∧ D.xs.map plX = E.xs.map plX
set_option maxHeartbeats 8000000 in
theorem copy24 (β : Base) (d : Nat) (D : DS) (h8 : D.xs.length ≤ 8) (hsh : D.sh.length ≤ 64) (hes : ∀ x ∈ D.xs, x.es.length = 32) : Tri Tryz.prog β 78 [.pointer (some ⟨d, 0, none⟩)] (dA d D) (fun v L => ∃ c E, v = .pointer (some ⟨c, 0, none⟩) ∧ L = dA c E ++ dA d D ∧ E.like D) := by
 obtain ⟨o0, o1, sb, sq, sc, sh, qc, cc, xs⟩ := D
 simp only at h8 hsh hes
 refine Tri.intro tt_ok Tryz.func78 rfl rfl Tryz.ntmps78 rfl fun F => ?_
 unfold dA
 simp only
 refine G tt_ok pk78 ?_
 (refine ka rfl rfl (Br.copy40 β sb sq sc 32 sh (by omega)) ?_; rintro _ _ ⟨sb2, sq2, sc2, rfl, rfl⟩; refine w_ ?_)
 (refine G tt_ok pk78 ?_; repeat (refine G1 tt_ok pk78 ?_; intro _))
 rename_i c
 refine CW.loop (α := List CR × Option Addr × Nat) (fun y => y.1.length ≤ xs.length ∧ y.1.map plX = (xs.take y.1.length).map plX) (fun y => [(22, .int .i64 y.1.length), (21, .int .i64 xs.length), (20, .slice qc xs.length cc), (3, .pointer (some ⟨c, 0, none⟩))])
  (fun y => [pt c [.bool o0, .bool o1, .pointer (some ⟨sb2, 0, none⟩), .slice y.2.1 y.1.length y.2.2], own 173 2 (.slice y.2.1 y.1.length y.2.2) y.1.length (y.1.flatMap crC), bksA y.1] ++ Br.bkA sb2 sq2 sc2 32 sh ++ ([pt d [.bool o0, .bool o1, .pointer (some ⟨sb, 0, none⟩), .slice qc xs.length cc], rowA qc xs.length (xs.flatMap crC), bksA xs] ++ Br.bkA sb sq sc 32 sh)) (fun y => xs.length - y.1.length) ([], none, 0) ⟨by simp, by simp⟩ ⟨rfl, rfl, rfl, rfl, trivial⟩ ?_ ?_
 ·refine Ent.trans ((own_nil 173 2).trans bks_nil) ?_
  exact pk_
 rintro ⟨ys, q, cap⟩ ⟨hl, hys⟩
 simp only at hl hys ⊢
 refine G tt_ok pk78 ?_
 by_cases hlt : ys.length < xs.length
 ·have hw : IntKind.i64.wrap ((ys.length : Int) + 1) = ((ys.length + 1 : Nat) : Int) := by rw [wrap_i64]; split <;> omega
  obtain ⟨x, hx⟩ : ∃ x, xs[ys.length]? = some x := ⟨_, List.getElem?_eq_getElem hlt⟩
  rw [decide_eq_true (show (ys.length : Int) < xs.length by omega)]
  (refine CW.ent (Rm.to (A := rowA qc (xs.length) (xs.flatMap crC)) (by repeat (first | exact Rm.h | apply Rm.t)) (row_open (by omega))) ?_; refine CW.open_ fun y => ?_; obtain ⟨g, rest⟩ := y; refine CW.pure_ fun hv => ?_; simp only at hv; subst hv)
  refine G tt_ok pk78 ?_
  refine SQ.idx tt_ok rfl rfl ys.length rfl hlt (o' := 0 + ys.length * 2) rfl ?_
  (refine SQ.ldA tt_ok rfl rfl (by repeat (first | exact .h | exact .q | apply At.t)) (rd_core hx rest) ?_)
  (refine G tt_ok pk78 ?_; repeat (refine G1 tt_ok pk78 ?_; intro _))
  refine SQ.ent _ (rm_ (A := pt g (xs.flatMap crC ++ rest)) (row_close (n := xs.length))) ?_
  generalize (some ⟨g, 0, none⟩ : Option Addr) = qc
  refine SQ.ent _ (rm_ (A := bksA xs) (bks_open hx)) ?_
  refine G tt_ok pk78 ?_
  (refine ka rfl rfl (Bn.copy40 β x.b x.q x.c 0 x.es (by have := hes x (List.mem_of_getElem? hx); omega)) ?_; rintro _ _ ⟨b, bq, bc, rfl, rfl⟩; refine w_ ?_)
  refine SQ.ent _ (tk_ (As := x.bank ++ [bksA (xs.eraseIdx ys.length)]) (bks_shut hx)) ?_
  refine G tt_ok pk78 ?_
  (refine SQ.built tt_ok rfl rfl (fun _ => w_ ?_))
  refine G tt_ok pk78 ?_
  (refine SQ.appA tt_ok rfl rfl (by repeat (first | exact Rm.h | apply Rm.t)) (by repeat (first | exact .h | exact .q | apply At.t)) (crC ⟨b, bq, bc, x.es, x.sl⟩) rfl rfl rfl (scal_eq rfl) (by omega) (by show (ys.length + 1) * 16 ≤ _; omega) (fun q' c' => w_ ?_))
  refine G tt_ok pk78 ?_
  have hlen : (ys ++ [(⟨b, bq, bc, x.es, x.sl⟩ : CR)]).length = ys.length + 1 := by simp
  refine ⟨(ys ++ [⟨b, bq, bc, x.es, x.sl⟩], q', c'), ⟨by simp; omega, ?_⟩, by simp; omega, ⟨by rw [hlen, ← hw]; rfl, rfl, rfl, rfl, trivial⟩, ?_⟩
  ·simp only
   rw [hlen, List.map_append, hys, List.take_add_one, hx, List.map_append]; rfl
  ·simp only
   rw [hlen, show (ys ++ [(⟨b, bq, bc, x.es, x.sl⟩ : CR)]).flatMap crC = ys.flatMap crC ++ crC ⟨b, bq, bc, x.es, x.sl⟩ by simp]
   refine Ent.trans (Tk.to (As := CR.bank ⟨b, bq, bc, x.es, x.sl⟩ ++ [bksA ys]) (by repeat (first | exact .n | exact Rm.h | apply Tk.c | apply Rm.t)) bks_snoc) ?_
   exact pk_
 ·rw [decide_eq_false (show ¬ (ys.length : Int) < xs.length by omega)]
  refine G tt_ok pk78 ?_
  refine CW.exit ?_
  refine G tt_ok pk78 ?_
  have hl2 : ys.length = xs.length := by omega
  refine CW.ret (fin_ret rfl (A := dA c ⟨o0, o1, sb2, sq2, sc2, sh, q, cap, ys⟩ ++ dA d ⟨o0, o1, sb, sq, sc, sh, qc, cc, xs⟩) pk_ ⟨c, ⟨o0, o1, sb2, sq2, sc2, sh, q, cap, ys⟩, rfl, rfl, rfl, rfl, rfl, ?_⟩)
  simp only
  rw [hys, hl2, List.take_length]
section
variable {R : RS} {D : DS}
end
end Go.Proofs.YtakkogdmlbkdaaaGreatDoor.Sl
namespace Go.Proofs.YtakkogdmlbkdaaaGreatDoor.Sl
attribute [local irreducible] CW Tri OW
def newD (D : DS) (n s : Nat) : Prop := D.o0 = false ∧ D.o1 = false ∧ D.sh = List.replicate s (Br.zeroE.1, (0, false)) ∧ D.xs.length = n ∧ ∀ x ∈ D.xs, newCR x
theorem ownK_ok : ∀ k, Bn.okL (ownK k)
 | 0 => Bn.okL_new 32 ()
 | k + 1 => by unfold ownK; exact Bn.doV_ok (ownK_ok k)
theorem new11' (β : Base) {n s : Nat} (hn0 : 1 ≤ n) (hn1 : n ≤ 8) (hs1 : s ≤ 64) : Tri Tryz.prog β 35 [.int .i64 n, .int .i64 s] [] (fun v L => ∃ d D, v = .tuple #[.pointer (some ⟨d, 0, none⟩), .int .i64 0] ∧ L = dA d D ∧ newD D n s) :=
 (new11 β (n := n) (s := s) (by omega) (by omega) (by omega) (by omega)).mono fun v L h => by
  obtain ⟨d, D, h1, h2, h3, h4, h5, h6, h7⟩ := h
  exact ⟨d, D, h1, h2, h3, h4, by simpa using h5, by omega, h7⟩
theorem seen_gr {R : RS} {D : DS} (ok : OkD R D) (k : Int) : ∀ p ∈ D.seenV k, 0 ≤ p.2.2.2.1 ∧ p.2.2.2.1 ≤ 1 := fun p hp => (seenV_get ok.es ok.ok hp).2
theorem bestIs (β : Base) (d : Nat) (R : RS) (D : DS) (ok : OkD R D) (k : Int) : Tri Tryz.prog β 112 [.pointer (some ⟨d, 0, none⟩), .int .i64 k] (dA d D) (fun v L => v = .agg #[.int .i64 (bestL (D.readyV k)).1, .int .i64 (bestL (D.readyV k)).2.1, .int .i64 (bestL (D.readyV k)).2.2.1, .bool (bestL (D.readyV k)).2.2.2] ∧ L = dA d D) :=
 best20 β d D k ok.x8 ok.sh (fun x hx => (ok.es x hx).1) (seen_gr ok k)
@[reducible] def pk60 : List (Nat × Plan) := []
@[reducible] def pk90 : List (Nat × Plan) := []
def Fc.drops (f : Fc) (k : Nat) : Bool := !(f.run.1 == 255 || f.run.2 != k)
def Fc.dropF (f : Fc) (k : Nat) : Fc := if f.drops k then { f with b0 := (dropV f.b0 f.b1).1, b1 := (dropV f.b0 f.b1).2 } else f
set_option maxHeartbeats 8000000 in
theorem drop69 (β : Base) {q : Option Addr} {ss : List Fc} {j : Nat} {s : Fc} (hx : ss[j]? = some s) (ok : FcOk s) {k : Nat} (hk : k ≤ 1) :
  Tri Tryz.prog β 60 [.pointer (some ⟨gb q, 0 + j * 8, none⟩), .int .i64 k] [rowA q ss.length (ss.flatMap fcC)]
  (fun v L => v = .bool (s.drops k) ∧ L = [rowA q ss.length ((ss.set j (s.dropF k)).flatMap fcC)]) := by
 have hl : j < ss.length := (List.getElem?_eq_some_iff.1 hx).1
 have hn0 : 0 < ss.length := by omega
 have hs : ss.set j s = ss := set_same_ hx
 refine Tri.intro tt_ok Tryz.func60 rfl rfl Tryz.ntmps60 rfl fun F => ?_
 unfold Fc.dropF Fc.drops
 refine G tt_ok pk60 ?_
 refine lr_ tt_ok rfl rfl (rd_sdf hx) ?_ (hn := hn0)
 refine G tt_ok pk60 ?_
 refine ke rfl rfl (running27 β ok) ?_
 refine G tt_ok pk60 ?_
 cases h1 : (s.run.1 == 255) with
 | true =>
  simp only [Bool.true_or, Bool.not_true, Bool.false_eq_true, if_false]
  rw [hs]
  refine G tt_ok pk60 ?_
  exact CW.ret (fin_ret rfl (A := [rowA q ss.length (ss.flatMap fcC)]) pk_ ⟨rfl, rfl⟩)
 | false =>
  simp only [Bool.false_or]
  refine G tt_ok pk60 ?_
  cases h2 : (s.run.2 != (k : Int)) with
  | true =>
   simp only [Bool.not_true, Bool.false_eq_true, if_false]
   rw [hs]
   refine G tt_ok pk60 ?_
   exact CW.ret (fin_ret rfl (A := [rowA q ss.length (ss.flatMap fcC)]) pk_ ⟨rfl, rfl⟩)
  | false =>
   simp only [Bool.not_false, if_true]
   refine G tt_ok pk60 ?_
   refine lr_ tt_ok rfl rfl (rd_sdl hx) ?_ (hn := hn0)
   refine G tt_ok pk60 ?_
   (refine ka rfl rfl (ldrop130 β ok.b0 ok.b1) ?_; rintro _ _ ⟨t, rfl, rfl⟩; refine w_ ?_)
   refine G tt_ok pk60 ?_
   refine sr_ tt_ok rfl rfl (wr_sdl hx _ _) ?_ (hn := hn0)
   refine G tt_ok pk60 ?_
   exact CW.ret (fin_ret rfl (A := [rowA q ss.length ((ss.set j { s with b0 := (dropV s.b0 s.b1).1, b1 := (dropV s.b0 s.b1).2 }).flatMap fcC)]) pk_ ⟨rfl, rfl⟩)
def Fc.writeF (f : Fc) (r : Int) (v : Nat) : Fc × Bool :=
 if r = 6 then ({ f with m := v % 256 &&& 248 }, true)
 else if r = 7 then ({ f with p0 := v % 8 }, true)
 else if r = 8 then ({ f with p1 := max 1 (v % 8) }, true)
 else if r = 9 then ({ f with sp := decide (v / 2 % 2 = 1) }, true)
 else if r = 10 then ({ f with on0 := decide (v % 2 = 1) }, true)
 else if r = 11 then ({ f with on1 := decide (v % 2 = 1) }, true)
 else (f, false)
theorem writeF_ok {f : Fc} (ok : FcOk f) (r : Int) (v : Nat) : FcOk (f.writeF r v).1 := by
 unfold Fc.writeF
 repeat' split
 ·exact ⟨Nat.le_trans Nat.and_le_left (by omega), ok.p0, ok.p1, ok.b0, ok.b1⟩
 ·exact ⟨ok.m, by simp only; omega, ok.p1, ok.b0, ok.b1⟩
 ·exact ⟨ok.m, ok.p0, by simp only; omega, ok.b0, ok.b1⟩
 all_goals exact ⟨ok.m, ok.p0, ok.p1, ok.b0, ok.b1⟩
theorem wr_sdm {ss : List Fc} {k : Nat} {s : Fc} (h : ss[k]? = some s) (a : Nat) (X : List Value) : wrv ti3 (ss.flatMap fcC ++ X) (0 + k * 8) (.int .i64 a) = some ((ss.set k { s with m := a }).flatMap fcC ++ X) :=
 wr_encR (enc := fcC) (sz := 8) (fun _ => rfl) h 0 (i := ti3) (by decide) rfl rfl (by omega) X
theorem wr_sp0 {ss : List Fc} {k : Nat} {s : Fc} (h : ss[k]? = some s) (a : Nat) (X : List Value) : wrv ti3 (ss.flatMap fcC ++ X) (bif Nat.beq (0 + k * 8) 0 then 1 else 0 + k * 8 + 1) (.int .i64 a) = some ((ss.set k { s with p0 := a }).flatMap fcC ++ X) :=
 wr_encR (enc := fcC) (sz := 8) (fun _ => rfl) h 1 (i := ti3) (by decide) rfl rfl (by rw [off_add]; omega) X
theorem wr_sp1 {ss : List Fc} {k : Nat} {s : Fc} (h : ss[k]? = some s) (a : Nat) (X : List Value) : wrv ti3 (ss.flatMap fcC ++ X) ((bif Nat.beq (0 + k * 8) 0 then 1 else 0 + k * 8 + 1) + 1 * 1) (.int .i64 a) = some ((ss.set k { s with p1 := a }).flatMap fcC ++ X) :=
 wr_encR (enc := fcC) (sz := 8) (fun _ => rfl) h 2 (i := ti3) (by decide) rfl rfl (by rw [off_add]; omega) X
theorem wr_so0 {ss : List Fc} {k : Nat} {s : Fc} (h : ss[k]? = some s) (a : Bool) (X : List Value) : wrv ti4 (ss.flatMap fcC ++ X) (bif Nat.beq (0 + k * 8) 0 then 3 else 0 + k * 8 + 3) (.bool a) = some ((ss.set k { s with on0 := a }).flatMap fcC ++ X) :=
 wr_encR (enc := fcC) (sz := 8) (fun _ => rfl) h 3 (i := ti4) (by decide) rfl rfl (by rw [off_add]; omega) X
theorem wr_so1 {ss : List Fc} {k : Nat} {s : Fc} (h : ss[k]? = some s) (a : Bool) (X : List Value) : wrv ti4 (ss.flatMap fcC ++ X) ((bif Nat.beq (0 + k * 8) 0 then 3 else 0 + k * 8 + 3) + 1 * 1) (.bool a) = some ((ss.set k { s with on1 := a }).flatMap fcC ++ X) :=
 wr_encR (enc := fcC) (sz := 8) (fun _ => rfl) h 4 (i := ti4) (by decide) rfl rfl (by rw [off_add]; omega) X
theorem wr_ssp {ss : List Fc} {k : Nat} {s : Fc} (h : ss[k]? = some s) (a : Bool) (X : List Value) : wrv ti4 (ss.flatMap fcC ++ X) (bif Nat.beq (0 + k * 8) 0 then 5 else 0 + k * 8 + 5) (.bool a) = some ((ss.set k { s with sp := a }).flatMap fcC ++ X) :=
 wr_encR (enc := fcC) (sz := 8) (fun _ => rfl) h 5 (i := ti4) (by decide) rfl rfl (by rw [off_add]; omega) X
theorem v255 {v : Nat} (hv : v < 2 ^ 64) : IntKind.i64.wrap (IntKind.u64.wrap ((BitVec.ofInt IntKind.u64.bits (v : Int) &&& BitVec.ofInt IntKind.u64.bits 255).toNat : Int)) = ((v % 256 : Nat) : Int) := by
 rw [show IntKind.u64.wrap ((BitVec.ofInt IntKind.u64.bits (v : Int) &&& BitVec.ofInt IntKind.u64.bits 255).toNat : Int) = ((v % 256 : Nat) : Int) from and_mod (k := 8) hv (by omega)]
 exact wrap_id (by omega) (by omega)
theorem v7 {v : Nat} (hv : v < 2 ^ 64) : IntKind.i64.wrap (IntKind.u64.wrap ((BitVec.ofInt IntKind.u64.bits (v : Int) &&& BitVec.ofInt IntKind.u64.bits 7).toNat : Int)) = ((v % 8 : Nat) : Int) := by
 rw [show IntKind.u64.wrap ((BitVec.ofInt IntKind.u64.bits (v : Int) &&& BitVec.ofInt IntKind.u64.bits 7).toNat : Int) = ((v % 8 : Nat) : Int) from and_mod (k := 3) hv (by omega)]
 exact wrap_id (by omega) (by omega)
set_option maxHeartbeats 8000000 in
theorem write71 (β : Base) {q : Option Addr} {ss : List Fc} {j : Nat} {s : Fc} (hx : ss[j]? = some s) (r : Int) {v : Nat} (hv : v < 2 ^ 64) :
  Tri Tryz.prog β 90 [.pointer (some ⟨gb q, 0 + j * 8, none⟩), .int .i64 r, .int .u64 v] [rowA q ss.length (ss.flatMap fcC)]
  (fun u L => u = .bool (s.writeF r v).2 ∧ L = [rowA q ss.length ((ss.set j ((s.writeF r v).1)).flatMap fcC)]) := by
 have hl : j < ss.length := (List.getElem?_eq_some_iff.1 hx).1
 have hn0 : 0 < ss.length := by omega
 have hs : ss.set j s = ss := set_same_ hx
 refine Tri.intro tt_ok Tryz.func90 rfl rfl Tryz.ntmps90 rfl fun F => ?_
 unfold Fc.writeF
 refine G tt_ok pk90 ?_
 by_cases h6 : r = 6
 ·subst h6
  refine G tt_ok pk90 ?_
  rw [v255 hv]
  refine ke rfl rfl (real48 β ((v % 256 : Nat) : Int)) ?_
  refine G tt_ok pk90 ?_
  rw [show andI ((v % 256 : Nat) : Int) 248 = ((v % 256 &&& 248 : Nat) : Int) from andI_nat (b := 248) (by omega) (by decide)]
  refine sr_ tt_ok rfl rfl (wr_sdm hx _) ?_ (hn := hn0)
  refine G tt_ok pk90 ?_
  exact CW.ret (fin_ret rfl (A := [rowA q ss.length ((ss.set j { s with m := v % 256 &&& 248 }).flatMap fcC)]) pk_ ⟨rfl, rfl⟩)
 rw [if_neg h6, show (r == 6) = false by simp [h6]]
 refine G tt_ok pk90 ?_
 by_cases h7 : r = 7
 ·subst h7
  refine G tt_ok pk90 ?_
  rw [v7 hv]
  refine SQ.idx tt_ok rfl rfl 0 rfl (by decide) rfl ?_
  refine G tt_ok pk90 ?_
  refine sr_ tt_ok rfl rfl (wr_sp0 hx _) ?_ (hn := hn0)
  refine G tt_ok pk90 ?_
  exact CW.ret (fin_ret rfl (A := [rowA q ss.length ((ss.set j { s with p0 := v % 8 }).flatMap fcC)]) pk_ ⟨rfl, rfl⟩)
 rw [if_neg h7, show (r == 7) = false by simp [h7]]
 refine G tt_ok pk90 ?_
 by_cases h8 : r = 8
 ·subst h8
  refine G tt_ok pk90 ?_
  rw [v7 hv, show (if (1 : Int) < ((v % 8 : Nat) : Int) then ((v % 8 : Nat) : Int) else 1) = ((max 1 (v % 8) : Nat) : Int) by split <;> omega]
  refine SQ.idx tt_ok rfl rfl 1 rfl (by decide) rfl ?_
  refine G tt_ok pk90 ?_
  refine sr_ tt_ok rfl rfl (wr_sp1 hx _) ?_ (hn := hn0)
  refine G tt_ok pk90 ?_
  exact CW.ret (fin_ret rfl (A := [rowA q ss.length ((ss.set j { s with p1 := max 1 (v % 8) }).flatMap fcC)]) pk_ ⟨rfl, rfl⟩)
 rw [if_neg h8, show (r == 8) = false by simp [h8]]
 refine G tt_ok pk90 ?_
 by_cases h9 : r = 9
 ·subst h9
  refine G tt_ok pk90 ?_
  rw [and2_is v hv]
  refine sr_ tt_ok rfl rfl (wr_ssp hx _) ?_ (hn := hn0)
  refine G tt_ok pk90 ?_
  exact CW.ret (fin_ret rfl (A := [rowA q ss.length ((ss.set j { s with sp := decide (v / 2 % 2 = 1) }).flatMap fcC)]) pk_ ⟨rfl, rfl⟩)
 rw [if_neg h9, show (r == 9) = false by simp [h9]]
 refine G tt_ok pk90 ?_
 by_cases h10 : r = 10
 ·subst h10
  refine G tt_ok pk90 ?_
  rw [and1_is v hv]
  refine SQ.idx tt_ok rfl rfl 0 rfl (by decide) rfl ?_
  refine G tt_ok pk90 ?_
  refine sr_ tt_ok rfl rfl (wr_so0 hx _) ?_ (hn := hn0)
  refine G tt_ok pk90 ?_
  exact CW.ret (fin_ret rfl (A := [rowA q ss.length ((ss.set j { s with on0 := decide (v % 2 = 1) }).flatMap fcC)]) pk_ ⟨rfl, rfl⟩)
 rw [if_neg h10, show (r == 10) = false by simp [h10]]
 refine G tt_ok pk90 ?_
 by_cases h11 : r = 11
 ·subst h11
  refine G tt_ok pk90 ?_
  rw [and1_is v hv]
  refine SQ.idx tt_ok rfl rfl 1 rfl (by decide) rfl ?_
  refine G tt_ok pk90 ?_
  refine sr_ tt_ok rfl rfl (wr_so1 hx _) ?_ (hn := hn0)
  refine G tt_ok pk90 ?_
  exact CW.ret (fin_ret rfl (A := [rowA q ss.length ((ss.set j { s with on1 := decide (v % 2 = 1) }).flatMap fcC)]) pk_ ⟨rfl, rfl⟩)
 rw [if_neg h11, show (r == 11) = false by simp [h11]]
 refine G tt_ok pk90 ?_
 rw [hs]
 exact CW.ret (fin_ret rfl (A := [rowA q ss.length (ss.flatMap fcC)]) pk_ ⟨rfl, rfl⟩)
end Go.Proofs.YtakkogdmlbkdaaaGreatDoor.Sl
namespace Go.Proofs.YtakkogdmlbkdaaaGreatDoor.Sl
theorem Tri.pk1 {P : Program} {β : Base} {g : FuncId} {args : List Value} {A B : List Atom} {V : Value} (h : Tri P β g args A (fun v L => v = V ∧ L = B)) : Tri P β g args [packA A] (fun v L => v = V ∧ L = [packA B]) := by
 have h1 : Tri P β g args [packA A] (fun v L => v = V ∧ L = B) := Tri.ent (by have := Ent.unpack A []; simpa using this) h
 refine Tri.post h1 ?_
 rintro v L ⟨rfl, rfl⟩
 exact ⟨_, by have := Ent.pack (L := L) (M := []); simpa using this, rfl, rfl⟩
end Go.Proofs.YtakkogdmlbkdaaaGreatDoor.Sl
namespace Go.Proofs.YtakkogdmlbkdaaaGreatDoor.Sl.It
attribute [local irreducible] CW Tri OW
@[reducible] def pk41 : List (Nat × Plan) := []
@[reducible] def pk32 : List (Nat × Plan) := []
variable {T nc : Nat}
structure Ha where
 m : Nat
 dd : Nat
 sp : Nat
 g : Gr
 fq : Option Addr
 fc : Nat
 lq : Option Addr
 lc : Nat
 ps : List Nat
structure Hx where
 iw : IW
 j : Nat
 D : DS
 S : Sh
 fs : List Fc
structure Hx.ok (T nc : Nat) (x : Hx) : Prop where
 iw : x.iw.ok T nc
 j : x.j < 32
 cb : ∀ k, k < nc → byOk (x.iw.w.at_ k).C
 S : x.S.ok
 sv : ∀ k n, getB x.S.ns k = some n → 0 ≤ n ∧ n < 512
 fl : x.fs.length = nc
 fs : ∀ f ∈ x.fs, FcOk f
 D : ∃ R, OkD R x.D
 dl : x.D.xs.length = nc
 n1 : 1 ≤ nc
 n8 : nc ≤ 8
@[reducible] def hH (a : Ha) (nc : Nat) : Hc := (.pointer (some ⟨a.m, 0, none⟩), .pointer (some ⟨a.dd, 0, none⟩), .slice a.fq nc a.fc, .slice a.lq nc a.lc, .pointer (some ⟨a.sp, 0, none⟩))
def hRow (h : Nat) (a : Ha) (nc : Nat) (x : Hx) : Atom := pt h (itH (hH a nc) true x.iw.st x.iw.i x.j 64)
def dpA (dd : Nat) (D : DS) : Atom := packA (dA dd D)
def fA (a : Ha) (nc : Nat) (fs : List Fc) : Atom := rowA a.fq nc (fs.flatMap fcC)
def lA (a : Ha) (nc : Nat) : Atom := rowA a.lq nc (a.ps.flatMap ptC)
structure Ha.ok (a : Ha) (nc : Nat) : Prop where
 l : a.ps.length = nc
 n : a.ps.Nodup
def hL (h : Nat) (a : Ha) (nc : Nat) (x : Hx) : List Atom := [hRow h a nc x, lA a nc, colsA a.ps x.iw.w.cs, pt a.m [.slice (some ⟨a.g.1, 0, none⟩) x.iw.w.B.length (x.iw.w.B.length + a.g.2.length)], pt a.g.1 (bys x.iw.w.B ++ a.g.2), shA a.sp x.S, fA a nc x.fs, dpA a.dd x.D]
def hoA (h nc : Nat) (x : Hx) : Atom := exA fun a : Ha => pureA (a.ok nc) :: hL h a nc x
theorem ho_shut {h nc : Nat} {a : Ha} {x : Hx} (ha : a.ok nc) : Ent (hL h a nc x) [hoA h nc x] :=
 (Ent.pureA (p := a.ok nc) (L := hL h a nc x) ha).trans (Ent.exA (f := fun a : Ha => pureA (a.ok nc) :: hL h a nc x) a)
theorem Tri.ho {P : Program} {β : Base} {g : FuncId} {args : List Value} {h nc : Nat} {x : Hx} {A : List Atom} {R : Value → List Atom → Prop} (hE : Enters P g) (hh : ∀ a : Ha, a.ok nc → Tri P β g args (hL h a nc x ++ A) R) : Tri P β g args (hoA h nc x :: A) R :=
 Tri.exI hE fun a => Tri.pure_ (fun h1 => hh a h1) hE
theorem lA_ts {β : Base} {a : Ha} (ha : a.ok nc) : TsOk β (lA a nc) a.lq a.ps nc := ⟨slr_row (by rw [flatE_len (sz := 1) (fun _ => rfl), ha.l]), ha.l, ha.n⟩
-- a host's atoms, put together again
theorem ho_pick {L : List Atom} {h nc : Nat} {a : Ha} {x : Hx} (ha : a.ok nc) (e : Ent L (hL h a nc x)) : Ent L [hoA h nc x] := e.trans (ho_shut ha)
theorem cores41 (β : Base) (h : Nat) (a : Ha) (x : Hx) : Tri Tryz.prog β 41 [.pointer (some ⟨h, 0, none⟩)] [hRow h a nc x] (fun v L => v = .int .i64 nc ∧ L = [hRow h a nc x]) := by
 refine Tri.intro tt_ok Tryz.func41 rfl rfl Tryz.ntmps41 rfl fun F => ?_
 unfold hRow
 refine G tt_ok pk41 ?_
 exact CW.ret (fin_ret rfl (A := [hRow h a nc x]) (by unfold hRow; exact pk_) ⟨rfl, rfl⟩)
theorem hawake32 (β : Base) (h : Nat) (x : Hx) (k : Int) : Tri Tryz.prog β 32 [.pointer (some ⟨h, 0, none⟩), .int .i64 k] [hoA h nc x] (fun v L => v = .bool (!asleepV x.D.xs k) ∧ L = [hoA h nc x]) := by
 refine Tri.ho (enters_of Tryz.func32 (by kernel_rfl) rfl) fun a ha => ?_
 refine Tri.intro tt_ok Tryz.func32 rfl rfl Tryz.ntmps32 rfl fun F => ?_
 have hd := asleep22 β a.dd x.D k
 have hd2 := (Tri.frame hd ([bksA x.D.xs] ++ Br.bkA x.D.sb x.D.sq x.D.sc 32 x.D.sh))
 have hd3 : Tri Tryz.prog β 81 [.pointer (some ⟨a.dd, 0, none⟩), .int .i64 k] [dpA a.dd x.D] (fun v L => v = .bool (asleepV x.D.xs k) ∧ L = [dpA a.dd x.D]) := by
  unfold dpA
  refine Tri.pk1 (Tri.post (Tri.ent (by unfold dA; exact pk_) hd2) ?_)
  rintro v L ⟨A', rfl, rfl, rfl⟩
  exact ⟨dA a.dd x.D, by unfold dA; exact pk_, rfl, rfl⟩
 unfold hL hRow
 refine G tt_ok pk32 ?_
 refine ke rfl rfl (hd3) ?_
 refine G tt_ok pk32 ?_
 exact CW.ret (fin_ret rfl (A := [hoA h nc x]) (ho_pick ha (by unfold hL hRow; exact pk_)) ⟨rfl, rfl⟩)
end Go.Proofs.YtakkogdmlbkdaaaGreatDoor.Sl.It
namespace Go.Proofs.YtakkogdmlbkdaaaGreatDoor.Sl.It
attribute [local irreducible] CW Tri OW
@[reducible] def pk18 : List (Nat × Plan) := []
@[reducible] def pk19 : List (Nat × Plan) := []
@[reducible] def pk17 : List (Nat × Plan) := [(6, [(0, 0, []), (1, 0, []), (2, 0, []), (3, 0, []), (4, 0, []), (5, 0, []), (6, 0, []), (7, 0, []), (8, 0, []), (9, 0, []), (10, 0, []), (11, 1, [3, 6, 10])]), (7, [(0, 0, []), (1, 0, []), (2, 0, []), (3, 0, []), (4, 0, []), (5, 0, []), (6, 0, []), (7, 0, []), (8, 0, []), (9, 0, []), (10, 0, []), (11, 1, [3, 6, 10])])]
attribute [local irreducible] invK enK enV waitL
variable {T nc : Nat}
def Hx.setD (x : Hx) (D : DS) : Hx := { x with D := D }
def Hx.setW (x : Hx) (w : SW) : Hx := { x with iw := { x.iw with w := w } }
theorem hend18 (β : Base) (h : Nat) (x : Hx) (id : Int) (hid : id < 9223372036854775808) : Tri Tryz.prog β 18 [.pointer (some ⟨h, 0, none⟩), .int .i64 id] [hoA h nc x]
  (fun v L => v = .int .i64 (if id < 32 then 90 else (x.D.doV 0 id 6).2) ∧ L = [hoA h nc (if id < 32 then x else x.setD (x.D.doV 0 id 6).1)]) := by
 refine Tri.ho (enters_of Tryz.func18 (by kernel_rfl) rfl) fun a ha => ?_
 refine Tri.intro tt_ok Tryz.func18 rfl rfl Tryz.ntmps18 rfl fun F => ?_
 have hd := Tri.pk1 (do23 β a.dd x.D 0 id 6 hid)
 unfold hL hRow
 by_cases h32 : id < 32
 ·rw [if_pos h32, if_pos h32]
  refine G tt_ok pk18 ?_
  rw [decide_eq_true h32]
  refine G tt_ok pk18 ?_
  exact CW.ret (fin_ret rfl (A := [hoA h nc x]) (ho_pick ha (by unfold hL hRow; exact pk_)) ⟨rfl, rfl⟩)
 ·rw [if_neg h32, if_neg h32]
  refine G tt_ok pk18 ?_
  rw [decide_eq_false h32]
  unfold dpA
  refine G tt_ok pk18 ?_
  refine ke rfl rfl (hd) ?_
  refine G tt_ok pk18 ?_
  exact CW.ret (fin_ret rfl (A := [hoA h nc (x.setD (x.D.doV 0 id 6).1)]) (ho_pick (a := a) ha (by unfold hL hRow dpA Hx.setD; exact pk_)) ⟨rfl, rfl⟩)
theorem hwire19 (β : Base) (h : Nat) (x : Hx) (id : Int) (hi : Bool) (hid : id < 9223372036854775808) : Tri Tryz.prog β 19 [.pointer (some ⟨h, 0, none⟩), .int .i64 id, .bool hi] [hoA h nc x]
  (fun v L => v = .int .i64 (if id < 32 then 90 else (x.D.doV 0 id (if hi then 1 else 2)).2) ∧ L = [hoA h nc (if id < 32 then x else x.setD (x.D.doV 0 id (if hi then 1 else 2)).1)]) := by
 refine Tri.ho (enters_of Tryz.func19 (by kernel_rfl) rfl) fun a ha => ?_
 refine Tri.intro tt_ok Tryz.func19 rfl rfl Tryz.ntmps19 rfl fun F => ?_
 have hd := Tri.pk1 (wire35 β a.dd x.D 0 id hi hid)
 unfold hL hRow
 by_cases h32 : id < 32
 ·rw [if_pos h32, if_pos h32]
  refine G tt_ok pk19 ?_
  rw [decide_eq_true h32]
  refine G tt_ok pk19 ?_
  exact CW.ret (fin_ret rfl (A := [hoA h nc x]) (ho_pick ha (by unfold hL hRow; exact pk_)) ⟨rfl, rfl⟩)
 ·rw [if_neg h32, if_neg h32]
  rw [if_neg (show ¬ id < 16 by omega), if_neg (show ¬ id < 16 by omega)] at hd
  refine G tt_ok pk19 ?_
  rw [decide_eq_false h32]
  unfold dpA
  refine G tt_ok pk19 ?_
  refine ke rfl rfl (hd) ?_
  refine G tt_ok pk19 ?_
  exact CW.ret (fin_ret rfl (A := [hoA h nc (x.setD (x.D.doV 0 id (if hi then 1 else 2)).1)]) (ho_pick (a := a) ha (by unfold hL hRow dpA Hx.setD; exact pk_)) ⟨rfl, rfl⟩)
theorem pt_row {ps : List Nat} {k : Nat} (hk : k < ps.length) (X : List Value) : rdv ti90 (ps.flatMap ptC ++ X) (0 + k * 1) = some (.pointer (some ⟨ps.getD k 0, 0, none⟩)) := by
 have h : ps[k]? = some (ps.getD k 0) := by rw [List.getD_eq_getElem?_getD, List.getElem?_eq_getElem hk]; rfl
 exact rd_partR (enc := ptC) (sz := 1) (fun _ => rfl) h 0 (i := ti90) rfl (by decide) (by omega) (by decide) X
def Hx.pow (x : Hx) (k : Nat) (on : Bool) : Hx := { x with iw := { x.iw with w := if on then x.iw.w.en k else x.iw.w.dis k }, D := (x.D.wrOwnV k 3 0 0 (if on then 0 else 2)).1 }
set_option maxHeartbeats 4000000 in
theorem hpower17 (β : Base) (hG : TabOk β) (h : Nat) (x : Hx) (hx : x.ok T nc) (k : Int) (on : Bool) : Tri Tryz.prog β 17 [.pointer (some ⟨h, 0, none⟩), .int .i64 k, .bool on] [hoA h nc x]
  (fun v L => v = .int .i64 (if rightV nc k then 0 else 130) ∧ L = [hoA h nc (if rightV nc k then x.pow k.toNat on else x)]) := by
 refine Tri.ho (enters_of Tryz.func17 (by kernel_rfl) rfl) fun a ha => ?_
 refine Tri.intro tt_ok Tryz.func17 rfl rfl Tryz.ntmps17 rfl fun F => ?_
 have hc := cores41 (nc := nc) β h a x
 unfold hL
 by_cases h0 : k < 0
 ·have hr : rightV nc k = false := by simp [rightV]; omega
  rw [hr]
  refine G tt_ok pk17 ?_
  rw [decide_eq_true h0]
  refine G tt_ok pk17 ?_
  exact CW.ret (fin_ret rfl (A := [hoA h nc x]) (ho_pick ha (by unfold hL; exact pk_)) ⟨rfl, rfl⟩)
 ·by_cases hn : k ≥ nc
  ·have hr : rightV nc k = false := by simp [rightV]; omega
   rw [hr]
   refine G tt_ok pk17 ?_
   rw [decide_eq_false h0]
   refine G tt_ok pk17 ?_
   refine ke rfl rfl (hc) ?_
   refine G tt_ok pk17 ?_
   rw [decide_eq_true hn]
   refine G tt_ok pk17 ?_
   exact CW.ret (fin_ret rfl (A := [hoA h nc x]) (ho_pick ha (by unfold hL; exact pk_)) ⟨rfl, rfl⟩)
  ·obtain ⟨n, rfl⟩ : ∃ n : Nat, k = n := ⟨k.toNat, by omega⟩
   have hlt : n < nc := by omega
   have hr : rightV nc (n : Int) = true := by simp [rightV]; omega
   have hps : n < a.ps.length := by rw [ha.l]; exact hlt
   have hen := enable59C β a.m a.g a.ps hx.iw.1 hlt
   have hdi := disable70C β hG a.m a.g a.ps hx.iw.1 hlt
   unfold swA memA at hen hdi
   have hw2 := Tri.pk1 (wrOwn27 β a.dd x.D n 3 0 0 (if on then 0 else 2) (by cases on <;> simp))
   have hwe : (x.D.wrOwnV n 3 0 0 (if on then 0 else 2)).2 = 0 := by
    unfold DS.wrOwnV
    rw [hx.dl, hr, if_pos rfl]
    split <;> rfl
   rw [hwe] at hw2
   rw [hr]
   refine G tt_ok pk17 ?_
   rw [decide_eq_false h0]
   refine G tt_ok pk17 ?_
   refine ke rfl rfl (hc) ?_
   refine G tt_ok pk17 ?_
   rw [decide_eq_false hn]
   unfold hRow lA dpA
   cases on with
   | true =>
    refine G tt_ok pk17 ?_
    refine ir_ tt_ok rfl rfl (n) (rfl) rfl ?_ (hlt := hlt)
    refine G tt_ok pk17 ?_
    refine lr_ tt_ok rfl rfl (pt_row hps) ?_
    refine G tt_ok pk17 ?_
    (refine ka rfl rfl (hen) ?_; rintro _ _ ⟨rfl, rfl⟩; refine ⟨(by repeat (first | exact trivial | refine ⟨trivial, ?_⟩ | refine ⟨rr_ (pt_row hps), ?_⟩ | refine ⟨wk (by repeat (first | exact .h | exact .q | apply At.t)) (by rfl), ?_⟩)), ?_⟩)
    refine G tt_ok pk17 ?_
    refine ke rfl rfl (hw2) ?_
    refine G tt_ok pk17 ?_
    exact CW.ret (fin_ret rfl (A := [hoA h nc (x.pow n true)]) (ho_pick (a := a) ha (by unfold hL hRow lA dpA Hx.pow; exact pk_)) ⟨rfl, rfl⟩)
   | false =>
    refine G tt_ok pk17 ?_
    refine ir_ tt_ok rfl rfl (n) (rfl) rfl ?_ (hlt := hlt)
    refine G tt_ok pk17 ?_
    refine lr_ tt_ok rfl rfl (pt_row hps) ?_
    refine G tt_ok pk17 ?_
    (refine ka rfl rfl (hdi) ?_; rintro _ _ ⟨rfl, rfl⟩; refine ⟨(by repeat (first | exact trivial | refine ⟨trivial, ?_⟩ | refine ⟨rr_ (pt_row hps), ?_⟩ | refine ⟨wk (by repeat (first | exact .h | exact .q | apply At.t)) (by rfl), ?_⟩)), ?_⟩)
    refine G tt_ok pk17 ?_
    refine ke rfl rfl (hw2) ?_
    refine G tt_ok pk17 ?_
    exact CW.ret (fin_ret rfl (A := [hoA h nc (x.pow n false)]) (ho_pick (a := a) ha (by unfold hL hRow lA dpA Hx.pow; exact pk_)) ⟨rfl, rfl⟩)
end Go.Proofs.YtakkogdmlbkdaaaGreatDoor.Sl.It
namespace Go.Proofs.YtakkogdmlbkdaaaGreatDoor.Sl.It
attribute [local irreducible] CW Tri OW
@[reducible] def pk21 : List (Nat × Plan) := [(1, [(0, 0, []), (1, 0, []), (2, 0, []), (3, 0, []), (4, 0, []), (5, 1, [3, 4]), (6, 0, []), (7, 0, []), (8, 0, []), (9, 0, []), (10, 0, [])]), (4, [(0, 0, []), (1, 0, []), (2, 0, []), (3, 0, []), (4, 0, []), (5, 0, []), (6, 0, []), (7, 0, []), (8, 0, []), (9, 0, []), (10, 0, []), (11, 0, []), (12, 0, []), (13, 0, []), (14, 0, []), (15, 1, [6, 10, 12, 14]), (16, 0, [])])]
@[reducible] def pk22 : List (Nat × Plan) := [(1, [(0, 0, []), (1, 0, []), (2, 0, []), (3, 0, []), (4, 0, []), (5, 1, [3, 4]), (6, 0, []), (7, 0, []), (8, 0, []), (9, 0, []), (10, 0, [])])]
@[reducible] def pk68 : List (Nat × Plan) := [(3, [(0, 0, []), (1, 0, []), (2, 0, []), (3, 0, []), (4, 0, []), (5, 1, [3, 4]), (6, 0, []), (7, 0, []), (8, 0, []), (9, 0, []), (10, 0, [])]), (4, [(0, 0, []), (1, 0, []), (2, 0, []), (3, 0, []), (4, 0, []), (5, 0, []), (6, 0, []), (7, 0, []), (8, 0, []), (9, 0, []), (10, 0, []), (11, 0, []), (12, 0, []), (13, 1, [3, 6, 10])])]
attribute [local irreducible] invK enK enV waitL
variable {T nc : Nat}
theorem num_lt {x : Hx} (hx : x.ok T nc) {d e n : Int} (h : x.S.num d e = some n) : 0 ≤ n ∧ n < 512 := by
 unfold Sh.num at h
 split at h
 ·exact hx.sv _ _ h
 ·cases h
def Hx.msg (x : Hx) (d e : Int) : Hx × Int := if (x.S.num d e).isSome then (x.setW (messageV 64 x.iw.w true d e).1, (messageV 64 x.iw.w true d e).2) else (x, 250)
set_option maxHeartbeats 4000000 in
theorem hmessage21 (β : Base) (h : Nat) (x : Hx) (hx : x.ok T nc) (d e : Int) : Tri Tryz.prog β 21 [.pointer (some ⟨h, 0, none⟩), evX d e] [hoA h nc x] (fun v L => v = .int .i64 (x.msg d e).2 ∧ L = [hoA h nc (x.msg d e).1]) := by
 refine Tri.ho (enters_of Tryz.func21 (by kernel_rfl) rfl) fun a ha => ?_
 refine Tri.intro tt_ok Tryz.func21 rfl rfl Tryz.ntmps21 rfl fun F => ?_
 have hn := snum55 β a.sp hx.S d e
 unfold errO at hn
 have hm := message24 β (h, hH a nc) a.m a.g a.lc (lA_ts ha) (.inr rfl : (64 : Int) = 0 ∨ (64 : Int) = 64) hx.iw.1 true x.iw.st x.iw.i x.j d e
 unfold swA memA at hm
 unfold Hx.msg
 unfold hL hRow
 (refine G tt_ok pk21 ?_; repeat (refine G1 tt_ok pk21 ?_; intro _))
 refine ke rfl rfl (hn) ?_
 cases hs : x.S.num d e with
 | none =>
  refine G tt_ok pk21 ?_
  exact CW.ret (fin_ret rfl (A := [hoA h nc x]) (ho_pick ha (by unfold hL hRow; exact pk_)) ⟨rfl, rfl⟩)
 | some n =>
  rw [if_pos (by rfl)]
  refine G tt_ok pk21 ?_
  refine ke rfl rfl (hm) ?_
  refine G tt_ok pk21 ?_
  exact CW.ret (fin_ret rfl (A := [hoA h nc (x.setW (messageV 64 x.iw.w true d e).1)]) (ho_pick (a := a) ha (by unfold hL hRow Hx.setW; exact pk_)) ⟨rfl, rfl⟩)
def Hx.wtK (nc : Nat) (w : SW) (o : Option Int) : Option Nat := match o with
 | none => none
 | some n => (List.range nc).find? fun k => w.has k (8192 + n)
@[reducible] def wtV (o : Option Nat) : Value := .tuple #[.int .i64 ((o.getD 0 : Nat) : Int), .bool o.isSome]
theorem find_some {nc k : Nat} {p : Nat → Bool} (hk : k < nc) (hp : p k = true) (hb : ∀ j, j < k → p j = false) : (List.range nc).find? p = some k := by
 rw [List.find?_range_eq_some]
 exact ⟨hp, by simpa using hk, fun j hj => by simp [hb j hj]⟩
theorem find_none {nc : Nat} {p : Nat → Bool} (hb : ∀ j, j < nc → p j = false) : (List.range nc).find? p = none := by
 rw [List.find?_eq_none]
 intro j hj
 rw [hb j (by simpa using hj)]; simp
set_option maxHeartbeats 8000000 in
theorem hwaits22 (β : Base) (h : Nat) (x : Hx) (hx : x.ok T nc) (d e : Int) : Tri Tryz.prog β 22 [.pointer (some ⟨h, 0, none⟩), evX d e] [hoA h nc x] (fun v L => v = wtV (Hx.wtK nc x.iw.w (x.S.num d e)) ∧ L = [hoA h nc x]) := by
 refine Tri.ho (enters_of Tryz.func22 (by kernel_rfl) rfl) fun a ha => ?_
 refine Tri.intro tt_ok Tryz.func22 rfl rfl Tryz.ntmps22 rfl fun F => ?_
 have hn := snum55 β a.sp hx.S d e
 unfold errO at hn
 unfold hL hRow lA
 (refine G tt_ok pk22 ?_; repeat (refine G1 tt_ok pk22 ?_; intro _))
 rename_i c3
 refine ke rfl rfl (hn) ?_
 have hpl := ha.l
 have hn8 := hx.n8
 generalize hs : x.S.num d e = o
 refine G tt_ok pk22 ?_
 refine CW.loop (α := Nat) (fun k => k ≤ nc ∧ ∀ n, o = some n → ∀ j, j < k → x.iw.w.has j (8192 + n) = false) (fun k => [(24, .int .i64 k), (23, .int .i64 nc), (22, .slice a.lq nc a.lc), (0, .pointer (some ⟨h, 0, none⟩)), (6, .int .i64 (o.getD 0)), (7, .int .i64 (if o.isSome then 0 else 250)), (3, .pointer (some ⟨c3, 0, none⟩))])
  (fun k => [pt c3 [.int .i64 d, .int .i64 e], pt h (itH (hH a nc) true x.iw.st x.iw.i x.j 64), rowA a.lq nc (a.ps.flatMap ptC), colsA a.ps x.iw.w.cs, pt a.m [.slice (some ⟨a.g.1, 0, none⟩) x.iw.w.B.length (x.iw.w.B.length + a.g.2.length)], pt a.g.1 (bys x.iw.w.B ++ a.g.2), shA a.sp x.S, fA a nc x.fs, dpA a.dd x.D]) (fun k => nc - k) 0 ⟨by omega, fun _ _ j hj => by omega⟩ ⟨rfl, rfl, rfl, rfl, rfl, rfl, rfl, trivial⟩ pk_ ?_
 rintro k ⟨hk, hb⟩
 refine G tt_ok pk22 ?_
 by_cases hlt : k < nc
 ·rw [decide_eq_true (show (k : Int) < (nc : Int) by omega)]
  have hwr : IntKind.i64.wrap ((k : Int) + 1) = ((k + 1 : Nat) : Int) := by rw [wrap_id (by omega) (by omega)]; simp
  have hps : k < a.ps.length := by rw [hpl]; exact hlt
  refine G tt_ok pk22 ?_
  refine ir_ tt_ok rfl rfl (k) (rfl) rfl ?_ (hlt := hlt)
  refine G tt_ok pk22 ?_
  refine lr_ tt_ok rfl rfl (pt_row hps) ?_
  refine G tt_ok pk22 ?_
  cases o with
  | none =>
   refine G tt_ok pk22 ?_
   exact ⟨k + 1, ⟨by omega, fun n hn => by cases hn⟩, by omega, ⟨by rw [← hwr]; rfl, rfl, rfl, rfl, rfl, rfl, rfl, trivial⟩, pk_⟩
  | some n =>
   have hnn := num_lt hx hs
   have hh := has17C β a.m a.g a.ps hx.iw.1 hlt (n := 8192 + n) (by omega)
   unfold swA memA at hh
   refine G tt_ok pk22 ?_
   rw [show IntKind.i64.wrap (8192 + (some n).getD 0) = 8192 + n by show IntKind.i64.wrap (8192 + n) = _; rw [wrap_id (by omega) (by omega)]]
   refine ke rfl rfl (hh) ?_
   cases hw : x.iw.w.has k (8192 + n) with
   | true =>
    rw [show Hx.wtK nc x.iw.w (some n) = some k from find_some hlt hw (hb n rfl)]
    refine G tt_ok pk22 ?_
    exact CW.ret (fin_ret rfl (A := [hoA h nc x]) (ho_pick ha (by unfold hL hRow lA; exact pk_)) ⟨rfl, rfl⟩)
   | false =>
    refine G tt_ok pk22 ?_
    refine ⟨k + 1, ⟨by omega, fun m hm j hj => ?_⟩, by omega, ⟨by rw [← hwr]; rfl, rfl, rfl, rfl, rfl, rfl, rfl, trivial⟩, pk_⟩
    cases hm
    rcases Nat.lt_succ_iff_lt_or_eq.1 hj with h1 | h1
    ·exact hb n rfl j h1
    ·rw [h1]; exact hw
 ·rw [decide_eq_false (show ¬ (k : Int) < (nc : Int) by omega)]
  refine G tt_ok pk22 ?_
  refine CW.exit ?_
  refine G tt_ok pk22 ?_
  obtain rfl : k = nc := by omega
  have hnone : Hx.wtK k x.iw.w o = none := by
   unfold Hx.wtK
   cases o with
   | none => rfl
   | some n => exact find_none (hb n rfl)
  rw [hnone]
  exact CW.ret (fin_ret rfl (A := [hoA h k x]) (ho_pick ha (by unfold hL hRow lA; exact pk_)) ⟨rfl, rfl⟩)
def Hx.pull (nc : Nat) (x : Hx) (d e : Int) : Hx := match Hx.wtK nc x.iw.w (x.S.num d e) with
 | some k => x.setW (x.iw.w.set k (8192 + (x.S.num d e).getD 0) false)
 | none => x
theorem wtK_lt {nc : Nat} {w : SW} {o : Option Int} {k : Nat} (h : Hx.wtK nc w o = some k) : k < nc ∧ ∃ n, o = some n ∧ w.has k (8192 + n) = true := by
 unfold Hx.wtK at h
 cases o with
 | none => cases h
 | some n =>
  rw [List.find?_range_eq_some] at h
  exact ⟨by simpa using h.2.1, n, rfl, h.1⟩
set_option maxHeartbeats 4000000 in
theorem hpull68 (β : Base) (h : Nat) (x : Hx) (hx : x.ok T nc) (d e : Int) : Tri Tryz.prog β 68 [.pointer (some ⟨h, 0, none⟩), evX d e] [hoA h nc x] (fun v L => v = .bool (Hx.wtK nc x.iw.w (x.S.num d e)).isSome ∧ L = [hoA h nc (x.pull nc d e)]) := by
 refine Tri.intro tt_ok Tryz.func68 rfl rfl Tryz.ntmps68 rfl fun F => ?_
 have hw := hwaits22 β h x hx d e
 (refine G tt_ok pk68 ?_; repeat (refine G1 tt_ok pk68 ?_; intro _))
 rename_i c3
 refine ke rfl rfl (hw) ?_
 unfold Hx.pull
 cases hs : Hx.wtK nc x.iw.w (x.S.num d e) with
 | none =>
  refine G tt_ok pk68 ?_
  exact CW.ret (fin_ret rfl (A := [hoA h nc x]) pk_ ⟨rfl, rfl⟩)
 | some k =>
  obtain ⟨hlt, n, hn, _⟩ := wtK_lt hs
  have hnn := num_lt hx hn
  rw [hn]
  refine G tt_ok pk68 ?_
  refine SQ.ent [hoA h nc x, pt c3 [.int .i64 d, .int .i64 e]] pk_ ?_
  unfold hoA
  refine SQ.open_ fun a => ?_
  refine SQ.pure_ fun ha => ?_
  have hnm := snum55 β a.sp hx.S d e
  unfold errO at hnm
  rw [hn] at hnm
  have hps : k < a.ps.length := by rw [ha.l]; exact hlt
  have hset := set89C β a.m a.g a.ps hx.iw.1 hlt (n := 8192 + n) (by omega) false
  unfold swA memA at hset
  unfold hL hRow lA
  refine G tt_ok pk68 ?_
  refine ke rfl rfl (hnm) ?_
  refine G tt_ok pk68 ?_
  refine ir_ tt_ok rfl rfl (k) (rfl) rfl ?_ (hlt := hlt)
  refine G tt_ok pk68 ?_
  refine lr_ tt_ok rfl rfl (pt_row hps) ?_
  refine G tt_ok pk68 ?_
  rw [show IntKind.i64.wrap (8192 + (some n).getD 0) = 8192 + n by show IntKind.i64.wrap (8192 + n) = _; rw [wrap_id (by omega) (by omega)]]
  (refine ka rfl rfl (hset) ?_; rintro _ _ ⟨rfl, rfl⟩; refine ⟨(by repeat (first | exact trivial | refine ⟨trivial, ?_⟩ | refine ⟨rr_ (pt_row hps), ?_⟩ | refine ⟨wk (by repeat (first | exact .h | exact .q | apply At.t)) (by rfl), ?_⟩)), ?_⟩)
  refine G tt_ok pk68 ?_
  exact CW.ret (fin_ret rfl (A := [hoA h nc (x.setW (x.iw.w.set k (8192 + n) false))]) (ho_pick (a := a) ha (by unfold hL hRow lA Hx.setW; exact pk_)) ⟨rfl, rfl⟩)
end Go.Proofs.YtakkogdmlbkdaaaGreatDoor.Sl.It
namespace Go.Proofs.YtakkogdmlbkdaaaGreatDoor.Sl.It
attribute [local irreducible] CW Tri OW
@[reducible] def pk59 : List (Nat × Plan) := [(1, [(0, 0, []), (1, 0, []), (2, 0, []), (3, 0, []), (4, 0, []), (6, 0, []), (7, 0, []), (8, 0, []), (9, 0, []), (10, 0, []), (11, 0, []), (12, 0, []), (5, 1, [3, 9, 12]), (13, 1, [3, 9, 12]), (14, 2, []), (15, 2, []), (16, 1, []), (17, 1, [])])]
attribute [local irreducible] invK enK enV waitL
variable {T nc : Nat}
set_option maxHeartbeats 4000000 in
theorem best113C (β : Base) (hG : TabOk β) (m : Nat) (g : Gr) (ps : List Nat) {w : SW} (hw : w.ok T nc) {k : Nat} (hk : k < nc) (hb : byOk (w.at_ k).C) :
  Tri Tryz.prog β 113 [cpV ps k] (swA m g ps w) (fun v L => v = .agg (cdL (bestC (w.at_ k).C (w.at_ k).U)).toArray ∧ L = swA m g ps w) := by
 obtain ⟨hB, hbB, hc⟩ := hw
 obtain ⟨hU, hC, hk8⟩ := hc.2 k hk
 have T := fun p r S q c => best113 β hG p r S k q c (w.at_ k).on hU hC hb
 refine Tri.mono (Tri.colsE (fun p => [.pointer (some ⟨p, 0, none⟩)]) (V := .agg (cdL (bestC (w.at_ k).C (w.at_ k).U)).toArray) (c' := w.at_ k) (B' := w.B) (T 0 (0, []) 0 none 0).en (by have := hc.1; omega) ?_) ?_
 ·intro p r S q c
  unfold colA setL memA
  have T1 := T p r S q c
  unfold colA setL at T1
  refine Tri.post (T1.fr (F := [pt m [.slice (some ⟨g.1, 0, none⟩) w.B.length (w.B.length + g.2.length)], pt g.1 (bys w.B ++ g.2)])) ?_
  rintro v L ⟨A', ⟨rfl, rfl⟩, rfl⟩
  exact ⟨_, pk_, q, c, rfl, rfl⟩
 ·rintro v L ⟨rfl, rfl⟩
  rw [SW.same]
  exact ⟨rfl, rfl⟩
def topC (a b : Cd) : Cd := if (!a.2.2.2 || (b.2.2.2 && beforeV b.2.1 b.1 a.2.1 a.1)) = true then b else a
def Hx.top (x : Hx) (k : Nat) : Cd := topC (bestL (x.D.readyV k)) (bestC (x.iw.w.at_ k).C (x.iw.w.at_ k).U)
set_option maxHeartbeats 4000000 in
theorem htop59 (β : Base) (hG : TabOk β) (h : Nat) (x : Hx) (hx : x.ok T nc) {k : Nat} (hk : k < nc) (a : Ha) (ha : a.ok nc) : Tri Tryz.prog β 59 [.pointer (some ⟨h, 0, none⟩), .int .i64 k] (hL h a nc x) (fun v L => v = .agg (cdL (x.top k)).toArray ∧ L = hL h a nc x) := by
 refine Tri.intro tt_ok Tryz.func59 rfl rfl Tryz.ntmps59 rfl fun F => ?_
 obtain ⟨R, hD⟩ := hx.D
 have hd := Tri.pk1 (bestIs β a.dd R x.D hD k)
 have hb := best113C β hG a.m a.g a.ps hx.iw.1 hk (hx.cb k hk)
 unfold swA memA at hb
 have hps : k < a.ps.length := by rw [ha.l]; exact hk
 have hn0 := hx.n1
 unfold Hx.top
 generalize bestL (x.D.readyV k) = A at hd ⊢
 generalize bestC (x.iw.w.at_ k).C (x.iw.w.at_ k).U = C at hb ⊢
 obtain ⟨ai, ap, ag, ais⟩ := A
 obtain ⟨ci, cp, cg, cis⟩ := C
 unfold hL hRow lA dpA topC
 (refine G tt_ok pk59 ?_; repeat (refine G1 tt_ok pk59 ?_; intro _))
 refine ir_ tt_ok rfl rfl (k) (rfl) rfl ?_ (hlt := hk)
 refine G tt_ok pk59 ?_
 refine lr_ tt_ok rfl rfl (pt_row hps) ?_
 refine G tt_ok pk59 ?_
 (refine ka rfl rfl (hd) ?_; rintro _ _ ⟨rfl, rfl⟩; refine ⟨(by repeat (first | exact trivial | refine ⟨trivial, ?_⟩ | refine ⟨rr_ (pt_row hps), ?_⟩ | refine ⟨wk (by repeat (first | exact .h | exact .q | apply At.t)) (by rfl), ?_⟩)), ?_⟩)
 refine G tt_ok pk59 ?_
 (refine ka rfl rfl (hb) ?_; rintro _ _ ⟨rfl, rfl⟩; refine ⟨(by repeat (first | exact trivial | refine ⟨trivial, ?_⟩ | refine ⟨rr_ (pt_row hps), ?_⟩ | refine ⟨wk (by repeat (first | exact .h | exact .q | apply At.t)) (by rfl), ?_⟩)), ?_⟩)
 (refine G tt_ok pk59 ?_; repeat (refine G1 tt_ok pk59 ?_; intro _))
 cases ais with
 | false =>
  refine G tt_ok pk59 ?_
  exact CW.ret (fin_cells [_] ⟨cl_, trivial⟩ (A := hL h a nc x) (by unfold hL hRow lA dpA; exact pk_) ⟨rfl, rfl⟩)
 | true =>
  cases cis with
  | false =>
   refine G tt_ok pk59 ?_
   exact CW.ret (fin_cells [_] ⟨cl_, trivial⟩ (A := hL h a nc x) (by unfold hL hRow lA dpA; exact pk_) ⟨rfl, rfl⟩)
  | true =>
   refine G tt_ok pk59 ?_
   refine ke rfl rfl (before56' β cp ci ap ai) ?_
   cases hbf : beforeV cp ci ap ai with
   | true =>
    refine G tt_ok pk59 ?_
    exact CW.ret (fin_cells [_] ⟨cl_, trivial⟩ (A := hL h a nc x) (by unfold hL hRow lA dpA; exact pk_) ⟨by simp [hbf]; rfl, rfl⟩)
   | false =>
    refine G tt_ok pk59 ?_
    exact CW.ret (fin_cells [_] ⟨cl_, trivial⟩ (A := hL h a nc x) (by unfold hL hRow lA dpA; exact pk_) ⟨by simp [hbf]; rfl, rfl⟩)
end Go.Proofs.YtakkogdmlbkdaaaGreatDoor.Sl.It
namespace Go.Proofs.YtakkogdmlbkdaaaGreatDoor.Sl.It
attribute [local irreducible] CW Tri OW
@[reducible] def pk23 : List (Nat × Plan) := [(9, [(0, 0, []), (1, 0, []), (2, 0, []), (3, 0, []), (4, 0, []), (5, 0, []), (6, 0, []), (7, 0, []), (8, 0, []), (9, 0, []), (10, 0, []), (11, 0, []), (12, 1, [3, 6, 10])])]
attribute [local irreducible] invK enK enV waitL
variable {T nc : Nat}
def Hx.face (x : Hx) (k : Nat) : Fc := (x.fs[k]?).getD fc0
def Hx.tks (x : Hx) (k : Nat) : Bool := (x.face k).takes (x.top k).2.1.toNat (x.top k).2.2.1.toNat (x.top k).2.2.2 1
def Hx.took (x : Hx) (k : Nat) : Hx :=
 if (x.top k).1 ≥ 8192 then { x with fs := x.fs.set k (((x.face k).takeF (x.top k).2.1.toNat (x.top k).2.2.1.toNat (x.top k).2.2.2 1).dropF 1), iw := { x.iw with w := x.iw.w.set k (x.top k).1 false } }
 else { x with fs := x.fs.set k (((x.face k).takeF (x.top k).2.1.toNat (x.top k).2.2.1.toNat (x.top k).2.2.2 1).dropF 1), D := (x.D.doV k (x.top k).1 5).1 }
def Hx.takeR (nc : Nat) (x : Hx) (k : Int) : Hx × Value :=
 if rightV nc k then (if x.tks k.toNat then (x.took k.toNat, .tuple #[.int .i64 (x.top k.toNat).1, .bool true]) else (x, .tuple #[.int .i64 0, .bool false])) else (x, .tuple #[.int .i64 0, .bool false])
set_option maxHeartbeats 8000000 in
theorem htake23 (β : Base) (hG : TabOk β) (h : Nat) (x : Hx) (hx : x.ok T nc) (k : Int) (ht : ∀ n : Nat, n < nc → 0 ≤ (x.top n).2.1 ∧ (x.top n).2.1 ≤ 255 ∧ 0 ≤ (x.top n).2.2.1 ∧ (x.top n).2.2.1 ≤ 1 ∧ (x.top n).1 ≤ 100000) :
  Tri Tryz.prog β 23 [.pointer (some ⟨h, 0, none⟩), .int .i64 k] [hoA h nc x] (fun v L => v = (x.takeR nc k).2 ∧ L = [hoA h nc (x.takeR nc k).1]) := by
 refine Tri.ho (enters_of Tryz.func23 (by kernel_rfl) rfl) fun a ha => ?_
 refine Tri.intro tt_ok Tryz.func23 rfl rfl Tryz.ntmps23 rfl fun F => ?_
 have hc := cores41 (nc := nc) β h a x
 unfold Hx.takeR
 unfold hL
 by_cases h0 : k < 0
 ·have hr : rightV nc k = false := by simp [rightV]; omega
  rw [hr]
  refine G tt_ok pk23 ?_
  rw [decide_eq_true h0]
  refine G tt_ok pk23 ?_
  exact CW.ret (fin_ret rfl (A := [hoA h nc x]) (ho_pick ha (by unfold hL; exact pk_)) ⟨rfl, rfl⟩)
 ·by_cases hn : k ≥ nc
  ·have hr : rightV nc k = false := by simp [rightV]; omega
   rw [hr]
   refine G tt_ok pk23 ?_
   rw [decide_eq_false h0]
   refine G tt_ok pk23 ?_
   refine ke rfl rfl (hc) ?_
   refine G tt_ok pk23 ?_
   rw [decide_eq_true hn]
   refine G tt_ok pk23 ?_
   exact CW.ret (fin_ret rfl (A := [hoA h nc x]) (ho_pick ha (by unfold hL; exact pk_)) ⟨rfl, rfl⟩)
  ·obtain ⟨n, rfl⟩ : ∃ n : Nat, k = n := ⟨k.toNat, by omega⟩
   have hlt : n < nc := by omega
   have hr : rightV nc (n : Int) = true := by simp [rightV]; omega
   have hps : n < a.ps.length := by rw [ha.l]; exact hlt
   have hfl := hx.fl
   obtain ⟨f, hf⟩ : ∃ f, x.fs[n]? = some f := ⟨_, List.getElem?_eq_getElem (by omega)⟩
   have hfo := hx.fs f (List.mem_of_getElem? hf)
   have htp := htop59 β hG h x hx hlt a ha
   obtain ⟨t1, t2, t3, t4, t5⟩ := ht n hlt
   rw [hr]
   simp only [if_true, Int.toNat_natCast]
   unfold Hx.tks Hx.took
   have hface : x.face n = f := by unfold Hx.face; rw [hf]; rfl
   rw [hface]
   generalize htc : x.top n = c at htp t1 t2 t3 t4 t5 ⊢
   obtain ⟨id, p, g, is⟩ := c
   simp only at t1 t2 t3 t4 t5 htp ⊢
   obtain ⟨p, rfl⟩ : ∃ q : Nat, p = q := ⟨p.toNat, by omega⟩
   obtain ⟨g, rfl⟩ : ∃ q : Nat, g = q := ⟨g.toNat, by omega⟩
   simp only [Int.toNat_natCast]
   have hp : p ≤ 255 := by omega
   have hg : g ≤ 1 := by omega
   have htk := take64 β (q := a.fq) hf hfo id hp hg is (k := 1) (by omega)
   have hok2 := takeF_ok hfo hp g is 1
   have hset1 : (x.fs.set n (f.takeF p g is 1))[n]? = some (f.takeF p g is 1) := by rw [List.getElem?_set_self (by omega)]
   have hdr := drop69 β (q := a.fq) hset1 hok2 (k := 1) (by omega)
   rw [List.length_set, List.set_set] at hdr
   rw [hfl] at htk hdr
   have hset := set89C β a.m a.g a.ps hx.iw.1 hlt (n := id) (by omega) false
   unfold swA memA at hset
   have hdo := Tri.pk1 (do23 β a.dd x.D n id 5 (by omega))
   have hps2 := pt_row (k := n) hps
   unfold hL hRow lA fA at htp
   unfold hRow at hc ⊢
   unfold lA fA
   refine G tt_ok pk23 ?_
   rw [decide_eq_false h0]
   refine G tt_ok pk23 ?_
   refine ke rfl rfl (hc) ?_
   refine G tt_ok pk23 ?_
   rw [decide_eq_false hn]
   refine G tt_ok pk23 ?_
   refine ir_ tt_ok rfl rfl (n) (rfl) rfl ?_ (hlt := hlt)
   refine G tt_ok pk23 ?_
   refine ke rfl rfl (htp) ?_
   refine G tt_ok pk23 ?_
   refine ke rfl rfl (htk) ?_
   cases hts : f.takes p g is 1 with
   | false =>
    have hsame : f.takeF p g is 1 = f := by unfold Fc.takeF; rw [hts]; rfl
    have hs2 : x.fs.set n f = x.fs := set_same_ hf
    rw [hsame, hs2]
    refine G tt_ok pk23 ?_
    exact CW.ret (fin_ret rfl (A := [hoA h nc x]) (ho_pick ha (by unfold hL hRow lA fA; exact pk_)) ⟨rfl, rfl⟩)
   | true =>
    simp only [if_true]
    refine G tt_ok pk23 ?_
    refine ke rfl rfl (hdr) ?_
    by_cases h8 : id ≥ 8192
    ·rw [if_pos h8]
     refine G tt_ok pk23 ?_
     rw [decide_eq_true h8]
     refine G tt_ok pk23 ?_
     refine ir_ tt_ok rfl rfl (n) (rfl) rfl ?_ (hlt := hlt)
     refine G tt_ok pk23 ?_
     refine lr_ tt_ok rfl rfl (pt_row hps) ?_
     refine G tt_ok pk23 ?_
     (refine ka rfl rfl (hset) ?_; rintro _ _ ⟨rfl, rfl⟩; refine ⟨(by repeat (first | exact trivial | refine ⟨trivial, ?_⟩ | refine ⟨rr_ (pt_row hps), ?_⟩ | refine ⟨wk (by repeat (first | exact .h | exact .q | apply At.t)) (by rfl), ?_⟩)), ?_⟩)
     refine G tt_ok pk23 ?_
     refine CW.ret (fin_ret rfl (A := [hoA h nc { x with fs := x.fs.set n ((f.takeF p g is 1).dropF 1), iw := { x.iw with w := x.iw.w.set n id false } }]) (ho_pick (a := a) ha ?_) ⟨rfl, rfl⟩)
     unfold hL hRow lA fA
     exact pk_
    ·rw [if_neg h8]
     refine G tt_ok pk23 ?_
     rw [decide_eq_false h8]
     unfold dpA
     refine G tt_ok pk23 ?_
     refine ke rfl rfl (hdo) ?_
     refine G tt_ok pk23 ?_
     refine CW.ret (fin_ret rfl (A := [hoA h nc { x with fs := x.fs.set n ((f.takeF p g is 1).dropF 1), D := (x.D.doV n id 5).1 }]) (ho_pick (a := a) ha ?_) ⟨rfl, rfl⟩)
     unfold hL hRow lA fA dpA
     exact pk_
end Go.Proofs.YtakkogdmlbkdaaaGreatDoor.Sl.It
namespace Go.Proofs.YtakkogdmlbkdaaaGreatDoor.Sl.It
attribute [local irreducible] CW Tri OW
@[reducible] def pk33 : List (Nat × Plan) := [(1, [(0, 0, []), (1, 0, []), (2, 0, []), (3, 0, []), (4, 0, []), (5, 1, [3, 4]), (6, 0, []), (7, 0, []), (8, 0, []), (9, 0, []), (10, 0, [])])]
@[reducible] def pk30 : List (Nat × Plan) := [(3, [(0, 0, []), (1, 0, []), (2, 0, []), (3, 0, []), (4, 0, []), (5, 1, [3, 4]), (6, 0, []), (7, 0, []), (8, 0, []), (9, 0, []), (10, 0, [])]), (6, [(0, 0, []), (1, 0, []), (2, 0, []), (3, 0, []), (4, 0, []), (5, 1, [3, 4]), (6, 0, []), (7, 0, []), (8, 0, []), (9, 0, []), (10, 0, [])]), (9, [(0, 0, []), (1, 0, []), (2, 0, []), (3, 0, []), (4, 0, []), (5, 0, []), (6, 0, []), (7, 0, []), (8, 0, []), (9, 0, []), (10, 0, []), (11, 1, [4, 8, 10]), (12, 0, []), (13, 0, []), (14, 0, []), (15, 2, []), (16, 1, []), (17, 0, [])])]
attribute [local irreducible] invK enK enV waitL
variable {T nc : Nat}
def Hx.cmd (x : Hx) (c : Cm) : Hx := { x with iw := (cmdV x.j x.iw c).1, j := (cmdV x.j x.iw c).2.1 }
def Hx.cmdE (x : Hx) (c : Cm) : Int := (cmdV x.j x.iw c).2.2
theorem hcmd74 (β : Base) (h : Nat) (x : Hx) {w : IW} (hw : w.ok T nc) {j : Nat} (hj : j < 32) (c : Cm) (a : Ha) (ha : a.ok nc) :
  Tri Tryz.prog β 74 [.pointer (some ⟨h, 0, none⟩), .agg (cmC c).toArray] [pt h (itH (hH a nc) true w.st w.i j 64), rowA a.lq nc (a.ps.flatMap ptC), colsA a.ps w.w.cs, pt a.m [.slice (some ⟨a.g.1, 0, none⟩) w.w.B.length (w.w.B.length + a.g.2.length)], pt a.g.1 (bys w.w.B ++ a.g.2)]
   (fun u L => u = .int .i64 (cmdV j w c).2.2 ∧ L = [pt h (itH (hH a nc) true (cmdV j w c).1.st (cmdV j w c).1.i (cmdV j w c).2.1 64), rowA a.lq nc (a.ps.flatMap ptC), colsA a.ps (cmdV j w c).1.w.cs, pt a.m [.slice (some ⟨a.g.1, 0, none⟩) (cmdV j w c).1.w.B.length ((cmdV j w c).1.w.B.length + a.g.2.length)], pt a.g.1 (bys (cmdV j w c).1.w.B ++ a.g.2)]) := by
 have h1 := command74 β h a.m a.g a.lc (lA_ts ha) (.pointer (some ⟨a.dd, 0, none⟩)) (.slice a.fq nc a.fc) (.pointer (some ⟨a.sp, 0, none⟩)) hw hj c
 unfold swA memA lA at h1
 exact h1
def cmMovi (d e c : Int) : Cm := (1, d, e, 0, c, 0, 0, 0, false)
def cmMapti (d e n c : Int) : Cm := (10, d, e, n, c, 0, 0, 0, false)
def cmMapd (d : Int) : Cm := (8, d, 0, 0, 0, 0, 3, 2048 + 256 * d, true)
def cmDisc (d e : Int) : Cm := (15, d, e, 0, 0, 0, 0, 0, false)
def cmMapc (k : Int) : Cm := (9, 0, 0, 0, k, k, 0, 0, true)
theorem cmd_ok {x : Hx} (hx : x.ok T nc) (c : Cm) : (x.cmd c).iw.ok T nc ∧ (x.cmd c).j < 32 := cmdV_ok hx.iw hx.j c
def Hx.unb (x : Hx) (d e : Int) : Hx := if (x.S.free d e).1.2 ≠ 0 then x else ({ x with S := (x.S.free d e).2 } : Hx).cmd (cmDisc d e)
def Hx.unbE (x : Hx) (d e : Int) : Int := if (x.S.free d e).1.2 ≠ 0 then (x.S.free d e).1.2 else x.cmdE (cmDisc d e)
theorem free_same {S : Sh} {d e : Int} (h : (S.free d e).1.2 ≠ 0) : (S.free d e).2 = S := by
 unfold Sh.free at h ⊢
 cases hm : mayE d e with
 | false => rfl
 | true =>
  rw [hm, if_pos rfl] at h
  rw [if_pos rfl]
  cases hg : getB S.ns (kyV d e) with
  | none => rfl
  | some n => rw [hg] at h; exact absurd rfl h
theorem bind_same {S : Sh} {d e : Int} (h : (S.bind d e).1.2 ≠ 0) : (S.bind d e).2 = S := by
 unfold Sh.bind at h ⊢
 cases hm : mayE d e with
 | false => rfl
 | true =>
  rw [hm, if_pos rfl] at h
  rw [if_pos rfl]
  cases hg : getB S.ns (kyV d e) with
  | some n => rfl
  | none =>
   rw [hg] at h
   simp only at h ⊢
   by_cases hl : leastK S.ks < 512
   ·rw [if_pos hl] at h; exact absurd rfl h
   ·rw [if_neg hl]
set_option maxHeartbeats 4000000 in
theorem hunbind33 (β : Base) (h : Nat) (x : Hx) (hx : x.ok T nc) (d e : Int) : Tri Tryz.prog β 33 [.pointer (some ⟨h, 0, none⟩), evX d e] [hoA h nc x] (fun v L => v = .int .i64 (x.unbE d e) ∧ L = [hoA h nc (x.unb d e)]) := by
 refine Tri.ho (enters_of Tryz.func33 (by kernel_rfl) rfl) fun a ha => ?_
 refine Tri.intro tt_ok Tryz.func33 rfl rfl Tryz.ntmps33 rfl fun F => ?_
 have hf := sfree82 β a.sp hx.S d e
 have hc := hcmd74 β h x hx.iw hx.j (cmDisc d e) a ha
 have hsame := free_same (S := x.S) (d := d) (e := e)
 unfold Hx.unb Hx.unbE Hx.cmdE
 unfold hL hRow lA
 generalize x.S.free d e = r at hf hsame ⊢
 obtain ⟨⟨n, er⟩, S'⟩ := r
 simp only at hf hsame ⊢
 (refine G tt_ok pk33 ?_; repeat (refine G1 tt_ok pk33 ?_; intro _))
 refine ke rfl rfl (hf) ?_
 refine G tt_ok pk33 ?_
 by_cases he : er = 0
 ·subst he
  rw [if_neg (by simp), if_neg (by simp)]
  refine G tt_ok pk33 ?_
  refine ke rfl rfl (hc) ?_
  refine G tt_ok pk33 ?_
  exact CW.ret (fin_ret rfl (A := [hoA h nc (({ x with S := S' } : Hx).cmd (cmDisc d e))]) (ho_pick (a := a) ha (by unfold hL hRow lA Hx.cmd; exact pk_)) ⟨rfl, rfl⟩)
 ·rw [if_pos he, if_pos he]
  have := hsame he
  subst this
  rw [show (er != 0) = true by simp [he]]
  refine G tt_ok pk33 ?_
  exact CW.ret (fin_ret rfl (A := [hoA h nc x]) (ho_pick ha (by unfold hL hRow lA; exact pk_)) ⟨rfl, rfl⟩)
def Hx.bnd1 (x : Hx) (d e : Int) : Hx := if (tabGet x.iw.w.B 1024 256 64 d).1.1 then { x with S := (x.S.bind d e).2 } else ({ x with S := (x.S.bind d e).2 } : Hx).cmd (cmMapd d)
def Hx.bnd (nc : Nat) (x : Hx) (d e c : Int) : Hx :=
 if rightV nc c then (match x.S.num d e with
  | some n => x.cmd (cmMovi d e c)
  | none => if (x.S.bind d e).1.2 ≠ 0 then x else (x.bnd1 d e).cmd (cmMapti d e (8192 + (x.S.bind d e).1.1) c)) else x
def Hx.bndR (nc : Nat) (x : Hx) (d e c : Int) : Int × Int :=
 if rightV nc c then (match x.S.num d e with
  | some n => (8192 + n, x.cmdE (cmMovi d e c))
  | none => if (x.S.bind d e).1.2 ≠ 0 then (0, (x.S.bind d e).1.2) else (8192 + (x.S.bind d e).1.1, (x.bnd1 d e).cmdE (cmMapti d e (8192 + (x.S.bind d e).1.1) c))) else (0, 130)
theorem bind_ok {S : Sh} {d e : Int} (hn : S.num d e = none) (h : (S.bind d e).1.2 = 0) : 0 ≤ d ∧ d < 32 ∧ 0 ≤ e ∧ e < 16 ∧ 0 ≤ (S.bind d e).1.1 ∧ (S.bind d e).1.1 < 512 := by
 unfold Sh.num at hn
 unfold Sh.bind at h ⊢
 cases hm : mayE d e with
 | false => rw [hm] at h; simp at h
 | true =>
  rw [hm, if_pos rfl] at h hn
  rw [if_pos rfl]
  rw [hn] at h ⊢
  simp only at h ⊢
  by_cases hl : leastK S.ks < 512
  ·rw [if_pos hl]
   unfold mayE at hm
   simp only [Bool.and_eq_true, decide_eq_true_eq] at hm
   simp only
   omega
  ·rw [if_neg hl] at h; simp at h
set_option maxHeartbeats 8000000 in
theorem hbind30 (β : Base) (h : Nat) (x : Hx) (hx : x.ok T nc) (d e c : Int) : Tri Tryz.prog β 30 [.pointer (some ⟨h, 0, none⟩), evX d e, .int .i64 c] [hoA h nc x] (fun v L => v = pairI (x.bndR nc d e c) ∧ L = [hoA h nc (x.bnd nc d e c)]) := by
 refine Tri.ho (enters_of Tryz.func30 (by kernel_rfl) rfl) fun a ha => ?_
 refine Tri.intro tt_ok Tryz.func30 rfl rfl Tryz.ntmps30 rfl fun F => ?_
 have hc := cores41 (nc := nc) β h a x
 have hnm := snum55 β a.sp hx.S d e
 unfold errO at hnm
 unfold Hx.bnd Hx.bndR
 unfold hL
 by_cases h0 : c < 0
 ·have hr : rightV nc c = false := by simp [rightV]; omega
  rw [hr]
  (refine G tt_ok pk30 ?_; repeat (refine G1 tt_ok pk30 ?_; intro _))
  rw [decide_eq_true h0]
  refine G tt_ok pk30 ?_
  exact CW.ret (fin_ret rfl (A := [hoA h nc x]) (ho_pick ha (by unfold hL; exact pk_)) ⟨rfl, rfl⟩)
 ·by_cases hn : c ≥ nc
  ·have hr : rightV nc c = false := by simp [rightV]; omega
   rw [hr]
   (refine G tt_ok pk30 ?_; repeat (refine G1 tt_ok pk30 ?_; intro _))
   rw [decide_eq_false h0]
   refine G tt_ok pk30 ?_
   refine ke rfl rfl (hc) ?_
   refine G tt_ok pk30 ?_
   rw [decide_eq_true hn]
   refine G tt_ok pk30 ?_
   exact CW.ret (fin_ret rfl (A := [hoA h nc x]) (ho_pick ha (by unfold hL; exact pk_)) ⟨rfl, rfl⟩)
  ·have hr : rightV nc c = true := by simp [rightV]; omega
   rw [hr, if_pos rfl, if_pos rfl]
   unfold hRow at hc ⊢
   unfold lA
   (refine G tt_ok pk30 ?_; repeat (refine G1 tt_ok pk30 ?_; intro _))
   rw [decide_eq_false h0]
   refine G tt_ok pk30 ?_
   refine ke rfl rfl (hc) ?_
   refine G tt_ok pk30 ?_
   rw [decide_eq_false hn]
   refine G tt_ok pk30 ?_
   refine ke rfl rfl (hnm) ?_
   cases hs : x.S.num d e with
   | some n =>
    have hnn := num_lt hx hs
    have hcm := hcmd74 β h x hx.iw hx.j (cmMovi d e c) a ha
    unfold Hx.cmdE
    refine G tt_ok pk30 ?_
    rw [show IntKind.i64.wrap (8192 + (some n).getD 0) = 8192 + n by show IntKind.i64.wrap (8192 + n) = _; rw [wrap_id (by omega) (by omega)]]
    refine ke rfl rfl (hcm) ?_
    refine G tt_ok pk30 ?_
    exact CW.ret (fin_ret rfl (A := [hoA h nc (x.cmd (cmMovi d e c))]) (ho_pick (a := a) ha (by unfold hL hRow lA Hx.cmd; exact pk_)) ⟨rfl, rfl⟩)
   | none =>
    have hbd := sbind75 β a.sp hx.S d e
    have hsame := bind_same (S := x.S) (d := d) (e := e)
    have hbok := bind_ok hs
    simp only
    have hX : ∀ v, (tabGet x.iw.w.B 1024 256 64 d).1.1 = v → x.bnd1 d e = if v = true then { x with S := (x.S.bind d e).2 } else ({ x with S := (x.S.bind d e).2 } : Hx).cmd (cmMapd d) := fun v hv => by unfold Hx.bnd1; rw [hv]
    generalize hr9 : x.S.bind d e = r at hbd hsame hbok hX ⊢
    obtain ⟨⟨n, er⟩, S'⟩ := r
    simp only at hbd hsame hbok hX ⊢
    refine G tt_ok pk30 ?_
    refine ke rfl rfl (hbd) ?_
    refine G tt_ok pk30 ?_
    by_cases he : er = 0
    ·subst he
     obtain ⟨hd0, hd1, he0, he1, hn0, hn1⟩ := hbok rfl
     rw [if_neg (by simp), if_neg (by simp)]
     have hBl := hx.iw.1.1
     have hg := get75 β a.m a.g x.iw.w.B (by omega) hx.iw.1.2.1 (a := 1024) (s := 256) (.inr rfl : (64 : Int) = 0 ∨ (64 : Int) = 64) (by unfold holdsV; simp; omega) d
     unfold memA at hg
     refine G tt_ok pk30 ?_
     refine ke rfl rfl (hg) ?_
     (refine G tt_ok pk30 ?_; repeat (refine G1 tt_ok pk30 ?_; intro _))
     cases hv : (tabGet x.iw.w.B 1024 256 64 d).1.1 with
     | true =>
      have hcm := hcmd74 β h x hx.iw hx.j (cmMapti d e (8192 + n) c) a ha
      rw [hX true hv, if_pos rfl]
      unfold Hx.cmdE
      refine G tt_ok pk30 ?_
      rw [show IntKind.i64.wrap (8192 + n) = 8192 + n by rw [wrap_id (by omega) (by omega)]]
      refine ke rfl rfl (hcm) ?_
      refine G tt_ok pk30 ?_
      exact CW.ret (fin_ret rfl (A := [hoA h nc (({ x with S := S' } : Hx).cmd (cmMapti d e (8192 + n) c))]) (ho_pick (a := a) ha (by unfold hL hRow lA Hx.cmd; exact pk_)) ⟨rfl, rfl⟩)
     | false =>
      have hcm0 := hcmd74 β h x hx.iw hx.j (cmMapd d) a ha
      have hok1 := cmd_ok hx (cmMapd d)
      have hcm := hcmd74 β h x hok1.1 hok1.2 (cmMapti d e (8192 + n) c) a ha
      rw [hX false hv, if_neg (by simp)]
      unfold Hx.cmdE
      refine G tt_ok pk30 ?_
      rw [show IntKind.i64.wrap (256 * d) = 256 * d by rw [wrap_id (by omega) (by omega)], show IntKind.i64.wrap (2048 + 256 * d) = 2048 + 256 * d by rw [wrap_id (by omega) (by omega)]]
      refine ke rfl rfl (hcm0) ?_
      refine G tt_ok pk30 ?_
      rw [show IntKind.i64.wrap (8192 + n) = 8192 + n by rw [wrap_id (by omega) (by omega)]]
      refine ke rfl rfl (hcm) ?_
      refine G tt_ok pk30 ?_
      exact CW.ret (fin_ret rfl (A := [hoA h nc ((({ x with S := S' } : Hx).cmd (cmMapd d)).cmd (cmMapti d e (8192 + n) c))]) (ho_pick (a := a) ha (by unfold hL hRow lA Hx.cmd; exact pk_)) ⟨rfl, rfl⟩)
    ·rw [if_pos he, if_pos he]
     have := hsame he
     subst this
     rw [show (er != 0) = true by simp [he]]
     refine G tt_ok pk30 ?_
     exact CW.ret (fin_ret rfl (A := [hoA h nc x]) (ho_pick ha (by unfold hL hRow lA; exact pk_)) ⟨rfl, rfl⟩)
end Go.Proofs.YtakkogdmlbkdaaaGreatDoor.Sl.It
namespace Go.Proofs.YtakkogdmlbkdaaaGreatDoor.Sl.It
attribute [local irreducible] CW Tri OW
@[reducible] def pk31 : List (Nat × Plan) := [(2, [(0, 0, []), (1, 0, []), (2, 0, []), (3, 0, []), (5, 0, []), (6, 0, []), (7, 0, []), (8, 0, []), (10, 0, []), (11, 0, []), (12, 0, []), (13, 0, []), (4, 1, [3, 8, 13]), (9, 1, [3, 8, 13]), (14, 1, [3, 8, 13]), (15, 0, []), (16, 1, []), (17, 0, []), (18, 1, []), (19, 0, []), (20, 1, [])]), (4, [(0, 0, []), (1, 0, []), (2, 0, []), (3, 0, []), (4, 0, []), (5, 0, []), (6, 1, []), (7, 0, []), (8, 1, [])]), (8, [(0, 0, []), (1, 0, []), (2, 0, []), (3, 1, [1]), (4, 1, [1]), (5, 1, []), (6, 0, []), (7, 1, [])])]
attribute [local irreducible] invK enK enV waitL
variable {T nc : Nat}
theorem pk_fresh {p : Nat} {xs : List Value} {l : List Lp} : Ent [pt p xs, pkA colF l] [pureA (p ∉ l.map Lp.p), pt p xs, pkA colF l] := fun h s => by
 by_cases hm : p ∈ l.map Lp.p
 ·exfalso
  obtain ⟨x, hx, rfl⟩ := List.mem_map.1 hm
  obtain ⟨k, hk⟩ := List.getElem?_of_mem hx
  obtain ⟨h2, s2, _⟩ := Ent.cons (pt x.p xs) (pk_open (f := colF) hk) h s
  obtain ⟨a, b, ⟨t, rfl⟩, ⟨c, d, ⟨t2, rfl⟩, _, _, rfl⟩, dj, rfl⟩ := s2
  have := dj x.p
  rcases this with e | e
  ·simp [Hp.one] at e
  ·simp [Hp.add, Hp.one] at e
 ·exact Ent.pureA hm h s
theorem lcopyC (β : Base) (ps : List Nat) {cs : List Pc} (hcs : pcsOk nc cs) {k : Nat} (hk : k < nc) :
  Tri Tryz.prog β 80 [cpV ps k] [colsA ps cs] (fun v L => ∃ y : Lp, v = .pointer (some ⟨y.p, 0, none⟩) ∧ y.k = k ∧ y.pc = cs.getD k pc0 ∧ L = colsA ps cs :: colF y) := by
 obtain ⟨hU, hC, _⟩ := hcs.2 k hk
 refine Tri.mono (Tri.cols (A := []) (R := fun v c2 A' => c2 = cs.getD k pc0 ∧ ∃ y : Lp, v = .pointer (some ⟨y.p, 0, none⟩) ∧ y.k = k ∧ y.pc = cs.getD k pc0 ∧ A' = colF y) (ps := ps) (cs := cs) (k := k) (enters_of Tryz.func80 (by kernel_rfl) rfl) (by rw [hcs.1]; exact hk) ?_) ?_
 ·intro x hp hk' hpc
  rw [List.append_nil]
  have e1 : x.U = (cs.getD k pc0).U := by rw [← hpc]; rfl
  have e2 : x.C = (cs.getD k pc0).C := by rw [← hpc]; rfl
  have h := lcopy80 β x (by rw [e1]; exact hU) (by rw [e2]; exact hC)
  rw [hp] at h
  refine Tri.mono h ?_
  rintro v L ⟨y, rfl, h2, h3, rfl⟩
  exact ⟨x, colF y, rfl, hk', ⟨hpc, y, rfl, by rw [h2, hk'], by rw [h3, hpc], rfl⟩, rfl⟩
 ·rintro v L ⟨c', A', ⟨rfl, y, rfl, h2, h3, rfl⟩, rfl⟩
  exact ⟨y, rfl, h2, h3, by rw [set_get]⟩
theorem fc_len (f : Fc) : (fcC f).length = 8 := rfl
theorem one_fc (fs : List Fc) : ∀ u ∈ fs.flatMap fcC, u.oneCell' = true := one_flat (fun _ => rfl) fs
set_option maxHeartbeats 8000000 in
theorem hcopy31 (β : Base) (h : Nat) (x : Hx) (hx : x.ok T nc) : Tri Tryz.prog β 31 [.pointer (some ⟨h, 0, none⟩)] [hoA h nc x] (fun v L => ∃ h' E, v = .pointer (some ⟨h', 0, none⟩) ∧ DS.like E x.D ∧ L = [hoA h nc x, hoA h' nc (x.setD E)]) := by
 refine Tri.ho (enters_of Tryz.func31 (by kernel_rfl) rfl) fun a ha => ?_
 obtain ⟨m, dd, sp, g, fq, fc, lq, lc, ps⟩ := a
 refine Tri.intro tt_ok Tryz.func31 rfl rfl Tryz.ntmps31 rfl fun F => ?_
 obtain ⟨R, hD⟩ := hx.D
 have hBl := hx.iw.1.1
 have hcp := mcopy77 β m g (B := x.iw.w.B) (by omega) (by omega)
 unfold memA at hcp
 have hdc := copy24 β dd x.D hD.x8 hD.sh (fun y hy => (hD.es y hy).1)
 have hdc2 : Tri Tryz.prog β 78 [.pointer (some ⟨dd, 0, none⟩)] [dpA dd x.D] (fun v L => ∃ c E, v = .pointer (some ⟨c, 0, none⟩) ∧ E.like x.D ∧ L = [dpA c E, dpA dd x.D]) := by
  have h1 : Tri Tryz.prog β 78 [.pointer (some ⟨dd, 0, none⟩)] [packA (dA dd x.D)] _ := Tri.ent (by have := Ent.unpack (dA dd x.D) []; simpa using this) hdc
  refine Tri.post h1 ?_
  rintro v L ⟨c, E, rfl, rfl, hl⟩
  refine ⟨[dpA c E, dpA dd x.D], ?_, c, E, rfl, hl, rfl⟩
  unfold dpA
  refine (Ent.pack (dA c E) (dA dd x.D)).trans (Ent.cons _ ?_)
  have := Ent.pack (dA dd x.D) []; simpa using this
 have hsc := scopy79 β sp hx.S
 have hpl : ps.length = nc := ha.l
 have hn8 := hx.n8
 have hn1 := hx.n1
 have hfl := hx.fl
 have hcsl : x.iw.w.cs.length = nc := hx.iw.1.2.2.1
 have hffl : (x.fs.flatMap fcC).length = nc * 8 := by rw [flatE_len (sz := 8) fc_len, hfl]
 unfold hL hRow lA fA
 dsimp only [hH]
 refine CW.ent (rm_ (A := rowA fq nc (x.fs.flatMap fcC)) (row_is hn1)) (CW.pure_ fun hq => ?_)
 obtain ⟨gf, rfl⟩ : ∃ gf, fq = some ⟨gf, 0, none⟩ := ⟨_, hq⟩
 (refine G tt_ok pk31 ?_; repeat (refine G1 tt_ok pk31 ?_; intro _))
 rename_i h'
 (refine ka rfl rfl (hcp) ?_; rintro _ _ ⟨m', g', rfl, rfl⟩; refine w_ ?_)
 refine G tt_ok pk31 ?_
 (refine ka rfl rfl (hdc2) ?_; rintro _ _ ⟨dd', E, rfl, hlike, rfl⟩; refine w_ ?_)
 refine G tt_ok pk31 ?_
 (refine ka rfl rfl (hsc) ?_; rintro _ _ ⟨sp', rfl, rfl⟩; refine w_ ?_)
 refine G tt_ok pk31 ?_
 refine SQ.ent _ (own_nil 100 8) ?_
 refine SQ.appG (m := nc) (n := 0) (te := ti100) tt_ok rfl (by rfl) 0 rfl (A := rowA (some ⟨gf, 0, none⟩) nc (x.fs.flatMap fcC)) (news := x.fs.flatMap fcC) (sz := 8) (slr_row hffl) (by repeat (first | exact .h | apply AtA.t)) rfl hffl rfl (one_fc x.fs) (by omega) (by show (0 + nc) * ti100.bytes ≤ _; change (0 + nc) * 40 ≤ _; omega) (fun v' => ⟨trivial, ?_⟩)
 refine SQ.ent _ (Ent.head (own_shape _ _ _ _ _)) ?_
 refine SQ.open_ fun z => ?_
 obtain ⟨fq', fc'⟩ := z
 refine SQ.pure_ fun hv => ?_
 subst hv
 simp only
 rw [List.nil_append, show 0 + nc = nc from Nat.zero_add nc]
 refine G tt_ok pk31 ?_
 refine CW.ent ((own_nil 90 1).trans (pk_nil (f := colF))) ?_
 refine CW.loop (α := List Lp × Option Addr × Nat) (fun y => y.1.length ≤ nc ∧ y.1.map Lp.pc = x.iw.w.cs.take y.1.length ∧ y.1.map Lp.k = List.range y.1.length ∧ (y.1.map Lp.p).Nodup)
  (fun y => [(42, .int .i64 y.1.length), (41, .int .i64 nc), (40, .slice lq nc lc), (3, .pointer (some ⟨h', 0, none⟩))])
  (fun y => [pkA colF y.1, own 90 1 (.slice y.2.1 y.1.length y.2.2) y.1.length ((y.1.map Lp.p).flatMap ptC), pt h' (itH (.pointer (some ⟨m', 0, none⟩), .pointer (some ⟨dd', 0, none⟩), .slice fq' nc fc', .slice y.2.1 y.1.length y.2.2, .pointer (some ⟨sp', 0, none⟩)) true x.iw.st x.iw.i x.j 64),
   own 100 8 (.slice fq' nc fc') nc (x.fs.flatMap fcC), shA sp' x.S, dpA dd' E, pt m' [.slice (some ⟨g'.1, 0, none⟩) x.iw.w.B.length (x.iw.w.B.length + g'.2.length)], pt g'.1 (bys x.iw.w.B ++ g'.2),
   pt h (itH (.pointer (some ⟨m, 0, none⟩), .pointer (some ⟨dd, 0, none⟩), .slice (some ⟨gf, 0, none⟩) nc fc, .slice lq nc lc, .pointer (some ⟨sp, 0, none⟩)) true x.iw.st x.iw.i x.j 64), rowA lq nc (ps.flatMap ptC), colsA ps x.iw.w.cs, pt m [.slice (some ⟨g.1, 0, none⟩) x.iw.w.B.length (x.iw.w.B.length + g.2.length)], pt g.1 (bys x.iw.w.B ++ g.2), shA sp x.S, rowA (some ⟨gf, 0, none⟩) nc (x.fs.flatMap fcC), dpA dd x.D]) (fun y => nc - y.1.length) ([], none, 0) ⟨by simp, rfl, rfl, by simp⟩ ⟨rfl, rfl, rfl, rfl, trivial⟩ pk_ ?_
 rintro ⟨l, lq', lc'⟩ ⟨hl1, hl2, hl3, hl4⟩
 simp only at hl1 hl2 hl3 hl4 ⊢
 refine G tt_ok pk31 ?_
 by_cases hlt : l.length < nc
 ·rw [decide_eq_true (show (l.length : Int) < (nc : Int) by omega)]
  have hwr : IntKind.i64.wrap ((l.length : Int) + 1) = ((l.length + 1 : Nat) : Int) := by rw [wrap_id (by omega) (by omega)]; simp
  have hps : l.length < ps.length := by rw [hpl]; exact hlt
  have hlc := lcopyC β ps hx.iw.1.2.2 hlt
  generalize hk : l.length = k at hl1 hlt hwr hps hlc hl2 hl3 ⊢
  refine G tt_ok pk31 ?_
  refine ir_ tt_ok rfl rfl (k) (rfl) rfl ?_ (hlt := hlt)
  refine G tt_ok pk31 ?_
  refine lr_ tt_ok rfl rfl (pt_row hps) ?_
  refine G tt_ok pk31 ?_
  (refine ka rfl rfl (hlc) ?_; rintro _ _ ⟨⟨yp, yr, yS, yk, yq, yc, yon, yU, yC⟩, rfl, hy1, hy2, rfl⟩; refine w_ ?_)
  simp only at hy1
  subst hy1
  refine SQ.ent _ (tk_ (As := [pt yp (lpC yk yon yr yS), pkA colF l]) pk_fresh) ?_
  refine SQ.pure_ fun hfr => ?_
  refine G tt_ok pk31 ?_
  (refine SQ.built tt_ok rfl rfl (fun _ => w_ ?_))
  refine G tt_ok pk31 ?_
  (refine SQ.appA tt_ok rfl rfl (by repeat (first | exact Rm.h | apply Rm.t)) (by repeat (first | exact .h | exact .q | apply At.t)) ([.pointer (some ⟨yp, 0, none⟩)]) rfl rfl rfl (scal_eq rfl) (by omega) (by show (yk + 1) * 8 ≤ _; omega) (fun qa ca => w_ ?_))
  refine G tt_ok pk31 ?_
  have hcsk : x.iw.w.cs.take (yk + 1) = x.iw.w.cs.take yk ++ [x.iw.w.cs.getD yk pc0] := by
   rw [List.take_add_one, List.getD_eq_getElem?_getD, List.getElem?_eq_getElem (by omega)]; rfl
  have hlen : (l ++ [(⟨yp, yr, yS, yk, yq, yc, yon, yU, yC⟩ : Lp)]).length = yk + 1 := by simp [hk]
  refine ⟨(l ++ [⟨yp, yr, yS, yk, yq, yc, yon, yU, yC⟩], qa, ca), ⟨by simp only; rw [hlen]; omega, ?_, ?_, ?_⟩, by simp only; rw [hlen]; omega, ⟨by simp only; rw [hlen, ← hwr]; rfl, rfl, rfl, rfl, trivial⟩, ?_⟩
  ·simp only
   rw [hlen, hcsk, List.map_append, hl2]
   simp only [List.map_cons, List.map_nil, hy2]
  ·simp only
   rw [hlen, List.map_append, hl3, List.range_succ]; rfl
  ·simp only [List.map_append, List.map_cons, List.map_nil]
   exact List.nodup_append.2 ⟨hl4, by simp, fun b hb c hc => by simp only [List.mem_singleton] at hc; subst hc; intro e; subst e; exact hfr hb⟩
  ·simp only
   rw [hlen]
   simp only [List.map_append, List.map_cons, List.map_nil, List.flatMap_append]
   refine Ent.trans (M := (colF ⟨yp, yr, yS, yk, yq, yc, yon, yU, yC⟩ ++ [pkA colF l]) ++ _) ?_ (Ent.append pk_snoc (Ent.refl _))
   unfold colF colA setL
   exact pk_
 ·rw [decide_eq_false (show ¬ (l.length : Int) < (nc : Int) by omega)]
  refine G tt_ok pk31 ?_
  refine CW.exit ?_
  have hk : l.length = nc := by omega
  rw [hk] at hl2 hl3 ⊢
  rw [List.take_of_length_le (by omega)] at hl2
  refine G tt_ok pk31 ?_
  have hC : Ent [pkA colF l] [colsA (l.map Lp.p) x.iw.w.cs] := (Ent.pureA (L := [pkA colF l]) ⟨rfl, hl2, by rw [hl3, hcsl]⟩).trans (Ent.exA (f := fun l' : List Lp => [pureA (Cols (l.map Lp.p) x.iw.w.cs l'), pkA colF l']) l)
  have hok' : Ha.ok ⟨m', dd', sp', g', fq', fc', lq', lc', l.map Lp.p⟩ nc := ⟨by simp [hk], hl4⟩
  refine CW.ret (fin_ret rfl (A := [hoA h nc x, hoA h' nc (x.setD E)]) ?_ ⟨h', E, rfl, hlike, rfl⟩)
  refine Ent.trans (M := [pkA colF l] ++ ([own 90 1 (.slice lq' nc lc') nc ((l.map Lp.p).flatMap ptC)] ++ ([own 100 8 (.slice fq' nc fc') nc (x.fs.flatMap fcC)] ++ ([pt h' (itH (.pointer (some ⟨m', 0, none⟩), .pointer (some ⟨dd', 0, none⟩), .slice fq' nc fc', .slice lq' nc lc', .pointer (some ⟨sp', 0, none⟩)) true x.iw.st x.iw.i x.j 64), shA sp' x.S, dpA dd' E, pt m' [.slice (some ⟨g'.1, 0, none⟩) x.iw.w.B.length (x.iw.w.B.length + g'.2.length)], pt g'.1 (bys x.iw.w.B ++ g'.2)] ++ hL h ⟨m, dd, sp, g, some ⟨gf, 0, none⟩, fc, lq, lc, ps⟩ nc x)))) (by unfold hL hRow lA fA; exact pk_) ?_
  refine (Ent.append hC (Ent.append own_row (Ent.append own_row (Ent.refl _)))).trans ?_
  refine Ent.trans (M := hL h ⟨m, dd, sp, g, some ⟨gf, 0, none⟩, fc, lq, lc, ps⟩ nc x ++ hL h' ⟨m', dd', sp', g', fq', fc', lq', lc', l.map Lp.p⟩ nc (x.setD E)) (by unfold hL hRow lA fA Hx.setD; exact pk_) ?_
  exact Ent.append (ho_shut ha) (ho_shut hok')
end Go.Proofs.YtakkogdmlbkdaaaGreatDoor.Sl.It
namespace Go.Proofs.YtakkogdmlbkdaaaGreatDoor.Sl.It
attribute [local irreducible] CW Tri OW
@[reducible] def pk39 : List (Nat × Plan) := [(15, [(0, 0, []), (1, 0, []), (2, 0, []), (3, 0, []), (4, 0, []), (5, 0, []), (6, 0, []), (7, 0, []), (8, 0, []), (9, 0, []), (10, 0, []), (11, 1, [3, 6, 10])]), (27, [(0, 0, []), (1, 0, []), (2, 0, []), (3, 0, []), (4, 0, []), (5, 0, []), (6, 0, []), (7, 0, []), (8, 0, []), (9, 0, []), (10, 0, []), (11, 0, []), (12, 0, []), (13, 1, [4, 8])])]
attribute [local irreducible] invK enK enV waitL
variable {T nc : Nat}
def propF (B : List Nat) : Nat → List Nat
 | 0 => B
 | k + 1 => wrN (propF B k) (10240 + k) 1 161
theorem propF_0 (B : List Nat) : propF B 0 = B := rfl
theorem propF_s (B : List Nat) (k : Nat) : propF B (k + 1) = wrN (propF B k) (10240 + k) 1 161 := rfl
def bootD (D : DS) : Nat → DS
 | 0 => (D.wrV 0 4 2).1
 | k + 1 => ((((bootD D k).wrV (1024 + ((32 + k) / 4 * 4 : Nat)) 4 2694881440).1.wrV (128 + ((32 + k) / 32 * 4 : Nat)) 4 4294967295).1.wrV (256 + ((32 + k) / 32 * 4 : Nat)) 4 4294967295).1
theorem bootD_s (D : DS) (k : Nat) : bootD D (k + 1) = ((((bootD D k).wrV (1024 + ((32 + k) / 4 * 4 : Nat)) 4 2694881440).1.wrV (128 + ((32 + k) / 32 * 4 : Nat)) 4 4294967295).1.wrV (256 + ((32 + k) / 32 * 4 : Nat)) 4 4294967295).1 := rfl
def facB (f : Fc) : Fc := ((((f.writeF 6 248).1).writeF 9 2).1.writeF 11 1).1
def bootE (w : SW) : Nat → SW
 | 0 => w
 | k + 1 => (bootE w k).en k
def bootF (fs : List Fc) : Nat → List Fc
 | 0 => fs
 | k + 1 => (bootF fs k).set k (facB (((bootF fs k)[k]?).getD fc0))
def leadsF (B : List Nat) : Nat → List Nat
 | 0 => B
 | k + 1 => leadV (leadsF B k) k
def mapcF (x : IW × Nat) : Nat → IW × Nat
 | 0 => x
 | k + 1 => ((cmdV (mapcF x k).2 (mapcF x k).1 (cmMapc k)).1, (cmdV (mapcF x k).2 (mapcF x k).1 (cmMapc k)).2.1)
theorem propF_ok {B : List Nat} (hB : okT T B.length) (hb : byOk B) : ∀ k, k ≤ 512 → okT T (propF B k).length ∧ byOk (propF B k)
 | 0, _ => ⟨hB, hb⟩
 | k + 1, hk => by
  obtain ⟨h1, h2⟩ := propF_ok hB hb k (by omega)
  rw [propF_s]
  exact ⟨by rw [wrN_len _ (by omega)]; exact h1, wrN_ok _ _ _ h2⟩
attribute [local irreducible] propF
theorem leadsF_ok {B : List Nat} (hB : okT T B.length) (hb : byOk B) : ∀ k, k ≤ 4 → okT T (leadsF B k).length ∧ byOk (leadsF B k)
 | 0, _ => ⟨hB, hb⟩
 | k + 1, hk => by
  obtain ⟨h1, h2⟩ := leadsF_ok hB hb k (by omega)
  exact leadV_ok h1 h2 (by omega)
theorem bootE_ok {w : SW} (hw : w.ok T nc) : ∀ k, k ≤ nc → (bootE w k).ok T nc
 | 0, _ => hw
 | k + 1, hk => SW.en_ok (bootE_ok hw k (by omega)) (by omega)
theorem bootF_len (fs : List Fc) : ∀ k, (bootF fs k).length = fs.length
 | 0 => rfl
 | k + 1 => by unfold bootF; rw [List.length_set, bootF_len fs k]
theorem mapcF_ok {x : IW × Nat} (hx : x.1.ok T nc) (hj : x.2 < 32) : ∀ k, (mapcF x k).1.ok T nc ∧ (mapcF x k).2 < 32
 | 0 => ⟨hx, hj⟩
 | k + 1 => by
  obtain ⟨h1, h2⟩ := mapcF_ok hx hj k
  exact cmdV_ok h1 h2 _
def row0 (h : Nat) (a : Ha) (nc : Nat) : Atom := pt h [.pointer (some ⟨a.m, 0, none⟩), .pointer (some ⟨a.dd, 0, none⟩), .slice a.fq nc a.fc, .slice a.lq nc a.lc, .bool false, .bool false, .int .i64 0, .int .i64 0, .int .i64 0, .int .i64 0, .int .i64 0, .int .i64 0, .int .i64 0, .int .i64 0, .int .i64 0, .pointer (some ⟨a.sp, 0, none⟩)]
def rst (a : Ha) (nc : Nat) (w : SW) (fs : List Fc) (S : Sh) (D : DS) : List Atom := [lA a nc, colsA a.ps w.cs, pt a.m [.slice (some ⟨a.g.1, 0, none⟩) w.B.length (w.B.length + a.g.2.length)], pt a.g.1 (bys w.B ++ a.g.2), shA a.sp S, fA a nc fs, dpA a.dd D]
theorem quo4 {k : Nat} (h : k < 1000) : IntKind.i64.wrap (IntKind.i64.wrap (((32 + k : Nat) : Int).tdiv 4) * 4) = (((32 + k) / 4 * 4 : Nat) : Int) := by
 rw [Int.tdiv_eq_ediv_of_nonneg (by omega), wrap_id (x := ((32 + k : Nat) : Int) / 4) (by omega) (by omega), wrap_id (by omega) (by omega)]; omega
theorem quo32 {k : Nat} (h : k < 1000) : IntKind.i64.wrap (IntKind.i64.wrap (((32 + k : Nat) : Int).tdiv 32) * 4) = (((32 + k) / 32 * 4 : Nat) : Int) := by
 rw [Int.tdiv_eq_ediv_of_nonneg (by omega), wrap_id (x := ((32 + k : Nat) : Int) / 32) (by omega) (by omega), wrap_id (by omega) (by omega)]; omega
def bootX (w : SW) (fs : List Fc) (S : Sh) (D : DS) (nc s : Nat) : Hx :=
 ⟨(mapcF (⟨⟨leadsF (bootE ⟨propF w.B 512, w.cs⟩ nc).B 4, (bootE ⟨propF w.B 512, w.cs⟩ nc).cs⟩, false, 0⟩, 0) nc).1, (mapcF (⟨⟨leadsF (bootE ⟨propF w.B 512, w.cs⟩ nc).B 4, (bootE ⟨propF w.B 512, w.cs⟩ nc).cs⟩, false, 0⟩, 0) nc).2, bootD D s, S, bootF fs nc⟩
set_option maxHeartbeats 16000000 in
theorem boot39 (β : Base) (h : Nat) (a : Ha) (ha : a.ok nc) (hn1 : 1 ≤ nc) (hn8 : nc ≤ 8) {w : SW} (hw : w.ok T nc) {fs : List Fc} (hfs : fs.length = nc) (S : Sh) (D : DS) {s : Nat} (hs : s ≤ 64) :
  Tri Tryz.prog β 39 [.pointer (some ⟨h, 0, none⟩), .int .i64 s] (row0 h a nc :: rst a nc w fs S D) (fun v L => v = .tuple #[] ∧ L = hL h a nc (bootX w fs S D nc s)) := by
 obtain ⟨hB, hb, hc⟩ := id hw
 obtain ⟨M, hM⟩ : ∃ M : Nat, M = 512 := ⟨_, rfl⟩
 have hpl := ha.l
 refine Tri.intro tt_ok Tryz.func39 rfl rfl Tryz.ntmps39 rfl fun F => ?_
 unfold row0 rst
 refine G tt_ok pk39 ?_
 refine CW.loop (α := Nat) (fun k => k ≤ M) (fun k => [(9, .int .i64 k), (0, .pointer (some ⟨h, 0, none⟩)), (1, .int .i64 s)]) (fun k => row0 h a nc :: rst a nc ⟨propF w.B k, w.cs⟩ fs S D) (fun k => M - k) 0 (by omega) ⟨rfl, rfl, rfl, trivial⟩ (by rw [propF_0]; unfold row0 rst; exact pk_) ?_
 intro k hk
 obtain ⟨hB1, hb1⟩ := propF_ok hB hb k (by omega)
 unfold row0 rst
 simp only
 refine G tt_ok pk39 ?_
 by_cases hlt : k < M
 ·rw [decide_eq_true (show (k : Int) < 512 by omega)]
  have hwr : IntKind.i64.wrap ((k : Int) + 1) = ((k + 1 : Nat) : Int) := by rw [wrap_id (by omega) (by omega)]; simp
  have hww : memWr (propF w.B k) 10240 512 (k : Int) 1 161 = (propF w.B (k + 1), 0) := by
   unfold memWr
   rw [if_pos (acc_c hB1 (by omega)), propF_s, show (10240 + (k : Int)).toNat = 10240 + k by omega]
   rfl
  have hwt := write68 β a.m a.g (propF w.B k) (by omega) 10240 512 (k : Int) 1 161 (by omega)
  rw [hww] at hwt
  unfold memA at hwt
  refine G tt_ok pk39 ?_
  refine ke rfl rfl (hwt) ?_
  refine G tt_ok pk39 ?_
  exact ⟨k + 1, by omega, by omega, ⟨by rw [← hwr]; rfl, rfl, rfl, trivial⟩, pk_⟩
 ·rw [decide_eq_false (show ¬ (k : Int) < 512 by omega)]
  obtain rfl : k = M := by omega
  subst hM
  refine G tt_ok pk39 ?_
  refine CW.exit ?_
  have hd0 := Tri.pk1 (write32 β a.dd D 0 4 2 (by omega))
  unfold dpA
  refine G tt_ok pk39 ?_
  refine ke rfl rfl (hd0) ?_
  refine G tt_ok pk39 ?_
  refine CW.loop (α := Nat) (fun k => k ≤ s) (fun k => [(5, .int .i64 ((32 + k : Nat) : Int)), (0, .pointer (some ⟨h, 0, none⟩)), (1, .int .i64 s)]) (fun k => row0 h a nc :: rst a nc ⟨propF w.B 512, w.cs⟩ fs S (bootD D k)) (fun k => s - k) 0 (by omega) ⟨rfl, rfl, rfl, trivial⟩ (by unfold row0 rst dpA bootD; exact pk_) ?_
  clear hk hlt
  intro k hk
  unfold row0 rst
  simp only
  refine G tt_ok pk39 ?_
  rw [show IntKind.i64.wrap (32 + (s : Int)) = ((32 + s : Nat) : Int) by rw [wrap_id (by omega) (by omega)]; omega]
  by_cases hlt : k < s
  ·rw [decide_eq_true (show ((32 + k : Nat) : Int) < ((32 + s : Nat) : Int) by omega)]
   have hwr : IntKind.i64.wrap (((32 + k : Nat) : Int) + 1) = ((32 + (k + 1) : Nat) : Int) := by rw [wrap_id (by omega) (by omega)]; omega
   have w1 : IntKind.i64.wrap (1024 + (((32 + k) / 4 * 4 : Nat) : Int)) = 1024 + (((32 + k) / 4 * 4 : Nat) : Int) := by rw [wrap_id (by omega) (by omega)]
   have w2 : IntKind.i64.wrap (128 + (((32 + k) / 32 * 4 : Nat) : Int)) = 128 + (((32 + k) / 32 * 4 : Nat) : Int) := by rw [wrap_id (by omega) (by omega)]
   have w3 : IntKind.i64.wrap (256 + (((32 + k) / 32 * 4 : Nat) : Int)) = 256 + (((32 + k) / 32 * 4 : Nat) : Int) := by rw [wrap_id (by omega) (by omega)]
   have q1 := quo4 (k := k) (by omega)
   have q2 := quo32 (k := k) (by omega)
   generalize hD1 : bootD D k = D1
   have h1 := Tri.pk1 (write32 β a.dd D1 (1024 + ((32 + k) / 4 * 4 : Nat)) 4 2694881440 (by omega))
   have h2 := Tri.pk1 (write32 β a.dd (D1.wrV (1024 + ((32 + k) / 4 * 4 : Nat)) 4 2694881440).1 (128 + ((32 + k) / 32 * 4 : Nat)) 4 4294967295 (by omega))
   have h3 := Tri.pk1 (write32 β a.dd ((D1.wrV (1024 + ((32 + k) / 4 * 4 : Nat)) 4 2694881440).1.wrV (128 + ((32 + k) / 32 * 4 : Nat)) 4 4294967295).1 (256 + ((32 + k) / 32 * 4 : Nat)) 4 4294967295 (by omega))
   unfold dpA
   refine G tt_ok pk39 ?_
   rw [q1, w1]
   refine ke rfl rfl (h1) ?_
   refine G tt_ok pk39 ?_
   rw [q2, w2]
   refine ke rfl rfl (h2) ?_
   refine G tt_ok pk39 ?_
   rw [q2, w3]
   refine ke rfl rfl (h3) ?_
   refine G tt_ok pk39 ?_
   exact ⟨k + 1, by omega, by omega, ⟨by rw [← hwr]; rfl, rfl, rfl, trivial⟩, by rw [bootD_s, hD1]; exact pk_⟩
  ·rw [decide_eq_false (show ¬ ((32 + k : Nat) : Int) < ((32 + s : Nat) : Int) by omega)]
   obtain rfl : s = k := by omega
   refine G tt_ok pk39 ?_
   refine CW.exit ?_
   unfold lA fA
   refine G tt_ok pk39 ?_
   have hw1 : (⟨propF w.B 512, w.cs⟩ : SW).ok T nc := ⟨hB1, hb1, hc⟩
   generalize hW1 : (⟨propF w.B 512, w.cs⟩ : SW) = W1 at hw1
   refine CW.loop (α := Nat) (fun k => k ≤ nc) (fun k => [(63, .int .i64 k), (62, .int .i64 nc), (0, .pointer (some ⟨h, 0, none⟩))]) (fun k => row0 h a nc :: rst a nc (bootE W1 k) (bootF fs k) S (bootD D s)) (fun k => nc - k) 0 (by omega) ⟨rfl, rfl, rfl, trivial⟩ (by unfold row0 rst lA fA bootE bootF; rw [← hW1]; exact pk_) ?_
   clear hk hlt
   intro k hk
   unfold row0 rst lA fA
   refine G tt_ok pk39 ?_
   by_cases hlt : k < nc
   ·rw [decide_eq_true (show (k : Int) < (nc : Int) by omega)]
    have hwr : IntKind.i64.wrap ((k : Int) + 1) = ((k + 1 : Nat) : Int) := by rw [wrap_id (by omega) (by omega)]; simp
    have hps : k < a.ps.length := by rw [hpl]; exact hlt
    have hen := enable59C β a.m a.g a.ps (bootE_ok hw1 k hk) hlt
    unfold swA memA at hen
    have hflen : (bootF fs k).length = nc := by rw [bootF_len, hfs]
    obtain ⟨f0, hf0⟩ : ∃ f, (bootF fs k)[k]? = some f := ⟨_, List.getElem?_eq_getElem (by omega)⟩
    have hFs : bootF fs (k + 1) = (bootF fs k).set k (facB f0) := by show (bootF fs k).set k (facB (((bootF fs k)[k]?).getD fc0)) = _; rw [hf0]; rfl
    have hEs : bootE W1 (k + 1) = (bootE W1 k).en k := rfl
    generalize bootF fs k = Z at hflen hf0 hFs ⊢
    have k1 := write71 β (q := a.fq) hf0 6 (v := 248) (by omega)
    have s1 : (Z.set k (f0.writeF 6 248).1)[k]? = some (f0.writeF 6 248).1 := by rw [List.getElem?_set_self (by omega)]
    have k2 := write71 β (q := a.fq) s1 9 (v := 2) (by omega)
    rw [List.set_set, List.length_set] at k2
    have s2 : (Z.set k ((f0.writeF 6 248).1.writeF 9 2).1)[k]? = some ((f0.writeF 6 248).1.writeF 9 2).1 := by rw [List.getElem?_set_self (by omega)]
    have k3 := write71 β (q := a.fq) s2 11 (v := 1) (by omega)
    rw [List.set_set, List.length_set] at k3
    rw [hflen] at k1 k2 k3
    refine G tt_ok pk39 ?_
    refine ir_ tt_ok rfl rfl (k) (rfl) rfl ?_ (hlt := hlt)
    refine G tt_ok pk39 ?_
    refine lr_ tt_ok rfl rfl (pt_row hps) ?_
    refine G tt_ok pk39 ?_
    (refine ka rfl rfl (hen) ?_; rintro _ _ ⟨rfl, rfl⟩; refine ⟨(by repeat (first | exact trivial | refine ⟨trivial, ?_⟩ | refine ⟨rr_ (pt_row hps), ?_⟩ | refine ⟨wk (by repeat (first | exact .h | exact .q | apply At.t)) (by rfl), ?_⟩)), ?_⟩)
    refine G tt_ok pk39 ?_
    refine ir_ tt_ok rfl rfl (k) (rfl) rfl ?_ (hlt := hlt)
    refine G tt_ok pk39 ?_
    refine ke rfl rfl (k1) ?_
    refine G tt_ok pk39 ?_
    refine ir_ tt_ok rfl rfl (k) (rfl) rfl ?_ (hlt := hlt)
    refine G tt_ok pk39 ?_
    refine ke rfl rfl (k2) ?_
    refine G tt_ok pk39 ?_
    refine ir_ tt_ok rfl rfl (k) (rfl) rfl ?_ (hlt := hlt)
    refine G tt_ok pk39 ?_
    refine ke rfl rfl (k3) ?_
    refine G tt_ok pk39 ?_
    exact ⟨k + 1, by omega, by omega, ⟨by rw [← hwr]; rfl, rfl, rfl, trivial⟩, by rw [hEs, hFs]; unfold facB; exact pk_⟩
   ·rw [decide_eq_false (show ¬ (k : Int) < (nc : Int) by omega)]
    obtain rfl : nc = k := by omega
    refine G tt_ok pk39 ?_
    refine CW.exit ?_
    refine G tt_ok pk39 ?_
    refine ke rfl rfl (new56 β) ?_
    refine G tt_ok pk39 ?_
    have hW2 := bootE_ok hw1 nc (Nat.le_refl nc)
    have hW2e : bootE ⟨propF w.B 512, w.cs⟩ nc = bootE W1 nc := by rw [hW1]
    generalize hW2g : bootE W1 nc = W2 at hW2 hW2e ⊢
    obtain ⟨hB2, hb2, hc2⟩ := hW2
    refine CW.loop (α := Nat) (fun k => k ≤ 4) (fun k => [(7, .int .i64 ((8 * k : Nat) : Int)), (0, .pointer (some ⟨h, 0, none⟩))]) (fun k => pt h (itH (hH a nc) true false 0 0 64) :: rst a nc ⟨leadsF W2.B k, W2.cs⟩ (bootF fs nc) S (bootD D s)) (fun k => 4 - k) 0 (by omega) ⟨rfl, rfl, trivial⟩ (by unfold rst lA fA leadsF; exact pk_) ?_
    clear hk hlt
    intro k hk
    obtain ⟨hB3, hb3⟩ := leadsF_ok hB2 hb2 k hk
    unfold rst lA fA
    simp only
    refine G tt_ok pk39 ?_
    by_cases hlt : k < 4
    ·rw [decide_eq_true (show ((8 * k : Nat) : Int) < 32 by omega)]
     have hwr : IntKind.i64.wrap (((8 * k : Nat) : Int) + 8) = ((8 * (k + 1) : Nat) : Int) := by rw [wrap_id (by omega) (by omega)]; omega
     have hld := lead54 β a.m a.g (leadsF W2.B k) hB3 hlt
     unfold memA at hld
     have hLs : leadsF W2.B (k + 1) = leadV (leadsF W2.B k) k := rfl
     refine G tt_ok pk39 ?_
     rw [show IntKind.i64.wrap (1280 + IntKind.i64.wrap (((8 * k : Nat) : Int) * 8)) = ((1280 + 64 * k : Nat) : Int) by rw [wrap_id (x := ((8 * k : Nat) : Int) * 8) (by omega) (by omega), wrap_id (by omega) (by omega)]; omega]
     refine ke rfl rfl (hld) ?_
     refine G tt_ok pk39 ?_
     exact ⟨k + 1, by omega, by omega, ⟨by rw [← hwr]; rfl, rfl, trivial⟩, by rw [hLs]; exact pk_⟩
    ·rw [decide_eq_false (show ¬ ((8 * k : Nat) : Int) < 32 by omega)]
     obtain rfl : k = 4 := by omega
     refine G tt_ok pk39 ?_
     refine CW.exit ?_
     refine G tt_ok pk39 ?_
     have hx0 : (⟨⟨leadsF W2.B 4, W2.cs⟩, false, 0⟩ : IW).ok T nc := ⟨⟨hB3, hb3, hc2⟩, by show 0 < 32; omega⟩
     have hbx : bootX w fs S D nc s = ⟨(mapcF (⟨⟨leadsF W2.B 4, W2.cs⟩, false, 0⟩, 0) nc).1, (mapcF (⟨⟨leadsF W2.B 4, W2.cs⟩, false, 0⟩, 0) nc).2, bootD D s, S, bootF fs nc⟩ := by unfold bootX; rw [hW2e]
     rw [hbx]
     generalize hX0 : ((⟨⟨leadsF W2.B 4, W2.cs⟩, false, 0⟩ : IW), (0 : Nat)) = X0
     have hX1 : X0.1.ok T nc := by rw [← hX0]; exact hx0
     have hX2 : X0.2 < 32 := by rw [← hX0]; show 0 < 32; omega
     refine CW.loop (α := Nat) (fun k => k ≤ nc) (fun k => [(147, .int .i64 k), (146, .int .i64 nc), (0, .pointer (some ⟨h, 0, none⟩))]) (fun k => hL h a nc ⟨(mapcF X0 k).1, (mapcF X0 k).2, bootD D s, S, bootF fs nc⟩) (fun k => nc - k) 0 (by omega) ⟨rfl, rfl, rfl, trivial⟩ (by unfold hL hRow lA fA mapcF; rw [← hX0]; exact pk_) ?_
     clear hk hlt
     intro k hk
     obtain ⟨hm1, hm2⟩ := mapcF_ok hX1 hX2 k
     unfold hL hRow lA fA
     simp only
     refine G tt_ok pk39 ?_
     by_cases hlt : k < nc
     ·rw [decide_eq_true (show (k : Int) < (nc : Int) by omega)]
      have hwr : IntKind.i64.wrap ((k : Int) + 1) = ((k + 1 : Nat) : Int) := by rw [wrap_id (by omega) (by omega)]; simp
      have hcm := hcmd74 β h (bootX w fs S D nc s) hm1 hm2 (cmMapc k) a ha
      have hMs : mapcF X0 (k + 1) = ((cmdV (mapcF X0 k).2 (mapcF X0 k).1 (cmMapc k)).1, (cmdV (mapcF X0 k).2 (mapcF X0 k).1 (cmMapc k)).2.1) := rfl
      refine G tt_ok pk39 ?_
      refine ke rfl rfl (hcm) ?_
      refine G tt_ok pk39 ?_
      exact ⟨k + 1, by omega, by omega, ⟨by rw [← hwr]; rfl, rfl, rfl, trivial⟩, by rw [hMs]; exact pk_⟩
     ·rw [decide_eq_false (show ¬ (k : Int) < (nc : Int) by omega)]
      obtain rfl : nc = k := by omega
      refine G tt_ok pk39 ?_
      refine CW.exit ?_
      refine G tt_ok pk39 ?_
      exact fin_normal (vs := []) rfl (A := hL h a nc ⟨(mapcF X0 nc).1, (mapcF X0 nc).2, bootD D s, S, bootF fs nc⟩) (by unfold hL hRow lA fA; exact pk_) ⟨rfl, rfl⟩
end Go.Proofs.YtakkogdmlbkdaaaGreatDoor.Sl.It
namespace Go.Proofs.YtakkogdmlbkdaaaGreatDoor.Sl.It
attribute [local irreducible] CW Tri OW
attribute [local irreducible] invK enK enV waitL propF
variable {T nc : Nat}
end Go.Proofs.YtakkogdmlbkdaaaGreatDoor.Sl.It
namespace Go.Proofs.YtakkogdmlbkdaaaGreatDoor.Sl.It
attribute [local irreducible] CW Tri OW
@[reducible] def pk11 : List (Nat × Plan) := [(18, [(0, 0, []), (1, 0, []), (2, 0, []), (3, 0, []), (4, 0, []), (5, 1, [4]), (6, 1, [4]), (7, 1, []), (8, 0, []), (9, 0, []), (10, 1, [])])]
attribute [local irreducible] invK enK enV waitL propF
variable {T nc : Nat}
theorem pcs0 (nc : Nat) (hn : nc ≤ 8) : pcsOk nc (List.replicate nc pcN) := by
 refine ⟨List.length_replicate, fun k hk => ?_⟩
 have e : (List.replicate nc pcN).getD k pc0 = pcN := by rw [List.getD_eq_getElem?_getD, List.getElem?_replicate, if_pos hk]; rfl
 rw [e]
 exact ⟨⟨by simp [pcN], by simp [pcN]⟩, by simp [pcN], by omega⟩
set_option maxHeartbeats 16000000 in
theorem hnew11 (β : Base) {c s z : Nat} (hc1 : 1 ≤ c) (hc8 : c ≤ 8) (hs : s ≤ 64) (hz1 : 11264 ≤ z) (hz2 : z ≤ 131072) : Tri Tryz.prog β 11 [.int .i64 c, .int .i64 s, .int .i64 z] []
  (fun v L => ∃ h D, newD D c s ∧ v = .tuple #[.pointer (some ⟨h, 0, none⟩), .int .i64 0] ∧ L = [hoA h c (bootX ⟨List.replicate z 0, List.replicate c pcN⟩ (List.replicate c fc0) ⟨[], []⟩ D c s)]) := by
 have hB0 : okT z (List.replicate z 0).length := ⟨List.length_replicate, hz1, by omega⟩
 have hb0 : byOk (List.replicate z 0) := fun b hb => by have := List.eq_of_mem_replicate hb; omega
 have hmn := new96 β (n := z) (by omega)
 refine Tri.intro tt_ok Tryz.func11 rfl rfl Tryz.ntmps11 rfl fun F => ?_
 generalize hzi : (z : Int) = zi at hmn ⊢
 refine G tt_ok pk11 ?_
 rw [decide_eq_false (show ¬ zi < 11264 by omega)]
 refine G tt_ok pk11 ?_
 (refine ka rfl rfl (hmn) ?_; rintro _ _ ⟨m, g, rfl, rfl⟩; refine w_ ?_)
 refine G tt_ok pk11 ?_
 (refine ka rfl rfl (new11' β hc1 hc8 hs) ?_; rintro _ _ ⟨d, D, rfl, rfl, hD⟩; refine w_ ?_)
 (refine G tt_ok pk11 ?_; repeat (refine G1 tt_ok pk11 ?_; intro _))
 rename_i h
 (refine ka rfl rfl (snew36 β) ?_; rintro _ _ ⟨sp, rfl, rfl⟩; refine w_ ?_)
 refine SQ.ent _ (tk_ (As := dA d D) (by have := Ent.pack (dA d D) []; simpa using this)) ?_
 refine G tt_ok pk11 ?_
 generalize hB : List.replicate z 0 = B at hB0 hb0 ⊢
 refine CW.ent ((own_nil 100 8).trans ((own_nil 90 1).trans (pk_nil (f := colF)))) ?_
 refine CW.loop (α := List Lp × (Option Addr × Nat) × (Option Addr × Nat)) (fun y => y.1.length ≤ c ∧ y.1.map Lp.pc = List.replicate y.1.length pcN ∧ y.1.map Lp.k = List.range y.1.length ∧ (y.1.map Lp.p).Nodup)
  (fun y => [(46, .int .i64 y.1.length), (45, .int .i64 c), (8, .pointer (some ⟨m, 0, none⟩)), (11, .pointer (some ⟨h, 0, none⟩)), (1, .int .i64 s)])
  (fun y => [pkA colF y.1, own 90 1 (.slice y.2.1.1 y.1.length y.2.1.2) y.1.length ((y.1.map Lp.p).flatMap ptC), own 100 8 (.slice y.2.2.1 y.1.length y.2.2.2) y.1.length ((List.replicate y.1.length fc0).flatMap fcC),
   pt h [.pointer (some ⟨m, 0, none⟩), .pointer (some ⟨d, 0, none⟩), .slice y.2.2.1 y.1.length y.2.2.2, .slice y.2.1.1 y.1.length y.2.1.2, .bool false, .bool false, .int .i64 0, .int .i64 0, .int .i64 0, .int .i64 0, .int .i64 0, .int .i64 0, .int .i64 0, .int .i64 0, .int .i64 0, .pointer (some ⟨sp, 0, none⟩)],
   shA sp ⟨[], []⟩, packA (dA d D), pt m [.slice (some ⟨g.1, 0, none⟩) B.length (B.length + g.2.length)], pt g.1 (bys B ++ g.2)]) (fun y => c - y.1.length) ([], (none, 0), (none, 0)) ⟨by simp, rfl, rfl, by simp⟩ ⟨rfl, rfl, rfl, rfl, rfl, trivial⟩ (by unfold memA; exact pk_) ?_
 rintro ⟨l, ⟨lq, lc⟩, ⟨fq, fc⟩⟩ ⟨hl1, hl2, hl3, hl4⟩
 simp only at hl1 hl2 hl3 hl4 ⊢
 refine G tt_ok pk11 ?_
 by_cases hlt : l.length < c
 ·rw [decide_eq_true (show (l.length : Int) < (c : Int) by omega)]
  have hwr : IntKind.i64.wrap ((l.length : Int) + 1) = ((l.length + 1 : Nat) : Int) := by rw [wrap_id (by omega) (by omega)]; simp
  generalize hk : l.length = k at hl1 hlt hwr hl2 hl3 ⊢
  have hln := new57 β m g (k := k) (by omega) B hB0
  unfold memA at hln
  refine G tt_ok pk11 ?_
  rw [show IntKind.i64.wrap (10752 + IntKind.i64.wrap (64 * (k : Int))) = ((10752 + 64 * k : Nat) : Int) by rw [wrap_id (x := 64 * (k : Int)) (by omega) (by omega), wrap_id (by omega) (by omega)]; omega]
  (refine ka rfl rfl (hln) ?_; rintro _ _ ⟨p, r, S, rfl, rfl⟩; refine w_ ?_)
  refine SQ.ent _ (tk_ (As := [pt p (lpC k false r S), pkA colF l]) pk_fresh) ?_
  refine SQ.pure_ fun hfr => ?_
  refine G tt_ok pk11 ?_
  (refine SQ.built tt_ok rfl rfl (fun _ => w_ ?_))
  refine G tt_ok pk11 ?_
  (refine SQ.appA tt_ok rfl rfl (by repeat (first | exact Rm.h | apply Rm.t)) (by repeat (first | exact .h | exact .q | apply At.t)) ([.pointer (some ⟨p, 0, none⟩)]) rfl rfl rfl (scal_eq rfl) (by omega) (by show (k + 1) * 8 ≤ _; omega) (fun qa ca => w_ ?_))
  refine G tt_ok pk11 ?_
  refine ke rfl rfl (fnew73 β) ?_
  refine G tt_ok pk11 ?_
  (refine SQ.built tt_ok rfl rfl (fun _ => w_ ?_))
  refine G tt_ok pk11 ?_
  (refine SQ.appA tt_ok rfl rfl (by repeat (first | exact Rm.h | apply Rm.t)) (by repeat (first | exact .h | exact .q | apply At.t)) (fcC fc0) rfl rfl rfl (scal_eq rfl) (by omega) (by show (k + 1) * 40 ≤ _; omega) (fun qb cb => w_ ?_))
  refine G tt_ok pk11 ?_
  have hlen : (l ++ [(⟨p, r, S, k, none, 0, false, [], List.replicate 512 0⟩ : Lp)]).length = k + 1 := by simp [hk]
  refine ⟨(l ++ [⟨p, r, S, k, none, 0, false, [], List.replicate 512 0⟩], (qa, ca), (qb, cb)), ⟨by simp only; rw [hlen]; omega, ?_, ?_, ?_⟩, by simp only; rw [hlen]; omega, ⟨by simp only; rw [hlen, ← hwr]; rfl, rfl, rfl, rfl, rfl, trivial⟩, ?_⟩
  ·simp only
   rw [hlen, List.map_append, hl2, show List.replicate (k + 1) pcN = List.replicate k pcN ++ [pcN] from List.replicate_succ']; rfl
  ·simp only
   rw [hlen, List.map_append, hl3, List.range_succ]; rfl
  ·simp only [List.map_append, List.map_cons, List.map_nil]
   exact List.nodup_append.2 ⟨hl4, by simp, fun b hb c hc => by simp only [List.mem_singleton] at hc; subst hc; intro e; subst e; exact hfr hb⟩
  ·simp only
   rw [hlen]
   rw [show List.replicate (k + 1) fc0 = List.replicate k fc0 ++ [fc0] from List.replicate_succ']
   simp only [List.map_append, List.map_cons, List.map_nil, List.flatMap_append]
   refine Ent.trans (M := (colF ⟨p, r, S, k, none, 0, false, [], List.replicate 512 0⟩ ++ [pkA colF l]) ++ _) ?_ (Ent.append pk_snoc (Ent.refl _))
   unfold colF colA setL
   exact pk_
 ·rw [decide_eq_false (show ¬ (l.length : Int) < (c : Int) by omega)]
  refine G tt_ok pk11 ?_
  refine CW.exit ?_
  have hk : l.length = c := by omega
  rw [hk] at hl2 hl3 ⊢
  have hC : Ent [pkA colF l] [colsA (l.map Lp.p) (List.replicate c pcN)] := (Ent.pureA (L := [pkA colF l]) ⟨rfl, hl2, by rw [hl3, List.length_replicate]⟩).trans (Ent.exA (f := fun l' : List Lp => [pureA (Cols (l.map Lp.p) (List.replicate c pcN) l'), pkA colF l']) l)
  have hok' : Ha.ok ⟨m, d, sp, g, fq, fc, lq, lc, l.map Lp.p⟩ c := ⟨by simp [hk], hl4⟩
  have hbt := boot39 β h ⟨m, d, sp, g, fq, fc, lq, lc, l.map Lp.p⟩ hok' hc1 hc8 (w := ⟨B, List.replicate c pcN⟩) ⟨hB0, hb0, pcs0 c hc8⟩ (fs := List.replicate c fc0) List.length_replicate ⟨[], []⟩ D hs
  refine CW.ent (L' := row0 h ⟨m, d, sp, g, fq, fc, lq, lc, l.map Lp.p⟩ c :: rst ⟨m, d, sp, g, fq, fc, lq, lc, l.map Lp.p⟩ c ⟨B, List.replicate c pcN⟩ (List.replicate c fc0) ⟨[], []⟩ D) ?_ ?_
  ·refine Ent.trans (M := [pkA colF l] ++ ([own 90 1 (.slice lq c lc) c ((l.map Lp.p).flatMap ptC)] ++ ([own 100 8 (.slice fq c fc) c ((List.replicate c fc0).flatMap fcC)] ++ [pt h [.pointer (some ⟨m, 0, none⟩), .pointer (some ⟨d, 0, none⟩), .slice fq c fc, .slice lq c lc, .bool false, .bool false, .int .i64 0, .int .i64 0, .int .i64 0, .int .i64 0, .int .i64 0, .int .i64 0, .int .i64 0, .int .i64 0, .int .i64 0, .pointer (some ⟨sp, 0, none⟩)],
    shA sp ⟨[], []⟩, packA (dA d D), pt m [.slice (some ⟨g.1, 0, none⟩) B.length (B.length + g.2.length)], pt g.1 (bys B ++ g.2)]))) pk_ ?_
   refine (Ent.append hC (Ent.append own_row (Ent.append own_row (Ent.refl _)))).trans ?_
   unfold row0 rst lA fA dpA
   exact pk_
  refine G tt_ok pk11 ?_
  refine ke rfl rfl (hbt) ?_
  refine G tt_ok pk11 ?_
  refine CW.ret (fin_ret rfl (A := [hoA h c (bootX ⟨B, List.replicate c pcN⟩ (List.replicate c fc0) ⟨[], []⟩ D c s)]) (ho_pick hok' pk_) ⟨h, D, hD, rfl, rfl⟩)
end Go.Proofs.YtakkogdmlbkdaaaGreatDoor.Sl.It
namespace Go.Proofs.YtakkogdmlbkdaaaGreatDoor.Sl.It
attribute [local irreducible] CW Tri OW
structure Da where
 s : Nat
 dq : Option Addr
 dc : Nat
 eq : Option Addr
 ec : Nat
 hq : Option Addr
 hc : Nat
 aq : Option Addr
 ac : Nat
 sq : Option Addr
 sc : Nat
structure Rx where
 de : List Int
 ev : List Int
 core : List Int
 wait : List Bool
 high : List Bool
 act : List Bool
 asl : List Bool
structure Rx.ok (ns nc : Nat) (R : Rx) : Prop where
 de : R.de.length = 512
 ev : R.ev.length = 512
 core : R.core.length = 512
 wait : R.wait.length = 512
 high : R.high.length = ns
 act : R.act.length = ns
 asl : R.asl.length = nc
 n64 : ns ≤ 64
 n8 : nc ≤ 8
@[reducible] def bS (l : List Bool) : List Value := l.map Value.bool
def rowR (a : Da) (ns nc : Nat) (core : List Int) (wait : List Bool) : List Value :=
 .pointer (some ⟨a.s, 0, none⟩) :: (iS core ++ (bS wait ++ [.slice a.hq ns a.hc, .slice a.aq ns a.ac, .slice a.sq nc a.sc]))
def rfL (r : Nat) (a : Da) (ns nc : Nat) (R : Rx) : List Atom :=
 [pt r (rowR a ns nc R.core R.wait), pt a.s [.slice a.dq 512 a.dc, .slice a.eq 512 a.ec], rowA a.dq 512 (iS R.de), rowA a.eq 512 (iS R.ev), rowA a.hq ns (bS R.high), rowA a.aq ns (bS R.act), rowA a.sq nc (bS R.asl)]
def rfA (r ns nc : Nat) (R : Rx) : Atom := exA fun a : Da => rfL r a ns nc R
theorem rf_shut {r : Nat} {a : Da} {ns nc : Nat} {R : Rx} : Ent (rfL r a ns nc R) [rfA r ns nc R] := Ent.exA (f := fun a : Da => rfL r a ns nc R) a
theorem rf_pick {L : List Atom} {r : Nat} {a : Da} {ns nc : Nat} {R : Rx} (e : Ent L (rfL r a ns nc R)) : Ent L [rfA r ns nc R] := e.trans rf_shut
theorem flat1 (C : List Value) : C.flatMap (fun v => [v]) = C := by simp
theorem rd3 {C : List Value} {k : Nat} {z : Int} (h : C[k]? = some (.int .i64 z)) (X : List Value) : rdv ti3 (C ++ X) (0 + k * 1) = some (.int .i64 z) := by
 have := rd_partR (enc := fun v : Value => [v]) (sz := 1) (fun _ => rfl) h 0 (off := 0 + k * 1) (i := ti3) rfl (by decide) (by omega) (by decide) X
 rwa [flat1] at this
theorem rd4 {C : List Value} {k : Nat} {z : Bool} (h : C[k]? = some (.bool z)) (X : List Value) : rdv ti4 (C ++ X) (0 + k * 1) = some (.bool z) := by
 have := rd_partR (enc := fun v : Value => [v]) (sz := 1) (fun _ => rfl) h 0 (off := 0 + k * 1) (i := ti4) rfl (by decide) (by omega) (by decide) X
 rwa [flat1] at this
theorem rd106 {C : List Value} {k : Nat} {q : Option Addr} {n c : Nat} (h : C[k]? = some (.slice q n c)) (X : List Value) : rdv ti106 (C ++ X) (0 + k * 1) = some (.slice q n c) := by
 have := rd_partR (enc := fun v : Value => [v]) (sz := 1) (fun _ => rfl) h 0 (off := 0 + k * 1) (i := ti106) rfl (by decide) (by omega) (by decide) X
 rwa [flat1] at this
theorem wr3 {C : List Value} {k : Nat} {y : Value} (h : C[k]? = some y) (z : Int) (X : List Value) : wrv ti3 (C ++ X) (0 + k * 1) (.int .i64 z) = some (C.set k (.int .i64 z) ++ X) := by
 have := wr_encR (enc := fun v : Value => [v]) (sz := 1) (fun _ => rfl) h 0 (off := 0 + k * 1) (i := ti3) (e' := Value.int .i64 z) (v := Value.int .i64 z) (by decide) rfl rfl (by omega) X
 rwa [flat1, flat1] at this
theorem wr4 {C : List Value} {k : Nat} {y : Value} (h : C[k]? = some y) (z : Bool) (X : List Value) : wrv ti4 (C ++ X) (0 + k * 1) (.bool z) = some (C.set k (.bool z) ++ X) := by
 have := wr_encR (enc := fun v : Value => [v]) (sz := 1) (fun _ => rfl) h 0 (off := 0 + k * 1) (i := ti4) (e' := Value.bool z) (v := Value.bool z) (by decide) rfl rfl (by omega) X
 rwa [flat1, flat1] at this
theorem iS_at {l : List Int} {k : Nat} (h : k < l.length) : (iS l)[k]? = some (.int .i64 (l.getD k 0)) := getD_i h
theorem bS_at {l : List Bool} {k : Nat} (h : k < l.length) : (bS l)[k]? = some (.bool (l.getD k false)) := by
 rw [List.getElem?_map, List.getElem?_eq_getElem h, List.getD_eq_getElem?_getD, List.getElem?_eq_getElem h]; rfl
theorem iS_set (l : List Int) (k : Nat) (z : Int) : (iS l).set k (.int .i64 z) = iS (l.set k z) := by unfold iS; rw [List.map_set]
theorem bS_set (l : List Bool) (k : Nat) (z : Bool) : (bS l).set k (.bool z) = bS (l.set k z) := by unfold bS; rw [List.map_set]
section
variable {a : Da} {ns nc : Nat} {core : List Int} {wait : List Bool}
theorem row_core (hc : core.length = 512) {n : Nat} (hn : n < 512) : (rowR a ns nc core wait)[1 + n]? = some (.int .i64 (core.getD n 0)) := by
 unfold rowR
 rw [Nat.add_comm, List.getElem?_cons_succ, List.getElem?_append_left (by simp; omega), iS_at (by omega)]
theorem row_wait (hc : core.length = 512) (hw : wait.length = 512) {n : Nat} (hn : n < 512) : (rowR a ns nc core wait)[513 + n]? = some (.bool (wait.getD n false)) := by
 unfold rowR
 rw [show 513 + n = (512 + n) + 1 by omega, List.getElem?_cons_succ, List.getElem?_append_right (by simp; omega), List.getElem?_append_left (by simp; omega)]
 rw [show 512 + n - (iS core).length = n by simp; omega, bS_at (by omega)]
theorem row_sl (hc : core.length = 512) (hw : wait.length = 512) {n : Nat} (hn : n < 3) : (rowR a ns nc core wait)[1025 + n]? = ([.slice a.hq ns a.hc, .slice a.aq ns a.ac, .slice a.sq nc a.sc] : List Value)[n]? := by
 unfold rowR
 rw [show 1025 + n = (1024 + n) + 1 by omega, List.getElem?_cons_succ, List.getElem?_append_right (by simp; omega), List.getElem?_append_right (by simp; omega)]
 rw [show 1024 + n - (iS core).length - (bS wait).length = n by simp; omega]
theorem rd_core (hc : core.length = 512) {n : Nat} (hn : n < 512) : rdv ti3 (rowR a ns nc core wait) (1 + n * 1) = some (.int .i64 (core.getD n 0)) := by
 have := rd3 (row_core (a := a) (ns := ns) (nc := nc) (wait := wait) hc hn) []
 rw [List.append_nil] at this
 rwa [show 1 + n * 1 = 0 + (1 + n) * 1 by omega]
theorem rd_wait (hc : core.length = 512) (hw : wait.length = 512) {n : Nat} (hn : n < 512) : rdv ti4 (rowR a ns nc core wait) (513 + n * 1) = some (.bool (wait.getD n false)) := by
 have := rd4 (row_wait (a := a) (ns := ns) (nc := nc) hc hw hn) []
 rw [List.append_nil] at this
 rwa [show 513 + n * 1 = 0 + (513 + n) * 1 by omega]
theorem rd_hi (hc : core.length = 512) (hw : wait.length = 512) : rdv ti106 (rowR a ns nc core wait) 1025 = some (.slice a.hq ns a.hc) := by
 have := rd106 (row_sl (a := a) (ns := ns) (nc := nc) hc hw (n := 0) (by omega)) []
 rwa [List.append_nil] at this
theorem rd_ac (hc : core.length = 512) (hw : wait.length = 512) : rdv ti106 (rowR a ns nc core wait) 1026 = some (.slice a.aq ns a.ac) := by
 have := rd106 (row_sl (a := a) (ns := ns) (nc := nc) hc hw (n := 1) (by omega)) []
 rwa [List.append_nil] at this
theorem rd_as (hc : core.length = 512) (hw : wait.length = 512) : rdv ti106 (rowR a ns nc core wait) 1027 = some (.slice a.sq nc a.sc) := by
 have := rd106 (row_sl (a := a) (ns := ns) (nc := nc) hc hw (n := 2) (by omega)) []
 rwa [List.append_nil] at this
theorem wr_core (hc : core.length = 512) {n : Nat} (hn : n < 512) (z : Int) : wrv ti3 (rowR a ns nc core wait) (1 + n * 1) (.int .i64 z) = some (rowR a ns nc (core.set n z) wait) := by
 have := wr3 (row_core (a := a) (ns := ns) (nc := nc) (wait := wait) hc hn) z []
 rw [List.append_nil, List.append_nil] at this
 rw [show 1 + n * 1 = 0 + (1 + n) * 1 by omega, this]
 unfold rowR
 rw [Nat.add_comm 1 n, List.set_cons_succ, List.set_append_left _ _ (by simp; omega), iS_set]
theorem wr_wait (hc : core.length = 512) (hw : wait.length = 512) {n : Nat} (hn : n < 512) (z : Bool) : wrv ti4 (rowR a ns nc core wait) (513 + n * 1) (.bool z) = some (rowR a ns nc core (wait.set n z)) := by
 have := wr4 (row_wait (a := a) (ns := ns) (nc := nc) hc hw hn) z []
 rw [List.append_nil, List.append_nil] at this
 rw [show 513 + n * 1 = 0 + (513 + n) * 1 by omega, this]
 unfold rowR
 rw [show 513 + n = (512 + n) + 1 by omega, List.set_cons_succ, List.set_append_right _ _ (by simp; omega), List.set_append_left _ _ (by simp; omega)]
 rw [show 512 + n - (iS core).length = n by simp; omega, bS_set]
end
end Go.Proofs.YtakkogdmlbkdaaaGreatDoor.Sl.It
namespace Go.Proofs.YtakkogdmlbkdaaaGreatDoor.Sl.It
attribute [local irreducible] CW Tri OW
@[reducible] def pk93 : List (Nat × Plan) := []
@[reducible] def pk44 : List (Nat × Plan) := []
@[reducible] def pk120 : List (Nat × Plan) := []
def fnd (de ev : List Int) (d e : Int) : Option Nat := if mayE d e then (List.range 512).find? (fun i => de.getD i 0 == d && ev.getD i 0 == e) else none
theorem fnd_no {de ev : List Int} {d e : Int} (h : mayE d e = false) : fnd de ev d e = none := by unfold fnd; rw [h]; rfl
theorem fnd_yes {de ev : List Int} {d e : Int} (h : mayE d e = true) {k : Nat} (hk : k < 512) (hp : (de.getD k 0 == d && ev.getD k 0 == e) = true) (hb : ∀ j, j < k → (de.getD j 0 == d && ev.getD j 0 == e) = false) : fnd de ev d e = some k := by
 unfold fnd
 rw [h, if_pos rfl, List.find?_range_eq_some]
 exact ⟨hp, by simpa using hk, fun j hj => by simp only [hb j hj]; rfl⟩
theorem fnd_none {de ev : List Int} {d e : Int} (hb : mayE d e = true → ∀ j, j < 512 → (de.getD j 0 == d && ev.getD j 0 == e) = false) : fnd de ev d e = none := by
 unfold fnd
 split
 ·rename_i h
  rw [List.find?_eq_none]
  intro j hj
  rw [hb h j (by simpa using hj)]; simp
 ·rfl
theorem fnd_eq {de ev : List Int} {d e : Int} {k : Nat} (h : fnd de ev d e = some k) : mayE d e = true ∧ k < 512 ∧ de.getD k 0 = d ∧ ev.getD k 0 = e ∧ ∀ j, j < k → (de.getD j 0 == d && ev.getD j 0 == e) = false := by
 unfold fnd at h
 split at h
 ·rename_i hm
  rw [List.find?_range_eq_some] at h
  obtain ⟨h1, h2, h3⟩ := h
  simp only [Bool.and_eq_true, beq_iff_eq] at h1
  refine ⟨hm, by simpa using h2, h1.1, h1.2, fun j hj => ?_⟩
  have := h3 j hj
  rwa [Bool.not_eq_true'] at this
 ·cases h
theorem fnd_not {de ev : List Int} {d e : Int} (h : fnd de ev d e = none) (hm : mayE d e = true) : ∀ j, j < 512 → (de.getD j 0 == d && ev.getD j 0 == e) = false := by
 unfold fnd at h
 rw [hm, if_pos rfl, List.find?_eq_none] at h
 intro j hj
 exact Bool.eq_false_iff.2 (h j (by simpa using hj))
attribute [local irreducible] fnd
def fndI (o : Option Nat) : Int := match o with
 | some n => n
 | none => -1
theorem rmay148 (β : Base) (d e : Int) : Tri Tryz.prog β 148 [.int .i64 d, .int .i64 e] [] (fun v L => v = .bool (mayE d e) ∧ L = []) := by
 refine Tri.intro tt_ok Tryz.func148 rfl rfl Tryz.ntmps148 rfl fun F => ?_
 unfold mayE
 (repeat' (first | refine CW.seq ?_ | refine CW.region tt_ok rfl ?_ | refine CW.block ?_ | refine CW.skip ?_ | refine SQ.nil ?_ | refine SQ.pures1 tt_ok rfl ?_ | refine SQ.pure1 tt_ok rfl ?_ | refine SQ.new _ _ rfl rfl (fun _ => ?_) | refine SQ.ldA tt_ok rfl rfl (by repeat (first | exact .h | exact .q | apply At.t)) (by rfl) ?_ | refine SQ.stA tt_ok rfl rfl (by repeat (first | apply Up.h | apply Up.t)) (by rfl) (by rfl) (by repeat (first | exact trivial | refine ⟨trivial, ?_⟩ | refine ⟨wk (by repeat (first | exact .h | exact .q | apply At.t)) (by rfl), ?_⟩)) ?_ | refine CW.cond_tt rfl ?_ | refine CW.cond_ff rfl ?_ | ((first | refine CW.cond rfl (fun hc => ?_) (fun hc => ?_) | refine SQ.gsplit rfl (fun hc => ?_) (fun hc => ?_)) <;> try (exfalso; simp_all; done))))
 all_goals exact CW.ret (fin_ret rfl (A := []) pk_ ⟨by (show Value.bool _ = Value.bool _); congr 1; rw [Bool.eq_iff_iff]; simp_all <;> omega, rfl⟩)
def sdL (s : Nat) (dq : Option Addr) (dc : Nat) (eq : Option Addr) (ec : Nat) (de ev : List Int) : List Atom := [pt s [.slice dq 512 dc, .slice eq 512 ec], rowA dq 512 (iS de), rowA eq 512 (iS ev)]
set_option maxHeartbeats 4000000 in
theorem rfind93 (β : Base) (s : Nat) (dq : Option Addr) (dc : Nat) (eq : Option Addr) (ec : Nat) {de ev : List Int} (hd : de.length = 512) (he : ev.length = 512) (d e : Int) :
  Tri Tryz.prog β 93 [.pointer (some ⟨s, 0, none⟩), .int .i64 d, .int .i64 e] (sdL s dq dc eq ec de ev) (fun v L => v = .int .i64 (fndI (fnd de ev d e)) ∧ L = sdL s dq dc eq ec de ev) := by
 refine Tri.intro tt_ok Tryz.func93 rfl rfl Tryz.ntmps93 rfl fun F => ?_
 obtain ⟨M, hM⟩ : ∃ M : Nat, M = 512 := ⟨_, rfl⟩
 unfold sdL
 refine G tt_ok pk93 ?_
 refine CW.loop (α := Nat) (fun k => k ≤ M ∧ (mayE d e = true → ∀ j, j < k → (de.getD j 0 == d && ev.getD j 0 == e) = false)) (fun k => [(7, .int .i64 k), (0, .pointer (some ⟨s, 0, none⟩)), (1, .int .i64 d), (2, .int .i64 e)])
  (fun k => [pt s [.slice dq 512 dc, .slice eq 512 ec], rowA dq 512 (iS de), rowA eq 512 (iS ev)]) (fun k => M - k) 0 ⟨by omega, fun _ j hj => by omega⟩ ⟨rfl, rfl, rfl, rfl, trivial⟩ pk_ ?_
 rintro k ⟨hk, hb⟩
 refine G tt_ok pk93 ?_
 by_cases hlt : k < M
 ·rw [decide_eq_true (show (k : Int) < ((512 : Nat) : Int) by omega)]
  have hwr : IntKind.i64.wrap ((k : Int) + 1) = ((k + 1 : Nat) : Int) := by rw [wrap_id (by omega) (by omega)]; simp
  have hl : k < 512 := by omega
  have r1 := rd3 (iS_at (l := de) (k := k) (by omega))
  have r2 := rd3 (iS_at (l := ev) (k := k) (by omega))
  refine G tt_ok pk93 ?_
  refine ke rfl rfl (rmay148 β d e) ?_
  cases hm : mayE d e with
  | false =>
   refine G tt_ok pk93 ?_
   exact ⟨k + 1, ⟨by omega, fun h => by simp at h⟩, by omega, ⟨by rw [← hwr]; rfl, rfl, rfl, rfl, trivial⟩, pk_⟩
  | true =>
   have hb2 := hb hm
   refine G tt_ok pk93 ?_
   refine ir_ tt_ok rfl rfl (k) (rfl) rfl ?_ (hlt := hl)
   refine G tt_ok pk93 ?_
   refine lr_ tt_ok rfl rfl (r1) ?_
   refine G tt_ok pk93 ?_
   by_cases hd2 : de.getD k 0 = d
   ·rw [show (de.getD k 0 == d) = true from beq_iff_eq.2 hd2]
    refine G tt_ok pk93 ?_
    refine ir_ tt_ok rfl rfl (k) (rfl) rfl ?_ (hlt := hl)
    refine G tt_ok pk93 ?_
    refine lr_ tt_ok rfl rfl (r2) ?_
    refine G tt_ok pk93 ?_
    by_cases he2 : ev.getD k 0 = e
    ·rw [show (ev.getD k 0 == e) = true from beq_iff_eq.2 he2]
     refine G tt_ok pk93 ?_
     rw [fnd_yes hm hl (by rw [beq_iff_eq.2 hd2, beq_iff_eq.2 he2]; rfl) hb2]
     exact CW.ret (fin_ret rfl (A := [pt s [.slice dq 512 dc, .slice eq 512 ec], rowA dq 512 (iS de), rowA eq 512 (iS ev)]) pk_ ⟨rfl, rfl⟩)
    ·rw [show (ev.getD k 0 == e) = false from beq_eq_false_iff_ne.2 he2]
     refine G tt_ok pk93 ?_
     refine ⟨k + 1, ⟨by omega, fun _ j hj => ?_⟩, by omega, ⟨by rw [← hwr]; rfl, rfl, rfl, rfl, trivial⟩, pk_⟩
     rcases Nat.lt_succ_iff_lt_or_eq.1 hj with h1 | h1
     ·exact hb2 j h1
     ·subst h1; rw [beq_eq_false_iff_ne.2 he2, Bool.and_false]
   ·rw [show (de.getD k 0 == d) = false from beq_eq_false_iff_ne.2 hd2]
    refine G tt_ok pk93 ?_
    refine ⟨k + 1, ⟨by omega, fun _ j hj => ?_⟩, by omega, ⟨by rw [← hwr]; rfl, rfl, rfl, rfl, trivial⟩, pk_⟩
    rcases Nat.lt_succ_iff_lt_or_eq.1 hj with h1 | h1
    ·exact hb2 j h1
    ·subst h1; rw [beq_eq_false_iff_ne.2 hd2, Bool.false_and]
 ·rw [decide_eq_false (show ¬ (k : Int) < ((512 : Nat) : Int) by omega)]
  refine G tt_ok pk93 ?_
  refine CW.exit ?_
  refine G tt_ok pk93 ?_
  rw [fnd_none (fun h j hj => hb h j (by omega))]
  exact CW.ret (fin_ret rfl (A := [pt s [.slice dq 512 dc, .slice eq 512 ec], rowA dq 512 (iS de), rowA eq 512 (iS ev)]) pk_ ⟨rfl, rfl⟩)
section
variable {ns nc : Nat}
theorem rthere44 (β : Base) (r : Nat) (a : Da) {core : List Int} {wait : List Bool} (hc : core.length = 512) (hw : wait.length = 512) (k : Int) : Tri Tryz.prog β 44 [.pointer (some ⟨r, 0, none⟩), .int .i64 k] [pt r (rowR a ns nc core wait)] (fun v L => v = .bool (rightV nc k) ∧ L = [pt r (rowR a ns nc core wait)]) := by
 refine Tri.intro tt_ok Tryz.func44 rfl rfl Tryz.ntmps44 rfl fun F => ?_
 have h5 := rd_as (a := a) (ns := ns) (nc := nc) hc hw
 unfold rightV
 generalize rowR a ns nc core wait = C at h5 ⊢
 refine G tt_ok pk44 ?_
 by_cases h0 : k ≥ 0
 ·rw [decide_eq_true h0]
  refine G tt_ok pk44 ?_
  (refine SQ.ldA tt_ok rfl rfl (by repeat (first | exact .h | exact .q | apply At.t)) (h5) ?_)
  refine G tt_ok pk44 ?_
  exact CW.ret (fin_ret rfl (A := [pt r C]) pk_ ⟨rfl, rfl⟩)
 ·rw [decide_eq_false h0]
  refine G tt_ok pk44 ?_
  exact CW.ret (fin_ret rfl (A := [pt r C]) pk_ ⟨rfl, rfl⟩)
def shrI (ns : Nat) (id : Int) : Int := if id < 32 ∨ id - 32 ≥ ns then -1 else id - 32
theorem rshared120 (β : Base) (r : Nat) (a : Da) {core : List Int} {wait : List Bool} (hc : core.length = 512) (hw : wait.length = 512) (id : Int) (hid : id < 9223372036854775808) : Tri Tryz.prog β 120 [.pointer (some ⟨r, 0, none⟩), .int .i64 id] [pt r (rowR a ns nc core wait)] (fun v L => v = .int .i64 (shrI ns id) ∧ L = [pt r (rowR a ns nc core wait)]) := by
 refine Tri.intro tt_ok Tryz.func120 rfl rfl Tryz.ntmps120 rfl fun F => ?_
 have h5 := rd_hi (a := a) (ns := ns) (nc := nc) hc hw
 generalize rowR a ns nc core wait = C at h5 ⊢
 unfold shrI
 refine G tt_ok pk120 ?_
 by_cases h0 : id < 32
 ·rw [decide_eq_true h0, if_pos (.inl h0)]
  refine G tt_ok pk120 ?_
  exact CW.ret (fin_ret rfl (A := [pt r C]) pk_ ⟨rfl, rfl⟩)
 ·rw [decide_eq_false h0]
  have hw2 : IntKind.i64.wrap (id - 32) = id - 32 := by rw [wrap_id (by omega) (by omega)]
  refine G tt_ok pk120 ?_
  (refine SQ.ldA tt_ok rfl rfl (by repeat (first | exact .h | exact .q | apply At.t)) (h5) ?_)
  refine G tt_ok pk120 ?_
  rw [hw2]
  by_cases h1 : id - 32 ≥ ns
  ·rw [decide_eq_true h1, if_pos (.inr h1)]
   refine G tt_ok pk120 ?_
   exact CW.ret (fin_ret rfl (A := [pt r C]) pk_ ⟨rfl, rfl⟩)
  ·rw [decide_eq_false h1, if_neg (by omega)]
   refine G tt_ok pk120 ?_
   rw [hw2]
   exact CW.ret (fin_ret rfl (A := [pt r C]) pk_ ⟨rfl, rfl⟩)
end
end Go.Proofs.YtakkogdmlbkdaaaGreatDoor.Sl.It
namespace Go.Proofs.YtakkogdmlbkdaaaGreatDoor.Sl.It
attribute [local irreducible] CW Tri OW
@[reducible] def pk119 : List (Nat × Plan) := []
@[reducible] def pk118 : List (Nat × Plan) := []
attribute [local irreducible] fnd
def frI (de : List Int) : Option Nat := (List.range 512).find? (fun i => decide (de.getD i 0 < 0))
theorem frI_yes {de : List Int} {k : Nat} (hk : k < 512) (hp : de.getD k 0 < 0) (hb : ∀ j, j < k → ¬ de.getD j 0 < 0) : frI de = some k := by
 unfold frI
 rw [List.find?_range_eq_some]
 exact ⟨decide_eq_true hp, by simpa using hk, fun j hj => by simp only [decide_eq_false (hb j hj)]; rfl⟩
theorem frI_no {de : List Int} (hb : ∀ j, j < 512 → ¬ de.getD j 0 < 0) : frI de = none := by
 unfold frI
 rw [List.find?_eq_none]
 intro j hj
 rw [decide_eq_false (hb j (by simpa using hj))]; simp
theorem frI_eq {de : List Int} {k : Nat} (h : frI de = some k) : k < 512 ∧ de.getD k 0 < 0 ∧ ∀ j, j < k → ¬ de.getD j 0 < 0 := by
 unfold frI at h
 rw [List.find?_range_eq_some] at h
 obtain ⟨h1, h2, h3⟩ := h
 refine ⟨by simpa using h2, by simpa only [decide_eq_true_eq] using h1, fun j hj => ?_⟩
 have := h3 j hj
 rw [Bool.not_eq_true'] at this
 exact of_decide_eq_false this
theorem frI_not {de : List Int} (h : frI de = none) : ∀ j, j < 512 → ¬ de.getD j 0 < 0 := by
 unfold frI at h
 rw [List.find?_eq_none] at h
 intro j hj hn
 exact h j (by simpa using hj) (decide_eq_true hn)
attribute [local irreducible] frI
def rbV (de ev : List Int) (d e : Int) : (Int × Int) × List Int × List Int :=
 if mayE d e then match fnd de ev d e with
  | some n => (((n : Int), 0), de, ev)
  | none => match frI de with
   | some i => (((i : Int), 0), de.set i d, ev.set i e)
   | none => ((0, 2), de, ev)
 else ((0, 1), de, ev)
def rfV (de ev : List Int) (d e : Int) : (Int × Int) × List Int × List Int :=
 if mayE d e then match fnd de ev d e with
  | some n => (((n : Int), 0), de.set n (-1), ev.set n (-1))
  | none => ((0, 250), de, ev)
 else ((0, 1), de, ev)
set_option maxHeartbeats 4000000 in
theorem rfree119 (β : Base) (s : Nat) (dq : Option Addr) (dc : Nat) (eq : Option Addr) (ec : Nat) {de ev : List Int} (hd : de.length = 512) (he : ev.length = 512) (d e : Int) :
  Tri Tryz.prog β 119 [.pointer (some ⟨s, 0, none⟩), .int .i64 d, .int .i64 e] (sdL s dq dc eq ec de ev) (fun v L => v = pairI (rfV de ev d e).1 ∧ L = sdL s dq dc eq ec (rfV de ev d e).2.1 (rfV de ev d e).2.2) := by
 refine Tri.intro tt_ok Tryz.func119 rfl rfl Tryz.ntmps119 rfl fun F => ?_
 have hf := rfind93 β s dq dc eq ec hd he d e
 unfold rfV
 unfold sdL at hf ⊢
 refine G tt_ok pk119 ?_
 refine ke rfl rfl (rmay148 β d e) ?_
 cases hm : mayE d e with
 | false =>
  refine G tt_ok pk119 ?_
  exact CW.ret (fin_ret rfl (A := [pt s [.slice dq 512 dc, .slice eq 512 ec], rowA dq 512 (iS de), rowA eq 512 (iS ev)]) pk_ ⟨rfl, rfl⟩)
 | true =>
  refine G tt_ok pk119 ?_
  refine ke rfl rfl (hf) ?_
  cases hn : fnd de ev d e with
  | none =>
   refine G tt_ok pk119 ?_
   exact CW.ret (fin_ret rfl (A := [pt s [.slice dq 512 dc, .slice eq 512 ec], rowA dq 512 (iS de), rowA eq 512 (iS ev)]) pk_ ⟨rfl, rfl⟩)
  | some n =>
   have hl := (fnd_eq hn).2.1
   have w1 := wr3 (iS_at (l := de) (k := n) (by omega)) (-1)
   have w2 := wr3 (iS_at (l := ev) (k := n) (by omega)) (-1)
   rw [iS_set] at w1 w2
   unfold fndI
   refine G tt_ok pk119 ?_
   rw [decide_eq_false (show ¬ (n : Int) < 0 by omega)]
   refine G tt_ok pk119 ?_
   refine ir_ tt_ok rfl rfl (n) (rfl) rfl ?_ (hlt := hl)
   refine G tt_ok pk119 ?_
   refine sr_ tt_ok rfl rfl (w1) ?_
   refine G tt_ok pk119 ?_
   refine ir_ tt_ok rfl rfl (n) (rfl) rfl ?_ (hlt := hl)
   refine G tt_ok pk119 ?_
   refine sr_ tt_ok rfl rfl (w2) ?_
   refine G tt_ok pk119 ?_
   exact CW.ret (fin_ret rfl (A := [pt s [.slice dq 512 dc, .slice eq 512 ec], rowA dq 512 (iS (de.set n (-1))), rowA eq 512 (iS (ev.set n (-1)))]) pk_ ⟨rfl, rfl⟩)
set_option maxHeartbeats 4000000 in
theorem rbind118 (β : Base) (s : Nat) (dq : Option Addr) (dc : Nat) (eq : Option Addr) (ec : Nat) {de ev : List Int} (hd : de.length = 512) (he : ev.length = 512) (d e : Int) :
  Tri Tryz.prog β 118 [.pointer (some ⟨s, 0, none⟩), .int .i64 d, .int .i64 e] (sdL s dq dc eq ec de ev) (fun v L => v = pairI (rbV de ev d e).1 ∧ L = sdL s dq dc eq ec (rbV de ev d e).2.1 (rbV de ev d e).2.2) := by
 refine Tri.intro tt_ok Tryz.func118 rfl rfl Tryz.ntmps118 rfl fun F => ?_
 have hf := rfind93 β s dq dc eq ec hd he d e
 obtain ⟨M, hM⟩ : ∃ M : Nat, M = 512 := ⟨_, rfl⟩
 unfold rbV
 unfold sdL at hf ⊢
 refine G tt_ok pk118 ?_
 refine ke rfl rfl (rmay148 β d e) ?_
 cases hm : mayE d e with
 | false =>
  refine G tt_ok pk118 ?_
  exact CW.ret (fin_ret rfl (A := [pt s [.slice dq 512 dc, .slice eq 512 ec], rowA dq 512 (iS de), rowA eq 512 (iS ev)]) pk_ ⟨rfl, rfl⟩)
 | true =>
  refine G tt_ok pk118 ?_
  refine ke rfl rfl (hf) ?_
  cases hn : fnd de ev d e with
  | some n =>
   unfold fndI
   refine G tt_ok pk118 ?_
   rw [decide_eq_true (show (n : Int) ≥ 0 by omega)]
   refine G tt_ok pk118 ?_
   exact CW.ret (fin_ret rfl (A := [pt s [.slice dq 512 dc, .slice eq 512 ec], rowA dq 512 (iS de), rowA eq 512 (iS ev)]) pk_ ⟨rfl, rfl⟩)
  | none =>
   unfold fndI
   refine G tt_ok pk118 ?_
   refine CW.loop (α := Nat) (fun k => k ≤ M ∧ ∀ j, j < k → ¬ de.getD j 0 < 0) (fun k => [(9, .int .i64 k), (0, .pointer (some ⟨s, 0, none⟩)), (1, .int .i64 d), (2, .int .i64 e)])
    (fun k => [pt s [.slice dq 512 dc, .slice eq 512 ec], rowA dq 512 (iS de), rowA eq 512 (iS ev)]) (fun k => M - k) 0 ⟨by omega, fun j hj => by omega⟩ ⟨rfl, rfl, rfl, rfl, trivial⟩ pk_ ?_
   rintro k ⟨hk, hb⟩
   refine G tt_ok pk118 ?_
   by_cases hlt : k < M
   ·rw [decide_eq_true (show (k : Int) < ((512 : Nat) : Int) by omega)]
    have hwr : IntKind.i64.wrap ((k : Int) + 1) = ((k + 1 : Nat) : Int) := by rw [wrap_id (by omega) (by omega)]; simp
    have hl : k < 512 := by omega
    have r1 := rd3 (iS_at (l := de) (k := k) (by omega))
    have w1 := wr3 (iS_at (l := de) (k := k) (by omega)) d
    have w2 := wr3 (iS_at (l := ev) (k := k) (by omega)) e
    rw [iS_set] at w1 w2
    refine G tt_ok pk118 ?_
    refine ir_ tt_ok rfl rfl (k) (rfl) rfl ?_ (hlt := hl)
    refine G tt_ok pk118 ?_
    refine lr_ tt_ok rfl rfl (r1) ?_
    refine G tt_ok pk118 ?_
    by_cases hneg : de.getD k 0 < 0
    ·rw [decide_eq_true hneg, frI_yes hl hneg hb]
     refine G tt_ok pk118 ?_
     refine ir_ tt_ok rfl rfl (k) (rfl) rfl ?_ (hlt := hl)
     refine G tt_ok pk118 ?_
     refine sr_ tt_ok rfl rfl (w1) ?_
     refine G tt_ok pk118 ?_
     refine ir_ tt_ok rfl rfl (k) (rfl) rfl ?_ (hlt := hl)
     refine G tt_ok pk118 ?_
     refine sr_ tt_ok rfl rfl (w2) ?_
     refine G tt_ok pk118 ?_
     exact CW.ret (fin_ret rfl (A := [pt s [.slice dq 512 dc, .slice eq 512 ec], rowA dq 512 (iS (de.set k d)), rowA eq 512 (iS (ev.set k e))]) pk_ ⟨rfl, rfl⟩)
    ·rw [decide_eq_false hneg]
     refine G tt_ok pk118 ?_
     refine ⟨k + 1, ⟨by omega, fun j hj => ?_⟩, by omega, ⟨by rw [← hwr]; rfl, rfl, rfl, rfl, trivial⟩, pk_⟩
     rcases Nat.lt_succ_iff_lt_or_eq.1 hj with h1 | h1
     ·exact hb j h1
     ·subst h1; exact hneg
   ·rw [decide_eq_false (show ¬ (k : Int) < ((512 : Nat) : Int) by omega)]
    refine G tt_ok pk118 ?_
    refine CW.exit ?_
    refine G tt_ok pk118 ?_
    rw [frI_no (fun j hj => hb j (by omega))]
    exact CW.ret (fin_ret rfl (A := [pt s [.slice dq 512 dc, .slice eq 512 ec], rowA dq 512 (iS de), rowA eq 512 (iS ev)]) pk_ ⟨rfl, rfl⟩)
end Go.Proofs.YtakkogdmlbkdaaaGreatDoor.Sl.It
namespace Go.Proofs.YtakkogdmlbkdaaaGreatDoor.Sl
theorem Tri.rf {P : Program} {β : Base} {g : FuncId} {args : List Value} {r ns nc : Nat} {R : It.Rx} {A : List Atom} {Q : Value → List Atom → Prop} (hE : Enters P g) (h : ∀ a : It.Da, Tri P β g args (It.rfL r a ns nc R ++ A) Q) : Tri P β g args (It.rfA r ns nc R :: A) Q := Tri.exI hE h
end Go.Proofs.YtakkogdmlbkdaaaGreatDoor.Sl
namespace Go.Proofs.YtakkogdmlbkdaaaGreatDoor.Sl.It
attribute [local irreducible] CW Tri OW
@[reducible] def pk70 : List (Nat × Plan) := []
@[reducible] def pk71 : List (Nat × Plan) := []
@[reducible] def pk72 : List (Nat × Plan) := []
@[reducible] def pk67 : List (Nat × Plan) := []
@[reducible] def pk66 : List (Nat × Plan) := []
@[reducible] def pk65 : List (Nat × Plan) := []
@[reducible] def pk47 : List (Nat × Plan) := []
@[reducible] def pk69 : List (Nat × Plan) := [(3, [(0, 0, []), (1, 0, []), (2, 0, []), (3, 0, []), (4, 0, []), (5, 0, []), (6, 0, []), (8, 0, []), (9, 0, []), (7, 1, [4]), (10, 0, []), (11, 1, [])])]
attribute [local irreducible] fnd frI
variable {ns nc : Nat}
def Rx.wts (R : Rx) (d e : Int) : Option Nat := match fnd R.de R.ev d e with
 | some n => if R.wait.getD n false then some n else none
 | none => none
def Rx.bindV (nc : Nat) (R : Rx) (d e c : Int) : Rx × (Int × Int) :=
 if rightV nc c then
  if mayE d e then match fnd R.de R.ev d e with
   | some n => ({ R with core := R.core.set n c }, (8192 + (n : Int), 0))
   | none => match frI R.de with
    | some i => ({ R with de := R.de.set i d, ev := R.ev.set i e, core := R.core.set i c, wait := R.wait.set i false }, (8192 + (i : Int), 0))
    | none => (R, (0, 2))
  else (R, (0, 1))
 else (R, (0, 130))
def Rx.unbV (R : Rx) (d e : Int) : Rx × Int :=
 if mayE d e then match fnd R.de R.ev d e with
  | some n => ({ R with de := R.de.set n (-1), ev := R.ev.set n (-1), wait := R.wait.set n false }, 0)
  | none => (R, 250)
 else (R, 1)
def Rx.msgV (R : Rx) (d e : Int) : Rx × Int := match fnd R.de R.ev d e with
 | some n => ({ R with wait := R.wait.set n true }, 0)
 | none => (R, 250)
def Rx.wtsV (R : Rx) (d e : Int) : Value := match R.wts d e with
 | some n => .tuple #[.int .i64 (R.core.getD n 0), .bool true]
 | none => .tuple #[.int .i64 0, .bool false]
def Rx.pullV (R : Rx) (d e : Int) : Rx := match R.wts d e with
 | some n => { R with wait := R.wait.set n false }
 | none => R
def Rx.wireV (ns : Nat) (R : Rx) (id : Int) (v : Bool) : Rx × Int := if shrI ns id < 0 then (R, 90) else ({ R with high := R.high.set (shrI ns id).toNat v }, 0)
def Rx.endV (ns : Nat) (R : Rx) (id : Int) : Rx × Int := if shrI ns id < 0 then (R, 90) else ({ R with act := R.act.set (shrI ns id).toNat false }, 0)
def Rx.powV (nc : Nat) (R : Rx) (k : Int) (on : Bool) : Rx × Int := if rightV nc k then ({ R with asl := R.asl.set k.toNat (!on) }, 0) else (R, 130)
theorem shr_lt {ns : Nat} {id : Int} (h : ¬ shrI ns id < 0) : ∃ k : Nat, shrI ns id = k ∧ k < ns := by
 unfold shrI at h ⊢
 split at h
 ·exact absurd (by decide) h
 ·rw [if_neg (by assumption)]
  exact ⟨(id - 32).toNat, by omega, by omega⟩
theorem wr_b {l : List Bool} {k : Nat} (hk : k < l.length) (z : Bool) : ∀ X, wrv ti4 (bS l ++ X) (0 + k * 1) (.bool z) = some (bS (l.set k z) ++ X) := fun X => by
 rw [← bS_set]; exact wr4 (bS_at hk) z X
theorem rd_b {l : List Bool} {k : Nat} (hk : k < l.length) : ∀ X, rdv ti4 (bS l ++ X) (0 + k * 1) = some (.bool (l.getD k false)) := rd4 (bS_at hk)
set_option maxHeartbeats 4000000 in
theorem rwire70 (β : Base) (r : Nat) {R : Rx} (h : R.ok ns nc) (id : Int) (hid : id < 9223372036854775808) (v : Bool) : Tri Tryz.prog β 70 [.pointer (some ⟨r, 0, none⟩), .int .i64 id, .bool v] [rfA r ns nc R] (fun u L => u = .int .i64 (R.wireV ns id v).2 ∧ L = [rfA r ns nc (R.wireV ns id v).1]) := by
 refine Tri.rf (enters_of Tryz.func70 (by kernel_rfl) rfl) fun a => ?_
 refine Tri.intro tt_ok Tryz.func70 rfl rfl Tryz.ntmps70 rfl fun F => ?_
 have hs := rshared120 (ns := ns) (nc := nc) β r a h.core h.wait id hid
 have h5 := rd_hi (a := a) (ns := ns) (nc := nc) h.core h.wait
 unfold Rx.wireV
 unfold rfL
 by_cases hn : shrI ns id < 0
 ·rw [if_pos hn]
  refine G tt_ok pk70 ?_
  refine ke rfl rfl (hs) ?_
  refine G tt_ok pk70 ?_
  rw [decide_eq_true hn]
  refine G tt_ok pk70 ?_
  exact CW.ret (fin_ret rfl (A := [rfA r ns nc R]) (rf_pick (a := a) (by unfold rfL; exact pk_)) ⟨rfl, rfl⟩)
 ·rw [if_neg hn]
  obtain ⟨k, hk, hlt⟩ := shr_lt hn
  have hkl : k < R.high.length := by rw [h.high]; exact hlt
  rw [hk] at hs hn ⊢
  simp only [Int.toNat_natCast]
  refine G tt_ok pk70 ?_
  refine ke rfl rfl (hs) ?_
  refine G tt_ok pk70 ?_
  rw [decide_eq_false hn]
  refine G tt_ok pk70 ?_
  (refine SQ.ldA tt_ok rfl rfl (by repeat (first | exact .h | exact .q | apply At.t)) (h5) ?_)
  refine G tt_ok pk70 ?_
  refine ir_ tt_ok rfl rfl (k) (rfl) rfl ?_ (hlt := hlt)
  refine G tt_ok pk70 ?_
  refine sr_ tt_ok rfl rfl (wr_b hkl v) ?_
  refine G tt_ok pk70 ?_
  exact CW.ret (fin_ret rfl (A := [rfA r ns nc { R with high := R.high.set k v }]) (rf_pick (a := a) (by unfold rfL; exact pk_)) ⟨rfl, rfl⟩)
set_option maxHeartbeats 4000000 in
theorem rend71 (β : Base) (r : Nat) {R : Rx} (h : R.ok ns nc) (id : Int) (hid : id < 9223372036854775808) : Tri Tryz.prog β 71 [.pointer (some ⟨r, 0, none⟩), .int .i64 id] [rfA r ns nc R] (fun u L => u = .int .i64 (R.endV ns id).2 ∧ L = [rfA r ns nc (R.endV ns id).1]) := by
 refine Tri.rf (enters_of Tryz.func71 (by kernel_rfl) rfl) fun a => ?_
 refine Tri.intro tt_ok Tryz.func71 rfl rfl Tryz.ntmps71 rfl fun F => ?_
 have hs := rshared120 (ns := ns) (nc := nc) β r a h.core h.wait id hid
 have h5 := rd_ac (a := a) (ns := ns) (nc := nc) h.core h.wait
 unfold Rx.endV
 unfold rfL
 by_cases hn : shrI ns id < 0
 ·rw [if_pos hn]
  refine G tt_ok pk71 ?_
  refine ke rfl rfl (hs) ?_
  refine G tt_ok pk71 ?_
  rw [decide_eq_true hn]
  refine G tt_ok pk71 ?_
  exact CW.ret (fin_ret rfl (A := [rfA r ns nc R]) (rf_pick (a := a) (by unfold rfL; exact pk_)) ⟨rfl, rfl⟩)
 ·rw [if_neg hn]
  obtain ⟨k, hk, hlt⟩ := shr_lt hn
  have hkl : k < R.act.length := by rw [h.act]; exact hlt
  rw [hk] at hs hn ⊢
  simp only [Int.toNat_natCast]
  refine G tt_ok pk71 ?_
  refine ke rfl rfl (hs) ?_
  refine G tt_ok pk71 ?_
  rw [decide_eq_false hn]
  refine G tt_ok pk71 ?_
  (refine SQ.ldA tt_ok rfl rfl (by repeat (first | exact .h | exact .q | apply At.t)) (h5) ?_)
  refine G tt_ok pk71 ?_
  refine ir_ tt_ok rfl rfl (k) (rfl) rfl ?_ (hlt := hlt)
  refine G tt_ok pk71 ?_
  refine sr_ tt_ok rfl rfl (wr_b hkl false) ?_
  refine G tt_ok pk71 ?_
  exact CW.ret (fin_ret rfl (A := [rfA r ns nc { R with act := R.act.set k false }]) (rf_pick (a := a) (by unfold rfL; exact pk_)) ⟨rfl, rfl⟩)
set_option maxHeartbeats 4000000 in
theorem rpower72 (β : Base) (r : Nat) {R : Rx} (h : R.ok ns nc) (k : Int) (on : Bool) : Tri Tryz.prog β 72 [.pointer (some ⟨r, 0, none⟩), .int .i64 k, .bool on] [rfA r ns nc R] (fun u L => u = .int .i64 (R.powV nc k on).2 ∧ L = [rfA r ns nc (R.powV nc k on).1]) := by
 refine Tri.rf (enters_of Tryz.func72 (by kernel_rfl) rfl) fun a => ?_
 refine Tri.intro tt_ok Tryz.func72 rfl rfl Tryz.ntmps72 rfl fun F => ?_
 have hs := rthere44 (ns := ns) (nc := nc) β r a h.core h.wait k
 have h5 := rd_as (a := a) (ns := ns) (nc := nc) h.core h.wait
 unfold Rx.powV
 unfold rfL
 cases hr : rightV nc k with
 | false =>
  rw [hr] at hs
  refine G tt_ok pk72 ?_
  refine ke rfl rfl (hs) ?_
  refine G tt_ok pk72 ?_
  exact CW.ret (fin_ret rfl (A := [rfA r ns nc R]) (rf_pick (a := a) (by unfold rfL; exact pk_)) ⟨rfl, rfl⟩)
 | true =>
  rw [hr] at hs
  obtain ⟨n, rfl⟩ : ∃ n : Nat, k = n := ⟨k.toNat, by simp [rightV] at hr; omega⟩
  have hlt : n < nc := by simp [rightV] at hr; omega
  have hkl : n < R.asl.length := by rw [h.asl]; exact hlt
  simp only [if_true, Int.toNat_natCast]
  refine G tt_ok pk72 ?_
  refine ke rfl rfl (hs) ?_
  refine G tt_ok pk72 ?_
  (refine SQ.ldA tt_ok rfl rfl (by repeat (first | exact .h | exact .q | apply At.t)) (h5) ?_)
  refine G tt_ok pk72 ?_
  refine ir_ tt_ok rfl rfl (n) (rfl) rfl ?_ (hlt := hlt)
  refine G tt_ok pk72 ?_
  refine sr_ tt_ok rfl rfl (wr_b hkl (!on)) ?_
  refine G tt_ok pk72 ?_
  exact CW.ret (fin_ret rfl (A := [rfA r ns nc { R with asl := R.asl.set n (!on) }]) (rf_pick (a := a) (by unfold rfL; exact pk_)) ⟨rfl, rfl⟩)
set_option maxHeartbeats 4000000 in
theorem rmessage67 (β : Base) (r : Nat) {R : Rx} (h : R.ok ns nc) (d e : Int) : Tri Tryz.prog β 67 [.pointer (some ⟨r, 0, none⟩), .int .i64 d, .int .i64 e] [rfA r ns nc R] (fun u L => u = .int .i64 (R.msgV d e).2 ∧ L = [rfA r ns nc (R.msgV d e).1]) := by
 refine Tri.rf (enters_of Tryz.func67 (by kernel_rfl) rfl) fun a => ?_
 refine Tri.intro tt_ok Tryz.func67 rfl rfl Tryz.ntmps67 rfl fun F => ?_
 have hf := rfind93 β a.s a.dq a.dc a.eq a.ec h.de h.ev d e
 unfold sdL at hf
 unfold Rx.msgV
 unfold rfL
 refine G tt_ok pk67 ?_
 refine ke rfl rfl (hf) ?_
 cases hn : fnd R.de R.ev d e with
 | none =>
  unfold fndI
  refine G tt_ok pk67 ?_
  exact CW.ret (fin_ret rfl (A := [rfA r ns nc R]) (rf_pick (a := a) (by unfold rfL; exact pk_)) ⟨rfl, rfl⟩)
 | some n =>
  have hl := (fnd_eq hn).2.1
  have w1 := wr_wait (a := a) (ns := ns) (nc := nc) h.core h.wait hl true
  unfold fndI
  refine G tt_ok pk67 ?_
  rw [decide_eq_false (show ¬ (n : Int) < 0 by omega)]
  refine G tt_ok pk67 ?_
  refine SQ.idx tt_ok rfl rfl n rfl hl (o' := 513 + n * 1) rfl ?_
  refine G tt_ok pk67 ?_
  (refine SQ.stA tt_ok rfl rfl (by repeat (first | apply Up.h | apply Up.t)) (by rfl) (w1) (by repeat (first | exact trivial | refine ⟨trivial, ?_⟩ | refine ⟨wk (by repeat (first | exact .h | exact .q | apply At.t)) (by rfl), ?_⟩)) ?_)
  refine G tt_ok pk67 ?_
  exact CW.ret (fin_ret rfl (A := [rfA r ns nc { R with wait := R.wait.set n true }]) (rf_pick (a := a) (by unfold rfL; exact pk_)) ⟨rfl, rfl⟩)
set_option maxHeartbeats 4000000 in
theorem runbind66 (β : Base) (r : Nat) {R : Rx} (h : R.ok ns nc) (d e : Int) : Tri Tryz.prog β 66 [.pointer (some ⟨r, 0, none⟩), .int .i64 d, .int .i64 e] [rfA r ns nc R] (fun u L => u = .int .i64 (R.unbV d e).2 ∧ L = [rfA r ns nc (R.unbV d e).1]) := by
 refine Tri.rf (enters_of Tryz.func66 (by kernel_rfl) rfl) fun a => ?_
 refine Tri.intro tt_ok Tryz.func66 rfl rfl Tryz.ntmps66 rfl fun F => ?_
 have hf := rfree119 β a.s a.dq a.dc a.eq a.ec h.de h.ev d e
 unfold sdL rfV at hf
 unfold Rx.unbV
 unfold rfL
 refine G tt_ok pk66 ?_
 cases hm : mayE d e with
 | false =>
  simp only [hm, eq_self, if_true, Bool.false_eq_true, if_false] at hf
  refine ke rfl rfl (hf) ?_
  refine G tt_ok pk66 ?_
  exact CW.ret (fin_ret rfl (A := [rfA r ns nc R]) (rf_pick (a := a) (by unfold rfL; exact pk_)) ⟨rfl, rfl⟩)
 | true =>
  simp only [hm, eq_self, if_true, Bool.false_eq_true, if_false] at hf
  cases hn : fnd R.de R.ev d e with
  | none =>
   simp only [hn, eq_self, if_true, Bool.false_eq_true, if_false] at hf
   refine ke rfl rfl (hf) ?_
   refine G tt_ok pk66 ?_
   exact CW.ret (fin_ret rfl (A := [rfA r ns nc R]) (rf_pick (a := a) (by unfold rfL; exact pk_)) ⟨rfl, rfl⟩)
  | some n =>
   simp only [hn, eq_self, if_true, Bool.false_eq_true, if_false] at hf
   have hl := (fnd_eq hn).2.1
   have w1 := wr_wait (a := a) (ns := ns) (nc := nc) h.core h.wait hl false
   refine ke rfl rfl (hf) ?_
   refine G tt_ok pk66 ?_
   refine SQ.idx tt_ok rfl rfl n rfl hl (o' := 513 + n * 1) rfl ?_
   refine G tt_ok pk66 ?_
   (refine SQ.stA tt_ok rfl rfl (by repeat (first | apply Up.h | apply Up.t)) (by rfl) (w1) (by repeat (first | exact trivial | refine ⟨trivial, ?_⟩ | refine ⟨wk (by repeat (first | exact .h | exact .q | apply At.t)) (by rfl), ?_⟩)) ?_)
   refine G tt_ok pk66 ?_
   exact CW.ret (fin_ret rfl (A := [rfA r ns nc { R with de := R.de.set n (-1), ev := R.ev.set n (-1), wait := R.wait.set n false }]) (rf_pick (a := a) (by unfold rfL; exact pk_)) ⟨rfl, rfl⟩)
set_option maxHeartbeats 4000000 in
theorem rbind65 (β : Base) (r : Nat) {R : Rx} (h : R.ok ns nc) (d e c : Int) : Tri Tryz.prog β 65 [.pointer (some ⟨r, 0, none⟩), .int .i64 d, .int .i64 e, .int .i64 c] [rfA r ns nc R] (fun u L => u = pairI (R.bindV nc d e c).2 ∧ L = [rfA r ns nc (R.bindV nc d e c).1]) := by
 refine Tri.rf (enters_of Tryz.func65 (by kernel_rfl) rfl) fun a => ?_
 refine Tri.intro tt_ok Tryz.func65 rfl rfl Tryz.ntmps65 rfl fun F => ?_
 have hs := rthere44 (ns := ns) (nc := nc) β r a h.core h.wait c
 have hf := rfind93 β a.s a.dq a.dc a.eq a.ec h.de h.ev d e
 have hb := rbind118 β a.s a.dq a.dc a.eq a.ec h.de h.ev d e
 unfold sdL at hf hb
 unfold rbV at hb
 unfold Rx.bindV
 unfold rfL
 cases hr : rightV nc c with
 | false =>
  rw [hr] at hs
  refine G tt_ok pk65 ?_
  refine ke rfl rfl (hs) ?_
  refine G tt_ok pk65 ?_
  exact CW.ret (fin_ret rfl (A := [rfA r ns nc R]) (rf_pick (a := a) (by unfold rfL; exact pk_)) ⟨rfl, rfl⟩)
 | true =>
  rw [hr] at hs
  refine G tt_ok pk65 ?_
  refine ke rfl rfl (hs) ?_
  refine G tt_ok pk65 ?_
  refine ke rfl rfl (hf) ?_
  refine G tt_ok pk65 ?_
  cases hm : mayE d e with
  | false =>
   simp only [hm, eq_self, if_true, Bool.false_eq_true, if_false] at hb
   refine ke rfl rfl (hb) ?_
   refine G tt_ok pk65 ?_
   exact CW.ret (fin_ret rfl (A := [rfA r ns nc R]) (rf_pick (a := a) (by unfold rfL; exact pk_)) ⟨rfl, rfl⟩)
  | true =>
   simp only [hm, eq_self, if_true, Bool.false_eq_true, if_false] at hb
   cases hn : fnd R.de R.ev d e with
   | some n =>
    simp only [hn, eq_self, if_true, Bool.false_eq_true, if_false] at hb
    have hl := (fnd_eq hn).2.1
    have w1 := wr_core (a := a) (ns := ns) (nc := nc) (wait := R.wait) h.core hl c
    unfold fndI
    refine ke rfl rfl (hb) ?_
    refine G tt_ok pk65 ?_
    rw [decide_eq_false (show ¬ (n : Int) < 0 by omega)]
    refine SQ.idx tt_ok rfl rfl n rfl hl (o' := 1 + n * 1) rfl ?_
    refine G tt_ok pk65 ?_
    (refine SQ.stA tt_ok rfl rfl (by repeat (first | apply Up.h | apply Up.t)) (by rfl) (w1) (by repeat (first | exact trivial | refine ⟨trivial, ?_⟩ | refine ⟨wk (by repeat (first | exact .h | exact .q | apply At.t)) (by rfl), ?_⟩)) ?_)
    refine G tt_ok pk65 ?_
    rw [show IntKind.i64.wrap (8192 + (n : Int)) = 8192 + (n : Int) by rw [wrap_id (by omega) (by omega)]]
    exact CW.ret (fin_ret rfl (A := [rfA r ns nc { R with core := R.core.set n c }]) (rf_pick (a := a) (by unfold rfL; exact pk_)) ⟨rfl, rfl⟩)
   | none =>
    simp only [hn, eq_self, if_true, Bool.false_eq_true, if_false] at hb
    cases hi : frI R.de with
    | none =>
     simp only [hi, eq_self, if_true, Bool.false_eq_true, if_false] at hb
     refine ke rfl rfl (hb) ?_
     refine G tt_ok pk65 ?_
     exact CW.ret (fin_ret rfl (A := [rfA r ns nc R]) (rf_pick (a := a) (by unfold rfL; exact pk_)) ⟨rfl, rfl⟩)
    | some i =>
     simp only [hi, eq_self, if_true, Bool.false_eq_true, if_false] at hb
     have hl := (frI_eq hi).1
     have w1 := wr_core (a := a) (ns := ns) (nc := nc) (wait := R.wait) h.core hl c
     have hc2 : (R.core.set i c).length = 512 := by rw [List.length_set]; exact h.core
     have w2 := wr_wait (a := a) (ns := ns) (nc := nc) hc2 h.wait hl false
     unfold fndI
     refine ke rfl rfl (hb) ?_
     refine G tt_ok pk65 ?_
     refine SQ.idx tt_ok rfl rfl i rfl hl (o' := 1 + i * 1) rfl ?_
     refine G tt_ok pk65 ?_
     (refine SQ.stA tt_ok rfl rfl (by repeat (first | apply Up.h | apply Up.t)) (by rfl) (w1) (by repeat (first | exact trivial | refine ⟨trivial, ?_⟩ | refine ⟨wk (by repeat (first | exact .h | exact .q | apply At.t)) (by rfl), ?_⟩)) ?_)
     refine G tt_ok pk65 ?_
     refine SQ.idx tt_ok rfl rfl i rfl hl (o' := 513 + i * 1) rfl ?_
     refine G tt_ok pk65 ?_
     (refine SQ.stA tt_ok rfl rfl (by repeat (first | apply Up.h | apply Up.t)) (by rfl) (w2) (by repeat (first | exact trivial | refine ⟨trivial, ?_⟩ | refine ⟨wk (by repeat (first | exact .h | exact .q | apply At.t)) (by rfl), ?_⟩)) ?_)
     refine G tt_ok pk65 ?_
     rw [show IntKind.i64.wrap (8192 + (i : Int)) = 8192 + (i : Int) by rw [wrap_id (by omega) (by omega)]]
     exact CW.ret (fin_ret rfl (A := [rfA r ns nc { R with de := R.de.set i d, ev := R.ev.set i e, core := R.core.set i c, wait := R.wait.set i false }]) (rf_pick (a := a) (by unfold rfL; exact pk_)) ⟨rfl, rfl⟩)
set_option maxHeartbeats 4000000 in
theorem rwaits47 (β : Base) (r : Nat) {R : Rx} (h : R.ok ns nc) (d e : Int) : Tri Tryz.prog β 47 [.pointer (some ⟨r, 0, none⟩), .int .i64 d, .int .i64 e] [rfA r ns nc R] (fun u L => u = R.wtsV d e ∧ L = [rfA r ns nc R]) := by
 refine Tri.rf (enters_of Tryz.func47 (by kernel_rfl) rfl) fun a => ?_
 refine Tri.intro tt_ok Tryz.func47 rfl rfl Tryz.ntmps47 rfl fun F => ?_
 have hf := rfind93 β a.s a.dq a.dc a.eq a.ec h.de h.ev d e
 unfold sdL at hf
 unfold Rx.wtsV Rx.wts
 unfold rfL
 refine G tt_ok pk47 ?_
 refine ke rfl rfl (hf) ?_
 cases hn : fnd R.de R.ev d e with
 | none =>
  unfold fndI
  refine G tt_ok pk47 ?_
  exact CW.ret (fin_ret rfl (A := [rfA r ns nc R]) (rf_pick (a := a) (by unfold rfL; exact pk_)) ⟨rfl, rfl⟩)
 | some n =>
  have hl := (fnd_eq hn).2.1
  have r1 := rd_wait (a := a) (ns := ns) (nc := nc) h.core h.wait hl
  have r2 := rd_core (a := a) (ns := ns) (nc := nc) (wait := R.wait) h.core hl
  unfold fndI
  refine G tt_ok pk47 ?_
  rw [decide_eq_false (show ¬ (n : Int) < 0 by omega)]
  refine G tt_ok pk47 ?_
  refine SQ.idx tt_ok rfl rfl n rfl hl (o' := 513 + n * 1) rfl ?_
  refine G tt_ok pk47 ?_
  (refine SQ.ldA tt_ok rfl rfl (by repeat (first | exact .h | exact .q | apply At.t)) (r1) ?_)
  simp only
  cases hw : R.wait.getD n false with
  | false =>
   refine G tt_ok pk47 ?_
   exact CW.ret (fin_ret rfl (A := [rfA r ns nc R]) (rf_pick (a := a) (by unfold rfL; exact pk_)) ⟨rfl, rfl⟩)
  | true =>
   refine G tt_ok pk47 ?_
   refine SQ.idx tt_ok rfl rfl n rfl hl (o' := 1 + n * 1) rfl ?_
   refine G tt_ok pk47 ?_
   (refine SQ.ldA tt_ok rfl rfl (by repeat (first | exact .h | exact .q | apply At.t)) (r2) ?_)
   refine G tt_ok pk47 ?_
   exact CW.ret (fin_ret rfl (A := [rfA r ns nc R]) (rf_pick (a := a) (by unfold rfL; exact pk_)) ⟨rfl, rfl⟩)
set_option maxHeartbeats 4000000 in
theorem rpull69 (β : Base) (r : Nat) {R : Rx} (h : R.ok ns nc) (d e : Int) : Tri Tryz.prog β 69 [.pointer (some ⟨r, 0, none⟩), .int .i64 d, .int .i64 e] [rfA r ns nc R] (fun u L => u = .bool (R.wts d e).isSome ∧ L = [rfA r ns nc (R.pullV d e)]) := by
 refine Tri.intro tt_ok Tryz.func69 rfl rfl Tryz.ntmps69 rfl fun F => ?_
 have hw := rwaits47 β r h d e
 unfold Rx.wtsV at hw
 unfold Rx.pullV
 cases hn : R.wts d e with
 | none =>
  simp only [hn] at hw
  refine G tt_ok pk69 ?_
  refine ke rfl rfl (hw) ?_
  refine G tt_ok pk69 ?_
  exact CW.ret (fin_ret rfl (A := [rfA r ns nc R]) pk_ ⟨rfl, rfl⟩)
 | some n =>
  simp only [hn] at hw
  have hn2 : fnd R.de R.ev d e = some n := by
   unfold Rx.wts at hn
   cases hh : fnd R.de R.ev d e with
   | none => rw [hh] at hn; cases hn
   | some m => rw [hh] at hn; simp only at hn; split at hn <;> cases hn; rfl
  have hl := (fnd_eq hn2).2.1
  refine G tt_ok pk69 ?_
  refine ke rfl rfl (hw) ?_
  refine G tt_ok pk69 ?_
  refine SQ.ent [rfA r ns nc R] pk_ ?_
  unfold rfA
  refine SQ.open_ fun a => ?_
  have hf := rfind93 β a.s a.dq a.dc a.eq a.ec h.de h.ev d e
  unfold sdL at hf
  rw [hn2] at hf
  unfold fndI at hf
  have w1 := wr_wait (a := a) (ns := ns) (nc := nc) h.core h.wait hl false
  unfold rfL
  refine G tt_ok pk69 ?_
  refine ke rfl rfl (hf) ?_
  refine G tt_ok pk69 ?_
  refine SQ.idx tt_ok rfl rfl n rfl hl (o' := 513 + n * 1) rfl ?_
  refine G tt_ok pk69 ?_
  (refine SQ.stA tt_ok rfl rfl (by repeat (first | apply Up.h | apply Up.t)) (by rfl) (w1) (by repeat (first | exact trivial | refine ⟨trivial, ?_⟩ | refine ⟨wk (by repeat (first | exact .h | exact .q | apply At.t)) (by rfl), ?_⟩)) ?_)
  refine G tt_ok pk69 ?_
  exact CW.ret (fin_ret rfl (A := [rfA r ns nc { R with wait := R.wait.set n false }]) (rf_pick (a := a) (by unfold rfL; exact pk_)) ⟨rfl, rfl⟩)
end Go.Proofs.YtakkogdmlbkdaaaGreatDoor.Sl.It
