/-
  Part 5 of the proof: contracts of the code's functions, and what is plain.
-/
import Derived.Test.YtebpodnbalfomaaGreatDoorM4
import Derived.Test.YtebpodnbalfomaaGreatDoorM3
import Derived.Test.YtebpodnbalfomaaGreatDoorM1
import Derived.Test.YtebpodnbalfomaaGreatDoorRows
import Derived.LaidLaws
import Derived.LaidMore
import Derived.LaidHandle
import Derived.MakeChecks
import Derived.OpenShut
namespace Go.Proofs.YtebpodnbalfomaaGreatDoor.Sl
open Go Go.RowKit Go.Proofs
set_option linter.unusedVariables false
set_option linter.unusedSimpArgs false
attribute [local irreducible] CW Tri OW
set_option maxRecDepth 10000
def w0 : WL := ⟨none, 0, []⟩
theorem pk_w0 (L : List Atom) : ∀ n, Ent L (pkA wlA (List.replicate n w0) :: L)
  | 0 => pk_nil
  | n + 1 => by
    have h : Ent (pkA wlA (List.replicate n w0) :: L) (rowA none 0 [] :: pkA wlA (List.replicate n w0) :: L) := row_nil
    have h2 : Ent ([rowA none 0 []] ++ [pkA wlA (List.replicate n w0)]) [pkA wlA (List.replicate n w0 ++ [w0])] := pk_snoc (f := wlA) (x := w0)
    rw [← List.replicate_succ'] at h2
    exact ((pk_w0 L n).trans h).trans (Ent.append (M := L) h2 (Ent.refl L))
/-- The document's controller, new. -/
structure NewR (X : RG) (n s l : Nat) : Prop where
  d : newD X.E n s
  ro : X.R.os.length = n
  fs : X.fs = List.replicate n rf0
  bs : X.bs = List.replicate l 0
  ws : X.ws = List.replicate n w0
  os : X.os = List.replicate n false
  ps : X.ps = List.replicate n 0
  es : X.es = List.replicate n 0
theorem NewR.ok {X : RG} {n s l : Nat} (h : NewR X n s l) (hn0 : 1 ≤ n) (hn1 : n ≤ 4) (hs : s ≤ 64) (hl : l ≤ 64) : OkR n l X := by
  have hok : OkD X.R X.E := newD_ok h.d hn0 (by omega) hs h.ro
  refine ⟨hok, h.d.2.2.2.1, by rw [h.fs]; simp, by rw [h.ws]; simp, by rw [h.os]; simp, by rw [h.ps]; simp, by rw [h.es]; simp, by rw [h.bs]; simp, hn1, hl, ?_, ?_⟩
  · intro b hb; rw [h.bs] at hb; rw [List.eq_of_mem_replicate hb]; decide
  · intro w hw; rw [h.ws] at hw; rw [List.eq_of_mem_replicate hw]; exact ⟨List.nodup_nil, fun x hx => by cases hx⟩
@[reducible] def lsR (l : List Nat) : Array Bool := ((List.range 17).map fun i => l.contains i || [0, 1, 3, 5, 7, 9, 11].contains i).toArray
@[reducible] def vR (b n : Nat) : Value := .slice (some ⟨b, 0, none⟩) n n
@[reducible] def mR (t : TI) (b n : Nat) : Atom := pt b (madeCells t.zero.cells (n * t.size)).toList
@[reducible] def beR (d n l : Nat) : Env := [(32, .pointer (some ⟨d, 0, none⟩)), (33, .int .i64 n), (35, .int .i64 l), (37, .int .i64 n), (39, .int .i64 n), (41, .int .i64 n), (43, .int .i64 n)]
set_option maxHeartbeats 16000000 in
theorem rnew35 (β : Base) {n s l : Nat} (hn0 : 1 ≤ n) (hn1 : n ≤ 4) (hs1 : s ≤ 64) (hl1 : l ≤ 512) : Tri Tryz.prog β 35 [.int .i64 n, .int .i64 s, .int .i64 l] []
    (fun v L => ∃ r X, v = .tuple #[.pointer (some ⟨r, 0, none⟩), .bool true] ∧ L = rgA r X ∧ NewR X n s l) := by
  refine Tri.intro tt_ok Tryz.func35 rfl rfl Tryz.ntmps35 rfl fun F => ?_
  (refine G tt_ok [] ?_; repeat (refine G1 tt_ok [] ?_; intro _))
  rw [decide_eq_false (show ¬ (n : Int) < 1 by omega)]
  (refine G tt_ok [] ?_; repeat (refine G1 tt_ok [] ?_; intro _))
  rw [decide_eq_false (show ¬ (n : Int) > 4 by omega)]
  (refine G tt_ok [] ?_; repeat (refine G1 tt_ok [] ?_; intro _))
  rw [decide_eq_false (show ¬ (l : Int) < 0 by omega)]
  (refine G tt_ok [] ?_; repeat (refine G1 tt_ok [] ?_; intro _))
  rw [decide_eq_false (show ¬ (l : Int) > 512 by omega)]
  (refine G tt_ok [] ?_; repeat (refine G1 tt_ok [] ?_; intro _))
  (refine ka rfl rfl (refNew12 β (n := n) (s := s) hn0 (by omega) hs1) ?_; rintro _ _ ⟨d, R, rfl, hRo, hD⟩; refine w_ ?_)
  rw [hD ⟨false, false, 0, none, 0, List.replicate s (Br.zeroE.1, (0, false)), none, 0, List.replicate n x0⟩ rfl rfl rfl (by simp) (fun x hx => by rw [List.eq_of_mem_replicate hx]; exact ⟨rfl, rfl⟩)]
  have hnew : newD (⟨false, false, 0, none, 0, List.replicate s (Br.zeroE.1, (0, false)), none, 0, List.replicate n x0⟩ : DS) n s := ⟨rfl, rfl, rfl, by simp, fun x hx => by rw [List.eq_of_mem_replicate hx]; exact ⟨rfl, rfl⟩⟩
  generalize (⟨false, false, 0, none, 0, List.replicate s (Br.zeroE.1, (0, false)), none, 0, List.replicate n x0⟩ : DS) = D at hnew
  (refine G tt_ok [] ?_; repeat (refine G1 tt_ok [] ?_; intro _))
  have hn63 : n ≤ 9223372036854775807 := by omega
  have hl63 : l ≤ 9223372036854775807 := by omega
  have h2a : n * 70 ≤ 16777216 := by omega
  have h2b : 96 * n ≤ 281474976710656 := by omega
  have h4a : l * 1 ≤ 16777216 := by omega
  have h4b : 1 * l ≤ 281474976710656 := by omega
  have h6a : n * 1 ≤ 16777216 := by omega
  have h6b : 24 * n ≤ 281474976710656 := by omega
  have h8a : n * 1 ≤ 16777216 := by omega
  have h8b : 1 * n ≤ 281474976710656 := by omega
  have h10a : n * 1 ≤ 16777216 := by omega
  have h10b : 8 * n ≤ 281474976710656 := by omega
  have h12a : n * 1 ≤ 16777216 := by omega
  have h12b : 8 * n ≤ 281474976710656 := by omega
  generalize hRD : rD d R D = RD
  refine CW.ent (L' := RD) (by rw [List.append_nil]; exact Ent.refl RD) ?_
  refine CW.regionF tt_ok (by kernel_rfl) [0, 1, 3, 5, 7, 9, 11] (by decide +kernel) (fun x : Nat × Nat × Nat × Nat × Nat × Nat × Nat => [(6, .pointer (some ⟨x.2.2.2.2.2.2, 0, none⟩)), (7, .bool true)])
    (fun x => pt x.2.2.2.2.2.2 (rgC d (some ⟨x.1, 0, none⟩) n n (some ⟨x.2.1, 0, none⟩) l l (some ⟨x.2.2.1, 0, none⟩) n n (some ⟨x.2.2.2.1, 0, none⟩) n n (some ⟨x.2.2.2.2.1, 0, none⟩) n n (some ⟨x.2.2.2.2.2.1, 0, none⟩) n n) :: ([pt x.1 (madeCells ti172.zero.cells (n * ti172.size)).toList, pt x.2.1 (madeCells ti5.zero.cells (l * ti5.size)).toList, pt x.2.2.1 (madeCells ti82.zero.cells (n * ti82.size)).toList, pt x.2.2.2.1 (madeCells ti4.zero.cells (n * ti4.size)).toList, pt x.2.2.2.2.1 (madeCells ti44.zero.cells (n * ti44.size)).toList, pt x.2.2.2.2.2.1 (madeCells ti44.zero.cells (n * ti44.size)).toList] ++ RD)) ?_ ?_
  · refine ⟨_, _, rfl, rfl, rfl, rfl, _, _, rfl, rfl, rfl, rfl, _, _, rfl, rfl, rfl, rfl, _, _, rfl, rfl, rfl, rfl, _, _, rfl, rfl, rfl, rfl, _, _, rfl, rfl, rfl, rfl, _, _, rfl, rfl, rfl, rfl, ?_⟩
    show BQ _ _ _ _ _ _ _ 10 (lsR []) _ _
    refine BQ.abs fun B1 hs hz => ?_
    have b2_4_6_8_10_12 : ∀ x : Nat × Nat × Nat × Nat × Nat × Nat, B1 4 (lsR [2, 4, 6, 8, 10, 12]) ([(34, vR x.1 n), (36, vR x.2.1 l), (38, vR x.2.2.1 n), (40, vR x.2.2.2.1 n), (42, vR x.2.2.2.2.1 n), (44, vR x.2.2.2.2.2 n)] ++ beR d n l) ([mR ti172 x.1 n, mR ti5 x.2.1 l, mR ti82 x.2.2.1 n, mR ti4 x.2.2.2.1 n, mR ti44 x.2.2.2.2.1 n, mR ti44 x.2.2.2.2.2 n] ++ RD) := fun x => by
      refine hs _ _ _ _ [13] (by decide +kernel) ⟨⟨_, rfl, rfl, ?_⟩, trivial⟩
      refine SQ.pures1 tt_ok rfl ?_
      refine SQ.nil ?_
      refine hs _ _ _ _ [14] (by decide +kernel) ⟨⟨_, rfl, rfl, ?_⟩, trivial⟩
      refine SQ.new _ _ rfl rfl fun p => ?_
      refine SQ.nil ?_
      refine hs _ _ _ _ [15] (by decide +kernel) ⟨⟨_, rfl, rfl, ?_⟩, trivial⟩
      refine SQ.pures1 tt_ok rfl ?_
      refine SQ.nil ?_
      refine hs _ _ _ _ [16] (by decide +kernel) ⟨⟨_, rfl, rfl, ?_⟩, trivial⟩
      refine SQ.pures1 tt_ok rfl ?_
      refine SQ.nil ?_
      exact hz _ _ _ ⟨by decide +kernel, (x.1, x.2.1, x.2.2.1, x.2.2.2.1, x.2.2.2.2.1, x.2.2.2.2.2, p), ⟨rfl, rfl, trivial⟩, Ent.refl _⟩
    have b2_4_6_8_10 : ∀ x : Nat × Nat × Nat × Nat × Nat × Nat, B1 5 (lsR [2, 4, 6, 8, 10]) ([(34, vR x.1 n), (36, vR x.2.1 l), (38, vR x.2.2.1 n), (40, vR x.2.2.2.1 n), (42, vR x.2.2.2.2.1 n)] ++ beR d n l) ([mR ti172 x.1 n, mR ti5 x.2.1 l, mR ti82 x.2.2.1 n, mR ti4 x.2.2.2.1 n, mR ti44 x.2.2.2.2.1 n] ++ RD) := fun x => by
      refine hs _ _ _ _ [12] (by decide +kernel) ⟨⟨_, rfl, rfl, ?_⟩, trivial⟩
      · exact SQ.make tt_ok rfl rfl n rfl rfl h12a h12b hn63 fun g => ⟨trivial, dp_ (b2_4_6_8_10_12 (x.1, x.2.1, x.2.2.1, x.2.2.2.1, x.2.2.2.2.1, g)) (hA := mv_ 5 rfl)⟩
    have b2_4_6_8_12 : ∀ x : Nat × Nat × Nat × Nat × Nat × Nat, B1 5 (lsR [2, 4, 6, 8, 12]) ([(34, vR x.1 n), (36, vR x.2.1 l), (38, vR x.2.2.1 n), (40, vR x.2.2.2.1 n), (44, vR x.2.2.2.2.2 n)] ++ beR d n l) ([mR ti172 x.1 n, mR ti5 x.2.1 l, mR ti82 x.2.2.1 n, mR ti4 x.2.2.2.1 n, mR ti44 x.2.2.2.2.2 n] ++ RD) := fun x => by
      refine hs _ _ _ _ [10] (by decide +kernel) ⟨⟨_, rfl, rfl, ?_⟩, trivial⟩
      · exact SQ.make tt_ok rfl rfl n rfl rfl h10a h10b hn63 fun g => ⟨trivial, dp_ (b2_4_6_8_10_12 (x.1, x.2.1, x.2.2.1, x.2.2.2.1, g, x.2.2.2.2.2)) (hA := mv_ 4 rfl)⟩
    have b2_4_6_10_12 : ∀ x : Nat × Nat × Nat × Nat × Nat × Nat, B1 5 (lsR [2, 4, 6, 10, 12]) ([(34, vR x.1 n), (36, vR x.2.1 l), (38, vR x.2.2.1 n), (42, vR x.2.2.2.2.1 n), (44, vR x.2.2.2.2.2 n)] ++ beR d n l) ([mR ti172 x.1 n, mR ti5 x.2.1 l, mR ti82 x.2.2.1 n, mR ti44 x.2.2.2.2.1 n, mR ti44 x.2.2.2.2.2 n] ++ RD) := fun x => by
      refine hs _ _ _ _ [8] (by decide +kernel) ⟨⟨_, rfl, rfl, ?_⟩, trivial⟩
      · exact SQ.make tt_ok rfl rfl n rfl rfl h8a h8b hn63 fun g => ⟨trivial, dp_ (b2_4_6_8_10_12 (x.1, x.2.1, x.2.2.1, g, x.2.2.2.2)) (hA := mv_ 3 rfl)⟩
    have b2_4_8_10_12 : ∀ x : Nat × Nat × Nat × Nat × Nat × Nat, B1 5 (lsR [2, 4, 8, 10, 12]) ([(34, vR x.1 n), (36, vR x.2.1 l), (40, vR x.2.2.2.1 n), (42, vR x.2.2.2.2.1 n), (44, vR x.2.2.2.2.2 n)] ++ beR d n l) ([mR ti172 x.1 n, mR ti5 x.2.1 l, mR ti4 x.2.2.2.1 n, mR ti44 x.2.2.2.2.1 n, mR ti44 x.2.2.2.2.2 n] ++ RD) := fun x => by
      refine hs _ _ _ _ [6] (by decide +kernel) ⟨⟨_, rfl, rfl, ?_⟩, trivial⟩
      · exact SQ.make tt_ok rfl rfl n rfl rfl h6a h6b hn63 fun g => ⟨trivial, dp_ (b2_4_6_8_10_12 (x.1, x.2.1, g, x.2.2.2)) (hA := mv_ 2 rfl)⟩
    have b2_6_8_10_12 : ∀ x : Nat × Nat × Nat × Nat × Nat × Nat, B1 5 (lsR [2, 6, 8, 10, 12]) ([(34, vR x.1 n), (38, vR x.2.2.1 n), (40, vR x.2.2.2.1 n), (42, vR x.2.2.2.2.1 n), (44, vR x.2.2.2.2.2 n)] ++ beR d n l) ([mR ti172 x.1 n, mR ti82 x.2.2.1 n, mR ti4 x.2.2.2.1 n, mR ti44 x.2.2.2.2.1 n, mR ti44 x.2.2.2.2.2 n] ++ RD) := fun x => by
      refine hs _ _ _ _ [4] (by decide +kernel) ⟨⟨_, rfl, rfl, ?_⟩, trivial⟩
      · exact SQ.make tt_ok rfl rfl l rfl rfl h4a h4b hl63 fun g => ⟨trivial, dp_ (b2_4_6_8_10_12 (x.1, g, x.2.2)) (hA := mv_ 1 rfl)⟩
    have b4_6_8_10_12 : ∀ x : Nat × Nat × Nat × Nat × Nat × Nat, B1 5 (lsR [4, 6, 8, 10, 12]) ([(36, vR x.2.1 l), (38, vR x.2.2.1 n), (40, vR x.2.2.2.1 n), (42, vR x.2.2.2.2.1 n), (44, vR x.2.2.2.2.2 n)] ++ beR d n l) ([mR ti5 x.2.1 l, mR ti82 x.2.2.1 n, mR ti4 x.2.2.2.1 n, mR ti44 x.2.2.2.2.1 n, mR ti44 x.2.2.2.2.2 n] ++ RD) := fun x => by
      refine hs _ _ _ _ [2] (by decide +kernel) ⟨⟨_, rfl, rfl, ?_⟩, trivial⟩
      · exact SQ.make tt_ok rfl rfl n rfl rfl h2a h2b hn63 fun g => ⟨trivial, dp_ (b2_4_6_8_10_12 (g, x.2)) (hA := mv_ 0 rfl)⟩
    have b2_4_6_8 : ∀ x : Nat × Nat × Nat × Nat × Nat × Nat, B1 6 (lsR [2, 4, 6, 8]) ([(34, vR x.1 n), (36, vR x.2.1 l), (38, vR x.2.2.1 n), (40, vR x.2.2.2.1 n)] ++ beR d n l) ([mR ti172 x.1 n, mR ti5 x.2.1 l, mR ti82 x.2.2.1 n, mR ti4 x.2.2.2.1 n] ++ RD) := fun x => by
      refine hs _ _ _ _ [10, 12] (by decide +kernel) ⟨⟨_, rfl, rfl, ?_⟩, ⟨_, rfl, rfl, ?_⟩, trivial⟩
      · exact SQ.make tt_ok rfl rfl n rfl rfl h10a h10b hn63 fun g => ⟨trivial, dp_ (b2_4_6_8_10 (x.1, x.2.1, x.2.2.1, x.2.2.2.1, g, x.2.2.2.2.2)) (hA := mv_ 4 rfl)⟩
      · exact SQ.make tt_ok rfl rfl n rfl rfl h12a h12b hn63 fun g => ⟨trivial, dp_ (b2_4_6_8_12 (x.1, x.2.1, x.2.2.1, x.2.2.2.1, x.2.2.2.2.1, g)) (hA := mv_ 4 rfl)⟩
    have b2_4_6_10 : ∀ x : Nat × Nat × Nat × Nat × Nat × Nat, B1 6 (lsR [2, 4, 6, 10]) ([(34, vR x.1 n), (36, vR x.2.1 l), (38, vR x.2.2.1 n), (42, vR x.2.2.2.2.1 n)] ++ beR d n l) ([mR ti172 x.1 n, mR ti5 x.2.1 l, mR ti82 x.2.2.1 n, mR ti44 x.2.2.2.2.1 n] ++ RD) := fun x => by
      refine hs _ _ _ _ [8, 12] (by decide +kernel) ⟨⟨_, rfl, rfl, ?_⟩, ⟨_, rfl, rfl, ?_⟩, trivial⟩
      · exact SQ.make tt_ok rfl rfl n rfl rfl h8a h8b hn63 fun g => ⟨trivial, dp_ (b2_4_6_8_10 (x.1, x.2.1, x.2.2.1, g, x.2.2.2.2)) (hA := mv_ 3 rfl)⟩
      · exact SQ.make tt_ok rfl rfl n rfl rfl h12a h12b hn63 fun g => ⟨trivial, dp_ (b2_4_6_10_12 (x.1, x.2.1, x.2.2.1, x.2.2.2.1, x.2.2.2.2.1, g)) (hA := mv_ 4 rfl)⟩
    have b2_4_6_12 : ∀ x : Nat × Nat × Nat × Nat × Nat × Nat, B1 6 (lsR [2, 4, 6, 12]) ([(34, vR x.1 n), (36, vR x.2.1 l), (38, vR x.2.2.1 n), (44, vR x.2.2.2.2.2 n)] ++ beR d n l) ([mR ti172 x.1 n, mR ti5 x.2.1 l, mR ti82 x.2.2.1 n, mR ti44 x.2.2.2.2.2 n] ++ RD) := fun x => by
      refine hs _ _ _ _ [8, 10] (by decide +kernel) ⟨⟨_, rfl, rfl, ?_⟩, ⟨_, rfl, rfl, ?_⟩, trivial⟩
      · exact SQ.make tt_ok rfl rfl n rfl rfl h8a h8b hn63 fun g => ⟨trivial, dp_ (b2_4_6_8_12 (x.1, x.2.1, x.2.2.1, g, x.2.2.2.2)) (hA := mv_ 3 rfl)⟩
      · exact SQ.make tt_ok rfl rfl n rfl rfl h10a h10b hn63 fun g => ⟨trivial, dp_ (b2_4_6_10_12 (x.1, x.2.1, x.2.2.1, x.2.2.2.1, g, x.2.2.2.2.2)) (hA := mv_ 3 rfl)⟩
    have b2_4_8_10 : ∀ x : Nat × Nat × Nat × Nat × Nat × Nat, B1 6 (lsR [2, 4, 8, 10]) ([(34, vR x.1 n), (36, vR x.2.1 l), (40, vR x.2.2.2.1 n), (42, vR x.2.2.2.2.1 n)] ++ beR d n l) ([mR ti172 x.1 n, mR ti5 x.2.1 l, mR ti4 x.2.2.2.1 n, mR ti44 x.2.2.2.2.1 n] ++ RD) := fun x => by
      refine hs _ _ _ _ [6, 12] (by decide +kernel) ⟨⟨_, rfl, rfl, ?_⟩, ⟨_, rfl, rfl, ?_⟩, trivial⟩
      · exact SQ.make tt_ok rfl rfl n rfl rfl h6a h6b hn63 fun g => ⟨trivial, dp_ (b2_4_6_8_10 (x.1, x.2.1, g, x.2.2.2)) (hA := mv_ 2 rfl)⟩
      · exact SQ.make tt_ok rfl rfl n rfl rfl h12a h12b hn63 fun g => ⟨trivial, dp_ (b2_4_8_10_12 (x.1, x.2.1, x.2.2.1, x.2.2.2.1, x.2.2.2.2.1, g)) (hA := mv_ 4 rfl)⟩
    have b2_4_8_12 : ∀ x : Nat × Nat × Nat × Nat × Nat × Nat, B1 6 (lsR [2, 4, 8, 12]) ([(34, vR x.1 n), (36, vR x.2.1 l), (40, vR x.2.2.2.1 n), (44, vR x.2.2.2.2.2 n)] ++ beR d n l) ([mR ti172 x.1 n, mR ti5 x.2.1 l, mR ti4 x.2.2.2.1 n, mR ti44 x.2.2.2.2.2 n] ++ RD) := fun x => by
      refine hs _ _ _ _ [6, 10] (by decide +kernel) ⟨⟨_, rfl, rfl, ?_⟩, ⟨_, rfl, rfl, ?_⟩, trivial⟩
      · exact SQ.make tt_ok rfl rfl n rfl rfl h6a h6b hn63 fun g => ⟨trivial, dp_ (b2_4_6_8_12 (x.1, x.2.1, g, x.2.2.2)) (hA := mv_ 2 rfl)⟩
      · exact SQ.make tt_ok rfl rfl n rfl rfl h10a h10b hn63 fun g => ⟨trivial, dp_ (b2_4_8_10_12 (x.1, x.2.1, x.2.2.1, x.2.2.2.1, g, x.2.2.2.2.2)) (hA := mv_ 3 rfl)⟩
    have b2_4_10_12 : ∀ x : Nat × Nat × Nat × Nat × Nat × Nat, B1 6 (lsR [2, 4, 10, 12]) ([(34, vR x.1 n), (36, vR x.2.1 l), (42, vR x.2.2.2.2.1 n), (44, vR x.2.2.2.2.2 n)] ++ beR d n l) ([mR ti172 x.1 n, mR ti5 x.2.1 l, mR ti44 x.2.2.2.2.1 n, mR ti44 x.2.2.2.2.2 n] ++ RD) := fun x => by
      refine hs _ _ _ _ [6, 8] (by decide +kernel) ⟨⟨_, rfl, rfl, ?_⟩, ⟨_, rfl, rfl, ?_⟩, trivial⟩
      · exact SQ.make tt_ok rfl rfl n rfl rfl h6a h6b hn63 fun g => ⟨trivial, dp_ (b2_4_6_10_12 (x.1, x.2.1, g, x.2.2.2)) (hA := mv_ 2 rfl)⟩
      · exact SQ.make tt_ok rfl rfl n rfl rfl h8a h8b hn63 fun g => ⟨trivial, dp_ (b2_4_8_10_12 (x.1, x.2.1, x.2.2.1, g, x.2.2.2.2)) (hA := mv_ 2 rfl)⟩
    have b2_6_8_10 : ∀ x : Nat × Nat × Nat × Nat × Nat × Nat, B1 6 (lsR [2, 6, 8, 10]) ([(34, vR x.1 n), (38, vR x.2.2.1 n), (40, vR x.2.2.2.1 n), (42, vR x.2.2.2.2.1 n)] ++ beR d n l) ([mR ti172 x.1 n, mR ti82 x.2.2.1 n, mR ti4 x.2.2.2.1 n, mR ti44 x.2.2.2.2.1 n] ++ RD) := fun x => by
      refine hs _ _ _ _ [4, 12] (by decide +kernel) ⟨⟨_, rfl, rfl, ?_⟩, ⟨_, rfl, rfl, ?_⟩, trivial⟩
      · exact SQ.make tt_ok rfl rfl l rfl rfl h4a h4b hl63 fun g => ⟨trivial, dp_ (b2_4_6_8_10 (x.1, g, x.2.2)) (hA := mv_ 1 rfl)⟩
      · exact SQ.make tt_ok rfl rfl n rfl rfl h12a h12b hn63 fun g => ⟨trivial, dp_ (b2_6_8_10_12 (x.1, x.2.1, x.2.2.1, x.2.2.2.1, x.2.2.2.2.1, g)) (hA := mv_ 4 rfl)⟩
    have b2_6_8_12 : ∀ x : Nat × Nat × Nat × Nat × Nat × Nat, B1 6 (lsR [2, 6, 8, 12]) ([(34, vR x.1 n), (38, vR x.2.2.1 n), (40, vR x.2.2.2.1 n), (44, vR x.2.2.2.2.2 n)] ++ beR d n l) ([mR ti172 x.1 n, mR ti82 x.2.2.1 n, mR ti4 x.2.2.2.1 n, mR ti44 x.2.2.2.2.2 n] ++ RD) := fun x => by
      refine hs _ _ _ _ [4, 10] (by decide +kernel) ⟨⟨_, rfl, rfl, ?_⟩, ⟨_, rfl, rfl, ?_⟩, trivial⟩
      · exact SQ.make tt_ok rfl rfl l rfl rfl h4a h4b hl63 fun g => ⟨trivial, dp_ (b2_4_6_8_12 (x.1, g, x.2.2)) (hA := mv_ 1 rfl)⟩
      · exact SQ.make tt_ok rfl rfl n rfl rfl h10a h10b hn63 fun g => ⟨trivial, dp_ (b2_6_8_10_12 (x.1, x.2.1, x.2.2.1, x.2.2.2.1, g, x.2.2.2.2.2)) (hA := mv_ 3 rfl)⟩
    have b2_6_10_12 : ∀ x : Nat × Nat × Nat × Nat × Nat × Nat, B1 6 (lsR [2, 6, 10, 12]) ([(34, vR x.1 n), (38, vR x.2.2.1 n), (42, vR x.2.2.2.2.1 n), (44, vR x.2.2.2.2.2 n)] ++ beR d n l) ([mR ti172 x.1 n, mR ti82 x.2.2.1 n, mR ti44 x.2.2.2.2.1 n, mR ti44 x.2.2.2.2.2 n] ++ RD) := fun x => by
      refine hs _ _ _ _ [4, 8] (by decide +kernel) ⟨⟨_, rfl, rfl, ?_⟩, ⟨_, rfl, rfl, ?_⟩, trivial⟩
      · exact SQ.make tt_ok rfl rfl l rfl rfl h4a h4b hl63 fun g => ⟨trivial, dp_ (b2_4_6_10_12 (x.1, g, x.2.2)) (hA := mv_ 1 rfl)⟩
      · exact SQ.make tt_ok rfl rfl n rfl rfl h8a h8b hn63 fun g => ⟨trivial, dp_ (b2_6_8_10_12 (x.1, x.2.1, x.2.2.1, g, x.2.2.2.2)) (hA := mv_ 2 rfl)⟩
    have b2_8_10_12 : ∀ x : Nat × Nat × Nat × Nat × Nat × Nat, B1 6 (lsR [2, 8, 10, 12]) ([(34, vR x.1 n), (40, vR x.2.2.2.1 n), (42, vR x.2.2.2.2.1 n), (44, vR x.2.2.2.2.2 n)] ++ beR d n l) ([mR ti172 x.1 n, mR ti4 x.2.2.2.1 n, mR ti44 x.2.2.2.2.1 n, mR ti44 x.2.2.2.2.2 n] ++ RD) := fun x => by
      refine hs _ _ _ _ [4, 6] (by decide +kernel) ⟨⟨_, rfl, rfl, ?_⟩, ⟨_, rfl, rfl, ?_⟩, trivial⟩
      · exact SQ.make tt_ok rfl rfl l rfl rfl h4a h4b hl63 fun g => ⟨trivial, dp_ (b2_4_8_10_12 (x.1, g, x.2.2)) (hA := mv_ 1 rfl)⟩
      · exact SQ.make tt_ok rfl rfl n rfl rfl h6a h6b hn63 fun g => ⟨trivial, dp_ (b2_6_8_10_12 (x.1, x.2.1, g, x.2.2.2)) (hA := mv_ 1 rfl)⟩
    have b4_6_8_10 : ∀ x : Nat × Nat × Nat × Nat × Nat × Nat, B1 6 (lsR [4, 6, 8, 10]) ([(36, vR x.2.1 l), (38, vR x.2.2.1 n), (40, vR x.2.2.2.1 n), (42, vR x.2.2.2.2.1 n)] ++ beR d n l) ([mR ti5 x.2.1 l, mR ti82 x.2.2.1 n, mR ti4 x.2.2.2.1 n, mR ti44 x.2.2.2.2.1 n] ++ RD) := fun x => by
      refine hs _ _ _ _ [2, 12] (by decide +kernel) ⟨⟨_, rfl, rfl, ?_⟩, ⟨_, rfl, rfl, ?_⟩, trivial⟩
      · exact SQ.make tt_ok rfl rfl n rfl rfl h2a h2b hn63 fun g => ⟨trivial, dp_ (b2_4_6_8_10 (g, x.2)) (hA := mv_ 0 rfl)⟩
      · exact SQ.make tt_ok rfl rfl n rfl rfl h12a h12b hn63 fun g => ⟨trivial, dp_ (b4_6_8_10_12 (x.1, x.2.1, x.2.2.1, x.2.2.2.1, x.2.2.2.2.1, g)) (hA := mv_ 4 rfl)⟩
    have b4_6_8_12 : ∀ x : Nat × Nat × Nat × Nat × Nat × Nat, B1 6 (lsR [4, 6, 8, 12]) ([(36, vR x.2.1 l), (38, vR x.2.2.1 n), (40, vR x.2.2.2.1 n), (44, vR x.2.2.2.2.2 n)] ++ beR d n l) ([mR ti5 x.2.1 l, mR ti82 x.2.2.1 n, mR ti4 x.2.2.2.1 n, mR ti44 x.2.2.2.2.2 n] ++ RD) := fun x => by
      refine hs _ _ _ _ [2, 10] (by decide +kernel) ⟨⟨_, rfl, rfl, ?_⟩, ⟨_, rfl, rfl, ?_⟩, trivial⟩
      · exact SQ.make tt_ok rfl rfl n rfl rfl h2a h2b hn63 fun g => ⟨trivial, dp_ (b2_4_6_8_12 (g, x.2)) (hA := mv_ 0 rfl)⟩
      · exact SQ.make tt_ok rfl rfl n rfl rfl h10a h10b hn63 fun g => ⟨trivial, dp_ (b4_6_8_10_12 (x.1, x.2.1, x.2.2.1, x.2.2.2.1, g, x.2.2.2.2.2)) (hA := mv_ 3 rfl)⟩
    have b4_6_10_12 : ∀ x : Nat × Nat × Nat × Nat × Nat × Nat, B1 6 (lsR [4, 6, 10, 12]) ([(36, vR x.2.1 l), (38, vR x.2.2.1 n), (42, vR x.2.2.2.2.1 n), (44, vR x.2.2.2.2.2 n)] ++ beR d n l) ([mR ti5 x.2.1 l, mR ti82 x.2.2.1 n, mR ti44 x.2.2.2.2.1 n, mR ti44 x.2.2.2.2.2 n] ++ RD) := fun x => by
      refine hs _ _ _ _ [2, 8] (by decide +kernel) ⟨⟨_, rfl, rfl, ?_⟩, ⟨_, rfl, rfl, ?_⟩, trivial⟩
      · exact SQ.make tt_ok rfl rfl n rfl rfl h2a h2b hn63 fun g => ⟨trivial, dp_ (b2_4_6_10_12 (g, x.2)) (hA := mv_ 0 rfl)⟩
      · exact SQ.make tt_ok rfl rfl n rfl rfl h8a h8b hn63 fun g => ⟨trivial, dp_ (b4_6_8_10_12 (x.1, x.2.1, x.2.2.1, g, x.2.2.2.2)) (hA := mv_ 2 rfl)⟩
    have b4_8_10_12 : ∀ x : Nat × Nat × Nat × Nat × Nat × Nat, B1 6 (lsR [4, 8, 10, 12]) ([(36, vR x.2.1 l), (40, vR x.2.2.2.1 n), (42, vR x.2.2.2.2.1 n), (44, vR x.2.2.2.2.2 n)] ++ beR d n l) ([mR ti5 x.2.1 l, mR ti4 x.2.2.2.1 n, mR ti44 x.2.2.2.2.1 n, mR ti44 x.2.2.2.2.2 n] ++ RD) := fun x => by
      refine hs _ _ _ _ [2, 6] (by decide +kernel) ⟨⟨_, rfl, rfl, ?_⟩, ⟨_, rfl, rfl, ?_⟩, trivial⟩
      · exact SQ.make tt_ok rfl rfl n rfl rfl h2a h2b hn63 fun g => ⟨trivial, dp_ (b2_4_8_10_12 (g, x.2)) (hA := mv_ 0 rfl)⟩
      · exact SQ.make tt_ok rfl rfl n rfl rfl h6a h6b hn63 fun g => ⟨trivial, dp_ (b4_6_8_10_12 (x.1, x.2.1, g, x.2.2.2)) (hA := mv_ 1 rfl)⟩
    have b6_8_10_12 : ∀ x : Nat × Nat × Nat × Nat × Nat × Nat, B1 6 (lsR [6, 8, 10, 12]) ([(38, vR x.2.2.1 n), (40, vR x.2.2.2.1 n), (42, vR x.2.2.2.2.1 n), (44, vR x.2.2.2.2.2 n)] ++ beR d n l) ([mR ti82 x.2.2.1 n, mR ti4 x.2.2.2.1 n, mR ti44 x.2.2.2.2.1 n, mR ti44 x.2.2.2.2.2 n] ++ RD) := fun x => by
      refine hs _ _ _ _ [2, 4] (by decide +kernel) ⟨⟨_, rfl, rfl, ?_⟩, ⟨_, rfl, rfl, ?_⟩, trivial⟩
      · exact SQ.make tt_ok rfl rfl n rfl rfl h2a h2b hn63 fun g => ⟨trivial, dp_ (b2_6_8_10_12 (g, x.2)) (hA := mv_ 0 rfl)⟩
      · exact SQ.make tt_ok rfl rfl l rfl rfl h4a h4b hl63 fun g => ⟨trivial, dp_ (b4_6_8_10_12 (x.1, g, x.2.2)) (hA := mv_ 0 rfl)⟩
    have b2_4_6 : ∀ x : Nat × Nat × Nat × Nat × Nat × Nat, B1 7 (lsR [2, 4, 6]) ([(34, vR x.1 n), (36, vR x.2.1 l), (38, vR x.2.2.1 n)] ++ beR d n l) ([mR ti172 x.1 n, mR ti5 x.2.1 l, mR ti82 x.2.2.1 n] ++ RD) := fun x => by
      refine hs _ _ _ _ [8, 10, 12] (by decide +kernel) ⟨⟨_, rfl, rfl, ?_⟩, ⟨_, rfl, rfl, ?_⟩, ⟨_, rfl, rfl, ?_⟩, trivial⟩
      · exact SQ.make tt_ok rfl rfl n rfl rfl h8a h8b hn63 fun g => ⟨trivial, dp_ (b2_4_6_8 (x.1, x.2.1, x.2.2.1, g, x.2.2.2.2)) (hA := mv_ 3 rfl)⟩
      · exact SQ.make tt_ok rfl rfl n rfl rfl h10a h10b hn63 fun g => ⟨trivial, dp_ (b2_4_6_10 (x.1, x.2.1, x.2.2.1, x.2.2.2.1, g, x.2.2.2.2.2)) (hA := mv_ 3 rfl)⟩
      · exact SQ.make tt_ok rfl rfl n rfl rfl h12a h12b hn63 fun g => ⟨trivial, dp_ (b2_4_6_12 (x.1, x.2.1, x.2.2.1, x.2.2.2.1, x.2.2.2.2.1, g)) (hA := mv_ 3 rfl)⟩
    have b2_4_8 : ∀ x : Nat × Nat × Nat × Nat × Nat × Nat, B1 7 (lsR [2, 4, 8]) ([(34, vR x.1 n), (36, vR x.2.1 l), (40, vR x.2.2.2.1 n)] ++ beR d n l) ([mR ti172 x.1 n, mR ti5 x.2.1 l, mR ti4 x.2.2.2.1 n] ++ RD) := fun x => by
      refine hs _ _ _ _ [6, 10, 12] (by decide +kernel) ⟨⟨_, rfl, rfl, ?_⟩, ⟨_, rfl, rfl, ?_⟩, ⟨_, rfl, rfl, ?_⟩, trivial⟩
      · exact SQ.make tt_ok rfl rfl n rfl rfl h6a h6b hn63 fun g => ⟨trivial, dp_ (b2_4_6_8 (x.1, x.2.1, g, x.2.2.2)) (hA := mv_ 2 rfl)⟩
      · exact SQ.make tt_ok rfl rfl n rfl rfl h10a h10b hn63 fun g => ⟨trivial, dp_ (b2_4_8_10 (x.1, x.2.1, x.2.2.1, x.2.2.2.1, g, x.2.2.2.2.2)) (hA := mv_ 3 rfl)⟩
      · exact SQ.make tt_ok rfl rfl n rfl rfl h12a h12b hn63 fun g => ⟨trivial, dp_ (b2_4_8_12 (x.1, x.2.1, x.2.2.1, x.2.2.2.1, x.2.2.2.2.1, g)) (hA := mv_ 3 rfl)⟩
    have b2_4_10 : ∀ x : Nat × Nat × Nat × Nat × Nat × Nat, B1 7 (lsR [2, 4, 10]) ([(34, vR x.1 n), (36, vR x.2.1 l), (42, vR x.2.2.2.2.1 n)] ++ beR d n l) ([mR ti172 x.1 n, mR ti5 x.2.1 l, mR ti44 x.2.2.2.2.1 n] ++ RD) := fun x => by
      refine hs _ _ _ _ [6, 8, 12] (by decide +kernel) ⟨⟨_, rfl, rfl, ?_⟩, ⟨_, rfl, rfl, ?_⟩, ⟨_, rfl, rfl, ?_⟩, trivial⟩
      · exact SQ.make tt_ok rfl rfl n rfl rfl h6a h6b hn63 fun g => ⟨trivial, dp_ (b2_4_6_10 (x.1, x.2.1, g, x.2.2.2)) (hA := mv_ 2 rfl)⟩
      · exact SQ.make tt_ok rfl rfl n rfl rfl h8a h8b hn63 fun g => ⟨trivial, dp_ (b2_4_8_10 (x.1, x.2.1, x.2.2.1, g, x.2.2.2.2)) (hA := mv_ 2 rfl)⟩
      · exact SQ.make tt_ok rfl rfl n rfl rfl h12a h12b hn63 fun g => ⟨trivial, dp_ (b2_4_10_12 (x.1, x.2.1, x.2.2.1, x.2.2.2.1, x.2.2.2.2.1, g)) (hA := mv_ 3 rfl)⟩
    have b2_4_12 : ∀ x : Nat × Nat × Nat × Nat × Nat × Nat, B1 7 (lsR [2, 4, 12]) ([(34, vR x.1 n), (36, vR x.2.1 l), (44, vR x.2.2.2.2.2 n)] ++ beR d n l) ([mR ti172 x.1 n, mR ti5 x.2.1 l, mR ti44 x.2.2.2.2.2 n] ++ RD) := fun x => by
      refine hs _ _ _ _ [6, 8, 10] (by decide +kernel) ⟨⟨_, rfl, rfl, ?_⟩, ⟨_, rfl, rfl, ?_⟩, ⟨_, rfl, rfl, ?_⟩, trivial⟩
      · exact SQ.make tt_ok rfl rfl n rfl rfl h6a h6b hn63 fun g => ⟨trivial, dp_ (b2_4_6_12 (x.1, x.2.1, g, x.2.2.2)) (hA := mv_ 2 rfl)⟩
      · exact SQ.make tt_ok rfl rfl n rfl rfl h8a h8b hn63 fun g => ⟨trivial, dp_ (b2_4_8_12 (x.1, x.2.1, x.2.2.1, g, x.2.2.2.2)) (hA := mv_ 2 rfl)⟩
      · exact SQ.make tt_ok rfl rfl n rfl rfl h10a h10b hn63 fun g => ⟨trivial, dp_ (b2_4_10_12 (x.1, x.2.1, x.2.2.1, x.2.2.2.1, g, x.2.2.2.2.2)) (hA := mv_ 2 rfl)⟩
    have b2_6_8 : ∀ x : Nat × Nat × Nat × Nat × Nat × Nat, B1 7 (lsR [2, 6, 8]) ([(34, vR x.1 n), (38, vR x.2.2.1 n), (40, vR x.2.2.2.1 n)] ++ beR d n l) ([mR ti172 x.1 n, mR ti82 x.2.2.1 n, mR ti4 x.2.2.2.1 n] ++ RD) := fun x => by
      refine hs _ _ _ _ [4, 10, 12] (by decide +kernel) ⟨⟨_, rfl, rfl, ?_⟩, ⟨_, rfl, rfl, ?_⟩, ⟨_, rfl, rfl, ?_⟩, trivial⟩
      · exact SQ.make tt_ok rfl rfl l rfl rfl h4a h4b hl63 fun g => ⟨trivial, dp_ (b2_4_6_8 (x.1, g, x.2.2)) (hA := mv_ 1 rfl)⟩
      · exact SQ.make tt_ok rfl rfl n rfl rfl h10a h10b hn63 fun g => ⟨trivial, dp_ (b2_6_8_10 (x.1, x.2.1, x.2.2.1, x.2.2.2.1, g, x.2.2.2.2.2)) (hA := mv_ 3 rfl)⟩
      · exact SQ.make tt_ok rfl rfl n rfl rfl h12a h12b hn63 fun g => ⟨trivial, dp_ (b2_6_8_12 (x.1, x.2.1, x.2.2.1, x.2.2.2.1, x.2.2.2.2.1, g)) (hA := mv_ 3 rfl)⟩
    have b2_6_10 : ∀ x : Nat × Nat × Nat × Nat × Nat × Nat, B1 7 (lsR [2, 6, 10]) ([(34, vR x.1 n), (38, vR x.2.2.1 n), (42, vR x.2.2.2.2.1 n)] ++ beR d n l) ([mR ti172 x.1 n, mR ti82 x.2.2.1 n, mR ti44 x.2.2.2.2.1 n] ++ RD) := fun x => by
      refine hs _ _ _ _ [4, 8, 12] (by decide +kernel) ⟨⟨_, rfl, rfl, ?_⟩, ⟨_, rfl, rfl, ?_⟩, ⟨_, rfl, rfl, ?_⟩, trivial⟩
      · exact SQ.make tt_ok rfl rfl l rfl rfl h4a h4b hl63 fun g => ⟨trivial, dp_ (b2_4_6_10 (x.1, g, x.2.2)) (hA := mv_ 1 rfl)⟩
      · exact SQ.make tt_ok rfl rfl n rfl rfl h8a h8b hn63 fun g => ⟨trivial, dp_ (b2_6_8_10 (x.1, x.2.1, x.2.2.1, g, x.2.2.2.2)) (hA := mv_ 2 rfl)⟩
      · exact SQ.make tt_ok rfl rfl n rfl rfl h12a h12b hn63 fun g => ⟨trivial, dp_ (b2_6_10_12 (x.1, x.2.1, x.2.2.1, x.2.2.2.1, x.2.2.2.2.1, g)) (hA := mv_ 3 rfl)⟩
    have b2_6_12 : ∀ x : Nat × Nat × Nat × Nat × Nat × Nat, B1 7 (lsR [2, 6, 12]) ([(34, vR x.1 n), (38, vR x.2.2.1 n), (44, vR x.2.2.2.2.2 n)] ++ beR d n l) ([mR ti172 x.1 n, mR ti82 x.2.2.1 n, mR ti44 x.2.2.2.2.2 n] ++ RD) := fun x => by
      refine hs _ _ _ _ [4, 8, 10] (by decide +kernel) ⟨⟨_, rfl, rfl, ?_⟩, ⟨_, rfl, rfl, ?_⟩, ⟨_, rfl, rfl, ?_⟩, trivial⟩
      · exact SQ.make tt_ok rfl rfl l rfl rfl h4a h4b hl63 fun g => ⟨trivial, dp_ (b2_4_6_12 (x.1, g, x.2.2)) (hA := mv_ 1 rfl)⟩
      · exact SQ.make tt_ok rfl rfl n rfl rfl h8a h8b hn63 fun g => ⟨trivial, dp_ (b2_6_8_12 (x.1, x.2.1, x.2.2.1, g, x.2.2.2.2)) (hA := mv_ 2 rfl)⟩
      · exact SQ.make tt_ok rfl rfl n rfl rfl h10a h10b hn63 fun g => ⟨trivial, dp_ (b2_6_10_12 (x.1, x.2.1, x.2.2.1, x.2.2.2.1, g, x.2.2.2.2.2)) (hA := mv_ 2 rfl)⟩
    have b2_8_10 : ∀ x : Nat × Nat × Nat × Nat × Nat × Nat, B1 7 (lsR [2, 8, 10]) ([(34, vR x.1 n), (40, vR x.2.2.2.1 n), (42, vR x.2.2.2.2.1 n)] ++ beR d n l) ([mR ti172 x.1 n, mR ti4 x.2.2.2.1 n, mR ti44 x.2.2.2.2.1 n] ++ RD) := fun x => by
      refine hs _ _ _ _ [4, 6, 12] (by decide +kernel) ⟨⟨_, rfl, rfl, ?_⟩, ⟨_, rfl, rfl, ?_⟩, ⟨_, rfl, rfl, ?_⟩, trivial⟩
      · exact SQ.make tt_ok rfl rfl l rfl rfl h4a h4b hl63 fun g => ⟨trivial, dp_ (b2_4_8_10 (x.1, g, x.2.2)) (hA := mv_ 1 rfl)⟩
      · exact SQ.make tt_ok rfl rfl n rfl rfl h6a h6b hn63 fun g => ⟨trivial, dp_ (b2_6_8_10 (x.1, x.2.1, g, x.2.2.2)) (hA := mv_ 1 rfl)⟩
      · exact SQ.make tt_ok rfl rfl n rfl rfl h12a h12b hn63 fun g => ⟨trivial, dp_ (b2_8_10_12 (x.1, x.2.1, x.2.2.1, x.2.2.2.1, x.2.2.2.2.1, g)) (hA := mv_ 3 rfl)⟩
    have b2_8_12 : ∀ x : Nat × Nat × Nat × Nat × Nat × Nat, B1 7 (lsR [2, 8, 12]) ([(34, vR x.1 n), (40, vR x.2.2.2.1 n), (44, vR x.2.2.2.2.2 n)] ++ beR d n l) ([mR ti172 x.1 n, mR ti4 x.2.2.2.1 n, mR ti44 x.2.2.2.2.2 n] ++ RD) := fun x => by
      refine hs _ _ _ _ [4, 6, 10] (by decide +kernel) ⟨⟨_, rfl, rfl, ?_⟩, ⟨_, rfl, rfl, ?_⟩, ⟨_, rfl, rfl, ?_⟩, trivial⟩
      · exact SQ.make tt_ok rfl rfl l rfl rfl h4a h4b hl63 fun g => ⟨trivial, dp_ (b2_4_8_12 (x.1, g, x.2.2)) (hA := mv_ 1 rfl)⟩
      · exact SQ.make tt_ok rfl rfl n rfl rfl h6a h6b hn63 fun g => ⟨trivial, dp_ (b2_6_8_12 (x.1, x.2.1, g, x.2.2.2)) (hA := mv_ 1 rfl)⟩
      · exact SQ.make tt_ok rfl rfl n rfl rfl h10a h10b hn63 fun g => ⟨trivial, dp_ (b2_8_10_12 (x.1, x.2.1, x.2.2.1, x.2.2.2.1, g, x.2.2.2.2.2)) (hA := mv_ 2 rfl)⟩
    have b2_10_12 : ∀ x : Nat × Nat × Nat × Nat × Nat × Nat, B1 7 (lsR [2, 10, 12]) ([(34, vR x.1 n), (42, vR x.2.2.2.2.1 n), (44, vR x.2.2.2.2.2 n)] ++ beR d n l) ([mR ti172 x.1 n, mR ti44 x.2.2.2.2.1 n, mR ti44 x.2.2.2.2.2 n] ++ RD) := fun x => by
      refine hs _ _ _ _ [4, 6, 8] (by decide +kernel) ⟨⟨_, rfl, rfl, ?_⟩, ⟨_, rfl, rfl, ?_⟩, ⟨_, rfl, rfl, ?_⟩, trivial⟩
      · exact SQ.make tt_ok rfl rfl l rfl rfl h4a h4b hl63 fun g => ⟨trivial, dp_ (b2_4_10_12 (x.1, g, x.2.2)) (hA := mv_ 1 rfl)⟩
      · exact SQ.make tt_ok rfl rfl n rfl rfl h6a h6b hn63 fun g => ⟨trivial, dp_ (b2_6_10_12 (x.1, x.2.1, g, x.2.2.2)) (hA := mv_ 1 rfl)⟩
      · exact SQ.make tt_ok rfl rfl n rfl rfl h8a h8b hn63 fun g => ⟨trivial, dp_ (b2_8_10_12 (x.1, x.2.1, x.2.2.1, g, x.2.2.2.2)) (hA := mv_ 1 rfl)⟩
    have b4_6_8 : ∀ x : Nat × Nat × Nat × Nat × Nat × Nat, B1 7 (lsR [4, 6, 8]) ([(36, vR x.2.1 l), (38, vR x.2.2.1 n), (40, vR x.2.2.2.1 n)] ++ beR d n l) ([mR ti5 x.2.1 l, mR ti82 x.2.2.1 n, mR ti4 x.2.2.2.1 n] ++ RD) := fun x => by
      refine hs _ _ _ _ [2, 10, 12] (by decide +kernel) ⟨⟨_, rfl, rfl, ?_⟩, ⟨_, rfl, rfl, ?_⟩, ⟨_, rfl, rfl, ?_⟩, trivial⟩
      · exact SQ.make tt_ok rfl rfl n rfl rfl h2a h2b hn63 fun g => ⟨trivial, dp_ (b2_4_6_8 (g, x.2)) (hA := mv_ 0 rfl)⟩
      · exact SQ.make tt_ok rfl rfl n rfl rfl h10a h10b hn63 fun g => ⟨trivial, dp_ (b4_6_8_10 (x.1, x.2.1, x.2.2.1, x.2.2.2.1, g, x.2.2.2.2.2)) (hA := mv_ 3 rfl)⟩
      · exact SQ.make tt_ok rfl rfl n rfl rfl h12a h12b hn63 fun g => ⟨trivial, dp_ (b4_6_8_12 (x.1, x.2.1, x.2.2.1, x.2.2.2.1, x.2.2.2.2.1, g)) (hA := mv_ 3 rfl)⟩
    have b4_6_10 : ∀ x : Nat × Nat × Nat × Nat × Nat × Nat, B1 7 (lsR [4, 6, 10]) ([(36, vR x.2.1 l), (38, vR x.2.2.1 n), (42, vR x.2.2.2.2.1 n)] ++ beR d n l) ([mR ti5 x.2.1 l, mR ti82 x.2.2.1 n, mR ti44 x.2.2.2.2.1 n] ++ RD) := fun x => by
      refine hs _ _ _ _ [2, 8, 12] (by decide +kernel) ⟨⟨_, rfl, rfl, ?_⟩, ⟨_, rfl, rfl, ?_⟩, ⟨_, rfl, rfl, ?_⟩, trivial⟩
      · exact SQ.make tt_ok rfl rfl n rfl rfl h2a h2b hn63 fun g => ⟨trivial, dp_ (b2_4_6_10 (g, x.2)) (hA := mv_ 0 rfl)⟩
      · exact SQ.make tt_ok rfl rfl n rfl rfl h8a h8b hn63 fun g => ⟨trivial, dp_ (b4_6_8_10 (x.1, x.2.1, x.2.2.1, g, x.2.2.2.2)) (hA := mv_ 2 rfl)⟩
      · exact SQ.make tt_ok rfl rfl n rfl rfl h12a h12b hn63 fun g => ⟨trivial, dp_ (b4_6_10_12 (x.1, x.2.1, x.2.2.1, x.2.2.2.1, x.2.2.2.2.1, g)) (hA := mv_ 3 rfl)⟩
    have b4_6_12 : ∀ x : Nat × Nat × Nat × Nat × Nat × Nat, B1 7 (lsR [4, 6, 12]) ([(36, vR x.2.1 l), (38, vR x.2.2.1 n), (44, vR x.2.2.2.2.2 n)] ++ beR d n l) ([mR ti5 x.2.1 l, mR ti82 x.2.2.1 n, mR ti44 x.2.2.2.2.2 n] ++ RD) := fun x => by
      refine hs _ _ _ _ [2, 8, 10] (by decide +kernel) ⟨⟨_, rfl, rfl, ?_⟩, ⟨_, rfl, rfl, ?_⟩, ⟨_, rfl, rfl, ?_⟩, trivial⟩
      · exact SQ.make tt_ok rfl rfl n rfl rfl h2a h2b hn63 fun g => ⟨trivial, dp_ (b2_4_6_12 (g, x.2)) (hA := mv_ 0 rfl)⟩
      · exact SQ.make tt_ok rfl rfl n rfl rfl h8a h8b hn63 fun g => ⟨trivial, dp_ (b4_6_8_12 (x.1, x.2.1, x.2.2.1, g, x.2.2.2.2)) (hA := mv_ 2 rfl)⟩
      · exact SQ.make tt_ok rfl rfl n rfl rfl h10a h10b hn63 fun g => ⟨trivial, dp_ (b4_6_10_12 (x.1, x.2.1, x.2.2.1, x.2.2.2.1, g, x.2.2.2.2.2)) (hA := mv_ 2 rfl)⟩
    have b4_8_10 : ∀ x : Nat × Nat × Nat × Nat × Nat × Nat, B1 7 (lsR [4, 8, 10]) ([(36, vR x.2.1 l), (40, vR x.2.2.2.1 n), (42, vR x.2.2.2.2.1 n)] ++ beR d n l) ([mR ti5 x.2.1 l, mR ti4 x.2.2.2.1 n, mR ti44 x.2.2.2.2.1 n] ++ RD) := fun x => by
      refine hs _ _ _ _ [2, 6, 12] (by decide +kernel) ⟨⟨_, rfl, rfl, ?_⟩, ⟨_, rfl, rfl, ?_⟩, ⟨_, rfl, rfl, ?_⟩, trivial⟩
      · exact SQ.make tt_ok rfl rfl n rfl rfl h2a h2b hn63 fun g => ⟨trivial, dp_ (b2_4_8_10 (g, x.2)) (hA := mv_ 0 rfl)⟩
      · exact SQ.make tt_ok rfl rfl n rfl rfl h6a h6b hn63 fun g => ⟨trivial, dp_ (b4_6_8_10 (x.1, x.2.1, g, x.2.2.2)) (hA := mv_ 1 rfl)⟩
      · exact SQ.make tt_ok rfl rfl n rfl rfl h12a h12b hn63 fun g => ⟨trivial, dp_ (b4_8_10_12 (x.1, x.2.1, x.2.2.1, x.2.2.2.1, x.2.2.2.2.1, g)) (hA := mv_ 3 rfl)⟩
    have b4_8_12 : ∀ x : Nat × Nat × Nat × Nat × Nat × Nat, B1 7 (lsR [4, 8, 12]) ([(36, vR x.2.1 l), (40, vR x.2.2.2.1 n), (44, vR x.2.2.2.2.2 n)] ++ beR d n l) ([mR ti5 x.2.1 l, mR ti4 x.2.2.2.1 n, mR ti44 x.2.2.2.2.2 n] ++ RD) := fun x => by
      refine hs _ _ _ _ [2, 6, 10] (by decide +kernel) ⟨⟨_, rfl, rfl, ?_⟩, ⟨_, rfl, rfl, ?_⟩, ⟨_, rfl, rfl, ?_⟩, trivial⟩
      · exact SQ.make tt_ok rfl rfl n rfl rfl h2a h2b hn63 fun g => ⟨trivial, dp_ (b2_4_8_12 (g, x.2)) (hA := mv_ 0 rfl)⟩
      · exact SQ.make tt_ok rfl rfl n rfl rfl h6a h6b hn63 fun g => ⟨trivial, dp_ (b4_6_8_12 (x.1, x.2.1, g, x.2.2.2)) (hA := mv_ 1 rfl)⟩
      · exact SQ.make tt_ok rfl rfl n rfl rfl h10a h10b hn63 fun g => ⟨trivial, dp_ (b4_8_10_12 (x.1, x.2.1, x.2.2.1, x.2.2.2.1, g, x.2.2.2.2.2)) (hA := mv_ 2 rfl)⟩
    have b4_10_12 : ∀ x : Nat × Nat × Nat × Nat × Nat × Nat, B1 7 (lsR [4, 10, 12]) ([(36, vR x.2.1 l), (42, vR x.2.2.2.2.1 n), (44, vR x.2.2.2.2.2 n)] ++ beR d n l) ([mR ti5 x.2.1 l, mR ti44 x.2.2.2.2.1 n, mR ti44 x.2.2.2.2.2 n] ++ RD) := fun x => by
      refine hs _ _ _ _ [2, 6, 8] (by decide +kernel) ⟨⟨_, rfl, rfl, ?_⟩, ⟨_, rfl, rfl, ?_⟩, ⟨_, rfl, rfl, ?_⟩, trivial⟩
      · exact SQ.make tt_ok rfl rfl n rfl rfl h2a h2b hn63 fun g => ⟨trivial, dp_ (b2_4_10_12 (g, x.2)) (hA := mv_ 0 rfl)⟩
      · exact SQ.make tt_ok rfl rfl n rfl rfl h6a h6b hn63 fun g => ⟨trivial, dp_ (b4_6_10_12 (x.1, x.2.1, g, x.2.2.2)) (hA := mv_ 1 rfl)⟩
      · exact SQ.make tt_ok rfl rfl n rfl rfl h8a h8b hn63 fun g => ⟨trivial, dp_ (b4_8_10_12 (x.1, x.2.1, x.2.2.1, g, x.2.2.2.2)) (hA := mv_ 1 rfl)⟩
    have b6_8_10 : ∀ x : Nat × Nat × Nat × Nat × Nat × Nat, B1 7 (lsR [6, 8, 10]) ([(38, vR x.2.2.1 n), (40, vR x.2.2.2.1 n), (42, vR x.2.2.2.2.1 n)] ++ beR d n l) ([mR ti82 x.2.2.1 n, mR ti4 x.2.2.2.1 n, mR ti44 x.2.2.2.2.1 n] ++ RD) := fun x => by
      refine hs _ _ _ _ [2, 4, 12] (by decide +kernel) ⟨⟨_, rfl, rfl, ?_⟩, ⟨_, rfl, rfl, ?_⟩, ⟨_, rfl, rfl, ?_⟩, trivial⟩
      · exact SQ.make tt_ok rfl rfl n rfl rfl h2a h2b hn63 fun g => ⟨trivial, dp_ (b2_6_8_10 (g, x.2)) (hA := mv_ 0 rfl)⟩
      · exact SQ.make tt_ok rfl rfl l rfl rfl h4a h4b hl63 fun g => ⟨trivial, dp_ (b4_6_8_10 (x.1, g, x.2.2)) (hA := mv_ 0 rfl)⟩
      · exact SQ.make tt_ok rfl rfl n rfl rfl h12a h12b hn63 fun g => ⟨trivial, dp_ (b6_8_10_12 (x.1, x.2.1, x.2.2.1, x.2.2.2.1, x.2.2.2.2.1, g)) (hA := mv_ 3 rfl)⟩
    have b6_8_12 : ∀ x : Nat × Nat × Nat × Nat × Nat × Nat, B1 7 (lsR [6, 8, 12]) ([(38, vR x.2.2.1 n), (40, vR x.2.2.2.1 n), (44, vR x.2.2.2.2.2 n)] ++ beR d n l) ([mR ti82 x.2.2.1 n, mR ti4 x.2.2.2.1 n, mR ti44 x.2.2.2.2.2 n] ++ RD) := fun x => by
      refine hs _ _ _ _ [2, 4, 10] (by decide +kernel) ⟨⟨_, rfl, rfl, ?_⟩, ⟨_, rfl, rfl, ?_⟩, ⟨_, rfl, rfl, ?_⟩, trivial⟩
      · exact SQ.make tt_ok rfl rfl n rfl rfl h2a h2b hn63 fun g => ⟨trivial, dp_ (b2_6_8_12 (g, x.2)) (hA := mv_ 0 rfl)⟩
      · exact SQ.make tt_ok rfl rfl l rfl rfl h4a h4b hl63 fun g => ⟨trivial, dp_ (b4_6_8_12 (x.1, g, x.2.2)) (hA := mv_ 0 rfl)⟩
      · exact SQ.make tt_ok rfl rfl n rfl rfl h10a h10b hn63 fun g => ⟨trivial, dp_ (b6_8_10_12 (x.1, x.2.1, x.2.2.1, x.2.2.2.1, g, x.2.2.2.2.2)) (hA := mv_ 2 rfl)⟩
    have b6_10_12 : ∀ x : Nat × Nat × Nat × Nat × Nat × Nat, B1 7 (lsR [6, 10, 12]) ([(38, vR x.2.2.1 n), (42, vR x.2.2.2.2.1 n), (44, vR x.2.2.2.2.2 n)] ++ beR d n l) ([mR ti82 x.2.2.1 n, mR ti44 x.2.2.2.2.1 n, mR ti44 x.2.2.2.2.2 n] ++ RD) := fun x => by
      refine hs _ _ _ _ [2, 4, 8] (by decide +kernel) ⟨⟨_, rfl, rfl, ?_⟩, ⟨_, rfl, rfl, ?_⟩, ⟨_, rfl, rfl, ?_⟩, trivial⟩
      · exact SQ.make tt_ok rfl rfl n rfl rfl h2a h2b hn63 fun g => ⟨trivial, dp_ (b2_6_10_12 (g, x.2)) (hA := mv_ 0 rfl)⟩
      · exact SQ.make tt_ok rfl rfl l rfl rfl h4a h4b hl63 fun g => ⟨trivial, dp_ (b4_6_10_12 (x.1, g, x.2.2)) (hA := mv_ 0 rfl)⟩
      · exact SQ.make tt_ok rfl rfl n rfl rfl h8a h8b hn63 fun g => ⟨trivial, dp_ (b6_8_10_12 (x.1, x.2.1, x.2.2.1, g, x.2.2.2.2)) (hA := mv_ 1 rfl)⟩
    have b8_10_12 : ∀ x : Nat × Nat × Nat × Nat × Nat × Nat, B1 7 (lsR [8, 10, 12]) ([(40, vR x.2.2.2.1 n), (42, vR x.2.2.2.2.1 n), (44, vR x.2.2.2.2.2 n)] ++ beR d n l) ([mR ti4 x.2.2.2.1 n, mR ti44 x.2.2.2.2.1 n, mR ti44 x.2.2.2.2.2 n] ++ RD) := fun x => by
      refine hs _ _ _ _ [2, 4, 6] (by decide +kernel) ⟨⟨_, rfl, rfl, ?_⟩, ⟨_, rfl, rfl, ?_⟩, ⟨_, rfl, rfl, ?_⟩, trivial⟩
      · exact SQ.make tt_ok rfl rfl n rfl rfl h2a h2b hn63 fun g => ⟨trivial, dp_ (b2_8_10_12 (g, x.2)) (hA := mv_ 0 rfl)⟩
      · exact SQ.make tt_ok rfl rfl l rfl rfl h4a h4b hl63 fun g => ⟨trivial, dp_ (b4_8_10_12 (x.1, g, x.2.2)) (hA := mv_ 0 rfl)⟩
      · exact SQ.make tt_ok rfl rfl n rfl rfl h6a h6b hn63 fun g => ⟨trivial, dp_ (b6_8_10_12 (x.1, x.2.1, g, x.2.2.2)) (hA := mv_ 0 rfl)⟩
    have b2_4 : ∀ x : Nat × Nat × Nat × Nat × Nat × Nat, B1 8 (lsR [2, 4]) ([(34, vR x.1 n), (36, vR x.2.1 l)] ++ beR d n l) ([mR ti172 x.1 n, mR ti5 x.2.1 l] ++ RD) := fun x => by
      refine hs _ _ _ _ [6, 8, 10, 12] (by decide +kernel) ⟨⟨_, rfl, rfl, ?_⟩, ⟨_, rfl, rfl, ?_⟩, ⟨_, rfl, rfl, ?_⟩, ⟨_, rfl, rfl, ?_⟩, trivial⟩
      · exact SQ.make tt_ok rfl rfl n rfl rfl h6a h6b hn63 fun g => ⟨trivial, dp_ (b2_4_6 (x.1, x.2.1, g, x.2.2.2)) (hA := mv_ 2 rfl)⟩
      · exact SQ.make tt_ok rfl rfl n rfl rfl h8a h8b hn63 fun g => ⟨trivial, dp_ (b2_4_8 (x.1, x.2.1, x.2.2.1, g, x.2.2.2.2)) (hA := mv_ 2 rfl)⟩
      · exact SQ.make tt_ok rfl rfl n rfl rfl h10a h10b hn63 fun g => ⟨trivial, dp_ (b2_4_10 (x.1, x.2.1, x.2.2.1, x.2.2.2.1, g, x.2.2.2.2.2)) (hA := mv_ 2 rfl)⟩
      · exact SQ.make tt_ok rfl rfl n rfl rfl h12a h12b hn63 fun g => ⟨trivial, dp_ (b2_4_12 (x.1, x.2.1, x.2.2.1, x.2.2.2.1, x.2.2.2.2.1, g)) (hA := mv_ 2 rfl)⟩
    have b2_6 : ∀ x : Nat × Nat × Nat × Nat × Nat × Nat, B1 8 (lsR [2, 6]) ([(34, vR x.1 n), (38, vR x.2.2.1 n)] ++ beR d n l) ([mR ti172 x.1 n, mR ti82 x.2.2.1 n] ++ RD) := fun x => by
      refine hs _ _ _ _ [4, 8, 10, 12] (by decide +kernel) ⟨⟨_, rfl, rfl, ?_⟩, ⟨_, rfl, rfl, ?_⟩, ⟨_, rfl, rfl, ?_⟩, ⟨_, rfl, rfl, ?_⟩, trivial⟩
      · exact SQ.make tt_ok rfl rfl l rfl rfl h4a h4b hl63 fun g => ⟨trivial, dp_ (b2_4_6 (x.1, g, x.2.2)) (hA := mv_ 1 rfl)⟩
      · exact SQ.make tt_ok rfl rfl n rfl rfl h8a h8b hn63 fun g => ⟨trivial, dp_ (b2_6_8 (x.1, x.2.1, x.2.2.1, g, x.2.2.2.2)) (hA := mv_ 2 rfl)⟩
      · exact SQ.make tt_ok rfl rfl n rfl rfl h10a h10b hn63 fun g => ⟨trivial, dp_ (b2_6_10 (x.1, x.2.1, x.2.2.1, x.2.2.2.1, g, x.2.2.2.2.2)) (hA := mv_ 2 rfl)⟩
      · exact SQ.make tt_ok rfl rfl n rfl rfl h12a h12b hn63 fun g => ⟨trivial, dp_ (b2_6_12 (x.1, x.2.1, x.2.2.1, x.2.2.2.1, x.2.2.2.2.1, g)) (hA := mv_ 2 rfl)⟩
    have b2_8 : ∀ x : Nat × Nat × Nat × Nat × Nat × Nat, B1 8 (lsR [2, 8]) ([(34, vR x.1 n), (40, vR x.2.2.2.1 n)] ++ beR d n l) ([mR ti172 x.1 n, mR ti4 x.2.2.2.1 n] ++ RD) := fun x => by
      refine hs _ _ _ _ [4, 6, 10, 12] (by decide +kernel) ⟨⟨_, rfl, rfl, ?_⟩, ⟨_, rfl, rfl, ?_⟩, ⟨_, rfl, rfl, ?_⟩, ⟨_, rfl, rfl, ?_⟩, trivial⟩
      · exact SQ.make tt_ok rfl rfl l rfl rfl h4a h4b hl63 fun g => ⟨trivial, dp_ (b2_4_8 (x.1, g, x.2.2)) (hA := mv_ 1 rfl)⟩
      · exact SQ.make tt_ok rfl rfl n rfl rfl h6a h6b hn63 fun g => ⟨trivial, dp_ (b2_6_8 (x.1, x.2.1, g, x.2.2.2)) (hA := mv_ 1 rfl)⟩
      · exact SQ.make tt_ok rfl rfl n rfl rfl h10a h10b hn63 fun g => ⟨trivial, dp_ (b2_8_10 (x.1, x.2.1, x.2.2.1, x.2.2.2.1, g, x.2.2.2.2.2)) (hA := mv_ 2 rfl)⟩
      · exact SQ.make tt_ok rfl rfl n rfl rfl h12a h12b hn63 fun g => ⟨trivial, dp_ (b2_8_12 (x.1, x.2.1, x.2.2.1, x.2.2.2.1, x.2.2.2.2.1, g)) (hA := mv_ 2 rfl)⟩
    have b2_10 : ∀ x : Nat × Nat × Nat × Nat × Nat × Nat, B1 8 (lsR [2, 10]) ([(34, vR x.1 n), (42, vR x.2.2.2.2.1 n)] ++ beR d n l) ([mR ti172 x.1 n, mR ti44 x.2.2.2.2.1 n] ++ RD) := fun x => by
      refine hs _ _ _ _ [4, 6, 8, 12] (by decide +kernel) ⟨⟨_, rfl, rfl, ?_⟩, ⟨_, rfl, rfl, ?_⟩, ⟨_, rfl, rfl, ?_⟩, ⟨_, rfl, rfl, ?_⟩, trivial⟩
      · exact SQ.make tt_ok rfl rfl l rfl rfl h4a h4b hl63 fun g => ⟨trivial, dp_ (b2_4_10 (x.1, g, x.2.2)) (hA := mv_ 1 rfl)⟩
      · exact SQ.make tt_ok rfl rfl n rfl rfl h6a h6b hn63 fun g => ⟨trivial, dp_ (b2_6_10 (x.1, x.2.1, g, x.2.2.2)) (hA := mv_ 1 rfl)⟩
      · exact SQ.make tt_ok rfl rfl n rfl rfl h8a h8b hn63 fun g => ⟨trivial, dp_ (b2_8_10 (x.1, x.2.1, x.2.2.1, g, x.2.2.2.2)) (hA := mv_ 1 rfl)⟩
      · exact SQ.make tt_ok rfl rfl n rfl rfl h12a h12b hn63 fun g => ⟨trivial, dp_ (b2_10_12 (x.1, x.2.1, x.2.2.1, x.2.2.2.1, x.2.2.2.2.1, g)) (hA := mv_ 2 rfl)⟩
    have b2_12 : ∀ x : Nat × Nat × Nat × Nat × Nat × Nat, B1 8 (lsR [2, 12]) ([(34, vR x.1 n), (44, vR x.2.2.2.2.2 n)] ++ beR d n l) ([mR ti172 x.1 n, mR ti44 x.2.2.2.2.2 n] ++ RD) := fun x => by
      refine hs _ _ _ _ [4, 6, 8, 10] (by decide +kernel) ⟨⟨_, rfl, rfl, ?_⟩, ⟨_, rfl, rfl, ?_⟩, ⟨_, rfl, rfl, ?_⟩, ⟨_, rfl, rfl, ?_⟩, trivial⟩
      · exact SQ.make tt_ok rfl rfl l rfl rfl h4a h4b hl63 fun g => ⟨trivial, dp_ (b2_4_12 (x.1, g, x.2.2)) (hA := mv_ 1 rfl)⟩
      · exact SQ.make tt_ok rfl rfl n rfl rfl h6a h6b hn63 fun g => ⟨trivial, dp_ (b2_6_12 (x.1, x.2.1, g, x.2.2.2)) (hA := mv_ 1 rfl)⟩
      · exact SQ.make tt_ok rfl rfl n rfl rfl h8a h8b hn63 fun g => ⟨trivial, dp_ (b2_8_12 (x.1, x.2.1, x.2.2.1, g, x.2.2.2.2)) (hA := mv_ 1 rfl)⟩
      · exact SQ.make tt_ok rfl rfl n rfl rfl h10a h10b hn63 fun g => ⟨trivial, dp_ (b2_10_12 (x.1, x.2.1, x.2.2.1, x.2.2.2.1, g, x.2.2.2.2.2)) (hA := mv_ 1 rfl)⟩
    have b4_6 : ∀ x : Nat × Nat × Nat × Nat × Nat × Nat, B1 8 (lsR [4, 6]) ([(36, vR x.2.1 l), (38, vR x.2.2.1 n)] ++ beR d n l) ([mR ti5 x.2.1 l, mR ti82 x.2.2.1 n] ++ RD) := fun x => by
      refine hs _ _ _ _ [2, 8, 10, 12] (by decide +kernel) ⟨⟨_, rfl, rfl, ?_⟩, ⟨_, rfl, rfl, ?_⟩, ⟨_, rfl, rfl, ?_⟩, ⟨_, rfl, rfl, ?_⟩, trivial⟩
      · exact SQ.make tt_ok rfl rfl n rfl rfl h2a h2b hn63 fun g => ⟨trivial, dp_ (b2_4_6 (g, x.2)) (hA := mv_ 0 rfl)⟩
      · exact SQ.make tt_ok rfl rfl n rfl rfl h8a h8b hn63 fun g => ⟨trivial, dp_ (b4_6_8 (x.1, x.2.1, x.2.2.1, g, x.2.2.2.2)) (hA := mv_ 2 rfl)⟩
      · exact SQ.make tt_ok rfl rfl n rfl rfl h10a h10b hn63 fun g => ⟨trivial, dp_ (b4_6_10 (x.1, x.2.1, x.2.2.1, x.2.2.2.1, g, x.2.2.2.2.2)) (hA := mv_ 2 rfl)⟩
      · exact SQ.make tt_ok rfl rfl n rfl rfl h12a h12b hn63 fun g => ⟨trivial, dp_ (b4_6_12 (x.1, x.2.1, x.2.2.1, x.2.2.2.1, x.2.2.2.2.1, g)) (hA := mv_ 2 rfl)⟩
    have b4_8 : ∀ x : Nat × Nat × Nat × Nat × Nat × Nat, B1 8 (lsR [4, 8]) ([(36, vR x.2.1 l), (40, vR x.2.2.2.1 n)] ++ beR d n l) ([mR ti5 x.2.1 l, mR ti4 x.2.2.2.1 n] ++ RD) := fun x => by
      refine hs _ _ _ _ [2, 6, 10, 12] (by decide +kernel) ⟨⟨_, rfl, rfl, ?_⟩, ⟨_, rfl, rfl, ?_⟩, ⟨_, rfl, rfl, ?_⟩, ⟨_, rfl, rfl, ?_⟩, trivial⟩
      · exact SQ.make tt_ok rfl rfl n rfl rfl h2a h2b hn63 fun g => ⟨trivial, dp_ (b2_4_8 (g, x.2)) (hA := mv_ 0 rfl)⟩
      · exact SQ.make tt_ok rfl rfl n rfl rfl h6a h6b hn63 fun g => ⟨trivial, dp_ (b4_6_8 (x.1, x.2.1, g, x.2.2.2)) (hA := mv_ 1 rfl)⟩
      · exact SQ.make tt_ok rfl rfl n rfl rfl h10a h10b hn63 fun g => ⟨trivial, dp_ (b4_8_10 (x.1, x.2.1, x.2.2.1, x.2.2.2.1, g, x.2.2.2.2.2)) (hA := mv_ 2 rfl)⟩
      · exact SQ.make tt_ok rfl rfl n rfl rfl h12a h12b hn63 fun g => ⟨trivial, dp_ (b4_8_12 (x.1, x.2.1, x.2.2.1, x.2.2.2.1, x.2.2.2.2.1, g)) (hA := mv_ 2 rfl)⟩
    have b4_10 : ∀ x : Nat × Nat × Nat × Nat × Nat × Nat, B1 8 (lsR [4, 10]) ([(36, vR x.2.1 l), (42, vR x.2.2.2.2.1 n)] ++ beR d n l) ([mR ti5 x.2.1 l, mR ti44 x.2.2.2.2.1 n] ++ RD) := fun x => by
      refine hs _ _ _ _ [2, 6, 8, 12] (by decide +kernel) ⟨⟨_, rfl, rfl, ?_⟩, ⟨_, rfl, rfl, ?_⟩, ⟨_, rfl, rfl, ?_⟩, ⟨_, rfl, rfl, ?_⟩, trivial⟩
      · exact SQ.make tt_ok rfl rfl n rfl rfl h2a h2b hn63 fun g => ⟨trivial, dp_ (b2_4_10 (g, x.2)) (hA := mv_ 0 rfl)⟩
      · exact SQ.make tt_ok rfl rfl n rfl rfl h6a h6b hn63 fun g => ⟨trivial, dp_ (b4_6_10 (x.1, x.2.1, g, x.2.2.2)) (hA := mv_ 1 rfl)⟩
      · exact SQ.make tt_ok rfl rfl n rfl rfl h8a h8b hn63 fun g => ⟨trivial, dp_ (b4_8_10 (x.1, x.2.1, x.2.2.1, g, x.2.2.2.2)) (hA := mv_ 1 rfl)⟩
      · exact SQ.make tt_ok rfl rfl n rfl rfl h12a h12b hn63 fun g => ⟨trivial, dp_ (b4_10_12 (x.1, x.2.1, x.2.2.1, x.2.2.2.1, x.2.2.2.2.1, g)) (hA := mv_ 2 rfl)⟩
    have b4_12 : ∀ x : Nat × Nat × Nat × Nat × Nat × Nat, B1 8 (lsR [4, 12]) ([(36, vR x.2.1 l), (44, vR x.2.2.2.2.2 n)] ++ beR d n l) ([mR ti5 x.2.1 l, mR ti44 x.2.2.2.2.2 n] ++ RD) := fun x => by
      refine hs _ _ _ _ [2, 6, 8, 10] (by decide +kernel) ⟨⟨_, rfl, rfl, ?_⟩, ⟨_, rfl, rfl, ?_⟩, ⟨_, rfl, rfl, ?_⟩, ⟨_, rfl, rfl, ?_⟩, trivial⟩
      · exact SQ.make tt_ok rfl rfl n rfl rfl h2a h2b hn63 fun g => ⟨trivial, dp_ (b2_4_12 (g, x.2)) (hA := mv_ 0 rfl)⟩
      · exact SQ.make tt_ok rfl rfl n rfl rfl h6a h6b hn63 fun g => ⟨trivial, dp_ (b4_6_12 (x.1, x.2.1, g, x.2.2.2)) (hA := mv_ 1 rfl)⟩
      · exact SQ.make tt_ok rfl rfl n rfl rfl h8a h8b hn63 fun g => ⟨trivial, dp_ (b4_8_12 (x.1, x.2.1, x.2.2.1, g, x.2.2.2.2)) (hA := mv_ 1 rfl)⟩
      · exact SQ.make tt_ok rfl rfl n rfl rfl h10a h10b hn63 fun g => ⟨trivial, dp_ (b4_10_12 (x.1, x.2.1, x.2.2.1, x.2.2.2.1, g, x.2.2.2.2.2)) (hA := mv_ 1 rfl)⟩
    have b6_8 : ∀ x : Nat × Nat × Nat × Nat × Nat × Nat, B1 8 (lsR [6, 8]) ([(38, vR x.2.2.1 n), (40, vR x.2.2.2.1 n)] ++ beR d n l) ([mR ti82 x.2.2.1 n, mR ti4 x.2.2.2.1 n] ++ RD) := fun x => by
      refine hs _ _ _ _ [2, 4, 10, 12] (by decide +kernel) ⟨⟨_, rfl, rfl, ?_⟩, ⟨_, rfl, rfl, ?_⟩, ⟨_, rfl, rfl, ?_⟩, ⟨_, rfl, rfl, ?_⟩, trivial⟩
      · exact SQ.make tt_ok rfl rfl n rfl rfl h2a h2b hn63 fun g => ⟨trivial, dp_ (b2_6_8 (g, x.2)) (hA := mv_ 0 rfl)⟩
      · exact SQ.make tt_ok rfl rfl l rfl rfl h4a h4b hl63 fun g => ⟨trivial, dp_ (b4_6_8 (x.1, g, x.2.2)) (hA := mv_ 0 rfl)⟩
      · exact SQ.make tt_ok rfl rfl n rfl rfl h10a h10b hn63 fun g => ⟨trivial, dp_ (b6_8_10 (x.1, x.2.1, x.2.2.1, x.2.2.2.1, g, x.2.2.2.2.2)) (hA := mv_ 2 rfl)⟩
      · exact SQ.make tt_ok rfl rfl n rfl rfl h12a h12b hn63 fun g => ⟨trivial, dp_ (b6_8_12 (x.1, x.2.1, x.2.2.1, x.2.2.2.1, x.2.2.2.2.1, g)) (hA := mv_ 2 rfl)⟩
    have b6_10 : ∀ x : Nat × Nat × Nat × Nat × Nat × Nat, B1 8 (lsR [6, 10]) ([(38, vR x.2.2.1 n), (42, vR x.2.2.2.2.1 n)] ++ beR d n l) ([mR ti82 x.2.2.1 n, mR ti44 x.2.2.2.2.1 n] ++ RD) := fun x => by
      refine hs _ _ _ _ [2, 4, 8, 12] (by decide +kernel) ⟨⟨_, rfl, rfl, ?_⟩, ⟨_, rfl, rfl, ?_⟩, ⟨_, rfl, rfl, ?_⟩, ⟨_, rfl, rfl, ?_⟩, trivial⟩
      · exact SQ.make tt_ok rfl rfl n rfl rfl h2a h2b hn63 fun g => ⟨trivial, dp_ (b2_6_10 (g, x.2)) (hA := mv_ 0 rfl)⟩
      · exact SQ.make tt_ok rfl rfl l rfl rfl h4a h4b hl63 fun g => ⟨trivial, dp_ (b4_6_10 (x.1, g, x.2.2)) (hA := mv_ 0 rfl)⟩
      · exact SQ.make tt_ok rfl rfl n rfl rfl h8a h8b hn63 fun g => ⟨trivial, dp_ (b6_8_10 (x.1, x.2.1, x.2.2.1, g, x.2.2.2.2)) (hA := mv_ 1 rfl)⟩
      · exact SQ.make tt_ok rfl rfl n rfl rfl h12a h12b hn63 fun g => ⟨trivial, dp_ (b6_10_12 (x.1, x.2.1, x.2.2.1, x.2.2.2.1, x.2.2.2.2.1, g)) (hA := mv_ 2 rfl)⟩
    have b6_12 : ∀ x : Nat × Nat × Nat × Nat × Nat × Nat, B1 8 (lsR [6, 12]) ([(38, vR x.2.2.1 n), (44, vR x.2.2.2.2.2 n)] ++ beR d n l) ([mR ti82 x.2.2.1 n, mR ti44 x.2.2.2.2.2 n] ++ RD) := fun x => by
      refine hs _ _ _ _ [2, 4, 8, 10] (by decide +kernel) ⟨⟨_, rfl, rfl, ?_⟩, ⟨_, rfl, rfl, ?_⟩, ⟨_, rfl, rfl, ?_⟩, ⟨_, rfl, rfl, ?_⟩, trivial⟩
      · exact SQ.make tt_ok rfl rfl n rfl rfl h2a h2b hn63 fun g => ⟨trivial, dp_ (b2_6_12 (g, x.2)) (hA := mv_ 0 rfl)⟩
      · exact SQ.make tt_ok rfl rfl l rfl rfl h4a h4b hl63 fun g => ⟨trivial, dp_ (b4_6_12 (x.1, g, x.2.2)) (hA := mv_ 0 rfl)⟩
      · exact SQ.make tt_ok rfl rfl n rfl rfl h8a h8b hn63 fun g => ⟨trivial, dp_ (b6_8_12 (x.1, x.2.1, x.2.2.1, g, x.2.2.2.2)) (hA := mv_ 1 rfl)⟩
      · exact SQ.make tt_ok rfl rfl n rfl rfl h10a h10b hn63 fun g => ⟨trivial, dp_ (b6_10_12 (x.1, x.2.1, x.2.2.1, x.2.2.2.1, g, x.2.2.2.2.2)) (hA := mv_ 1 rfl)⟩
    have b8_10 : ∀ x : Nat × Nat × Nat × Nat × Nat × Nat, B1 8 (lsR [8, 10]) ([(40, vR x.2.2.2.1 n), (42, vR x.2.2.2.2.1 n)] ++ beR d n l) ([mR ti4 x.2.2.2.1 n, mR ti44 x.2.2.2.2.1 n] ++ RD) := fun x => by
      refine hs _ _ _ _ [2, 4, 6, 12] (by decide +kernel) ⟨⟨_, rfl, rfl, ?_⟩, ⟨_, rfl, rfl, ?_⟩, ⟨_, rfl, rfl, ?_⟩, ⟨_, rfl, rfl, ?_⟩, trivial⟩
      · exact SQ.make tt_ok rfl rfl n rfl rfl h2a h2b hn63 fun g => ⟨trivial, dp_ (b2_8_10 (g, x.2)) (hA := mv_ 0 rfl)⟩
      · exact SQ.make tt_ok rfl rfl l rfl rfl h4a h4b hl63 fun g => ⟨trivial, dp_ (b4_8_10 (x.1, g, x.2.2)) (hA := mv_ 0 rfl)⟩
      · exact SQ.make tt_ok rfl rfl n rfl rfl h6a h6b hn63 fun g => ⟨trivial, dp_ (b6_8_10 (x.1, x.2.1, g, x.2.2.2)) (hA := mv_ 0 rfl)⟩
      · exact SQ.make tt_ok rfl rfl n rfl rfl h12a h12b hn63 fun g => ⟨trivial, dp_ (b8_10_12 (x.1, x.2.1, x.2.2.1, x.2.2.2.1, x.2.2.2.2.1, g)) (hA := mv_ 2 rfl)⟩
    have b8_12 : ∀ x : Nat × Nat × Nat × Nat × Nat × Nat, B1 8 (lsR [8, 12]) ([(40, vR x.2.2.2.1 n), (44, vR x.2.2.2.2.2 n)] ++ beR d n l) ([mR ti4 x.2.2.2.1 n, mR ti44 x.2.2.2.2.2 n] ++ RD) := fun x => by
      refine hs _ _ _ _ [2, 4, 6, 10] (by decide +kernel) ⟨⟨_, rfl, rfl, ?_⟩, ⟨_, rfl, rfl, ?_⟩, ⟨_, rfl, rfl, ?_⟩, ⟨_, rfl, rfl, ?_⟩, trivial⟩
      · exact SQ.make tt_ok rfl rfl n rfl rfl h2a h2b hn63 fun g => ⟨trivial, dp_ (b2_8_12 (g, x.2)) (hA := mv_ 0 rfl)⟩
      · exact SQ.make tt_ok rfl rfl l rfl rfl h4a h4b hl63 fun g => ⟨trivial, dp_ (b4_8_12 (x.1, g, x.2.2)) (hA := mv_ 0 rfl)⟩
      · exact SQ.make tt_ok rfl rfl n rfl rfl h6a h6b hn63 fun g => ⟨trivial, dp_ (b6_8_12 (x.1, x.2.1, g, x.2.2.2)) (hA := mv_ 0 rfl)⟩
      · exact SQ.make tt_ok rfl rfl n rfl rfl h10a h10b hn63 fun g => ⟨trivial, dp_ (b8_10_12 (x.1, x.2.1, x.2.2.1, x.2.2.2.1, g, x.2.2.2.2.2)) (hA := mv_ 1 rfl)⟩
    have b10_12 : ∀ x : Nat × Nat × Nat × Nat × Nat × Nat, B1 8 (lsR [10, 12]) ([(42, vR x.2.2.2.2.1 n), (44, vR x.2.2.2.2.2 n)] ++ beR d n l) ([mR ti44 x.2.2.2.2.1 n, mR ti44 x.2.2.2.2.2 n] ++ RD) := fun x => by
      refine hs _ _ _ _ [2, 4, 6, 8] (by decide +kernel) ⟨⟨_, rfl, rfl, ?_⟩, ⟨_, rfl, rfl, ?_⟩, ⟨_, rfl, rfl, ?_⟩, ⟨_, rfl, rfl, ?_⟩, trivial⟩
      · exact SQ.make tt_ok rfl rfl n rfl rfl h2a h2b hn63 fun g => ⟨trivial, dp_ (b2_10_12 (g, x.2)) (hA := mv_ 0 rfl)⟩
      · exact SQ.make tt_ok rfl rfl l rfl rfl h4a h4b hl63 fun g => ⟨trivial, dp_ (b4_10_12 (x.1, g, x.2.2)) (hA := mv_ 0 rfl)⟩
      · exact SQ.make tt_ok rfl rfl n rfl rfl h6a h6b hn63 fun g => ⟨trivial, dp_ (b6_10_12 (x.1, x.2.1, g, x.2.2.2)) (hA := mv_ 0 rfl)⟩
      · exact SQ.make tt_ok rfl rfl n rfl rfl h8a h8b hn63 fun g => ⟨trivial, dp_ (b8_10_12 (x.1, x.2.1, x.2.2.1, g, x.2.2.2.2)) (hA := mv_ 0 rfl)⟩
    have b2 : ∀ x : Nat × Nat × Nat × Nat × Nat × Nat, B1 9 (lsR [2]) ([(34, vR x.1 n)] ++ beR d n l) ([mR ti172 x.1 n] ++ RD) := fun x => by
      refine hs _ _ _ _ [4, 6, 8, 10, 12] (by decide +kernel) ⟨⟨_, rfl, rfl, ?_⟩, ⟨_, rfl, rfl, ?_⟩, ⟨_, rfl, rfl, ?_⟩, ⟨_, rfl, rfl, ?_⟩, ⟨_, rfl, rfl, ?_⟩, trivial⟩
      · exact SQ.make tt_ok rfl rfl l rfl rfl h4a h4b hl63 fun g => ⟨trivial, dp_ (b2_4 (x.1, g, x.2.2)) (hA := mv_ 1 rfl)⟩
      · exact SQ.make tt_ok rfl rfl n rfl rfl h6a h6b hn63 fun g => ⟨trivial, dp_ (b2_6 (x.1, x.2.1, g, x.2.2.2)) (hA := mv_ 1 rfl)⟩
      · exact SQ.make tt_ok rfl rfl n rfl rfl h8a h8b hn63 fun g => ⟨trivial, dp_ (b2_8 (x.1, x.2.1, x.2.2.1, g, x.2.2.2.2)) (hA := mv_ 1 rfl)⟩
      · exact SQ.make tt_ok rfl rfl n rfl rfl h10a h10b hn63 fun g => ⟨trivial, dp_ (b2_10 (x.1, x.2.1, x.2.2.1, x.2.2.2.1, g, x.2.2.2.2.2)) (hA := mv_ 1 rfl)⟩
      · exact SQ.make tt_ok rfl rfl n rfl rfl h12a h12b hn63 fun g => ⟨trivial, dp_ (b2_12 (x.1, x.2.1, x.2.2.1, x.2.2.2.1, x.2.2.2.2.1, g)) (hA := mv_ 1 rfl)⟩
    have b4 : ∀ x : Nat × Nat × Nat × Nat × Nat × Nat, B1 9 (lsR [4]) ([(36, vR x.2.1 l)] ++ beR d n l) ([mR ti5 x.2.1 l] ++ RD) := fun x => by
      refine hs _ _ _ _ [2, 6, 8, 10, 12] (by decide +kernel) ⟨⟨_, rfl, rfl, ?_⟩, ⟨_, rfl, rfl, ?_⟩, ⟨_, rfl, rfl, ?_⟩, ⟨_, rfl, rfl, ?_⟩, ⟨_, rfl, rfl, ?_⟩, trivial⟩
      · exact SQ.make tt_ok rfl rfl n rfl rfl h2a h2b hn63 fun g => ⟨trivial, dp_ (b2_4 (g, x.2)) (hA := mv_ 0 rfl)⟩
      · exact SQ.make tt_ok rfl rfl n rfl rfl h6a h6b hn63 fun g => ⟨trivial, dp_ (b4_6 (x.1, x.2.1, g, x.2.2.2)) (hA := mv_ 1 rfl)⟩
      · exact SQ.make tt_ok rfl rfl n rfl rfl h8a h8b hn63 fun g => ⟨trivial, dp_ (b4_8 (x.1, x.2.1, x.2.2.1, g, x.2.2.2.2)) (hA := mv_ 1 rfl)⟩
      · exact SQ.make tt_ok rfl rfl n rfl rfl h10a h10b hn63 fun g => ⟨trivial, dp_ (b4_10 (x.1, x.2.1, x.2.2.1, x.2.2.2.1, g, x.2.2.2.2.2)) (hA := mv_ 1 rfl)⟩
      · exact SQ.make tt_ok rfl rfl n rfl rfl h12a h12b hn63 fun g => ⟨trivial, dp_ (b4_12 (x.1, x.2.1, x.2.2.1, x.2.2.2.1, x.2.2.2.2.1, g)) (hA := mv_ 1 rfl)⟩
    have b6 : ∀ x : Nat × Nat × Nat × Nat × Nat × Nat, B1 9 (lsR [6]) ([(38, vR x.2.2.1 n)] ++ beR d n l) ([mR ti82 x.2.2.1 n] ++ RD) := fun x => by
      refine hs _ _ _ _ [2, 4, 8, 10, 12] (by decide +kernel) ⟨⟨_, rfl, rfl, ?_⟩, ⟨_, rfl, rfl, ?_⟩, ⟨_, rfl, rfl, ?_⟩, ⟨_, rfl, rfl, ?_⟩, ⟨_, rfl, rfl, ?_⟩, trivial⟩
      · exact SQ.make tt_ok rfl rfl n rfl rfl h2a h2b hn63 fun g => ⟨trivial, dp_ (b2_6 (g, x.2)) (hA := mv_ 0 rfl)⟩
      · exact SQ.make tt_ok rfl rfl l rfl rfl h4a h4b hl63 fun g => ⟨trivial, dp_ (b4_6 (x.1, g, x.2.2)) (hA := mv_ 0 rfl)⟩
      · exact SQ.make tt_ok rfl rfl n rfl rfl h8a h8b hn63 fun g => ⟨trivial, dp_ (b6_8 (x.1, x.2.1, x.2.2.1, g, x.2.2.2.2)) (hA := mv_ 1 rfl)⟩
      · exact SQ.make tt_ok rfl rfl n rfl rfl h10a h10b hn63 fun g => ⟨trivial, dp_ (b6_10 (x.1, x.2.1, x.2.2.1, x.2.2.2.1, g, x.2.2.2.2.2)) (hA := mv_ 1 rfl)⟩
      · exact SQ.make tt_ok rfl rfl n rfl rfl h12a h12b hn63 fun g => ⟨trivial, dp_ (b6_12 (x.1, x.2.1, x.2.2.1, x.2.2.2.1, x.2.2.2.2.1, g)) (hA := mv_ 1 rfl)⟩
    have b8 : ∀ x : Nat × Nat × Nat × Nat × Nat × Nat, B1 9 (lsR [8]) ([(40, vR x.2.2.2.1 n)] ++ beR d n l) ([mR ti4 x.2.2.2.1 n] ++ RD) := fun x => by
      refine hs _ _ _ _ [2, 4, 6, 10, 12] (by decide +kernel) ⟨⟨_, rfl, rfl, ?_⟩, ⟨_, rfl, rfl, ?_⟩, ⟨_, rfl, rfl, ?_⟩, ⟨_, rfl, rfl, ?_⟩, ⟨_, rfl, rfl, ?_⟩, trivial⟩
      · exact SQ.make tt_ok rfl rfl n rfl rfl h2a h2b hn63 fun g => ⟨trivial, dp_ (b2_8 (g, x.2)) (hA := mv_ 0 rfl)⟩
      · exact SQ.make tt_ok rfl rfl l rfl rfl h4a h4b hl63 fun g => ⟨trivial, dp_ (b4_8 (x.1, g, x.2.2)) (hA := mv_ 0 rfl)⟩
      · exact SQ.make tt_ok rfl rfl n rfl rfl h6a h6b hn63 fun g => ⟨trivial, dp_ (b6_8 (x.1, x.2.1, g, x.2.2.2)) (hA := mv_ 0 rfl)⟩
      · exact SQ.make tt_ok rfl rfl n rfl rfl h10a h10b hn63 fun g => ⟨trivial, dp_ (b8_10 (x.1, x.2.1, x.2.2.1, x.2.2.2.1, g, x.2.2.2.2.2)) (hA := mv_ 1 rfl)⟩
      · exact SQ.make tt_ok rfl rfl n rfl rfl h12a h12b hn63 fun g => ⟨trivial, dp_ (b8_12 (x.1, x.2.1, x.2.2.1, x.2.2.2.1, x.2.2.2.2.1, g)) (hA := mv_ 1 rfl)⟩
    have b10 : ∀ x : Nat × Nat × Nat × Nat × Nat × Nat, B1 9 (lsR [10]) ([(42, vR x.2.2.2.2.1 n)] ++ beR d n l) ([mR ti44 x.2.2.2.2.1 n] ++ RD) := fun x => by
      refine hs _ _ _ _ [2, 4, 6, 8, 12] (by decide +kernel) ⟨⟨_, rfl, rfl, ?_⟩, ⟨_, rfl, rfl, ?_⟩, ⟨_, rfl, rfl, ?_⟩, ⟨_, rfl, rfl, ?_⟩, ⟨_, rfl, rfl, ?_⟩, trivial⟩
      · exact SQ.make tt_ok rfl rfl n rfl rfl h2a h2b hn63 fun g => ⟨trivial, dp_ (b2_10 (g, x.2)) (hA := mv_ 0 rfl)⟩
      · exact SQ.make tt_ok rfl rfl l rfl rfl h4a h4b hl63 fun g => ⟨trivial, dp_ (b4_10 (x.1, g, x.2.2)) (hA := mv_ 0 rfl)⟩
      · exact SQ.make tt_ok rfl rfl n rfl rfl h6a h6b hn63 fun g => ⟨trivial, dp_ (b6_10 (x.1, x.2.1, g, x.2.2.2)) (hA := mv_ 0 rfl)⟩
      · exact SQ.make tt_ok rfl rfl n rfl rfl h8a h8b hn63 fun g => ⟨trivial, dp_ (b8_10 (x.1, x.2.1, x.2.2.1, g, x.2.2.2.2)) (hA := mv_ 0 rfl)⟩
      · exact SQ.make tt_ok rfl rfl n rfl rfl h12a h12b hn63 fun g => ⟨trivial, dp_ (b10_12 (x.1, x.2.1, x.2.2.1, x.2.2.2.1, x.2.2.2.2.1, g)) (hA := mv_ 1 rfl)⟩
    have b12 : ∀ x : Nat × Nat × Nat × Nat × Nat × Nat, B1 9 (lsR [12]) ([(44, vR x.2.2.2.2.2 n)] ++ beR d n l) ([mR ti44 x.2.2.2.2.2 n] ++ RD) := fun x => by
      refine hs _ _ _ _ [2, 4, 6, 8, 10] (by decide +kernel) ⟨⟨_, rfl, rfl, ?_⟩, ⟨_, rfl, rfl, ?_⟩, ⟨_, rfl, rfl, ?_⟩, ⟨_, rfl, rfl, ?_⟩, ⟨_, rfl, rfl, ?_⟩, trivial⟩
      · exact SQ.make tt_ok rfl rfl n rfl rfl h2a h2b hn63 fun g => ⟨trivial, dp_ (b2_12 (g, x.2)) (hA := mv_ 0 rfl)⟩
      · exact SQ.make tt_ok rfl rfl l rfl rfl h4a h4b hl63 fun g => ⟨trivial, dp_ (b4_12 (x.1, g, x.2.2)) (hA := mv_ 0 rfl)⟩
      · exact SQ.make tt_ok rfl rfl n rfl rfl h6a h6b hn63 fun g => ⟨trivial, dp_ (b6_12 (x.1, x.2.1, g, x.2.2.2)) (hA := mv_ 0 rfl)⟩
      · exact SQ.make tt_ok rfl rfl n rfl rfl h8a h8b hn63 fun g => ⟨trivial, dp_ (b8_12 (x.1, x.2.1, x.2.2.1, g, x.2.2.2.2)) (hA := mv_ 0 rfl)⟩
      · exact SQ.make tt_ok rfl rfl n rfl rfl h10a h10b hn63 fun g => ⟨trivial, dp_ (b10_12 (x.1, x.2.1, x.2.2.1, x.2.2.2.1, g, x.2.2.2.2.2)) (hA := mv_ 0 rfl)⟩
    have x : Nat × Nat × Nat × Nat × Nat × Nat := (0, 0, 0, 0, 0, 0)
    refine hs _ _ _ _ [2, 4, 6, 8, 10, 12] (by decide +kernel) ⟨⟨_, rfl, rfl, ?_⟩, ⟨_, rfl, rfl, ?_⟩, ⟨_, rfl, rfl, ?_⟩, ⟨_, rfl, rfl, ?_⟩, ⟨_, rfl, rfl, ?_⟩, ⟨_, rfl, rfl, ?_⟩, trivial⟩
    · exact SQ.make tt_ok rfl rfl n rfl rfl h2a h2b hn63 fun g => ⟨trivial, dp_ (b2 (g, x.2)) (hA := mv_ 0 rfl)⟩
    · exact SQ.make tt_ok rfl rfl l rfl rfl h4a h4b hl63 fun g => ⟨trivial, dp_ (b4 (x.1, g, x.2.2)) (hA := mv_ 0 rfl)⟩
    · exact SQ.make tt_ok rfl rfl n rfl rfl h6a h6b hn63 fun g => ⟨trivial, dp_ (b6 (x.1, x.2.1, g, x.2.2.2)) (hA := mv_ 0 rfl)⟩
    · exact SQ.make tt_ok rfl rfl n rfl rfl h8a h8b hn63 fun g => ⟨trivial, dp_ (b8 (x.1, x.2.1, x.2.2.1, g, x.2.2.2.2)) (hA := mv_ 0 rfl)⟩
    · exact SQ.make tt_ok rfl rfl n rfl rfl h10a h10b hn63 fun g => ⟨trivial, dp_ (b10 (x.1, x.2.1, x.2.2.1, x.2.2.2.1, g, x.2.2.2.2.2)) (hA := mv_ 0 rfl)⟩
    · exact SQ.make tt_ok rfl rfl n rfl rfl h12a h12b hn63 fun g => ⟨trivial, dp_ (b12 (x.1, x.2.1, x.2.2.1, x.2.2.2.1, x.2.2.2.2.1, g)) (hA := mv_ 0 rfl)⟩
  · rintro ⟨ga, gb, gc, gd, ge, gf, p⟩
    simp only
    (refine G tt_ok [] ?_; repeat (refine G1 tt_ok [] ?_; intro _))
    refine CW.ret (fin_ret rfl (A := rgA p ⟨d, R, D, some ⟨ga, 0, none⟩, n, some ⟨gb, 0, none⟩, l, some ⟨gc, 0, none⟩, n, some ⟨gd, 0, none⟩, n, some ⟨ge, 0, none⟩, n, some ⟨gf, 0, none⟩, n, List.replicate n rf0, List.replicate l 0, List.replicate n w0, List.replicate n false, List.replicate n 0, List.replicate n 0⟩) ?_ ⟨p, _, rfl, rfl, hnew, hRo, rfl, rfl, rfl, rfl, rfl, rfl⟩)
    have f1 : (madeCells ti172.zero.cells (n * ti172.size)).toList = (List.replicate n rf0).flatMap rfC := Bn.made_flat_of (enc := rfC) (a := rf0) ti172.zero.cells rfl (by decide) _
    have f2 : (madeCells ti5.zero.cells (l * ti5.size)).toList = (List.replicate l 0).flatMap byC := made_by l
    have f3 : (madeCells ti82.zero.cells (n * ti82.size)).toList = (List.replicate n w0).flatMap wlC := Bn.made_flat_of (enc := wlC) (a := w0) ti82.zero.cells rfl (by decide) _
    have f4 : (madeCells ti4.zero.cells (n * ti4.size)).toList = (List.replicate n false).flatMap boC := Bn.made_flat_of (enc := boC) (a := false) ti4.zero.cells rfl (by decide) _
    have f5 : (madeCells ti44.zero.cells (n * ti44.size)).toList = (List.replicate n 0).flatMap wC := Bn.made_flat_of (enc := wC) (a := 0) ti44.zero.cells rfl (by decide) _
    rw [f1, f2, f3, f4, f5]
    unfold rgA
    simp only [List.length_replicate]
    rw [hRD]
    have hall : Ent [pt ga ((List.replicate n rf0).flatMap rfC), pt gb ((List.replicate l 0).flatMap byC), pt gc ((List.replicate n w0).flatMap wlC), pt gd ((List.replicate n false).flatMap boC), pt ge ((List.replicate n 0).flatMap wC), pt gf ((List.replicate n 0).flatMap wC)]
        [rowA (some ⟨ga, 0, none⟩) n ((List.replicate n rf0).flatMap rfC), rowA (some ⟨gb, 0, none⟩) l ((List.replicate l 0).flatMap byC), rowA (some ⟨gc, 0, none⟩) n ((List.replicate n w0).flatMap wlC), rowA (some ⟨gd, 0, none⟩) n ((List.replicate n false).flatMap boC), rowA (some ⟨ge, 0, none⟩) n ((List.replicate n 0).flatMap wC), rowA (some ⟨gf, 0, none⟩) n ((List.replicate n 0).flatMap wC)] :=
      Ent.append (L := [_]) row_close0 (Ent.append (L := [_]) row_close0 (Ent.append (L := [_]) row_close0 (Ent.append (L := [_]) row_close0 (Ent.append (L := [_]) row_close0 row_close0))))
    refine (pk_w0 _ n).trans ?_
    refine Ent.trans (Ent.append (L := [_, _]) (Ent.refl _) (Ent.append hall (Ent.refl RD))) ?_
    exact Ent.append (L := [_, _, _, _, _, _, _, _]) (L' := [_, _, _, _, _, _, _, _]) (Ent.sel (is := [1, 1, 1, 1, 0, 0, 0, 0]) rfl) (Ent.refl RD)
end Go.Proofs.YtebpodnbalfomaaGreatDoor.Sl
namespace Go.Proofs.YtebpodnbalfomaaGreatDoor.Sl.W2
open Go Go.RowKit Go.Proofs
set_option linter.unusedVariables false
set_option linter.unusedSimpArgs false
attribute [local irreducible] CW Tri OW
set_option maxRecDepth 10000
@[reducible] def pk109 : List (Nat × Plan) := [(3, [(0, 0, []), (1, 0, []), (2, 0, []), (3, 0, []), (5, 0, []), (6, 0, []), (8, 0, []), (9, 0, []), (10, 0, []), (11, 0, []), (13, 0, []), (14, 0, []), (4, 1, [2, 3, 6, 10, 11, 14]), (7, 1, [2, 3, 6, 10, 11, 14]), (12, 1, [2, 3, 6, 10, 11, 14]), (15, 1, [2, 3, 6, 10, 11, 14]), (16, 0, []), (17, 0, [])]), (6, [(0, 0, []), (1, 0, []), (2, 0, []), (3, 0, []), (4, 0, []), (5, 0, []), (6, 0, []), (7, 0, []), (8, 0, []), (10, 0, []), (11, 0, []), (12, 0, []), (13, 0, []), (14, 0, []), (15, 0, []), (9, 1, [5, 6, 8, 12, 13, 15]), (16, 1, [5, 6, 8, 12, 13, 15]), (17, 0, []), (18, 0, []), (19, 0, [])]), (8, [(0, 0, []), (1, 0, []), (2, 0, []), (3, 0, []), (4, 0, []), (5, 0, []), (6, 0, []), (8, 0, []), (9, 0, []), (10, 0, []), (11, 0, []), (12, 0, []), (13, 0, []), (14, 0, []), (7, 1, [2, 4, 6, 10, 12, 14]), (15, 1, [2, 4, 6, 10, 12, 14]), (16, 0, []), (17, 0, [])]), (10, [(0, 0, []), (1, 0, []), (2, 0, []), (3, 0, []), (4, 0, []), (5, 0, []), (6, 0, []), (8, 0, []), (9, 0, []), (10, 0, []), (11, 0, []), (12, 0, []), (13, 0, []), (14, 0, []), (7, 1, [2, 4, 6, 10, 12, 14]), (15, 1, [2, 4, 6, 10, 12, 14]), (16, 0, []), (17, 0, [])]), (12, [(0, 0, []), (1, 0, []), (2, 0, []), (3, 0, []), (4, 0, []), (5, 0, []), (6, 0, []), (8, 0, []), (9, 0, []), (10, 0, []), (11, 0, []), (12, 0, []), (13, 0, []), (14, 0, []), (7, 1, [2, 4, 6, 10, 12, 14]), (15, 1, [2, 4, 6, 10, 12, 14]), (16, 0, []), (17, 0, [])])]
set_option maxHeartbeats 8000000 in
theorem does109 (β : Base) (d r : Nat) (R R2 : RS) (D E : DS) (ok2 : OkD R2 D) (ok : OkD R E) (x : Ac) (hx : acOk x) : Tri Tryz.prog β 109 [.pointer (some ⟨d, 0, none⟩), .pointer (some ⟨r, 0, none⟩), .agg #[.int .i64 x.1, .int .i64 x.2.1, .int .i64 x.2.2.1, .int .i64 x.2.2.2.1, .int .u64 (x.2.2.2.2.1 : Int), .int .i64 x.2.2.2.2.2.1, .bool x.2.2.2.2.2.2.1.1, .bool x.2.2.2.2.2.2.1.2.1, .bool x.2.2.2.2.2.2.1.2.2.1, .bool x.2.2.2.2.2.2.1.2.2.2, .bool x.2.2.2.2.2.2.2]] (dA d D ++ rD r R E)
    (fun v L => ∃ b, v = .bool b ∧ L = dA d (actV D x) ++ rD r R (actV E x)) := by
  obtain ⟨o, off, k, id, v, a, s, hi⟩ := x
  obtain ⟨hid, hv⟩ := hx
  simp only at hid hv
  refine Tri.intro tt_ok Tryz.func109 rfl rfl Tryz.ntmps109 rfl fun F => ?_
  unfold actV
  simp only
  (refine G tt_ok pk109 ?_; repeat (refine G1 tt_ok pk109 ?_; intro _))
  by_cases h1 : o = 1
  · subst h1
    (refine G tt_ok pk109 ?_; repeat (refine G1 tt_ok pk109 ?_; intro _))
    refine ke rfl rfl (wide46 β (1, off, k, id, v, a, s, hi)) ?_
    (refine G tt_ok pk109 ?_; repeat (refine G1 tt_ok pk109 ?_; intro _))
    refine ke rfl rfl (write32 β d D off (wideV hi) v hv) ?_
    (refine G tt_ok pk109 ?_; repeat (refine G1 tt_ok pk109 ?_; intro _))
    refine ke rfl rfl (wide46 β (1, off, k, id, v, a, s, hi)) ?_
    (refine G tt_ok pk109 ?_; repeat (refine G1 tt_ok pk109 ?_; intro _))
    refine ke rfl rfl (refWrite73 β r R E ok off (wideV hi) v hv (distV_w off hi)) ?_
    (refine G tt_ok pk109 ?_; repeat (refine G1 tt_ok pk109 ?_; intro _))
    exact CW.ret (fin_ret rfl (A := dA d (D.wrV off (wideV hi) v).1 ++ rD r R (E.wrV off (wideV hi) v).1) pk_ ⟨_, rfl, rfl⟩)
  simp only [if_neg h1]
  rw [show (o == 1) = false by simp [h1]]
  (refine G tt_ok pk109 ?_; repeat (refine G1 tt_ok pk109 ?_; intro _))
  by_cases h2 : o = 2
  · subst h2
    (refine G tt_ok pk109 ?_; repeat (refine G1 tt_ok pk109 ?_; intro _))
    refine ke rfl rfl (refRedist49 β off 4) ?_
    (refine G tt_ok pk109 ?_; repeat (refine G1 tt_ok pk109 ?_; intro _))
    have hle := redist_le off
    generalize redistV off 4 = z at hle ⊢
    obtain ⟨⟨pr, pf, pc⟩, e⟩ := z
    simp only at hle ⊢
    by_cases h0 : e = 0
    · subst h0
      (refine G tt_ok pk109 ?_; repeat (refine G1 tt_ok pk109 ?_; intro _))
      refine ke rfl rfl (wrOwn27 β d D k pr pf pc v hv) ?_
      (refine G tt_ok pk109 ?_; repeat (refine G1 tt_ok pk109 ?_; intro _))
      refine ke rfl rfl (refWrOwn74 β r R E ok k pr pf pc v hv hle) ?_
      (refine G tt_ok pk109 ?_; repeat (refine G1 tt_ok pk109 ?_; intro _))
      exact CW.ret (fin_ret rfl (A := dA d (D.wrOwnV k pr pf pc v).1 ++ rD r R (E.wrOwnV k pr pf pc v).1) pk_ ⟨_, rfl, rfl⟩)
    · simp only [if_neg h0]
      rw [show (e != 0) = true by simp [h0]]
      (refine G tt_ok pk109 ?_; repeat (refine G1 tt_ok pk109 ?_; intro _))
      exact CW.ret (fin_ret rfl (A := dA d D ++ rD r R E) pk_ ⟨_, rfl, rfl⟩)
  simp only [if_neg h2]
  rw [show (o == 2) = false by simp [h2]]
  (refine G tt_ok pk109 ?_; repeat (refine G1 tt_ok pk109 ?_; intro _))
  by_cases h3 : o = 3
  · subst h3
    (refine G tt_ok pk109 ?_; repeat (refine G1 tt_ok pk109 ?_; intro _))
    refine ke rfl rfl (wire35 β d D k id hi hid) ?_
    (refine G tt_ok pk109 ?_; repeat (refine G1 tt_ok pk109 ?_; intro _))
    refine ke rfl rfl (refWire75 β r R E ok k id hi) ?_
    (refine G tt_ok pk109 ?_; repeat (refine G1 tt_ok pk109 ?_; intro _))
    exact CW.ret (fin_ret rfl (A := dA d (if id < 16 then D else (D.doV k id (if hi = true then 1 else 2)).1) ++ rD r R (if id < 16 then E else (E.doV k id (if hi = true then 1 else 2)).1)) pk_ ⟨_, rfl, rfl⟩)
  simp only [if_neg h3]
  rw [show (o == 3) = false by simp [h3]]
  (refine G tt_ok pk109 ?_; repeat (refine G1 tt_ok pk109 ?_; intro _))
  by_cases h4 : o = 4
  · subst h4
    (refine G tt_ok pk109 ?_; repeat (refine G1 tt_ok pk109 ?_; intro _))
    refine ke rfl rfl (do23 β d D k id a hid) ?_
    (refine G tt_ok pk109 ?_; repeat (refine G1 tt_ok pk109 ?_; intro _))
    refine ke rfl rfl (refDo76 β r R E ok k id a) ?_
    (refine G tt_ok pk109 ?_; repeat (refine G1 tt_ok pk109 ?_; intro _))
    exact CW.ret (fin_ret rfl (A := dA d (D.doV k id a).1 ++ rD r R (E.doV k id a).1) pk_ ⟨_, rfl, rfl⟩)
  simp only [if_neg h4]
  rw [show (o == 4) = false by simp [h4]]
  (refine G tt_ok pk109 ?_; repeat (refine G1 tt_ok pk109 ?_; intro _))
  by_cases h5 : o = 5
  · subst h5
    (refine G tt_ok pk109 ?_; repeat (refine G1 tt_ok pk109 ?_; intro _))
    refine ke rfl rfl (put77 β d D k id s hid) ?_
    (refine G tt_ok pk109 ?_; repeat (refine G1 tt_ok pk109 ?_; intro _))
    refine ke rfl rfl (refPut78 β r R E ok k id s) ?_
    (refine G tt_ok pk109 ?_; repeat (refine G1 tt_ok pk109 ?_; intro _))
    exact CW.ret (fin_ret rfl (A := dA d (D.putV k id s).1 ++ rD r R (E.putV k id s).1) pk_ ⟨_, rfl, rfl⟩)
  simp only [if_neg h5]
  rw [show (o == 5) = false by simp [h5]]
  (refine G tt_ok pk109 ?_; repeat (refine G1 tt_ok pk109 ?_; intro _))
  by_cases h6 : o = 6
  · subst h6
    (refine G tt_ok pk109 ?_; repeat (refine G1 tt_ok pk109 ?_; intro _))
    refine ke rfl rfl (call25 β d D k id v hv ok2.x8) ?_
    (refine G tt_ok pk109 ?_; repeat (refine G1 tt_ok pk109 ?_; intro _))
    refine ke rfl rfl (refCall79 β r R E ok k id v hv) ?_
    (refine G tt_ok pk109 ?_; repeat (refine G1 tt_ok pk109 ?_; intro _))
    cases ((D.callV k id v).2.1 == (E.callV k id v).2.1) <;> (refine G tt_ok pk109 ?_; repeat (refine G1 tt_ok pk109 ?_; intro _))
    all_goals exact CW.ret (fin_ret rfl (A := dA d (D.callV k id v).1 ++ rD r R (E.callV k id v).1) pk_ ⟨_, rfl, rfl⟩)
  simp only [if_neg h6]
  rw [show (o == 6) = false by simp [h6]]
  (refine G tt_ok pk109 ?_; repeat (refine G1 tt_ok pk109 ?_; intro _))
  exact CW.ret (fin_ret rfl (A := dA d D ++ rD r R E) pk_ ⟨_, rfl, rfl⟩)
end Go.Proofs.YtebpodnbalfomaaGreatDoor.Sl.W2
namespace Go.Proofs.YtebpodnbalfomaaGreatDoor.Sl
open Go Go.RowKit Go.Proofs
set_option linter.unusedVariables false
set_option linter.unusedSimpArgs false
attribute [local irreducible] CW Tri OW
attribute [local irreducible] lds wlen
set_option maxRecDepth 10000
@[reducible] def pk30 : List (Nat × Plan) := []
@[reducible] def pk39 : List (Nat × Plan) := [(7, [(0, 0, []), (1, 0, []), (2, 0, []), (3, 0, []), (4, 0, []), (5, 0, []), (7, 0, []), (8, 0, []), (6, 1, [2, 4, 5, 8]), (9, 1, [2, 4, 5, 8]), (10, 0, []), (11, 0, []), (12, 0, []), (13, 0, []), (14, 0, [])]), (8, [(0, 0, []), (1, 0, []), (2, 0, []), (3, 0, []), (4, 0, []), (5, 0, []), (7, 0, []), (8, 0, []), (6, 1, [2, 4, 5, 8]), (9, 1, [2, 4, 5, 8]), (10, 0, []), (11, 0, []), (12, 0, []), (13, 0, []), (14, 0, [])]), (15, [(0, 0, []), (1, 0, []), (2, 0, []), (3, 0, []), (4, 0, []), (5, 0, []), (7, 0, []), (8, 0, []), (9, 0, []), (10, 0, []), (11, 0, []), (12, 0, []), (6, 1, [2, 4, 9, 11]), (13, 1, [2, 4, 9, 11]), (14, 0, []), (15, 0, [])]), (17, [(0, 0, []), (1, 0, []), (2, 0, []), (3, 0, []), (4, 0, []), (5, 0, []), (6, 0, []), (8, 0, []), (9, 0, []), (10, 0, []), (11, 0, []), (12, 0, []), (13, 0, []), (14, 0, []), (7, 1, [2, 4, 6, 10, 12, 14]), (15, 1, [2, 4, 6, 10, 12, 14]), (16, 0, []), (17, 0, [])]), (22, [(0, 0, []), (1, 0, []), (2, 0, []), (3, 0, []), (4, 0, []), (6, 0, []), (7, 0, []), (8, 0, []), (9, 0, []), (10, 0, []), (5, 1, [2, 4, 8, 10]), (11, 1, [2, 4, 8, 10]), (12, 0, []), (13, 0, [])]), (25, [(0, 0, []), (1, 0, []), (2, 0, []), (3, 0, []), (4, 0, []), (5, 0, []), (6, 0, []), (7, 0, []), (8, 0, []), (9, 0, []), (10, 1, [3, 7, 9]), (11, 0, [])])]
/-- An act. -/
structure VA where
  o : Int
  v : Int
  w : Int
  id : Int
  off : Int
  reg : Int
  x : Nat
  hi : Bool
  d : Ac
@[reducible] def vaV (a : VA) : Value := .agg #[.int .i64 a.o, .int .i64 a.v, .int .i64 a.w, .int .i64 a.id, .int .i64 a.off, .int .i64 a.reg, .int .u64 (a.x : Int), .bool a.hi, .int .i64 a.d.1, .int .i64 a.d.2.1, .int .i64 a.d.2.2.1, .int .i64 a.d.2.2.2.1, .int .u64 (a.d.2.2.2.2.1 : Int), .int .i64 a.d.2.2.2.2.2.1, .bool a.d.2.2.2.2.2.2.1.1, .bool a.d.2.2.2.2.2.2.1.2.1, .bool a.d.2.2.2.2.2.2.1.2.2.1, .bool a.d.2.2.2.2.2.2.1.2.2.2, .bool a.d.2.2.2.2.2.2.2]
@[reducible] def vaC (a : VA) : List Value := .int .i64 a.o :: .int .i64 a.v :: .int .i64 a.w :: .int .i64 a.id :: .int .i64 a.off :: .int .i64 a.reg :: .int .u64 (a.x : Int) :: .bool a.hi :: acC a.d
def vaOk (a : VA) : Prop := a.id < 9223372036854775808 ∧ a.x < 2 ^ 64 ∧ acOk a.d
theorem wide30 (β : Base) (a : VA) : Tri Tryz.prog β 30 [vaV a] [] (fun v L => v = .int .i64 (wideV a.hi) ∧ L = []) := by
  obtain ⟨o, v, w, id, off, reg, x, hi, d⟩ := a
  refine Tri.intro tt_ok Tryz.func30 rfl rfl Tryz.ntmps30 rfl fun F => ?_
  (refine G tt_ok pk30 ?_; repeat (refine G1 tt_ok pk30 ?_; intro _))
  cases hi with
  | true =>
    (refine G tt_ok pk30 ?_; repeat (refine G1 tt_ok pk30 ?_; intro _))
    exact CW.ret (fin_ret rfl (Ent.dropAll _) ⟨rfl, rfl⟩)
  | false =>
    (refine G tt_ok pk30 ?_; repeat (refine G1 tt_ok pk30 ?_; intro _))
    exact CW.ret (fin_ret rfl (Ent.dropAll _) ⟨rfl, rfl⟩)
/-- An act of the program's controller. -/
def GS.actG (G : GS) (a : VA) : GS :=
  if a.o = 1 then (G.accV a.v a.reg a.hi a.x).1
  else if a.o = 2 then (G.wrOwnV a.v a.off (wideV a.hi) a.x).1
  else if a.o = 3 then (G.letV a.v a.id a.hi).1
  else if a.o = 4 then (G.setupV a.id (a.x % 256)).1
  else if a.o = 5 then (G.moveV a.id a.v a.w).1
  else if a.o = 6 then G.takenV a.v a.id
  else if a.o = 7 then (G.endedV a.v a.id).1
  else if a.o = 8 ∧ a.d.1 ≠ 7 then { G with D := actV G.D a.d }
  else G
theorem OkG.moveV {R : RS} {G : GS} (ok : OkG R G) (id fr to : Int) : OkG R (G.moveV id fr to).1 := by
  unfold GS.moveV
  split
  · exact ok
  · exact OkG.mv id fr to _ (G, 0) (fun x hx => by have := waits_lt ok x hx; omega) ok
theorem OkG.actG {R : RS} {G : GS} (ok : OkG R G) {a : VA} (ha : vaOk a) : OkG R (G.actG a) := by
  obtain ⟨h1, h2, h3⟩ := ha
  have hid : a.id ≤ 9223372036854775807 := by omega
  unfold GS.actG
  repeat' split
  all_goals first
    | with_reducible exact ok
    | exact ok.accV _ _ _ _
    | exact ok.wrOwnV _ _ _ _
    | exact ok.letV _ hid _
    | exact ok.setupV _ (Nat.mod_lt _ (by decide))
    | exact ok.moveV _ _ _
    | exact ok.takenV _ hid
    | exact ok.endedV _ _
    | exact ok.setD (ok.ok.act _) (actV_len _ _)
theorem u8_x (x : Nat) : IntKind.u8.wrap (x : Int) = ((x % 256 : Nat) : Int) := by
  rw [show IntKind.u8.wrap (x : Int) = (x : Int) % 256 from rfl]
  omega
theorem gsetup17 (β : Base) (g : Nat) (Z : GS) {id : Int} (hi : id ≤ 9223372036854775807) (b : Nat) : Tri Tryz.prog β 17 [.pointer (some ⟨g, 0, none⟩), .int .i64 id, .int .u8 b] (gA g Z)
    (fun v L => v = .int .i64 (Z.setupV id b).2 ∧ L = gA g (Z.setupV id b).1) := by
  have h := (setup17 β g Z.d Z.qc Z.qs Z.cc Z.ss.length Z.cs (cf := Z.cf) hi b).frame ([rowA Z.qs Z.ss.length (Z.ss.flatMap sdC), pkA sdA Z.ss] ++ dA Z.d Z.D)
  refine (Tri.ent ?_ h).monoE ?_
  · rw [gL_of]; exact pk_
  · rintro v L ⟨A', rfl, hv, rfl⟩
    refine ⟨gA g (Z.setupV id b).1, ?_, ?_, rfl⟩
    · unfold GS.setupV
      split
      · rw [gL_of]; simp only [List.length_set]; exact pk_
      · rw [gL_of]; exact pk_
    · rw [hv]; unfold GS.setupV; split <;> rfl
set_option maxHeartbeats 32000000 in
theorem does39 (β : Base) (hG : TabOk β) (g r : Nat) {R : RS} {Z : GS} (ok : OkG R Z) {n l : Nat} {X : RG} (okx : OkR n l X) (a : VA) (ha : vaOk a) : Tri Tryz.prog β 39 [.pointer (some ⟨g, 0, none⟩), .pointer (some ⟨r, 0, none⟩), vaV a] (gA g Z ++ rgA r X)
    (fun v L => ∃ b Y, v = .bool b ∧ L = gA g (Z.actG a) ++ rgA r Y ∧ OkR n l Y) := by
  have hw := wide30 β a
  obtain ⟨o, v, w, id, off, reg, x, hi, d⟩ := a
  obtain ⟨hid, hx, hd⟩ := ha
  simp only at hid hx hd hw
  have hac := access23 β hG g ok v reg hi hx
  have rac := raccess100 β r okx v reg hi hx
  have hwo := gwriteOwn18 β g Z v off (wideV hi) hx
  have rwo := rwriteOwn101 β r okx v off hi hx
  have hle := glet21 β g ok v (id := id) (by omega) hi
  have rle := rlet102 β r okx v id hi
  have hse := gsetup17 β g Z (id := id) (by omega) (x % 256)
  have rse := rsetup103 β r okx id (b := x % 256) (Nat.mod_lt _ (by decide))
  have hmo := move104 β hG g ok id v w
  have rmo := rmove105 β r okx id v w
  have hta := taken65 β g ok v hid
  have rta := rtaken106 β r okx v id
  have hen := ended107 β g Z v hid
  have ren := rended108 β r okx v id
  have hdd := W2.does109 β Z.d X.rd X.R R Z.D X.E ok.ok okx.ok d hd
  have hgd : gA g { Z with D := actV Z.D d } = [pt g (gC Z.d Z.qc Z.cf.length Z.cc Z.qs Z.ss.length Z.cs), rowA Z.qc Z.cf.length (Z.cf.flatMap byC), rowA Z.qs Z.ss.length (Z.ss.flatMap sdC), pkA sdA Z.ss] ++ dA Z.d (actV Z.D d) := rfl
  unfold GS.actG
  simp only
  refine Tri.intro tt_ok Tryz.func39 rfl rfl Tryz.ntmps39 rfl fun F => ?_
  rw [show vaV ⟨o, v, w, id, off, reg, x, hi, d⟩ = .agg #[.int .i64 o, .int .i64 v, .int .i64 w, .int .i64 id, .int .i64 off, .int .i64 reg, .int .u64 (x : Int), .bool hi, .int .i64 d.1, .int .i64 d.2.1, .int .i64 d.2.2.1, .int .i64 d.2.2.2.1, .int .u64 (d.2.2.2.2.1 : Int), .int .i64 d.2.2.2.2.2.1, .bool d.2.2.2.2.2.2.1.1, .bool d.2.2.2.2.2.2.1.2.1, .bool d.2.2.2.2.2.2.1.2.2.1, .bool d.2.2.2.2.2.2.1.2.2.2, .bool d.2.2.2.2.2.2.2] from rfl]
  (refine G tt_ok pk39 ?_; repeat (refine G1 tt_ok pk39 ?_; intro _))
  by_cases h1 : o = 1
  · subst h1
    rw [if_pos rfl]
    (refine G tt_ok pk39 ?_; repeat (refine G1 tt_ok pk39 ?_; intro _))
    refine ke rfl rfl (hac) ?_
    (refine G tt_ok pk39 ?_; repeat (refine G1 tt_ok pk39 ?_; intro _))
    (refine ka rfl rfl (rac) ?_; rintro _ _ ⟨c1, c2, c3, Y, rfl, rfl, hY⟩; refine w_ ?_)
    (refine G tt_ok pk39 ?_; repeat (refine G1 tt_ok pk39 ?_; intro _))
    generalize ((Z.accV v reg hi x).2.1 == c1) = cb
    cases cb with
    | false =>
      (refine G tt_ok pk39 ?_; repeat (refine G1 tt_ok pk39 ?_; intro _))
      exact CW.ret (fin_ret rfl (A := gA g ((Z.accV v reg hi x).1) ++ rgA r Y) pk_ ⟨_, Y, rfl, rfl, hY⟩)
    | true =>
      (refine G tt_ok pk39 ?_; repeat (refine G1 tt_ok pk39 ?_; intro _))
      generalize ((Z.accV v reg hi x).2.2.1 == c2) = cb
      cases cb with
      | false =>
        (refine G tt_ok pk39 ?_; repeat (refine G1 tt_ok pk39 ?_; intro _))
        exact CW.ret (fin_ret rfl (A := gA g ((Z.accV v reg hi x).1) ++ rgA r Y) pk_ ⟨_, Y, rfl, rfl, hY⟩)
      | true =>
        (refine G tt_ok pk39 ?_; repeat (refine G1 tt_ok pk39 ?_; intro _))
        exact CW.ret (fin_ret rfl (A := gA g ((Z.accV v reg hi x).1) ++ rgA r Y) pk_ ⟨_, Y, rfl, rfl, hY⟩)
  rw [if_neg h1, show (o == 1) = false by simp [h1]]
  (refine G tt_ok pk39 ?_; repeat (refine G1 tt_ok pk39 ?_; intro _))
  by_cases h2 : o = 2
  · subst h2
    rw [if_pos rfl]
    (refine G tt_ok pk39 ?_; repeat (refine G1 tt_ok pk39 ?_; intro _))
    refine ke rfl rfl (hw) ?_
    (refine G tt_ok pk39 ?_; repeat (refine G1 tt_ok pk39 ?_; intro _))
    refine ke rfl rfl (hwo) ?_
    (refine G tt_ok pk39 ?_; repeat (refine G1 tt_ok pk39 ?_; intro _))
    refine ke rfl rfl (hw) ?_
    (refine G tt_ok pk39 ?_; repeat (refine G1 tt_ok pk39 ?_; intro _))
    (refine ka rfl rfl (rwo) ?_; rintro _ _ ⟨c1, c2, Y, rfl, rfl, hY⟩; refine w_ ?_)
    (refine G tt_ok pk39 ?_; repeat (refine G1 tt_ok pk39 ?_; intro _))
    generalize ((Z.wrOwnV v off (wideV hi) x).2.1 == c1) = cb
    cases cb with
    | false =>
      (refine G tt_ok pk39 ?_; repeat (refine G1 tt_ok pk39 ?_; intro _))
      exact CW.ret (fin_ret rfl (A := gA g ((Z.wrOwnV v off (wideV hi) x).1) ++ rgA r Y) pk_ ⟨_, Y, rfl, rfl, hY⟩)
    | true =>
      (refine G tt_ok pk39 ?_; repeat (refine G1 tt_ok pk39 ?_; intro _))
      exact CW.ret (fin_ret rfl (A := gA g ((Z.wrOwnV v off (wideV hi) x).1) ++ rgA r Y) pk_ ⟨_, Y, rfl, rfl, hY⟩)
  rw [if_neg h2, show (o == 2) = false by simp [h2]]
  (refine G tt_ok pk39 ?_; repeat (refine G1 tt_ok pk39 ?_; intro _))
  by_cases h3 : o = 3
  · subst h3
    rw [if_pos rfl]
    (refine G tt_ok pk39 ?_; repeat (refine G1 tt_ok pk39 ?_; intro _))
    refine ke rfl rfl (hle) ?_
    (refine G tt_ok pk39 ?_; repeat (refine G1 tt_ok pk39 ?_; intro _))
    (refine ka rfl rfl (rle) ?_; rintro _ _ ⟨c1, c2, Y, rfl, rfl, hY⟩; refine w_ ?_)
    (refine G tt_ok pk39 ?_; repeat (refine G1 tt_ok pk39 ?_; intro _))
    generalize ((Z.letV v id hi).2.1 == c1) = cb
    cases cb with
    | false =>
      (refine G tt_ok pk39 ?_; repeat (refine G1 tt_ok pk39 ?_; intro _))
      exact CW.ret (fin_ret rfl (A := gA g ((Z.letV v id hi).1) ++ rgA r Y) pk_ ⟨_, Y, rfl, rfl, hY⟩)
    | true =>
      (refine G tt_ok pk39 ?_; repeat (refine G1 tt_ok pk39 ?_; intro _))
      exact CW.ret (fin_ret rfl (A := gA g ((Z.letV v id hi).1) ++ rgA r Y) pk_ ⟨_, Y, rfl, rfl, hY⟩)
  rw [if_neg h3, show (o == 3) = false by simp [h3]]
  (refine G tt_ok pk39 ?_; repeat (refine G1 tt_ok pk39 ?_; intro _))
  by_cases h4 : o = 4
  · subst h4
    rw [if_pos rfl]
    (refine G tt_ok pk39 ?_; repeat (refine G1 tt_ok pk39 ?_; intro _))
    rw [u8_x]
    refine ke rfl rfl (hse) ?_
    (refine G tt_ok pk39 ?_; repeat (refine G1 tt_ok pk39 ?_; intro _))
    (refine ka rfl rfl (rse) ?_; rintro _ _ ⟨c1, Y, rfl, rfl, hY⟩; refine w_ ?_)
    (refine G tt_ok pk39 ?_; repeat (refine G1 tt_ok pk39 ?_; intro _))
    exact CW.ret (fin_ret rfl (A := gA g ((Z.setupV id (x % 256)).1) ++ rgA r Y) pk_ ⟨_, Y, rfl, rfl, hY⟩)
  rw [if_neg h4, show (o == 4) = false by simp [h4]]
  (refine G tt_ok pk39 ?_; repeat (refine G1 tt_ok pk39 ?_; intro _))
  by_cases h5 : o = 5
  · subst h5
    rw [if_pos rfl]
    (refine G tt_ok pk39 ?_; repeat (refine G1 tt_ok pk39 ?_; intro _))
    refine ke rfl rfl (hmo) ?_
    (refine G tt_ok pk39 ?_; repeat (refine G1 tt_ok pk39 ?_; intro _))
    (refine ka rfl rfl (rmo) ?_; rintro _ _ ⟨c1, Y, rfl, rfl, hY⟩; refine w_ ?_)
    (refine G tt_ok pk39 ?_; repeat (refine G1 tt_ok pk39 ?_; intro _))
    exact CW.ret (fin_ret rfl (A := gA g ((Z.moveV id v w).1) ++ rgA r Y) pk_ ⟨_, Y, rfl, rfl, hY⟩)
  rw [if_neg h5, show (o == 5) = false by simp [h5]]
  (refine G tt_ok pk39 ?_; repeat (refine G1 tt_ok pk39 ?_; intro _))
  by_cases h6 : o = 6
  · subst h6
    rw [if_pos rfl]
    (refine G tt_ok pk39 ?_; repeat (refine G1 tt_ok pk39 ?_; intro _))
    refine ke rfl rfl (hta) ?_
    (refine G tt_ok pk39 ?_; repeat (refine G1 tt_ok pk39 ?_; intro _))
    (refine ka rfl rfl (rta) ?_; rintro _ _ ⟨Y, rfl, rfl, hY⟩; refine w_ ?_)
    (refine G tt_ok pk39 ?_; repeat (refine G1 tt_ok pk39 ?_; intro _))
    exact CW.ret (fin_ret rfl (A := gA g (Z.takenV v id) ++ rgA r Y) pk_ ⟨_, Y, rfl, rfl, hY⟩)
  rw [if_neg h6, show (o == 6) = false by simp [h6]]
  (refine G tt_ok pk39 ?_; repeat (refine G1 tt_ok pk39 ?_; intro _))
  by_cases h7 : o = 7
  · subst h7
    rw [if_pos rfl]
    (refine G tt_ok pk39 ?_; repeat (refine G1 tt_ok pk39 ?_; intro _))
    refine ke rfl rfl (hen) ?_
    (refine G tt_ok pk39 ?_; repeat (refine G1 tt_ok pk39 ?_; intro _))
    (refine ka rfl rfl (ren) ?_; rintro _ _ ⟨c1, Y, rfl, rfl, hY⟩; refine w_ ?_)
    (refine G tt_ok pk39 ?_; repeat (refine G1 tt_ok pk39 ?_; intro _))
    exact CW.ret (fin_ret rfl (A := gA g ((Z.endedV v id).1) ++ rgA r Y) pk_ ⟨_, Y, rfl, rfl, hY⟩)
  rw [if_neg h7, show (o == 7) = false by simp [h7]]
  (refine G tt_ok pk39 ?_; repeat (refine G1 tt_ok pk39 ?_; intro _))
  by_cases h8 : o = 8
  · subst h8
    (refine G tt_ok pk39 ?_; repeat (refine G1 tt_ok pk39 ?_; intro _))
    by_cases h7 : d.1 = 7
    · rw [if_neg (by simp [h7]), show (d.1 != 7) = false by simp [h7]]
      (refine G tt_ok pk39 ?_; repeat (refine G1 tt_ok pk39 ?_; intro _))
      exact CW.ret (fin_ret rfl (A := gA g Z ++ rgA r X) pk_ ⟨_, X, rfl, rfl, okx⟩)
    · rw [if_pos (by simp [h7]), show (d.1 != 7) = true by simp [h7], gL_of, rg_of]
      (refine G tt_ok pk39 ?_; repeat (refine G1 tt_ok pk39 ?_; intro _))
      (refine ka rfl rfl (hdd) ?_; rintro _ _ ⟨b, rfl, rfl⟩; refine w_ ?_)
      (refine G tt_ok pk39 ?_; repeat (refine G1 tt_ok pk39 ?_; intro _))
      exact CW.ret (fin_ret rfl (A := gA g { Z with D := actV Z.D d } ++ rgA r { X with E := actV X.E d }) pk_ ⟨_, { X with E := actV X.E d }, rfl, rfl, okx.setE (okx.ok.act d) (actV_len _ _)⟩)
  rw [if_neg (by simp [h8]), show (o == 8) = false by simp [h8]]
  (refine G tt_ok pk39 ?_; repeat (refine G1 tt_ok pk39 ?_; intro _))
  exact CW.ret (fin_ret rfl (A := gA g Z ++ rgA r X) pk_ ⟨_, X, rfl, rfl, okx⟩)
theorem fc0_ok : FcOk fc0 := ⟨by decide, by decide, by decide, by decide, by decide⟩
theorem NewG.ok {R : RS} {Z : GS} {n s l : Nat} (h : NewG Z n s l) (hn0 : 1 ≤ n) (hn1 : n ≤ 4) (hs : s ≤ 64) (hl : l ≤ 64) (hR : R.os.length = n) : OkG R Z := by
  refine ⟨newD_ok h.d hn0 (by omega) hs hR, by rw [h.n, h.d.2.2.2.1], by rw [h.n]; exact hn1, by rw [h.cf]; simpa using hl, ?_, ?_⟩
  · intro b hb; rw [h.cf] at hb; rw [List.eq_of_mem_replicate hb]; decide
  · intro x hx
    obtain ⟨a, b, c, d, e⟩ := h.ss x hx
    refine ⟨by rw [a]; exact fc0_ok, by rw [b]; exact fun y hy => by (cases hy), fun j hj hh => ?_, by rw [d]; decide, by rw [e]; decide⟩
    rw [b] at hh; cases hh
set_option maxHeartbeats 4000000 in
theorem both38 (β : Base) {a m q : Int} (ha0 : 0 ≤ a) (ha1 : a ≤ 255) (hm0 : 0 ≤ m) (hm1 : m ≤ 255) (hq0 : 0 ≤ q) (hq1 : q ≤ 255) :
    Tri Tryz.prog β 38 [.int .u8 a, .int .u8 m, .int .u8 q] [] (fun v L => ∃ g Z r X, v = .tuple #[.pointer (some ⟨g, 0, none⟩), .pointer (some ⟨r, 0, none⟩)] ∧ L = gA g Z ++ rgA r X ∧ NewG Z (1 + a % 4).toNat (m % 65).toNat (q % 41).toNat ∧ NewR X (1 + a % 4).toNat (m % 65).toNat (q % 41).toNat) := by
  have e1 := u8_mod ha0 ha1 4 (by omega) (by omega)
  have e2 := u8_mod hm0 hm1 65 (by omega) (by omega)
  have e3 : IntKind.i64.wrap (1 + IntKind.i64.wrap (a.tmod 4)) = (((1 + a % 4).toNat : Nat) : Int) := by rw [e1, wrap_id (by omega) (by omega)]; omega
  have e4 : IntKind.i64.wrap (m.tmod 65) = (((m % 65).toNat : Nat) : Int) := by rw [e2]; omega
  have e5 : IntKind.i64.wrap (q.tmod 41) = (((q % 41).toNat : Nat) : Int) := by rw [u8_mod hq0 hq1 41 (by omega) (by omega)]; omega
  have hN1 : 1 ≤ (1 + a % 4).toNat := by omega
  have hN8 : (1 + a % 4).toNat ≤ 4 := by omega
  have hS : (m % 65).toNat ≤ 64 := by omega
  have hL : (q % 41).toNat ≤ 40 := by omega
  generalize (1 + a % 4).toNat = N at e3 hN1 hN8 ⊢
  generalize (m % 65).toNat = S at e4 hS ⊢
  generalize (q % 41).toNat = Q at e5 hL ⊢
  refine Tri.intro tt_ok Tryz.func38 rfl rfl Tryz.ntmps38 rfl fun F => ?_
  refine G tt_ok [] ?_
  rw [e3, e4, e5]
  (refine ka rfl rfl (gnew34 β hN1 hN8 hS (l := Q) (by omega)) ?_; rintro _ _ ⟨g, Z, rfl, rfl, hZ⟩; refine w_ ?_)
  refine G tt_ok [] ?_
  rw [e3, e4, e5]
  (refine ka rfl rfl (rnew35 β hN1 hN8 hS (l := Q) (by omega)) ?_; rintro _ _ ⟨r, X, rfl, rfl, hX⟩; refine w_ ?_)
  refine G tt_ok [] ?_
  exact CW.ret (fin_ret rfl (A := gA g Z ++ rgA r X) pk_ ⟨g, Z, r, X, rfl, rfl, hZ, hX⟩)
theorem rd_va {cs : List Value} {off n : Nat} {ts : List VA} (h : (cs.drop off).take (n * 19) = ts.flatMap vaC) {k : Nat} {t : VA} (hk : ts[k]? = some t) : rdv ti81 cs (off + k * 19) = some (.agg (vaC t).toArray) :=
  rd_enc (enc := vaC) (sz := 19) (fun _ => rfl) rfl rfl h hk
def playG (Z : GS) (ts : List VA) : GS := ts.foldl GS.actG Z
theorem playG_succ (Z : GS) {ts : List VA} {k : Nat} {t : VA} (h : ts[k]? = some t) : playG Z (ts.take (k + 1)) = (playG Z (ts.take k)).actG t := by
  have : ts.take (k + 1) = ts.take k ++ [t] := by rw [List.take_add_one, h]; rfl
  rw [this]; simp [playG]
theorem OkG.play {R : RS} : ∀ {ts : List VA} {Z : GS}, (∀ t ∈ ts, vaOk t) → OkG R Z → OkG R (playG Z ts)
  | [], _, _, h => h
  | x :: r, Z, ht, h => OkG.play (ts := r) (fun t h => ht t (List.mem_cons_of_mem _ h)) (h.actG (ht x List.mem_cons_self))
set_option maxHeartbeats 4000000 in
theorem played10 (β : Base) (hG : TabOk β) {p : Option Addr} {n c : Nat} {ts : List VA} {A : Atom} (hr : RdS β p n 19 (ts.flatMap vaC) A) (hn : n ≤ 9223372036854775807) (hid : ∀ t ∈ ts, vaOk t) {a m q : Int} (ha0 : 0 ≤ a) (ha1 : a ≤ 255) (hm0 : 0 ≤ m) (hm1 : m ≤ 255) (hq0 : 0 ≤ q) (hq1 : q ≤ 255) :
    Tri Tryz.prog β 10 [.int .u8 a, .int .u8 m, .int .u8 q, .slice p n c] [A] (fun v L => ∃ g Z R, v = .tuple #[.pointer (some ⟨g, 0, none⟩), .int .i64 ((1 + a % 4).toNat : Nat)] ∧ NewG Z (1 + a % 4).toNat (m % 65).toNat (q % 41).toNat ∧ OkG R (playG Z ts) ∧ L = gA g (playG Z ts) ++ [A]) := by
  have htl : ts.length = n := by have := hr.1; rw [flatE_len (sz := 19) (fun _ => rfl)] at this; omega
  have e1 := u8_mod ha0 ha1 4 (by omega) (by omega)
  have e3 : IntKind.i64.wrap (1 + IntKind.i64.wrap (a.tmod 4)) = (((1 + a % 4).toNat : Nat) : Int) := by rw [e1, wrap_id (by omega) (by omega)]; omega
  have hb := both38 β ha0 ha1 hm0 hm1 hq0 hq1
  have hN1 : 1 ≤ (1 + a % 4).toNat := by omega
  have hN8 : (1 + a % 4).toNat ≤ 4 := by omega
  have hS : (m % 65).toNat ≤ 64 := by omega
  have hL : (q % 41).toNat ≤ 64 := by omega
  generalize (1 + a % 4).toNat = N at e3 hN1 hN8 hb ⊢
  generalize (m % 65).toNat = S at hS hb ⊢
  generalize (q % 41).toNat = Q at hL hb ⊢
  refine Tri.intro tt_ok Tryz.func10 rfl rfl Tryz.ntmps10 rfl fun F => ?_
  refine G tt_ok [] ?_
  (refine ka rfl rfl (hb) ?_; rintro _ _ ⟨g, Z, r, X, rfl, rfl, hZ, hX⟩; refine w_ ?_)
  refine G tt_ok [] ?_
  have okX := hX.ok hN1 hN8 hS hL
  have okZ : OkG X.R Z := hZ.ok hN1 hN8 hS hL hX.ro
  generalize X.R = R at okZ
  refine CW.loop (α := Nat × RG) (fun k => k.1 ≤ n ∧ OkR N Q k.2) (fun k => [(12, .int .i64 k.1), (11, .pointer (some ⟨r, 0, none⟩)), (10, .pointer (some ⟨g, 0, none⟩)), (3, .slice p n c), (0, .int .u8 a)])
    (fun k => gA g (playG Z (ts.take k.1)) ++ rgA r k.2 ++ [A]) (fun k => n - k.1) (0, X) ⟨by simp, okX⟩ ⟨rfl, rfl, rfl, rfl, rfl, trivial⟩ pk_ ?_
  rintro ⟨k, Y⟩ ⟨hk, okY⟩
  simp only at hk okY ⊢
  have okk : OkG R (playG Z (ts.take k)) := OkG.play (fun t ht => hid t (List.mem_of_mem_take ht)) okZ
  refine G tt_ok [] ?_
  by_cases hlt : k < n
  · rw [decide_eq_true (show (k : Int) < n by omega)]
    have hw : IntKind.i64.wrap ((k : Int) + 1) = ((k + 1 : Nat) : Int) := by rw [wrap_i64]; split <;> omega
    obtain ⟨t, ht⟩ : ∃ t, ts[k]? = some t := ⟨_, List.getElem?_eq_getElem (by omega)⟩
    have hdo := does39 β hG g r okk okY t (hid t (List.mem_of_getElem? ht))
    obtain ⟨bs, os, qs, cs, rfl, rfl, hcs⟩ := hr.2.resolve_left (by omega)
    refine G tt_ok [] ?_
    refine SQ.idx tt_ok rfl rfl k rfl hlt (o' := os + k * 19) rfl ?_
    (refine SQ.ldA tt_ok rfl rfl (by repeat (first | exact .h | exact .q | apply At.t)) (rd_va hcs ht) ?_)
    refine G tt_ok [] ?_
    (refine ka rfl rfl (hdo) ?_; rintro _ _ ⟨b, Y2, rfl, rfl, okY2⟩; refine w_ ?_)
    refine G tt_ok [] ?_
    refine ⟨(k + 1, Y2), ⟨by simp only; omega, okY2⟩, by simp only; omega, ⟨by rw [← hw]; rfl, rfl, rfl, rfl, rfl, trivial⟩, ?_⟩
    simp only
    rw [playG_succ Z ht]
    exact pk_
  · rw [decide_eq_false (show ¬ (k : Int) < n by omega)]
    refine G tt_ok [] ?_
    refine CW.exit ?_
    refine G tt_ok [] ?_
    rw [List.take_of_length_le (show ts.length ≤ k by omega)] at okk ⊢
    rw [e3]
    exact CW.ret (fin_ret rfl (A := gA g (playG Z ts) ++ [A]) pk_ ⟨g, Z, R, rfl, hZ, okk, rfl⟩)
end Go.Proofs.YtebpodnbalfomaaGreatDoor.Sl
namespace Go.Proofs.YtebpodnbalfomaaGreatDoor.Sl
open Go Go.RowKit Go.Proofs
set_option linter.unusedVariables false
set_option linter.unusedSimpArgs false
attribute [local irreducible] CW Tri OW
set_option maxRecDepth 10000
@[reducible] def pk28 : List (Nat × Plan) := []
set_option maxHeartbeats 4000000 in
/-- The numbers that a loop goes through. -/
theorem nums28 (β : Base) {gf : Nat} {cap : Array Value} {A : List Atom} {cs : List Int} (hI : Iter Tryz.prog β gf cap.toList A iC1 cs) (hl : cs.length ≤ 1000) :
    Tri Tryz.prog β 28 [.func (.func gf) #[] cap] A (fun v L => ∃ q c, v = .slice q cs.length c ∧ L = rowA q cs.length (cs.flatMap iC1) :: A) := by
  refine Tri.intro tt_ok Tryz.func28 rfl rfl Tryz.ntmps28 rfl fun F => ?_
  (refine G tt_ok pk28 ?_; repeat (refine G1 tt_ok pk28 ?_; intro _))
  rename_i b3
  refine CW.ent (L' := A ++ [exA fun x : Option Addr × Nat => [pt b3 [.slice x.1 0 x.2], own 3 1 (.slice x.1 0 x.2) 0 []]]) ?_ ?_
  · refine Ent.trans ?_ (Ent.perm List.perm_append_comm)
    refine Ent.trans (own_nil 3 1) ?_
    exact Ent.append (L := [own 3 1 (.slice none 0 0) 0 [], pt b3 [.slice none 0 0]]) (L' := [exA fun x : Option Addr × Nat => [pt b3 [.slice x.1 0 x.2], own 3 1 (.slice x.1 0 x.2) 0 []]]) (M := A) (M' := A)
      ((Ent.perm (List.Perm.swap _ _ _)).trans (Ent.exA (f := fun x : Option Addr × Nat => [pt b3 [.slice x.1 0 x.2], own 3 1 (.slice x.1 0 x.2) 0 []]) (none, 0))) (Ent.refl _)
  refine CW.rangeFunc rfl hI (List.replicate A.length 0) (sel_front A)
    (fun pre => [exA fun x : Option Addr × Nat => [pt b3 [.slice x.1 pre.length x.2], own 3 1 (.slice x.1 pre.length x.2) pre.length (pre.flatMap iC1)]])
    (fun _ _ => False) (Ent.refl _) (fun _ => rfl) (by decide) ?_ ?_ (fun _ _ h => h.elim)
  · intro pre p hpre lp fm rec1
    have hpl : pre.length < 1000 := by have := hpre.length_le; simp at this; omega
    refine CW.open_ fun x => ?_
    obtain ⟨q, c⟩ := x
    (refine G tt_ok pk28 ?_; repeat (refine G1 tt_ok pk28 ?_; intro _))
    intro fm2 rec2
    (refine G tt_ok pk28 ?_; repeat (refine G1 tt_ok pk28 ?_; intro _))
    (refine SQ.built tt_ok rfl rfl (fun _ => w_ ?_))
    (refine G tt_ok pk28 ?_; repeat (refine G1 tt_ok pk28 ?_; intro _))
    (refine SQ.appA tt_ok rfl rfl (by repeat (first | exact Rm.h | apply Rm.t)) (by repeat (first | exact .h | exact .q | apply At.t)) (iC1 p) rfl rfl rfl (scal_eq rfl) (by omega) (by show (pre.length + 1) * 8 ≤ _; omega) (fun q2 c2 => w_ ?_))
    (refine G tt_ok pk28 ?_; repeat (refine G1 tt_ok pk28 ?_; intro _))
    rw [decide_eq_false (show ¬ (((pre.length + 1 : Nat) : Int) > 2000) by omega)]
    (refine G tt_ok pk28 ?_; repeat (refine G1 tt_ok pk28 ?_; intro _))
    refine Ent.trans ?_ (Ent.append (L' := [exA fun x : Option Addr × Nat => [pt b3 [.slice x.1 (pre ++ [p]).length x.2], own 3 1 (.slice x.1 (pre ++ [p]).length x.2) (pre ++ [p]).length ((pre ++ [p]).flatMap iC1)]]) (M := A) (M' := A) (Ent.exA (f := fun x : Option Addr × Nat => [pt b3 [.slice x.1 (pre ++ [p]).length x.2], own 3 1 (.slice x.1 (pre ++ [p]).length x.2) (pre ++ [p]).length ((pre ++ [p]).flatMap iC1)]) (q2, c2)) (Ent.refl _))
    rw [show (pre ++ [p]).length = pre.length + 1 by simp, flat_snoc]
    exact Ent.append (L := [_, _, _]) (L' := [pt b3 [.slice q2 (pre.length + 1) c2], own 3 1 (.slice q2 (pre.length + 1) c2) (pre.length + 1) (pre.flatMap iC1 ++ iC1 p)]) (M := A) (Ent.sel (is := [2, 0]) rfl) (Ent.refl A)
  · refine CW.open_ fun x => ?_
    obtain ⟨q, c⟩ := x
    (refine G tt_ok pk28 ?_; repeat (refine G1 tt_ok pk28 ?_; intro _))
    refine CW.ret (fin_ret rfl (A := rowA q cs.length (cs.flatMap iC1) :: A) (Ent.append (L := [pt b3 [.slice q cs.length c], own 3 1 (.slice q cs.length c) cs.length (cs.flatMap iC1)]) (L' := [rowA q cs.length (cs.flatMap iC1)]) (M := A) (Ent.trans (Ent.sel (is := [1]) rfl) own_row) (Ent.refl A)) ?_)
    exact ⟨q, c, rfl, rfl⟩
end Go.Proofs.YtebpodnbalfomaaGreatDoor.Sl
namespace Go.Proofs.YtebpodnbalfomaaGreatDoor.Sl
open Go Go.RowKit Go.Proofs
set_option linter.unusedVariables false
set_option linter.unusedSimpArgs false
attribute [local irreducible] CW Tri OW
attribute [local irreducible] wlen
set_option maxRecDepth 10000
@[reducible] def pk9 : List (Nat × Plan) := []
/-- Where the example's controller lies. -/
structure Hv where
  d : Nat
  sb : Nat
  sq : Option Addr
  sc : Nat
  qd : Option Addr
  cd : Nat
  b1 : Nat
  q1 : Option Addr
  c1 : Nat
  b2 : Nat
  q2 : Option Addr
  c2 : Nat
  qc : Option Addr
  cc : Nat
  qs : Option Addr
  cs : Nat
  S1 : Nat
  S2 : Nat
def aw0 (h : Hv) : GS := ⟨h.d, ⟨false, false, h.sb, h.sq, h.sc, List.replicate 32 (Br.zeroE.1, (0, false)), h.qd, h.cd, [⟨h.b1, h.q1, h.c1, ownK 16, false⟩, ⟨h.b2, h.q2, h.c2, ownK 16, false⟩]⟩, h.qc, h.cc, List.replicate 8 0, h.qs, h.cs, [⟨fc0, h.S1, none, false, 0, 0⟩, ⟨fc0, h.S2, none, false, 0, 0⟩]⟩
def aw1 (h : Hv) : GS := { aw0 h with D := ((aw0 h).D.wrV 0 4 2).1 }
def aw2 (h : Hv) : GS := ((aw1 h).wrOwnV 0 0 4 1).1
def aw3 (h : Hv) : GS := ((aw2 h).setupV 8195 161).1
def aw4 (h : Hv) : GS := ((aw3 h).letV 0 8195 true).1
def aw5 (h : Hv) : GS := ((aw4 h).accV 0 6 true 248).1
def aw6 (h : Hv) : GS := ((aw5 h).accV 0 11 true 1).1
def aw7 (h : Hv) : GS := ((aw6 h).accV 0 2 false 0).1
def aw8 (h : Hv) : GS := ((aw7 h).accV 0 12 false 0).1
def aw9 (h : Hv) : GS := ((aw8 h).accV 0 4 true 8195).1
theorem aw_b (h : Hv) : ((aw1 h).wrOwnV 0 0 4 1).2 = (1, 0) := by kernel_rfl
theorem aw_c (h : Hv) : ((aw3 h).letV 0 8195 true).2.1 = false := by kernel_rfl
theorem aw_d (h : Hv) : topC ((aw4 h).candV 0) = (8195, 160, 1, true) := by kernel_rfl
theorem aw_e (h : Hv) : ((aw6 h).accV 0 2 false 0).2.1 = 8195 := by kernel_rfl
theorem aw_f (h : Hv) : ((aw7 h).accV 0 12 false 0).2.1 = 160 := by kernel_rfl
theorem aw_g (h : Hv) : ((aw8 h).accV 0 4 true 8195).2.2 = (-1, 0) := by kernel_rfl
theorem aw_h (h : Hv) : (aw9 h).waitsV 0 = [] := by kernel_rfl
def aR : RS := ⟨⟨0, none, 0, none, 0⟩, none, 0, none, 0, none, 0, none, 0, [⟨0, none, 0, none, 0⟩, ⟨0, none, 0, none, 0⟩]⟩
theorem newG_2 {Z : GS} (h : NewG Z 2 32 8) : ∃ x, Z = aw0 x := by
  obtain ⟨d, D, qc, cc, cf, qs, cs, ss⟩ := Z
  obtain ⟨hd, hcf, hn, hss⟩ := h
  simp only at hd hcf hn hss
  obtain ⟨o0, o1, sb, sq, sc, sh, qd, cd, xs⟩ := D
  obtain ⟨a, b, c, d, e⟩ := hd
  simp only at a b c d e
  subst a; subst b; subst c; subst hcf
  match xs, d, ss, hn with
  | [⟨b1, q1, c1, es1, sl1⟩, ⟨b2, q2, c2, es2, sl2⟩], _, [⟨f1, S1, W1, on1, p1, e1⟩, ⟨f2, S2, W2, on2, p2, e2⟩], _ =>
    obtain ⟨i1, i2⟩ := e _ (by simp : (⟨b1, q1, c1, es1, sl1⟩ : CR) ∈ _)
    obtain ⟨g1, g2⟩ := e ⟨b2, q2, c2, es2, sl2⟩ (by simp)
    obtain ⟨u1, u2, u3, u4, u5⟩ := hss ⟨f1, S1, W1, on1, p1, e1⟩ (by simp)
    obtain ⟨v1, v2, v3, v4, v5⟩ := hss ⟨f2, S2, W2, on2, p2, e2⟩ (by simp)
    simp only at i1 i2 g1 g2 u1 u2 u3 u4 u5 v1 v2 v3 v4 v5
    subst i1; subst i2; subst g1; subst g2; subst u1; subst u2; subst u3; subst u4; subst u5; subst v1; subst v2; subst v3; subst v4; subst v5
    exact ⟨⟨_, sb, sq, sc, qd, cd, b1, q1, c1, b2, q2, c2, qc, cc, qs, cs, S1, S2⟩, rfl⟩
theorem aw2_is (h : Hv) : ((aw1 h).wrOwnV 0 0 4 1).1 = aw2 h := rfl
theorem aw3_is (h : Hv) : ((aw2 h).setupV 8195 161).1 = aw3 h := rfl
theorem aw4_is (h : Hv) : ((aw3 h).letV 0 8195 true).1 = aw4 h := rfl
theorem aw5_is (h : Hv) : ((aw4 h).accV 0 6 true 248).1 = aw5 h := rfl
theorem aw6_is (h : Hv) : ((aw5 h).accV 0 11 true 1).1 = aw6 h := rfl
theorem aw7_is (h : Hv) : ((aw6 h).accV 0 2 false 0).1 = aw7 h := rfl
theorem aw8_is (h : Hv) : ((aw7 h).accV 0 12 false 0).1 = aw8 h := rfl
theorem aw9_is (h : Hv) : ((aw8 h).accV 0 4 true 8195).1 = aw9 h := rfl
theorem awg0 (g : Nat) (h : Hv) : gA g (aw0 h) = [pt g (gC h.d h.qc (aw0 h).cf.length h.cc h.qs (aw0 h).ss.length h.cs), rowA h.qc (aw0 h).cf.length ((aw0 h).cf.flatMap byC), rowA h.qs (aw0 h).ss.length ((aw0 h).ss.flatMap sdC), pkA sdA (aw0 h).ss] ++ dA h.d (aw0 h).D := rfl
theorem awg1 (g : Nat) (h : Hv) : gA g (aw1 h) = [pt g (gC h.d h.qc (aw0 h).cf.length h.cc h.qs (aw0 h).ss.length h.cs), rowA h.qc (aw0 h).cf.length ((aw0 h).cf.flatMap byC), rowA h.qs (aw0 h).ss.length ((aw0 h).ss.flatMap sdC), pkA sdA (aw0 h).ss] ++ dA h.d ((aw0 h).D.wrV 0 4 2).1 := rfl
theorem aw_ok (h : Hv) : OkG aR (aw1 h) → OkG aR (aw2 h) ∧ OkG aR (aw3 h) ∧ OkG aR (aw4 h) ∧ OkG aR (aw5 h) ∧ OkG aR (aw6 h) ∧ OkG aR (aw7 h) ∧ OkG aR (aw8 h) ∧ OkG aR (aw9 h) := fun ok1 => by
  have ok2 : OkG aR (aw2 h) := ok1.wrOwnV _ _ _ _
  have ok3 : OkG aR (aw3 h) := ok2.setupV _ (by omega)
  have ok4 : OkG aR (aw4 h) := ok3.letV _ (by omega) _
  have ok5 : OkG aR (aw5 h) := ok4.accV _ _ _ _
  have ok6 : OkG aR (aw6 h) := ok5.accV _ _ _ _
  have ok7 : OkG aR (aw7 h) := ok6.accV _ _ _ _
  have ok8 : OkG aR (aw8 h) := ok7.accV _ _ _ _
  have ok9 : OkG aR (aw9 h) := ok8.accV _ _ _ _
  exact ⟨ok2, ok3, ok4, ok5, ok6, ok7, ok8, ok9⟩
theorem aw_ok1 (h : Hv) (ok0 : OkG aR (aw0 h)) : OkG aR (aw1 h) := ok0.setD (ok0.ok.wrV _ _ _) (wrV_len _ _ _ _)
attribute [local irreducible] aw0 aw1 aw2 aw3 aw4 aw5 aw6 aw7 aw8 aw9
theorem gwaits29 (β : Base) (g : Nat) {R : RS} {Z : GS} (ok : OkG R Z) (k : Int) : Tri Tryz.prog β 29 [.pointer (some ⟨g, 0, none⟩), .int .i64 k] (gA g Z)
    (fun v L => ∃ b1 b2 q1 c1 W, v = .func (.func 207) #[] #[.pointer (some ⟨b1, 0, none⟩), .pointer (some ⟨b2, 0, none⟩)] ∧
      L = [pt b1 [.slice q1 (wds W).length c1], rowA q1 (wds W).length ((wds W).flatMap wC), pt b2 [.int .i64 0]] ++ gA g Z ∧ memS W = Z.waitsV k ∧ setOk W) := by
  have h := (waits29 β g Z k).frame (rowA Z.qc Z.cf.length (Z.cf.flatMap byC) :: dA Z.d Z.D)
  refine (Tri.ent ?_ h).monoE ?_
  · rw [gL_of]; unfold gL; exact pk_
  · rintro v L ⟨A', rfl, b1, b2, q1, c1, W, hW, hm, hv, rfl⟩
    have hok : setOk W := by
      rcases hW with h | ⟨s, hs, rfl⟩
      · exact h
      · exact ok.w s hs
    refine ⟨[pt b1 [.slice q1 (wds W).length c1], rowA q1 (wds W).length ((wds W).flatMap wC), pt b2 [.int .i64 0]] ++ gA g Z, ?_, b1, b2, q1, c1, W, hv, rfl, hm, hok⟩
    rw [gL_of]; unfold gL
    exact pk_
set_option maxHeartbeats 8000000 in
theorem awake9 (β : Base) (hG : TabOk β) : Tri Tryz.prog β 9 [] [] (fun v L => v = .bool true ∧ L = []) := by
  refine Tri.intro tt_ok Tryz.func9 rfl rfl Tryz.ntmps9 rfl fun F => ?_
  (refine G tt_ok pk9 ?_; repeat (refine G1 tt_ok pk9 ?_; intro _))
  (refine ka rfl rfl (gnew34 β (n := 2) (s := 32) (l := 8) (by omega) (by omega) (by omega) (by omega)) ?_; rintro _ _ ⟨g, Z, rfl, rfl, hZ⟩; refine w_ ?_)
  obtain ⟨h, rfl⟩ := newG_2 hZ
  have ok0 : OkG aR (aw0 h) := hZ.ok (by omega) (by omega) (by omega) (by omega) rfl
  have ok1 := aw_ok1 h ok0
  obtain ⟨ok2, ok3, ok4, ok5, ok6, ok7, ok8, ok9⟩ := aw_ok h ok1
  have c1 := write32 β h.d (aw0 h).D 0 4 2 (by omega)
  have c2 := gwriteOwn18 β g (aw1 h) 0 0 4 (v := 1) (by omega)
  have c3 := gsetup17 β g (aw2 h) (id := 8195) (by omega) 161
  have c4 := glet21 β g ok3 0 (id := 8195) (by omega) true
  have c5 := top24 β hG g ok4 0
  have c6 := access23 β hG g ok4 0 6 true (x := 248) (by omega)
  have c7 := access23 β hG g ok5 0 11 true (x := 1) (by omega)
  have c8 := access23 β hG g ok6 0 2 false (x := 0) (by omega)
  have c9 := access23 β hG g ok7 0 12 false (x := 0) (by omega)
  have c10 := access23 β hG g ok8 0 4 true (x := 8195) (by omega)
  have c11 := gwaits29 β g ok9 0
  rw [aw_b] at c2
  rw [aw_c] at c4
  rw [aw_d] at c5
  rw [aw_e] at c8
  rw [aw_f] at c9
  rw [aw_g] at c10
  rw [aw_h] at c11
  rw [aw2_is] at c2
  rw [aw3_is] at c3
  rw [aw4_is] at c4
  rw [aw5_is] at c6
  rw [aw6_is] at c7
  rw [aw7_is] at c8
  rw [aw8_is] at c9
  rw [aw9_is] at c10
  have e1 := awg1 g h
  have e0 := awg0 g h
  rw [e1] at c2
  rw [e0]
  generalize hc0 : (aw0 h).cf.length = n0 at c2 ⊢
  generalize (aw0 h).cf.flatMap byC = r0 at c2 ⊢
  generalize (aw0 h).ss.length = n1 at c2 ⊢
  generalize (aw0 h).ss.flatMap sdC = r1 at c2 ⊢
  generalize (aw0 h).ss = r2 at c2 ⊢
  (refine G tt_ok pk9 ?_; repeat (refine G1 tt_ok pk9 ?_; intro _))
  refine ke rfl rfl (c1) ?_
  (refine G tt_ok pk9 ?_; repeat (refine G1 tt_ok pk9 ?_; intro _))
  refine ke rfl rfl (c2) ?_
  (refine G tt_ok pk9 ?_; repeat (refine G1 tt_ok pk9 ?_; intro _))
  refine ke rfl rfl (c3) ?_
  (refine G tt_ok pk9 ?_; repeat (refine G1 tt_ok pk9 ?_; intro _))
  refine ke rfl rfl (c4) ?_
  (refine G tt_ok pk9 ?_; repeat (refine G1 tt_ok pk9 ?_; intro _))
  refine ke rfl rfl (c5) ?_
  (refine G tt_ok pk9 ?_; repeat (refine G1 tt_ok pk9 ?_; intro _))
  refine ke rfl rfl (c6) ?_
  (refine G tt_ok pk9 ?_; repeat (refine G1 tt_ok pk9 ?_; intro _))
  refine ke rfl rfl (c7) ?_
  (refine G tt_ok pk9 ?_; repeat (refine G1 tt_ok pk9 ?_; intro _))
  refine ke rfl rfl (c8) ?_
  (refine G tt_ok pk9 ?_; repeat (refine G1 tt_ok pk9 ?_; intro _))
  refine ke rfl rfl (c9) ?_
  (refine G tt_ok pk9 ?_; repeat (refine G1 tt_ok pk9 ?_; intro _))
  refine ke rfl rfl (c10) ?_
  (refine G tt_ok pk9 ?_; repeat (refine G1 tt_ok pk9 ?_; intro _))
  (refine SQ.eqs tt_ok rfl rfl rfl (by kernel_rfl) (by kernel_rfl) ?_)
  (refine G tt_ok pk9 ?_; repeat (refine G1 tt_ok pk9 ?_; intro _))
  (refine ka rfl rfl (c11) ?_; rintro _ _ ⟨b1, b2, q1, d1, W, rfl, rfl, hm, hW⟩; refine w_ ?_)
  (refine G tt_ok pk9 ?_; repeat (refine G1 tt_ok pk9 ?_; intro _))
  (refine ka rfl rfl (nums28 β (iterW β hG b1 b2 q1 d1 hW) (by rw [hm]; simp)) ?_; rintro _ _ ⟨q, c, rfl, rfl⟩; refine w_ ?_)
  (refine G tt_ok pk9 ?_; repeat (refine G1 tt_ok pk9 ?_; intro _))
  rw [hm]
  (refine G tt_ok pk9 ?_; repeat (refine G1 tt_ok pk9 ?_; intro _))
  exact CW.ret (fin_ret rfl (A := []) (Ent.dropAll _) ⟨rfl, rfl⟩)
end Go.Proofs.YtebpodnbalfomaaGreatDoor.Sl
namespace Go.Proofs.YtebpodnbalfomaaGreatDoor.Sl
open Go Go.RowKit Go.Proofs
set_option linter.unusedVariables false
set_option linter.unusedSimpArgs false
/-- What an act on processor k may change. -/
def KeepS (k : Int) (Z Z' : GS) : Prop := Z'.ss.length = Z.ss.length ∧ ∀ j, (j ≠ k.toNat ∨ rightV Z.ss.length k = false) → Z'.ss[j]? = Z.ss[j]?
theorem KeepS.refl (k : Int) (Z : GS) : KeepS k Z Z := ⟨rfl, fun _ _ => rfl⟩
theorem KeepS.trans {k : Int} {A B C : GS} (h1 : KeepS k A B) (h2 : KeepS k B C) : KeepS k A C :=
  ⟨h2.1.trans h1.1, fun j hj => (h2.2 j (by rw [h1.1]; exact hj)).trans (h1.2 j hj)⟩
theorem KeepS.setS {k : Int} {Z : GS} (hr : rightV Z.ss.length k = true) (s : SdS) : KeepS k Z (Z.setS k s) := by
  refine ⟨by unfold GS.setS; simp, fun j hj => ?_⟩
  rcases hj with h | h
  · show (Z.ss.set k.toNat s)[j]? = Z.ss[j]?
    rw [List.getElem?_set_ne (Ne.symm h)]
  · rw [h] at hr; cases hr
theorem KeepS.at_ {k v : Int} {Z Z' : GS} (h : KeepS k Z Z') (hv : v ≠ k) : Z'.face v = Z.face v ∧ Z'.waitsV v = Z.waitsV v := by
  unfold GS.face GS.waitsV
  rw [h.1]
  cases hr : rightV Z.ss.length v with
  | false => exact ⟨rfl, rfl⟩
  | true =>
    have e : Z'.ss[v.toNat]? = Z.ss[v.toNat]? := h.2 _ (by
      cases hk : rightV Z.ss.length k with
      | false => exact .inr rfl
      | true => left; simp [rightV] at hr hk; omega)
    rw [e]
    exact ⟨rfl, rfl⟩
theorem waits_at {Z : GS} {w : Int} {s : SdS} (hr : rightV Z.ss.length w = true) (hs : Z.ss[w.toNat]? = some s) : Z.waitsV w = memS s.W := by
  unfold GS.waitsV; rw [if_pos hr, hs]
/-- No act changes how many processors and messages there are. -/
def SameL (Z Z' : GS) : Prop := Z'.ss.length = Z.ss.length ∧ Z'.cf.length = Z.cf.length
theorem SameL.refl (Z : GS) : SameL Z Z := ⟨rfl, rfl⟩
theorem SameL.trans {A B C : GS} (h1 : SameL A B) (h2 : SameL B C) : SameL A C := ⟨h2.1.trans h1.1, h2.2.trans h1.2⟩
theorem same_set (Z : GS) (k : Int) (s : SdS) : SameL Z (Z.setS k s) := ⟨by unfold GS.setS; simp, rfl⟩
theorem same_let (Z : GS) (k id : Int) (w : Bool) : SameL Z (Z.letV k id w).1 := by
  unfold GS.letV
  repeat' split
  all_goals first | exact ⟨by simp, rfl⟩ | exact SameL.refl _
theorem same_taken (Z : GS) (k id : Int) : SameL Z (Z.takenV k id) := by
  unfold GS.takenV
  split
  · exact same_let _ _ _ _
  · exact ⟨rfl, rfl⟩
theorem same_ended (Z : GS) (k id : Int) : SameL Z (Z.endedV k id).1 := by
  unfold GS.endedV
  split <;> exact ⟨rfl, rfl⟩
theorem same_end (Z : GS) (k id : Int) (m : Bool) : SameL Z (Z.endV k id m).1 := by
  unfold GS.endV
  split
  · exact same_ended _ _ _
  · split
    · exact same_ended _ _ _
    · exact SameL.refl _
theorem same_wrOwn (Z : GS) (k off w : Int) (v : Nat) : SameL Z (Z.wrOwnV k off w v).1 := by
  unfold GS.wrOwnV
  split
  · exact SameL.refl _
  · split
    · unfold GS.wrRegV
      split
      · repeat' split
        all_goals first | with_reducible exact SameL.refl _ | exact same_set _ _ _ | exact ⟨rfl, rfl⟩
      · exact SameL.refl _
    · exact SameL.refl _
theorem same_acc (Z : GS) (k r : Int) (w : Bool) (x : Nat) : SameL Z (Z.accV k r w x).1 := by
  unfold GS.accV
  split
  · have hiar : ∀ s kg, SameL Z (Z.iarV k s kg).1 := fun s kg => by
      unfold GS.iarV
      split
      · exact (same_set _ _ _).trans (same_taken _ _ _)
      · exact same_set _ _ _
    have heoi : ∀ s kg id, SameL Z (Z.eoiV k s kg id).1 := fun s kg id => by
      unfold GS.eoiV
      split
      · exact (same_set _ _ _).trans (same_end _ _ _ _)
      · exact same_end _ _ _ _
    split
    · unfold GS.accS
      generalize ((x % 2 ^ 24 : Nat) : Int) = id
      repeat' split
      all_goals first | exact hiar _ _ | exact heoi _ _ _ | exact same_end _ _ _ _ | with_reducible exact SameL.refl _ | exact same_set _ _ _ | exact ⟨rfl, rfl⟩
    · exact SameL.refl _
  · exact SameL.refl _
theorem same_move (Z : GS) (id fr to : Int) : SameL Z (Z.moveV id fr to).1 := by
  have h : ∀ (l : List Int) (st : GS × Int), SameL st.1 (l.foldl (mvS id fr to) st).1 := by
    intro l
    induction l with
    | nil => exact fun st => SameL.refl _
    | cons x l ih =>
      intro st
      refine SameL.trans ?_ (ih (mvS id fr to st x))
      unfold mvS
      split
      · exact (same_let _ _ _ _).trans (same_let _ _ _ _)
      · exact SameL.refl _
  unfold GS.moveV
  split
  · exact SameL.refl _
  · exact h _ (Z, 0)
theorem same_setup (Z : GS) (id : Int) (b : Nat) : SameL Z (Z.setupV id b).1 := by
  unfold GS.setupV
  split
  · exact ⟨rfl, by simp⟩
  · exact SameL.refl _
theorem same_act (Z : GS) (a : VA) : SameL Z (Z.actG a) := by
  unfold GS.actG
  repeat' split
  all_goals first | with_reducible exact SameL.refl _ | exact same_acc _ _ _ _ _ | exact same_wrOwn _ _ _ _ _ | exact same_let _ _ _ _ | exact same_setup _ _ _ | exact same_move _ _ _ _ | exact same_taken _ _ _ | exact same_ended _ _ _ | exact ⟨rfl, rfl⟩
theorem same_play : ∀ (ts : List VA) (Z : GS), SameL Z (playG Z ts)
  | [], Z => SameL.refl Z
  | x :: r, Z => (same_act Z x).trans (same_play r (Z.actG x))
end Go.Proofs.YtebpodnbalfomaaGreatDoor.Sl
namespace Go.Proofs.YtebpodnbalfomaaGreatDoor.Sl
open Go Go.RowKit Go.Proofs
set_option linter.unusedVariables false
set_option linter.unusedSimpArgs false
attribute [local irreducible] CW Tri OW
attribute [local irreducible] wlen
set_option maxRecDepth 10000
end Go.Proofs.YtebpodnbalfomaaGreatDoor.Sl
namespace Go.Proofs.YtebpodnbalfomaaGreatDoor.Sl
open Go Go.RowKit Go.Proofs
set_option linter.unusedVariables false
set_option linter.unusedSimpArgs false
end Go.Proofs.YtebpodnbalfomaaGreatDoor.Sl
namespace Go.Proofs.YtebpodnbalfomaaGreatDoor.Sl
open Go Go.RowKit Go.Proofs
set_option linter.unusedVariables false
set_option linter.unusedSimpArgs false
attribute [local irreducible] CW Tri OW
attribute [local irreducible] wlen
set_option maxRecDepth 10000
/-- May a message be taken? -/
theorem cand_has {R : RS} {Z : GS} (ok : OkG R Z) {w : Int} {s : SdS} {j b : Nat} (hr : rightV Z.ss.length w = true) (hs : Z.ss[w.toNat]? = some s) (hj : j < 64) (hb : Z.cf[j]? = some b) :
    (∃ x ∈ Z.candV w, x.1 = ((8192 + j : Nat) : Int)) ↔ (hasS s.W j = true ∧ b % 2 = 1 ∧ s.on = true ∧ Z.D.o1 = true ∧ asleepV Z.D.xs w = false) := by
  have hW := (ok.sd s (List.mem_of_getElem? hs)).w
  have hat : cfAt Z.cf ((8192 + j : Nat) : Int) = b := by unfold cfAt; rw [show (((8192 + j : Nat) : Int) - 8192).toNat = j by omega, hb]; rfl
  have hon : Z.onV w = (s.on && (Z.D.o1 && !asleepV Z.D.xs w)) := by unfold GS.onV; rw [hs]
  unfold GS.candV
  rw [if_pos hr]
  constructor
  · rintro ⟨x, hx, e⟩
    rcases List.mem_append.1 hx with h | h
    · obtain ⟨p, hp, rfl⟩ := List.mem_map.1 h
      have h1 := seen_id ok.ok (readyV_sub hp)
      have e : p.1 = ((8192 + j : Nat) : Int) := e
      omega
    · obtain ⟨h1, h2, h3⟩ := candB_ids ok h
      unfold GS.candB at h
      split at h
      · rename_i ho
        rw [hon] at ho
        simp only [Bool.and_eq_true, Bool.not_eq_true'] at ho
        rw [waits_at hr hs, memS_mem hW] at h1
        obtain ⟨i, hi, e2, hh⟩ := h1
        have : i = j := by omega
        subst this
        rw [e] at h2
        unfold oddM at h2
        rw [hat] at h2
        exact ⟨hh, by simpa using h2, ho.1, ho.2.1, ho.2.2⟩
      · simp at h
  · rintro ⟨h1, h2, h3, h4, h5⟩
    refine ⟨candM Z.cf ((8192 + j : Nat) : Int), List.mem_append_right _ ?_, rfl⟩
    unfold GS.candB
    rw [hon, h3, h4, h5]
    simp only [Bool.not_false, Bool.and_self, if_true]
    refine List.mem_map_of_mem (List.mem_filter.2 ⟨?_, ?_⟩)
    · rw [waits_at hr hs, memS_mem hW]
      exact ⟨j, hj, rfl, h1⟩
    · unfold oddM
      rw [hat]
      simpa using h2
theorem msg_in {n j : Nat} (hj : j < n) (h : j < 64) : msgV n ((8192 + j : Nat) : Int) = true := by
  unfold msgV
  rw [show IntKind.i64.wrap (((8192 + j : Nat) : Int) - 8192) = (j : Int) from (wrap_id (by omega) (by omega)).trans (by omega)]
  rw [decide_eq_true (by omega), decide_eq_true (by omega)]; rfl
/-- A controller of which a message is set up. -/
structure MsgS (R : RS) (w : Int) (j b : Nat) (o : Bool) (Z : GS) : Prop where
  ok : OkG R Z
  hr : rightV Z.ss.length w = true
  s : ∃ s, Z.ss[w.toNat]? = some s ∧ s.on = o
  cf : Z.cf[j]? = some b
  hj : j < 64
theorem MsgS.mem {R : RS} {w : Int} {j b : Nat} {o : Bool} {Z : GS} (h : MsgS R w j b o Z) : msgV Z.cf.length ((8192 + j : Nat) : Int) = true := msg_in (List.getElem?_eq_some_iff.1 h.cf).1 h.hj
theorem MsgS.let_ {R : RS} {w : Int} {j b : Nat} {o : Bool} {Z : GS} (h : MsgS R w j b o Z) (t : Bool) :
    MsgS R w j b o (Z.letV w ((8192 + j : Nat) : Int) t).1 ∧ (Z.letV w ((8192 + j : Nat) : Int) t).1.D = Z.D ∧
      ((∃ x ∈ (Z.letV w ((8192 + j : Nat) : Int) t).1.candV w, x.1 = ((8192 + j : Nat) : Int)) ↔ (t = true ∧ b % 2 = 1 ∧ o = true ∧ Z.D.o1 = true ∧ asleepV Z.D.xs w = false)) := by
  obtain ⟨ok, hr, ⟨s, hs, ho⟩, hcf, hj⟩ := h
  have hm : msgV Z.cf.length ((8192 + j : Nat) : Int) = true := msg_in (List.getElem?_eq_some_iff.1 hcf).1 hj
  have hl := (List.getElem?_eq_some_iff.1 hs).1
  have e : (Z.letV w ((8192 + j : Nat) : Int) t).1 = { Z with ss := Z.ss.set w.toNat (s.letS j t) } := by
    unfold GS.letV
    rw [if_pos hr, if_pos hm, hs]
    simp only
    rw [show (((8192 + j : Nat) : Int) - 8192).toNat = j by omega]
  have ok2 := ok.letV w (id := ((8192 + j : Nat) : Int)) (by omega) t
  rw [e] at ok2 ⊢
  have hr2 : rightV (Z.ss.set w.toNat (s.letS j t)).length w = true := by rw [List.length_set]; exact hr
  have hs2 : (Z.ss.set w.toNat (s.letS j t))[w.toNat]? = some (s.letS j t) := List.getElem?_set_self hl
  refine ⟨⟨ok2, hr2, ⟨s.letS j t, hs2, ho⟩, hcf, hj⟩, rfl, ?_⟩
  rw [cand_has ok2 hr2 hs2 hj hcf]
  have hh : hasS (s.letS j t).W j = t := by
    unfold SdS.letS
    cases t with
    | true => simp only [if_true]; rw [has_putS]; simp
    | false => simp only [Bool.false_eq_true, if_false]; rw [has_takeS _ _ hj]; simp
  rw [hh, show (s.letS j t).on = o from ho]
theorem o1_is (D : DS) : (IntKind.u64.wrap ((BitVec.ofInt IntKind.u64.bits (D.rdV 0 4).1 &&& BitVec.ofInt IntKind.u64.bits 2).toNat : Int) == 2) = D.o1 := by
  rw [rdV04]
  cases D.o0 <;> cases D.o1 <;> rfl
/-- The set-up of a message. -/
theorem msg_setup {R : RS} {Z : GS} (ok : OkG R Z) {w : Int} (hr : rightV Z.ss.length w = true) {j b : Nat} (hj : j < Z.cf.length) (hb : b < 256) :
    MsgS R w j b (decide (b / 2 % 2 = 1)) ((Z.setupV ((8192 + j : Nat) : Int) b).1.wrOwnV w 0 4 (b / 2)).1 := by
  have hj64 : j < 64 := by have := ok.lp; omega
  have hm := msg_in hj hj64
  obtain ⟨s, hs, hl, hk⟩ := rights_at hr
  have e1 : (Z.setupV ((8192 + j : Nat) : Int) b).1 = { Z with cf := Z.cf.set j b } := by
    unfold GS.setupV
    rw [if_pos hm, show (((8192 + j : Nat) : Int) - 8192).toNat = j by omega]
  have ok1 := ok.setupV ((8192 + j : Nat) : Int) hb
  have ok2 := ok1.wrOwnV w 0 4 (b / 2)
  have hd : redistV 0 4 = ((1, (redistV 0 4).1.2), 0) := by kernel_rfl
  have e2 : ((Z.setupV ((8192 + j : Nat) : Int) b).1.wrOwnV w 0 4 (b / 2)).1 = ({ Z with cf := Z.cf.set j b } : GS).setS w { s with on := decide (b / 2 % 2 = 1) } := by
    rw [e1]
    unfold GS.wrOwnV
    rw [hd]
    rw [if_neg (by simp), if_pos hr]
    unfold GS.wrRegV
    simp only [hs]
    rw [if_pos trivial]
  rw [e2] at ok2 ⊢
  exact ⟨ok2, by show rightV (Z.ss.set _ _).length w = true; rw [List.length_set]; exact hr, ⟨_, List.getElem?_set_self hl, rfl⟩, List.getElem?_set_self hj, hj64⟩
theorem MsgS.wr {R : RS} {w : Int} {j b : Nat} {o : Bool} {Z : GS} (h : MsgS R w j b o Z) (off wd : Int) (v : Nat) : MsgS R w j b o { Z with D := (Z.D.wrV off wd v).1 } :=
  ⟨h.ok.setD (h.ok.ok.wrV _ _ _) (wrV_len _ _ _ _), h.hr, h.s, h.cf, h.hj⟩
@[reducible] def pk4 : List (Nat × Plan) := [(7, [(0, 0, []), (1, 0, []), (2, 0, []), (3, 0, []), (4, 0, []), (5, 0, []), (6, 0, []), (7, 1, []), (8, 0, []), (9, 0, []), (10, 0, []), (11, 0, []), (12, 0, [])])]
set_option maxHeartbeats 16000000 in
theorem law_messages (β : Base) (hG : TabOk β) {p : Option Addr} {n c : Nat} {ts : List VA} {A : Atom} (hr : RdS β p n 19 (ts.flatMap vaC) A) (hn : n ≤ 9223372036854775807) (hid : ∀ t ∈ ts, vaOk t) {a q : Int} (ha0 : 0 ≤ a) (ha1 : a ≤ 255) (hq0 : 0 ≤ q) (hq1 : q ≤ 255) {v : Int} (hv0 : 0 ≤ v) (hv1 : v ≤ 255) {k : Int} (hk0 : 0 ≤ k) (hk1 : k ≤ 255) {b' : Int} (hb0 : 0 ≤ b') (hb1 : b' ≤ 255) :
    Tri Tryz.prog β 4 [.int .u8 a, .int .u8 q, .slice p n c, .int .u8 v, .int .u8 k, .int .u8 b'] [A] (fun v L => v = .bool true ∧ L = []) := by
  obtain ⟨b, rfl⟩ : ∃ b : Nat, b' = (b : Int) := ⟨b'.toNat, by omega⟩
  refine Tri.intro tt_ok Tryz.func4 rfl rfl Tryz.ntmps4 rfl fun F => ?_
  (refine G tt_ok pk4 ?_; repeat (refine G1 tt_ok pk4 ?_; intro _))
  refine ke rfl rfl (awake9 β hG) ?_
  (refine G tt_ok pk4 ?_; repeat (refine G1 tt_ok pk4 ?_; intro _))
  (refine ka rfl rfl (played10 β hG hr hn hid ha0 ha1 (m := 0) (by omega) (by omega) hq0 hq1) ?_; rintro _ _ ⟨g, Z0, R, rfl, hZ, ok, rfl⟩; refine w_ ?_)
  have hlen : (playG Z0 ts).ss.length = (1 + a % 4).toNat := by rw [(same_play ts Z0).1, hZ.n]
  have hN1 : 1 ≤ (1 + a % 4).toNat := by omega
  have hN4 : (1 + a % 4).toNat ≤ 4 := by omega
  generalize (1 + a % 4).toNat = N at hlen hN1 hN4 hZ ⊢
  generalize playG Z0 ts = Z at ok hlen
  have hw : IntKind.i64.wrap v = v := wrap_id (by omega) (by omega)
  have hwv : v.tmod (N : Int) = v % (N : Int) := by rw [Int.tmod_eq_emod_of_nonneg hv0]
  have hw0 : 0 ≤ v % (N : Int) := Int.emod_nonneg _ (by omega)
  have hw1 : v % (N : Int) < N := Int.emod_lt_of_pos _ (by omega)
  generalize v % (N : Int) = w at hwv hw0 hw1
  have hrv : rightV Z.ss.length w = true := by simp [rightV]; omega
  have hlp := lpis16 β g Z.d Z.qc Z.qs Z.cf.length Z.cc Z.ss.length Z.cs
  (refine G tt_ok pk4 ?_; repeat (refine G1 tt_ok pk4 ?_; intro _))
  rw [gL_of]
  refine ke rfl rfl (hlp) ?_
  by_cases hc0 : Z.cf.length = 0
  · rw [hc0]
    (refine G tt_ok pk4 ?_; repeat (refine G1 tt_ok pk4 ?_; intro _))
    exact CW.ret (fin_ret rfl (A := []) (Ent.dropAll _) ⟨rfl, rfl⟩)
  · (refine G tt_ok pk4 ?_; repeat (refine G1 tt_ok pk4 ?_; intro _))
    rw [show (((Z.cf.length : Nat) : Int) == 0) = false by simpa using hc0]
    (refine G tt_ok pk4 ?_; repeat (refine G1 tt_ok pk4 ?_; intro _))
    rw [hw]
    refine SQ.div tt_ok rfl rfl (by omega) (v := w) (by simpa using hwv) ?_
    (refine G tt_ok pk4 ?_; repeat (refine G1 tt_ok pk4 ?_; intro _))
    rw [show IntKind.i64.wrap k = k from wrap_id (by omega) (by omega)]
    refine ke rfl rfl (hlp) ?_
    (refine G tt_ok pk4 ?_; repeat (refine G1 tt_ok pk4 ?_; intro _))
    have hL64 := ok.lp
    have hmx : (if (1 : Int) < ((Z.cf.length : Nat) : Int) then ((Z.cf.length : Nat) : Int) else 1) = ((Z.cf.length : Nat) : Int) := by split <;> omega
    have hL0 : (Z.cf.length : Int) > 0 := by omega
    have hk3 := Int.emod_nonneg k (show (Z.cf.length : Int) ≠ 0 by omega)
    have hk4 := Int.emod_lt_of_pos k hL0
    have hkv : k.tmod ((Z.cf.length : Nat) : Int) = (((k % (Z.cf.length : Int)).toNat : Nat) : Int) := by rw [Int.tmod_eq_emod_of_nonneg hk0]; omega
    have hjl : (k % (Z.cf.length : Int)).toNat < Z.cf.length := by omega
    generalize (k % (Z.cf.length : Int)).toNat = j at hkv hjl
    rw [hmx]
    refine SQ.div tt_ok rfl rfl (by omega) (v := (j : Int)) (by simpa using hkv) ?_
    have hwid : IntKind.i64.wrap (8192 + (j : Int)) = ((8192 + j : Nat) : Int) := by rw [wrap_id (by omega) (by omega)]; omega
    have hset := gsetup17 β g Z (id := ((8192 + j : Nat) : Int)) (by omega) b
    have hM := msg_setup ok hrv hjl (b := b) (by omega)
    have hwr := gwriteOwn18 β g (Z.setupV ((8192 + j : Nat) : Int) b).1 w 0 4 (v := b / 2) (by omega)
    generalize Z.setupV ((8192 + j : Nat) : Int) b = S1 at hset hM hwr
    generalize S1.1.wrOwnV w 0 4 (b / 2) = S2 at hM hwr
    rw [gL_of g Z] at hset
    (refine G tt_ok pk4 ?_; repeat (refine G1 tt_ok pk4 ?_; intro _))
    rw [hwid]
    generalize hide : ((8192 + j : Nat) : Int) = id at hset
    refine ke rfl rfl (hset) ?_
    (refine G tt_ok pk4 ?_; repeat (refine G1 tt_ok pk4 ?_; intro _))
    have hs1 : (b : Int).fdiv (2 ^ min 1 IntKind.u8.bits) = ((b / 2 : Nat) : Int) := by
      show (b : Int).fdiv 2 = _
      rw [Int.fdiv_eq_ediv_of_nonneg _ (by decide)]; omega
    have hs2 : (b : Int).fdiv (2 ^ min 2 IntKind.u8.bits) = ((b / 4 : Nat) : Int) := by
      show (b : Int).fdiv 4 = _
      rw [Int.fdiv_eq_ediv_of_nonneg _ (by decide)]; omega
    rw [hs1, show IntKind.u64.wrap ((b / 2 : Nat) : Int) = ((b / 2 : Nat) : Int) from wrap_u (by omega) (by omega)]
    refine ke rfl rfl (hwr) ?_
    obtain ⟨⟨d, D, qc, cc, cf, qs, cs, ss⟩, rs⟩ := S2
    simp only at hM
    rw [gL_of]
    simp only
    (refine G tt_ok pk4 ?_; repeat (refine G1 tt_ok pk4 ?_; intro _))
    rw [hs2, and1_8 _ (by omega)]
    cases h4 : (b / 4 % 2 == 1)
    have hM3 := hM
    clear hwr hM
    rename DS => D3
    (refine G tt_ok pk4 ?_; repeat (refine G1 tt_ok pk4 ?_; intro _))
    rotate_left
    (refine G tt_ok pk4 ?_; repeat (refine G1 tt_ok pk4 ?_; intro _))
    refine ke rfl rfl (write32 β d D 0 4 2 (by omega)) ?_
    have hM3 := hM.wr 0 4 2
    simp only at hM3
    generalize (D.wrV 0 4 2).1 = D3 at hM3 ⊢
    (refine G tt_ok pk4 ?_; repeat (refine G1 tt_ok pk4 ?_; intro _))
    all_goals (
      have hread := read34 β d D3 hM3.ok.ok.one hM3.ok.ok.x8 hM3.ok.ok.sh hM3.ok.ok.rt 0 4
      have ho1 := o1_is D3
      generalize (D3.rdV 0 4).1 = RV at hread ho1
      have hL : ∀ (Y : GS), MsgS R w j b (decide (b / 2 % 2 = 1)) Y → Y.D = D3 → ∀ t, MsgS R w j b (decide (b / 2 % 2 = 1)) (Y.letV w id t).1 ∧ (Y.letV w id t).1.D = D3 ∧ (ordC ((Y.letV w id t).1.candV w)).any (fun x => x.1 == id) = (t && (b % 2 == 1 && (b / 2 % 2 == 1 && (D3.o1 && !asleepV D3.xs w)))) := fun Y hY hD t => by
        obtain ⟨h1, h2, h3⟩ := hY.let_ t
        rw [hide, hD] at h3
        rw [hide] at h1 h2
        refine ⟨h1, h2.trans hD, ?_⟩
        rw [Bool.eq_iff_iff, List.any_eq_true]
        have : (∃ x, x ∈ ordC ((Y.letV w id t).1.candV w) ∧ (x.1 == id) = true) ↔ ∃ x ∈ (Y.letV w id t).1.candV w, x.1 = id := by
          constructor
          · rintro ⟨x, hx, e⟩; exact ⟨x, ordC_mem.1 hx, by simpa using e⟩
          · rintro ⟨x, hx, e⟩; exact ⟨x, ordC_mem.2 hx, by simpa using e⟩
        rw [this, h3]
        simp
      refine ke rfl rfl (hread) ?_
      (refine G tt_ok pk4 ?_; repeat (refine G1 tt_ok pk4 ?_; intro _))
      refine SQ.built tt_ok rfl rfl (fun sb => ⟨(by repeat (first | exact trivial | refine ⟨trivial, ?_⟩ | refine ⟨wk (by repeat (first | exact .h | exact .q | apply At.t)) (by rfl), ?_⟩)), ?_⟩)
      (refine G tt_ok pk4 ?_; repeat (refine G1 tt_ok pk4 ?_; intro _))
      refine CW.loop (α := Nat × GS) (fun y => y.1 ≤ 2 ∧ MsgS R w j b (decide (b / 2 % 2 = 1)) y.2 ∧ y.2.D = D3) (fun y => [(91, .int .i64 y.1), (90, .int .i64 2), (89, .slice (some ⟨sb, 0, none⟩) 2 2), (18, .int .u64 RV), (17, .int .i64 id), (16, .int .i64 w), (14, .pointer (some ⟨g, 0, none⟩)), (5, .int .u8 b)])
        (fun y => gA g y.2 ++ [pt sb [.bool true, .bool false]]) (fun y => 2 - y.1) (0, ⟨d, D3, qc, cc, cf, qs, cs, ss⟩) ⟨by simp, hM3, rfl⟩ ⟨rfl, rfl, rfl, rfl, rfl, rfl, rfl, rfl, trivial⟩ (by simp only; rw [gL_of]; exact pk_) ?_
      clear hM3
      rintro ⟨i, Y⟩ ⟨hi, hY, hYD⟩
      simp only at hi hY hYD ⊢
      (refine G tt_ok pk4 ?_; repeat (refine G1 tt_ok pk4 ?_; intro _))
      by_cases hlt : i < 2
      · rw [decide_eq_true (show (i : Int) < 2 by omega)]
        have hwr : IntKind.i64.wrap ((i : Int) + 1) = ((i + 1 : Nat) : Int) := by rw [wrap_id (by omega) (by omega)]; simp
        obtain ⟨wt, hwt⟩ : ∃ wt, rdv ti4 [.bool true, .bool false] (0 + i * 1) = some (.bool wt) := by
          have : i = 0 ∨ i = 1 := by omega
          rcases this with rfl | rfl
          · exact ⟨true, rfl⟩
          · exact ⟨false, rfl⟩
        obtain ⟨hY2, hYD2, hfd⟩ := hL Y hY hYD wt
        have hlet := glet21 β g hY.ok w (id := id) (by omega) wt
        have hor := order11 β hG g hY2.ok w
        have hsl := asleep22 β (Y.letV w id wt).1.d (Y.letV w id wt).1.D w
        have hol := ordC_len ((Y.letV w id wt).1.candV w)
        have hcl := cand_len hY2.ok w
        generalize (Y.letV w id wt).2.1 = w1 at hlet
        generalize (Y.letV w id wt).2.2 = w2 at hlet
        generalize (Y.letV w id wt).1 = Y2 at hY2 hYD2 hfd hlet hor hol hcl hsl
        generalize Y2.candV w = CV at hfd hor hol hcl
        generalize ordC CV = O at hfd hor hol
        (refine G tt_ok pk4 ?_; repeat (refine G1 tt_ok pk4 ?_; intro _))
        refine SQ.idx tt_ok rfl rfl i rfl hlt (o' := 0 + i * 1) rfl ?_
        refine SQ.ldA tt_ok rfl rfl (by repeat (first | exact .h | exact .q | apply At.t)) hwt ?_
        (refine G tt_ok pk4 ?_; repeat (refine G1 tt_ok pk4 ?_; intro _))
        refine ke rfl rfl (hlet) ?_
        (refine G tt_ok pk4 ?_; repeat (refine G1 tt_ok pk4 ?_; intro _))
        (refine ka rfl rfl (hor) ?_; rintro _ _ ⟨q1, c1, rfl, rfl⟩; refine w_ ?_)
        (refine G tt_ok pk4 ?_; repeat (refine G1 tt_ok pk4 ?_; intro _))
        refine CW.loop (α := Nat) (fun l => l ≤ CV.length) (fun l => [(104, .int .i64 l), (103, .int .i64 CV.length), (102, .slice q1 CV.length c1), (22, .bool ((O.take l).any (fun x => x.1 == id))), (21, .bool wt), (91, .int .i64 i), (90, .int .i64 2), (89, .slice (some ⟨sb, 0, none⟩) 2 2), (18, .int .u64 RV), (17, .int .i64 id), (16, .int .i64 w), (14, .pointer (some ⟨g, 0, none⟩)), (5, .int .u8 b)])
          (fun l => rowA q1 CV.length (O.flatMap encC) :: (gA g Y2 ++ [pt sb [.bool true, .bool false]])) (fun l => CV.length - l) 0 (by omega) ⟨rfl, rfl, rfl, by rw [List.take_zero]; rfl, rfl, rfl, rfl, rfl, rfl, rfl, rfl, rfl, rfl, trivial⟩ pk_ ?_
        intro l hl2
        (refine G tt_ok pk4 ?_; repeat (refine G1 tt_ok pk4 ?_; intro _))
        by_cases hll : l < CV.length
        · rw [decide_eq_true (show (l : Int) < ((CV.length : Nat) : Int) by omega)]
          have hn0 : 0 < CV.length := by omega
          have hwl : IntKind.i64.wrap ((l : Int) + 1) = ((l + 1 : Nat) : Int) := by rw [wrap_id (by omega) (by omega)]; simp
          obtain ⟨y, hy⟩ : ∃ y, O[l]? = some y := ⟨_, List.getElem?_eq_getElem (by omega)⟩
          have htk : (O.take (l + 1)).any (fun x => x.1 == id) = ((O.take l).any (fun x => x.1 == id) || (y.1 == id)) := by rw [List.take_add_one, hy, List.any_append]; simp
          (refine G tt_ok pk4 ?_; repeat (refine G1 tt_ok pk4 ?_; intro _))
          refine ir_ tt_ok rfl rfl (l) (rfl) rfl ?_ (hlt := hll)
          (refine G tt_ok pk4 ?_; repeat (refine G1 tt_ok pk4 ?_; intro _))
          refine lr_ tt_ok rfl rfl (rd_cd hy) ?_ (hn := hn0)
          (refine G tt_ok pk4 ?_; repeat (refine G1 tt_ok pk4 ?_; intro _))
          cases hac : (O.take l).any (fun x => x.1 == id) with
          | true =>
            (refine G tt_ok pk4 ?_; repeat (refine G1 tt_ok pk4 ?_; intro _))
            exact ⟨l + 1, by omega, by omega, ⟨by rw [← hwl]; rfl, rfl, rfl, by rw [htk, hac]; rfl, rfl, rfl, rfl, rfl, rfl, rfl, rfl, rfl, rfl, trivial⟩, pk_⟩
          | false =>
            (refine G tt_ok pk4 ?_; repeat (refine G1 tt_ok pk4 ?_; intro _))
            exact ⟨l + 1, by omega, by omega, ⟨by rw [← hwl]; rfl, rfl, rfl, by rw [htk, hac]; rfl, rfl, rfl, rfl, rfl, rfl, rfl, rfl, rfl, rfl, trivial⟩, pk_⟩
        · rw [decide_eq_false (show ¬ (l : Int) < ((CV.length : Nat) : Int) by omega)]
          (refine G tt_ok pk4 ?_; repeat (refine G1 tt_ok pk4 ?_; intro _))
          refine CW.exit ?_
          rw [List.take_of_length_le (show O.length ≤ l by omega), hfd, ← congrArg DS.o1 hYD2, ← congrArg DS.xs hYD2]
          cases wt with
          | false =>
            (refine G tt_ok pk4 ?_; repeat (refine G1 tt_ok pk4 ?_; intro _))
            exact ⟨(i + 1, Y2), ⟨by simp only; omega, hY2, hYD2⟩, by simp only; omega, ⟨by rw [← hwr]; rfl, rfl, rfl, rfl, rfl, rfl, rfl, rfl, trivial⟩, pk_⟩
          | true =>
            rw [gL_of]
            (refine G tt_ok pk4 ?_; repeat (refine G1 tt_ok pk4 ?_; intro _))
            rw [and1_8 b (by omega)]
            cases (b % 2 == 1) with
            | false =>
              (refine G tt_ok pk4 ?_; repeat (refine G1 tt_ok pk4 ?_; intro _))
              exact ⟨(i + 1, Y2), ⟨by simp only; omega, hY2, hYD2⟩, by simp only; omega, ⟨by rw [← hwr]; rfl, rfl, rfl, rfl, rfl, rfl, rfl, rfl, trivial⟩, by simp only; rw [gL_of]; exact pk_⟩
            | true =>
              (refine G tt_ok pk4 ?_; repeat (refine G1 tt_ok pk4 ?_; intro _))
              rw [hs1, and1_8 (b / 2) (by omega)]
              cases (b / 2 % 2 == 1) with
              | false =>
                (refine G tt_ok pk4 ?_; repeat (refine G1 tt_ok pk4 ?_; intro _))
                exact ⟨(i + 1, Y2), ⟨by simp only; omega, hY2, hYD2⟩, by simp only; omega, ⟨by rw [← hwr]; rfl, rfl, rfl, rfl, rfl, rfl, rfl, rfl, trivial⟩, by simp only; rw [gL_of]; exact pk_⟩
              | true =>
                (refine G tt_ok pk4 ?_; repeat (refine G1 tt_ok pk4 ?_; intro _))
                rw [ho1, ← congrArg DS.o1 hYD2]
                cases Y2.D.o1 with
                | false =>
                  (refine G tt_ok pk4 ?_; repeat (refine G1 tt_ok pk4 ?_; intro _))
                  exact ⟨(i + 1, Y2), ⟨by simp only; omega, hY2, hYD2⟩, by simp only; omega, ⟨by rw [← hwr]; rfl, rfl, rfl, rfl, rfl, rfl, rfl, rfl, trivial⟩, by simp only; rw [gL_of]; exact pk_⟩
                | true =>
                  (refine G tt_ok pk4 ?_; repeat (refine G1 tt_ok pk4 ?_; intro _))
                  refine ke rfl rfl (hsl) ?_
                  cases asleepV Y2.D.xs w with
                  | false =>
                    (refine G tt_ok pk4 ?_; repeat (refine G1 tt_ok pk4 ?_; intro _))
                    exact ⟨(i + 1, Y2), ⟨by simp only; omega, hY2, hYD2⟩, by simp only; omega, ⟨by rw [← hwr]; rfl, rfl, rfl, rfl, rfl, rfl, rfl, rfl, trivial⟩, by simp only; rw [gL_of]; exact pk_⟩
                  | true =>
                    (refine G tt_ok pk4 ?_; repeat (refine G1 tt_ok pk4 ?_; intro _))
                    exact ⟨(i + 1, Y2), ⟨by simp only; omega, hY2, hYD2⟩, by simp only; omega, ⟨by rw [← hwr]; rfl, rfl, rfl, rfl, rfl, rfl, rfl, rfl, trivial⟩, by simp only; rw [gL_of]; exact pk_⟩
      · rw [decide_eq_false (show ¬ (i : Int) < 2 by omega)]
        (refine G tt_ok pk4 ?_; repeat (refine G1 tt_ok pk4 ?_; intro _))
        refine CW.exit ?_
        (refine G tt_ok pk4 ?_; repeat (refine G1 tt_ok pk4 ?_; intro _))
        exact CW.ret (fin_ret rfl (A := []) (Ent.dropAll _) ⟨rfl, rfl⟩))
end Go.Proofs.YtebpodnbalfomaaGreatDoor.Sl
namespace Go.Proofs.YtebpodnbalfomaaGreatDoor.Sl
open Go Go.RowKit Go.Proofs
set_option linter.unusedVariables false
set_option linter.unusedSimpArgs false
set_option maxRecDepth 100000
theorem bys_get : ∀ (B : List Nat) (i : Nat), (bys B)[i]? = B[i]?.map fun b => Value.int .u8 (b : Int)
  | [], i => by simp [bys]
  | b :: r, 0 => rfl
  | b :: r, i + 1 => by
    have := bys_get r i
    show (bys r)[i]? = _
    rw [this]; rfl
@[reducible] def laidL : List (String × DataW Unit) := [("math/bits.deBruijn64tab", Rows.laid_math_bits_deBruijn64tab)]
theorem gTab : Tryz.prog.globalNamed "math/bits.deBruijn64tab" = some 0 := by kernel_rfl
theorem tTab : (Tryz.prog.globals[0]?).map (·.type) = some 304 := by kernel_rfl
theorem cTab : Tryz.prog.cellsOf 304 = 64 := by kernel_rfl
theorem cTab5 : Tryz.prog.cellsOf 5 = 1 := by kernel_rfl
theorem laid_is : (Rows.laid_math_bits_deBruijn64tab : DataW Unit) = .agg (tzT.map fun n : Nat => .lit (.int .u8 (n : Int))) := rfl
theorem tab_of_laid {W : World} (h : laidMetH Tryz.prog laidL W) : TabOk W := by
  rw [MakeChecks.laidMetH_plain _ _ _ (by kernel_rfl)] at h
  obtain ⟨ps, ⟨g, t, cs, fu, p, q, hg, ht, hv, hd, _, _⟩, _, _⟩ := h
  obtain rfl := Option.some.inj (gTab.symm.trans hg)
  obtain rfl := Option.some.inj (tTab.symm.trans ht)
  obtain ⟨xs, m, rfl, hx, hlen, hn, hel⟩ := DataW.trod_array Tryz.underlying304 hd
  rw [cTab] at hlen
  have hxs : xs.map (·.1) = tzT.map fun n : Nat => DataW.lit (.int .u8 (n : Int)) := by
    rw [laid_is] at hx
    injection hx with h1 _
    injection h1 with h1
    exact h1.symm
  have hcs : cs.toList = bys tzT := by
    apply List.ext_getElem?
    intro i
    rw [bys_get]
    by_cases hi : i < 64
    · have h1 := hel i hi
      rw [cTab5] at h1
      obtain ⟨x, hx1⟩ : ∃ x, xs[i]? = some x := ⟨_, List.getElem?_eq_getElem (by rw [hn]; exact hi)⟩
      rw [hx1] at h1
      obtain ⟨n, e1, e2, _⟩ := DataW.trod_int Tryz.underlying5 h1
      have h2 : (xs.map (·.1))[i]? = some (.lit (.int .u8 n)) := by rw [List.getElem?_map, hx1, e2]; rfl
      rw [hxs, List.getElem?_map] at h2
      have h3 : cs.toList[i]? = some (.int .u8 n) := by
        have : ((cs.toList.drop (i * 1)).take 1)[0]? = some (.int .u8 n) := by rw [e1]; rfl
        rw [List.getElem?_take_of_lt (by omega), List.getElem?_drop] at this
        simpa using this
      rw [h3]
      cases hz : tzT[i]? with
      | none => rw [hz] at h2; cases h2
      | some z =>
        rw [hz] at h2
        simp only [Option.map_some, Option.some.injEq, DataW.lit.injEq, Lit.int.injEq, true_and] at h2
        rw [← h2]; rfl
    · rw [List.getElem?_eq_none (by omega), List.getElem?_eq_none (by have : tzT.length = 64 := rfl; omega)]; rfl
  unfold World.var? at hv
  rw [gTab] at hv
  simp only [Option.bind_some] at hv
  cases hh : W.heap[0]? with
  | none => rw [hh] at hv; cases hv
  | some o =>
    rw [hh] at hv
    cases o with
    | cells c t fz =>
      simp only [Option.some.injEq] at hv
      subst hv
      refine ⟨(Array.getElem?_eq_some_iff.1 hh).1, t, fz, ?_⟩
      rw [hh, ← hcs]
    | _ => cases hv
/-- A world in which the table lies. -/
noncomputable def laidWorld (os : Os) : World :=
  let w0 := World.holding Tryz.prog os ⟨#[], #[], []⟩
  { w0 with heap := w0.heap.modify 0 fun
      | .cells _ t frozen => .cells (bys tzT).toArray t frozen
      | o => o }
theorem laidWorld_met (os : Os) (args : Array Value) : laidMetH Tryz.prog laidL ((laidWorld os).forCall (fun _ _ => 0) ⟨#[], args, []⟩).memory := by
  rw [MakeChecks.laidMetH_plain _ _ _ (by kernel_rfl)]
  exact laidMet_of_run' 8 (by kernel_rfl) (by kernel_rfl)
end Go.Proofs.YtebpodnbalfomaaGreatDoor.Sl
