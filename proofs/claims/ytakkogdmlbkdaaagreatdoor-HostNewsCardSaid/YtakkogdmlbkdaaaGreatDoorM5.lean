/-
  Part 5 of the proof: contracts of the code's functions, and what is plain.
-/
import Derived.Test.YtakkogdmlbkdaaaGreatDoorM4
import Derived.Test.YtakkogdmlbkdaaaGreatDoorM2
import Derived.Test.YtakkogdmlbkdaaaGreatDoorRows
import Derived.LaidLaws
import Derived.LaidMore
import Derived.LaidHandle
import Derived.MakeChecks
import Derived.OpenShut
import Derived.Laws.BytesArg
set_option linter.unusedVariables false
set_option linter.unusedSimpArgs false
set_option maxRecDepth 10000
open Go Go.RowKit Go.Proofs
namespace Go.Proofs.YtakkogdmlbkdaaaGreatDoor.Sl.It
variable {T nc ns : Nat}
def shE (h a : Bool) : Br.En := (((false, h, false, a), true, 1, 160), (0, false))
structure DR (ns nc : Nat) (D : DS) (high act asl : List Bool) : Prop where
 o1 : D.o1 = true
 own : ∀ x ∈ D.xs, x.es = ownK 16
 xl : D.xs.length = nc
 sl : ∀ k : Nat, k < nc → asleepV D.xs k = asl.getD k false
 len : D.sh.length = ns
 sh : ∀ i, i < ns → D.sh[i]? = some (shE (high.getD i false) (act.getD i false))
theorem take_own (o0 : Bool) : (seenA (ownK 16)).filter (takeP o0 true) = [] := by
 cases o0 <;> decide +kernel
theorem allV_mem : ∀ {first : Int} {es : List Br.En} {p : Int × Br.En}, p ∈ Br.allV first es ↔ ∃ k : Nat, es[k]? = some p.2 ∧ p.1 = first + k
 | _, [], p => by simp [Br.allV]
 | first, e :: r, p => by
  unfold Br.allV
  rw [List.mem_cons, allV_mem]
  constructor
  ·rintro (rfl | ⟨k, h1, h2⟩)
   ·exact ⟨0, rfl, by simp⟩
   ·exact ⟨k + 1, by simpa using h1, by rw [h2]; push_cast; omega⟩
  ·rintro ⟨k, h1, h2⟩
   cases k with
   | zero => left; cases p; simp at h1 h2; rw [h1, h2]
   | succ k => exact .inr ⟨k, by simpa using h1, by rw [h2]; push_cast; omega⟩
theorem allV_inc : ∀ (first : Int) (es : List Br.En), (Br.allV first es).Pairwise (fun p q => p.1 < q.1)
 | _, [] => List.Pairwise.nil
 | first, e :: r => by
  unfold Br.allV
  refine List.Pairwise.cons (fun p hp => ?_) (allV_inc (first + 1) r)
  obtain ⟨k, _, h⟩ := allV_mem.1 hp
  rw [h]; simp only; omega
section
variable {D : DS} {high act asl : List Bool}
theorem DR.tgt (h : DR ns nc D high act asl) (h1 : 1 ≤ nc) {i : Nat} (hi : i < ns) : Sl.targetV D.sh D.xs (32 + (i : Int)) = 0 := by
 unfold Sl.targetV Br.atE
 rw [if_pos (by omega), show ((32 : Int) + i - 32).toNat = i by omega, h.sh i hi, h.xl]
 have : rightV nc 0 = true := by unfold rightV; simp; omega
 simp [shE, this]
theorem DR.seenB_ (h : DR ns nc D high act asl) (h1 : 1 ≤ nc) (k : Nat) : seenB D.sh D.xs k (Br.allV 32 D.sh) = if k = 0 then (Br.allV 32 D.sh).map (fun p => (p.1, p.2.1)) else [] := by
 have ht : ∀ p ∈ Br.allV 32 D.sh, Sl.targetV D.sh D.xs p.1 = 0 := fun p hp => by
  obtain ⟨i, h2, h3⟩ := allV_mem.1 hp
  have hi : i < ns := by rw [← h.len]; exact (List.getElem?_eq_some_iff.1 h2).1
  rw [h3]; exact h.tgt h1 hi
 unfold seenB
 split
 ·rename_i e
  subst e
  rw [List.filter_eq_self.2 fun p hp => by simp [ht p hp]]
 ·rename_i e
  rw [List.filter_eq_nil_iff.2 fun p hp => by simp [ht p hp]; omega]; rfl
theorem DR.ready (h : DR ns nc D high act asl) (h1 : 1 ≤ nc) {k : Nat} (hk : k < nc) (ha : asl.getD k false = false) : D.readyV k = if k = 0 then ((Br.allV 32 D.sh).map (fun p => (p.1, p.2.1))).filter (takeP D.o0 true) else [] := by
 obtain ⟨x, hx⟩ : ∃ x, D.xs[k]? = some x := ⟨_, List.getElem?_eq_getElem (by rw [h.xl]; exact hk)⟩
 have hr : rightV D.xs.length (k : Int) = true := by unfold rightV; rw [h.xl]; simp; omega
 unfold DS.readyV
 rw [h.sl k hk, ha, if_neg (by simp)]
 unfold DS.seenV
 rw [hr, if_pos rfl, Int.toNat_natCast, hx]
 simp only
 rw [h.seenB_ h1, List.filter_append, h.own x (List.mem_of_getElem? hx), h.o1, take_own, List.nil_append]
 split
 ·rfl
 ·rfl
theorem bestS_keep {p : Int × Ln} {z : Int} (hp : p.2.2.2.2 = 160) (hz : z < p.1) : bestS (z, 160, 1, true) p = (z, 160, 1, true) := by
 unfold bestS beforeV
 simp only [hp]
 rw [if_neg (by simp; omega)]
theorem best_keep {z : Int} : ∀ {ps : List (Int × Ln)}, (∀ p ∈ ps, p.2.2.2.2 = 160 ∧ z < p.1) → ps.foldl bestS (z, 160, 1, true) = (z, 160, 1, true)
 | [], _ => rfl
 | p :: ps, h => by
  rw [List.foldl_cons, bestS_keep (h p (by simp)).1 (h p (by simp)).2]
  exact best_keep fun q hq => h q (by simp [hq])
def hiO (ns : Nat) (high act : List Bool) (k : Nat) : Option Nat := if k = 0 then (List.range ns).find? (fun k => high.getD k false && !act.getD k false) else none
theorem DR.best (h : DR ns nc D high act asl) (h1 : 1 ≤ nc) {k : Nat} (hk : k < nc) : bestL (D.readyV k) = if asl.getD k false then ((0, 0, 0, false) : Cd) else match hiO ns high act k with
  | some i => (32 + (i : Int), 160, 1, true)
  | none => (0, 0, 0, false) := by
 cases ha : asl.getD k false with
 | true =>
  have : D.readyV k = [] := by unfold DS.readyV; rw [h.sl k hk, ha, if_pos rfl]
  rw [this, if_pos rfl]; rfl
 | false =>
  rw [if_neg (show ¬ (false = true) by simp), h.ready h1 hk ha]
  unfold hiO
  by_cases e : k = 0
  ·rw [if_pos e, if_pos e]
   have hmem : ∀ p : Int × Ln, p ∈ ((Br.allV 32 D.sh).map (fun p => (p.1, p.2.1))).filter (takeP D.o0 true) ↔ ∃ i : Nat, i < ns ∧ p = (32 + (i : Int), (shE (high.getD i false) (act.getD i false)).1) ∧ (high.getD i false && !act.getD i false) = true := by
    intro p
    rw [List.mem_filter, List.mem_map]
    constructor
    ·rintro ⟨⟨q, hq, rfl⟩, ht⟩
     obtain ⟨i, h2, h3⟩ := allV_mem.1 hq
     have hi : i < ns := by rw [← h.len]; exact (List.getElem?_eq_some_iff.1 h2).1
     rw [h.sh i hi] at h2
     have h2 := Option.some.inj h2
     rw [← h2] at ht ⊢
     refine ⟨i, hi, by rw [h3], ?_⟩
     have h4 : takeP D.o0 true (q.1, (shE (high.getD i false) (act.getD i false)).1) = (high.getD i false && !act.getD i false) := by
      unfold takeP shE readyI pendI
      simp
     rw [← h4]; exact ht
    ·rintro ⟨i, hi, rfl, h9⟩
     refine ⟨⟨(32 + (i : Int), shE (high.getD i false) (act.getD i false)), allV_mem.2 ⟨i, h.sh i hi, rfl⟩, rfl⟩, ?_⟩
     unfold takeP shE readyI pendI
     simpa using h9
   have hinc : (((Br.allV 32 D.sh).map (fun p => (p.1, p.2.1))).filter (takeP D.o0 true)).Pairwise (fun p q => p.1 < q.1) :=
    List.Pairwise.filter _ (show ((Br.allV 32 D.sh).map (fun p => (p.1, p.2.1))).Pairwise (fun p q => p.1 < q.1) from List.pairwise_map.2 (allV_inc 32 D.sh))
   generalize ((Br.allV 32 D.sh).map (fun p => (p.1, p.2.1))).filter (takeP D.o0 true) = ps at hmem hinc ⊢
   cases ps with
   | nil =>
    have : (List.range ns).find? (fun k => high.getD k false && !act.getD k false) = none := by
     rw [List.find?_eq_none]
     intro i hi h9
     have := (hmem (32 + (i : Int), (shE (high.getD i false) (act.getD i false)).1)).2 ⟨i, by simpa using hi, rfl, h9⟩
     cases this
    rw [this]; rfl
   | cons p r =>
    rw [List.pairwise_cons] at hinc
    obtain ⟨i, hi, rfl, h9⟩ := (hmem p).1 (by simp)
    have hfi : (List.range ns).find? (fun k => high.getD k false && !act.getD k false) = some i := by
     rw [List.find?_range_eq_some]
     refine ⟨h9, by simpa using hi, fun j hj => ?_⟩
     cases h8 : (high.getD j false && !act.getD j false) with
     | false => rfl
     | true =>
      have := (hmem (32 + (j : Int), (shE (high.getD j false) (act.getD j false)).1)).2 ⟨j, by omega, rfl, h8⟩
      rcases List.mem_cons.1 this with h7 | h7
      ·simp only [Prod.mk.injEq] at h7; omega
      ·have := hinc.1 _ h7
       simp only at this; omega
    rw [hfi]
    unfold bestL
    rw [List.foldl_cons]
    have hf : bestS (0, 0, 0, false) (32 + (i : Int), (shE (high.getD i false) (act.getD i false)).1) = (32 + (i : Int), 160, 1, true) := rfl
    rw [hf]
    refine best_keep fun q hq => ⟨?_, hinc.1 q hq⟩
    obtain ⟨j, _, rfl, _⟩ := (hmem q).1 (by simp [hq])
    rfl
  ·rw [if_neg e, if_neg e]; rfl
theorem DR.do_at (h : DR ns nc D high act asl) (h1 : 1 ≤ nc) {k i : Nat} (hk : k < nc) (hi : i < ns) (a : Int) : D.doV k (32 + (i : Int)) a = ({ D with sh := D.sh.set i ((stepI (false, high.getD i false, false, act.getD i false) a, true, 1, 160), (0, false)) }, 0) := by
 have hr : rightV D.xs.length (k : Int) = true := by unfold rightV; rw [h.xl]; simp; omega
 unfold DS.doV
 rw [hr, if_pos rfl, if_neg (by omega)]
 unfold Br.doV Br.atE
 rw [if_pos (by omega), show ((32 : Int) + i - 32).toNat = i by omega, h.sh i hi]
 rfl
theorem DR.do_no (h : DR ns nc D high act asl) (h1 : 1 ≤ nc) {k : Nat} (hk : k < nc) {id : Int} (h2 : 32 ≤ id) (h3 : id - 32 ≥ ns) (a : Int) : D.doV k id a = (D, 90) := by
 have hr : rightV D.xs.length (k : Int) = true := by unfold rightV; rw [h.xl]; simp; omega
 have hn : Br.doV 32 D.sh id a = (D.sh, 90) := by
  unfold Br.doV Br.atE
  rw [if_pos (by omega), List.getElem?_eq_none (by rw [h.len]; omega)]
 unfold DS.doV
 rw [hr, if_pos rfl, if_neg (by omega), hn]
theorem DR.set (h : DR ns nc D high act asl) {i : Nat} (hi : i < ns) {high' act' : List Bool} (h2 : ∀ j, j < ns → j ≠ i → high'.getD j false = high.getD j false ∧ act'.getD j false = act.getD j false) {e : Br.En} (he : e = shE (high'.getD i false) (act'.getD i false)) :
  DR ns nc { D with sh := D.sh.set i e } high' act' asl := by
 refine ⟨h.o1, h.own, h.xl, h.sl, by simp; exact h.len, fun j hj => ?_⟩
 by_cases e2 : j = i
 ·subst e2
  simp only
  rw [List.getElem?_set_self (by rw [h.len]; exact hj), he]
 ·simp only
  rw [List.getElem?_set_ne (by omega), h.sh j hj, (h2 j hj e2).1, (h2 j hj e2).2]
theorem getB_set {l : List Bool} {k j : Nat} {x : Bool} (hk : k < l.length) : (l.set k x).getD j false = if j = k then x else l.getD j false := getD_set hk
theorem DR.wire (h : DR ns nc D high act asl) (h1 : 1 ≤ nc) (hl : high.length = ns) {i : Nat} (hi : i < ns) (v : Bool) : (D.doV 0 (32 + (i : Int)) (if v then 1 else 2)).2 = 0 ∧ DR ns nc (D.doV 0 (32 + (i : Int)) (if v then 1 else 2)).1 (high.set i v) act asl := by
 rw [show (0 : Int) = ((0 : Nat) : Int) by rfl, h.do_at h1 (by omega) hi]
 refine ⟨rfl, h.set hi (fun j hj hne => ⟨by rw [getB_set (by omega), if_neg hne], rfl⟩) ?_⟩
 rw [getB_set (by omega), if_pos rfl]
 cases v <;> rfl
theorem DR.endd (h : DR ns nc D high act asl) (h1 : 1 ≤ nc) (hl : act.length = ns) {i : Nat} (hi : i < ns) : (D.doV 0 (32 + (i : Int)) 6).2 = 0 ∧ DR ns nc (D.doV 0 (32 + (i : Int)) 6).1 high (act.set i false) asl := by
 rw [show (0 : Int) = ((0 : Nat) : Int) by rfl, h.do_at h1 (by omega) hi]
 refine ⟨rfl, h.set hi (fun j hj hne => ⟨rfl, by rw [getB_set (by omega), if_neg hne]⟩) ?_⟩
 rw [getB_set (by omega), if_pos rfl]
 rfl
theorem DR.ack (h : DR ns nc D high act asl) (h1 : 1 ≤ nc) (hl : act.length = ns) {k i : Nat} (hk : k < nc) (hi : i < ns) (h2 : (high.getD i false && !act.getD i false) = true) : DR ns nc (D.doV k (32 + (i : Int)) 5).1 high (act.set i true) asl := by
 rw [h.do_at h1 hk hi]
 refine h.set hi (fun j hj hne => ⟨rfl, by rw [getB_set (by omega), if_neg hne]⟩) ?_
 rw [getB_set (by omega), if_pos rfl]
 simp only [Bool.and_eq_true, Bool.not_eq_true'] at h2
 rw [h2.1, h2.2]
 rfl
theorem DR.pow (h : DR ns nc D high act asl) (hl : asl.length = nc) {k : Nat} (hk : k < nc) (on : Bool) : (D.wrOwnV k 3 0 0 (if on then 0 else 2)).2 = 0 ∧ DR ns nc (D.wrOwnV k 3 0 0 (if on then 0 else 2)).1 high act (asl.set k (!on)) := by
 obtain ⟨x, hx⟩ : ∃ x, D.xs[k]? = some x := ⟨_, List.getElem?_eq_getElem (by rw [h.xl]; exact hk)⟩
 have hr : rightV D.xs.length (k : Int) = true := by unfold rightV; rw [h.xl]; simp; omega
 unfold DS.wrOwnV
 rw [hr, if_pos rfl, Int.toNat_natCast, hx]
 simp only [if_true]
 refine ⟨trivial, h.o1, fun y hy => ?_, by simp; exact h.xl, fun j hj => ?_, h.len, h.sh⟩
 ·simp only at hy
  rcases List.mem_or_eq_of_mem_set hy with h2 | h2
  ·exact h.own y h2
  ·rw [h2]; exact h.own x (List.mem_of_getElem? hx)
 ·rw [getB_set (by omega)]
  have h3 := h.sl j hj
  unfold asleepV at h3 ⊢
  simp only [List.length_set, Int.toNat_natCast] at h3 ⊢
  have hrj : rightV D.xs.length (j : Int) = true := by unfold rightV; rw [h.xl]; simp; omega
  rw [hrj, if_pos rfl] at h3 ⊢
  by_cases e : j = k
  ·subst e
   rw [if_pos rfl, List.getElem?_set_self (by rw [h.xl]; exact hj)]
   cases on <;> rfl
  ·rw [if_neg e, List.getElem?_set_ne (by omega)]; exact h3
theorem DR.like_ (h : DR ns nc D high act asl) {E : DS} (hl : E.like D) : DR ns nc E high act asl := by
 obtain ⟨h0, h1, h2, h3⟩ := hl
 have hlen : E.xs.length = D.xs.length := by have := congrArg List.length h3; simpa using this
 refine ⟨by rw [h1]; exact h.o1, fun x hx => ?_, by rw [hlen]; exact h.xl, fun k hk => ?_, by rw [h2]; exact h.len, by rw [h2]; exact h.sh⟩
 ·obtain ⟨k, hk⟩ := List.getElem?_of_mem hx
  have h4 : (E.xs.map plX)[k]? = some (plX x) := by rw [List.getElem?_map, hk]; rfl
  rw [h3, List.getElem?_map] at h4
  cases hd : D.xs[k]? with
  | none => rw [hd] at h4; cases h4
  | some y =>
   rw [hd] at h4
   have h5 : plX y = plX x := by simpa using h4
   have h6 : y.es = x.es := congrArg Prod.fst h5
   rw [← h6]; exact h.own y (List.mem_of_getElem? hd)
 ·rw [← h.sl k hk]
  unfold asleepV
  rw [hlen]
  have h4 : (E.xs.map plX)[k]? = (D.xs.map plX)[k]? := by rw [h3]
  rw [List.getElem?_map, List.getElem?_map] at h4
  rw [Int.toNat_natCast]
  cases hd : D.xs[k]? with
  | none =>
   rw [hd] at h4
   cases he : E.xs[k]? with
   | none => rfl
   | some y => rw [he] at h4; cases h4
  | some y =>
   rw [hd] at h4
   cases he : E.xs[k]? with
   | none => rw [he] at h4; cases h4
   | some z =>
    rw [he] at h4
    have h5 : plX z = plX y := by simpa using h4
    have h6 : z.sl = y.sl := congrArg Prod.snd h5
    simp only [h6]
end
def okS (k i : Nat) (e : Br.En) : Prop := e.1.1 = (false, false, false, false) ∧ e.2 = (0, false) ∧ (e.1.2.1 = true ∨ e.1.2.1 = false) ∧ (e.1.2.2.1 = 1 ∨ e.1.2.2.1 = 0) ∧ (e.1.2.2.2 = 160 ∨ e.1.2.2.2 = 0) ∧ (i < k → e.1.2 = (true, 1, 160))
theorem dist_p : ∀ k, k < 64 → distV (1024 + ((32 + k) / 4 * 4 : Nat)) 4 = ((11, (((32 + k) / 4 * 4 : Nat) : Int), 4), 0) := by decide +kernel
theorem dist_g : ∀ k, k < 64 → distV (128 + ((32 + k) / 32 * 4 : Nat)) 4 = ((4, (((32 + k) / 32 * 32 : Nat) : Int), 32), 0) := by decide +kernel
theorem dist_e : ∀ k, k < 64 → distV (256 + ((32 + k) / 32 * 4 : Nat)) 4 = ((5, (((32 + k) / 32 * 32 : Nat) : Int), 32), 0) := by decide +kernel
theorem fld_p : ∀ j : Nat, j < 4 → fieldV 2694881440 11 4 j = 160 := by decide +kernel
theorem fld_1 : ∀ j : Nat, j < 32 → fieldV 4294967295 4 32 j = 1 := by decide +kernel
theorem fld_2 : ∀ j : Nat, j < 32 → fieldV 4294967295 5 32 j = 1 := by decide +kernel
theorem wr_all {D : DS} {off : Int} {r : Int} {f c : Nat} {v : Nat} {z : Int} (hd : distV off 4 = ((r, (f : Int), (c : Int)), 0)) (hr : r ≠ 1 ∧ r ≠ 13) (hf : f < 1000) (hc : c ≤ 64) (hz : ∀ j : Nat, j < c → fieldV v r c j = z) {i : Nat} {e : Br.En} (he : D.sh[i]? = some e) :
  (D.wrV off 4 v).1.o1 = D.o1 ∧ (D.wrV off 4 v).1.xs = D.xs ∧ (D.wrV off 4 v).1.sh.length = D.sh.length ∧ (D.wrV off 4 v).1.sh[i]? = some (if f ≤ 32 + i ∧ 32 + i < f + c then (Br.updE (32 + (i : Int)) r z e).1 else e) := by
 have hcn : cntV (c : Int) = c := by unfold cntV; omega
 have hw : (D.wrV off 4 v).1 = { D with sh := (Br.wrK 32 D.sh r f c v c).1 } := by
  unfold DS.wrV
  rw [hd]
  simp only [ne_eq, not_true, if_false, hr.1, hr.2, hcn]
 rw [hw]
 refine ⟨rfl, rfl, by simp only; rw [Br.wrK_len], ?_⟩
 simp only
 rw [Br.wrK_at (N := c) (fun k hk => by rw [wrap_id (by omega) (by omega)]) c (Nat.le_refl _) i e he]
 congr 1
 by_cases h : f ≤ 32 + i ∧ 32 + i < f + c
 ·rw [if_pos (by omega), if_pos h]
  rw [show (32 : Int) + i - (f : Int) = ((32 + i - f : Nat) : Int) by omega, hz _ (by omega)]
 ·rw [if_neg (by omega), if_neg h]
theorem upd_p {k i : Nat} {e : Br.En} (h : okS k i e) : okS k i (Br.updE (32 + (i : Int)) 11 160 e).1 ∧ (Br.updE (32 + (i : Int)) 11 160 e).1.1.2.2.2 = 160 ∧ (Br.updE (32 + (i : Int)) 11 160 e).1.1.2.1 = e.1.2.1 ∧ (Br.updE (32 + (i : Int)) 11 160 e).1.1.2.2.1 = e.1.2.2.1 := by
 obtain ⟨⟨st, en, gr, pr⟩, tx⟩ := e
 obtain ⟨h1, h2, h3, h4, h5, h6⟩ := h
 simp only at h1 h2 h3 h4 h5 h6
 subst h1
 subst h2
 have hw : writtenV (32 + (i : Int)) ((false, false, false, false), en, gr, pr) 11 160 = ((false, false, false, false), en, gr, 160) := by
  unfold writtenV
  simp only [show ¬ (11 : Int) = 4 by decide, show ¬ (11 : Int) = 5 by decide, show ¬ (11 : Int) = 6 by decide, show ¬ ((11 : Int) = 7 ∨ (11 : Int) = 8 ∨ (11 : Int) = 9 ∨ (11 : Int) = 10) by decide, if_false, if_true]
  have : realV (IntKind.i64.wrap 160) = 160 := by decide +kernel
  rw [this]
 unfold Br.updE
 simp only [hw]
 have hre : realV 160 = 160 := by decide +kernel
 split
 ·rename_i e1
  simp only [Prod.mk.injEq, true_and] at e1
  subst e1
  exact ⟨⟨rfl, rfl, h3, h4, .inl rfl, h6⟩, rfl, rfl, rfl⟩
 ·rw [if_neg (by rcases h4 with h | h <;> subst h <;> simp)]
  simp only [hre]
  refine ⟨⟨rfl, rfl, h3, h4, .inl rfl, fun hi => ?_⟩, trivial, trivial, trivial⟩
  have h7 := h6 hi
  simp only [Prod.mk.injEq] at h7 ⊢
  exact ⟨h7.1, h7.2.1, trivial⟩
theorem upd_g {k i : Nat} {e : Br.En} (h : okS k i e) : okS k i (Br.updE (32 + (i : Int)) 4 1 e).1 ∧ (Br.updE (32 + (i : Int)) 4 1 e).1.1.2.2.1 = 1 ∧ (Br.updE (32 + (i : Int)) 4 1 e).1.1.2.1 = e.1.2.1 ∧ (Br.updE (32 + (i : Int)) 4 1 e).1.1.2.2.2 = e.1.2.2.2 := by
 obtain ⟨⟨st, en, gr, pr⟩, tx⟩ := e
 obtain ⟨h1, h2, h3, h4, h5, h6⟩ := h
 simp only at h1 h2 h3 h4 h5 h6
 subst h1
 subst h2
 have hw : writtenV (32 + (i : Int)) ((false, false, false, false), en, gr, pr) 4 1 = ((false, false, false, false), en, 1, pr) := by
  unfold writtenV
  rw [if_pos rfl]
  have : IntKind.i64.wrap 1 = 1 := by decide +kernel
  rw [this]
 have hre : realV pr = pr := by rcases h5 with h | h <;> subst h <;> decide +kernel
 unfold Br.updE
 simp only [hw]
 split
 ·rename_i e1
  simp only [Prod.mk.injEq, true_and, and_true] at e1
  subst e1
  exact ⟨⟨rfl, rfl, h3, .inl rfl, h5, h6⟩, rfl, rfl, rfl⟩
 ·rw [if_neg (by rcases h5 with h | h <;> subst h <;> simp)]
  simp only [hre]
  refine ⟨⟨rfl, rfl, h3, .inl rfl, h5, fun hi => ?_⟩, trivial, trivial, trivial⟩
  have h7 := h6 hi
  simp only [Prod.mk.injEq] at h7 ⊢
  exact ⟨h7.1, trivial, h7.2.2⟩
theorem upd_e {k i : Nat} {e : Br.En} (h : okS k i e) : okS k i (Br.updE (32 + (i : Int)) 5 1 e).1 ∧ (Br.updE (32 + (i : Int)) 5 1 e).1.1.2.1 = true ∧ (Br.updE (32 + (i : Int)) 5 1 e).1.1.2.2.1 = e.1.2.2.1 ∧ (Br.updE (32 + (i : Int)) 5 1 e).1.1.2.2.2 = e.1.2.2.2 := by
 obtain ⟨⟨st, en, gr, pr⟩, tx⟩ := e
 obtain ⟨h1, h2, h3, h4, h5, h6⟩ := h
 simp only at h1 h2 h3 h4 h5 h6
 subst h1
 subst h2
 have hw : writtenV (32 + (i : Int)) ((false, false, false, false), en, gr, pr) 5 1 = ((false, false, false, false), true, gr, pr) := by
  unfold writtenV
  rw [if_neg (by decide), if_pos rfl]
  simp
 have hre : realV pr = pr := by rcases h5 with h | h <;> subst h <;> decide +kernel
 unfold Br.updE
 simp only [hw]
 split
 ·rename_i e1
  simp only [Prod.mk.injEq, true_and, and_true] at e1
  subst e1
  exact ⟨⟨rfl, rfl, .inl rfl, h4, h5, h6⟩, rfl, rfl, rfl⟩
 ·rw [if_neg (by rcases h5 with h | h <;> subst h <;> rcases h4 with h | h <;> subst h <;> simp)]
  simp only [hre]
  refine ⟨⟨rfl, rfl, .inl rfl, h4, h5, fun hi => ?_⟩, trivial, trivial, trivial⟩
  have h7 := h6 hi
  simp only [Prod.mk.injEq] at h7 ⊢
  exact ⟨trivial, h7.2.1, h7.2.2⟩
theorem boot_D {D : DS} {c s : Nat} (hD : newD D c s) (hs : s ≤ 64) : ∀ k, k ≤ s → (bootD D k).o1 = true ∧ (bootD D k).xs = D.xs ∧ (bootD D k).sh.length = s ∧ ∀ i, i < s → ∃ e, (bootD D k).sh[i]? = some e ∧ okS k i e
 | 0, _ => by
  obtain ⟨h1, h2, h3, h4, h5⟩ := hD
  have h0 : bootD D 0 = { D with o0 := false, o1 := true } := by
   show (D.wrV 0 4 2).1 = _
   have : distV 0 4 = ((1, 0, 0), 0) := by decide +kernel
   unfold DS.wrV
   rw [this]; rfl
  rw [h0]
  refine ⟨rfl, rfl, by simp only; rw [h3, List.length_replicate], fun i hi => ⟨(Br.zeroE.1, (0, false)), by simp only; rw [h3, List.getElem?_replicate, if_pos hi], rfl, rfl, .inr rfl, .inr rfl, .inr rfl, fun h => absurd h (by omega)⟩⟩
 | k + 1, hk => by
  obtain ⟨a1, a2, a3, a4⟩ := boot_D hD hs k (by omega)
  rw [bootD_s]
  generalize bootD D k = D0 at a1 a2 a3 a4 ⊢
  have hp := fun i e he => wr_all (D := D0) (r := 11) (f := (32 + k) / 4 * 4) (c := 4) (v := 2694881440) (z := 160) (dist_p k (by omega)) (by decide) (by omega) (by omega) fld_p (i := i) (e := e) he
  obtain ⟨e0, he0, _⟩ := a4 0 (by omega)
  obtain ⟨b1, b2, b3, _⟩ := hp 0 e0 he0
  generalize (D0.wrV (1024 + ((32 + k) / 4 * 4 : Nat)) 4 2694881440).1 = D1 at hp b1 b2 b3 ⊢
  have c4 : ∀ i, i < s → ∃ e, D1.sh[i]? = some e ∧ okS k i e ∧ (i = k → e.1.2.2.2 = 160) := fun i hi => by
   obtain ⟨e, he, ho⟩ := a4 i hi
   obtain ⟨_, _, _, h4⟩ := hp i e he
   refine ⟨_, h4, ?_⟩
   obtain ⟨u1, u2, u3, u4⟩ := upd_p ho
   split
   ·exact ⟨u1, fun _ => u2⟩
   ·exact ⟨ho, fun h => absurd h (by omega)⟩
  have hg := fun i e he => wr_all (D := D1) (r := 4) (f := (32 + k) / 32 * 32) (c := 32) (v := 4294967295) (z := 1) (dist_g k (by omega)) (by decide) (by omega) (by omega) fld_1 (i := i) (e := e) he
  obtain ⟨e1, he1, _⟩ := c4 0 (by omega)
  obtain ⟨d1, d2, d3, _⟩ := hg 0 e1 he1
  generalize (D1.wrV (128 + ((32 + k) / 32 * 4 : Nat)) 4 4294967295).1 = D2 at hg d1 d2 d3 ⊢
  have f4 : ∀ i, i < s → ∃ e, D2.sh[i]? = some e ∧ okS k i e ∧ (i = k → e.1.2.2.2 = 160 ∧ e.1.2.2.1 = 1) := fun i hi => by
   obtain ⟨e, he, ho, hp2⟩ := c4 i hi
   obtain ⟨_, _, _, h4⟩ := hg i e he
   refine ⟨_, h4, ?_⟩
   obtain ⟨u1, u2, u3, u4⟩ := upd_g ho
   split
   ·exact ⟨u1, fun h => ⟨by rw [u4]; exact hp2 h, u2⟩⟩
   ·exact ⟨ho, fun h => absurd h (by omega)⟩
  have he3 := fun i e he => wr_all (D := D2) (r := 5) (f := (32 + k) / 32 * 32) (c := 32) (v := 4294967295) (z := 1) (dist_e k (by omega)) (by decide) (by omega) (by omega) fld_2 (i := i) (e := e) he
  obtain ⟨e2, he2, _⟩ := f4 0 (by omega)
  obtain ⟨g1, g2, g3, _⟩ := he3 0 e2 he2
  refine ⟨by rw [g1, d1, b1, a1], by rw [g2, d2, b2, a2], by rw [g3, d3, b3, a3], fun i hi => ?_⟩
  obtain ⟨e, he, ho, hp2⟩ := f4 i hi
  obtain ⟨_, _, _, h4⟩ := he3 i e he
  refine ⟨_, h4, ?_⟩
  obtain ⟨u1, u2, u3, u4⟩ := upd_e ho
  have hfin : ∀ {e : Br.En}, okS k i e → (i = k → e.1.2 = (true, 1, 160)) → okS (k + 1) i e := fun h h9 => ⟨h.1, h.2.1, h.2.2.1, h.2.2.2.1, h.2.2.2.2.1, fun hlt => by
   rcases Nat.lt_succ_iff_lt_or_eq.1 hlt with h7 | h7
   ·exact h.2.2.2.2.2 h7
   ·exact h9 h7⟩
  split
  ·refine hfin u1 fun h => ?_
   obtain ⟨q1, q2⟩ := hp2 h
   rw [← u3] at q2
   rw [← u4] at q1
   generalize (Br.updE (32 + (i : Int)) 5 1 e).1 = E at u2 q1 q2 ⊢
   obtain ⟨⟨st, en, gr, pr⟩, tx⟩ := E
   simp only at u2 q1 q2 ⊢
   rw [u2, q1, q2]
  ·exact hfin ho fun h => absurd h (by omega)
theorem boot_DR {D : DS} {c s : Nat} (hD : newD D c s) (h1 : 1 ≤ c) (hs : s ≤ 64) : DR s c (bootD D s) (List.replicate s false) (List.replicate s false) (List.replicate c false) := by
 obtain ⟨a1, a2, a3, a4⟩ := boot_D hD hs s (Nat.le_refl _)
 obtain ⟨_, _, _, h4, h5⟩ := hD
 refine ⟨a1, fun x hx => ?_, by rw [a2]; exact h4, fun k hk => ?_, a3, fun i hi => ?_⟩
 ·rw [a2] at hx; exact (h5 x hx).1
 ·rw [a2]
  unfold asleepV
  have hr : rightV D.xs.length (k : Int) = true := by unfold rightV; rw [h4]; simp; omega
  obtain ⟨x, hx⟩ : ∃ x, D.xs[k]? = some x := ⟨_, List.getElem?_eq_getElem (by rw [h4]; exact hk)⟩
  rw [hr, if_pos rfl, Int.toNat_natCast, hx, List.getD_eq_getElem?_getD, List.getElem?_replicate, if_pos hk]
  exact (h5 x (List.mem_of_getElem? hx)).2
 ·obtain ⟨e, he, ho⟩ := a4 i hi
  rw [he, List.getD_eq_getElem?_getD, List.getElem?_replicate, if_pos hi]
  obtain ⟨q1, q2, _, _, _, q3⟩ := ho
  have q3 := q3 hi
  obtain ⟨⟨st, en, gr, pr⟩, tx⟩ := e
  simp only [Prod.mk.injEq] at q1 q2 q3
  obtain ⟨h7, h8, h9⟩ := q3
  subst h7 h8 h9
  congr 1
  unfold shE
  simp [q1, q2]
end Go.Proofs.YtakkogdmlbkdaaaGreatDoor.Sl.It
namespace Go.Proofs.YtakkogdmlbkdaaaGreatDoor.Sl.It
variable {T nc ns : Nat}
theorem may_lt {d e : Int} (h : mayE d e = true) : 0 ≤ d ∧ d < 32 ∧ 0 ≤ e ∧ e < 16 := by
 unfold mayE at h
 simp only [Bool.and_eq_true, decide_eq_true_eq] at h
 omega
theorem may_of {d e : Int} (h : 0 ≤ d ∧ d < 32 ∧ 0 ≤ e ∧ e < 16) : mayE d e = true := by
 unfold mayE
 simp only [Bool.and_eq_true, decide_eq_true_eq]
 omega
theorem ky_may {d e : Int} (h : mayE d e = true) : kyV d e = 16 * d + e := by
 have := may_lt h
 unfold kyV
 rw [wrap_id (x := d * 16) (by omega) (by omega), wrap_id (by omega) (by omega)]; omega
theorem ky_inj {d e d' e' : Int} (h : mayE d e = true) (h' : mayE d' e' = true) (hk : kyV d e = kyV d' e') : d = d' ∧ e = e' := by
 have := may_lt h; have := may_lt h'
 rw [ky_may h, ky_may h'] at hk; omega
theorem inc_int : ∀ {l : List Int} {lo hi : Int}, l.Pairwise (· < ·) → (∀ x ∈ l, lo ≤ x ∧ x < hi) → (l.length : Int) ≤ max 0 (hi - lo)
 | [], _, _, _, _ => by simp; omega
 | a :: l, lo, hi, h, hn => by
  rw [List.pairwise_cons] at h
  have ha := hn a (by simp)
  have := inc_int (l := l) (lo := a + 1) (hi := hi) h.2 fun x hx => ⟨by have := h.1 x hx; omega, (hn x (List.mem_cons_of_mem _ hx)).2⟩
  rw [List.length_cons]; push_cast; omega
theorem bk_len {bs : List (Int × Int)} (h : BkOk bs) (hk : ∀ p ∈ bs, 0 ≤ p.1 ∧ p.1 < 512) : bs.length ≤ 512 := by
 have h1 : (bs.map (·.1)).Pairwise (· < ·) := List.pairwise_map.2 h.1
 have h2 := inc_int (lo := 0) (hi := 512) h1 fun x hx => by
  obtain ⟨p, hp, rfl⟩ := List.mem_map.1 hx
  exact hk p hp
 rw [List.length_map] at h2; omega
def Uni (de ev : List Int) : Prop := ∀ n, n < 512 → 0 ≤ de.getD n 0 → mayE (de.getD n 0) (ev.getD n 0) = true ∧ ∀ j, j < 512 → de.getD j 0 = de.getD n 0 → ev.getD j 0 = ev.getD n 0 → j = n
theorem fnd_iff {de ev : List Int} (hu : Uni de ev) {d e : Int} {n : Nat} : fnd de ev d e = some n ↔ mayE d e = true ∧ n < 512 ∧ de.getD n 0 = d ∧ ev.getD n 0 = e := by
 constructor
 ·intro h
  obtain ⟨h1, h2, h3, h4, _⟩ := fnd_eq h
  exact ⟨h1, h2, h3, h4⟩
 ·rintro ⟨h1, h2, h3, h4⟩
  refine fnd_yes h1 h2 (by rw [beq_iff_eq.2 h3, beq_iff_eq.2 h4]; rfl) fun j hj => ?_
  have hd := may_lt h1
  have h5 := (hu n h2 (by omega)).2 j (by omega)
  rw [Bool.and_eq_false_iff]
  by_cases e1 : de.getD j 0 = d
  ·refine .inr ?_
   rw [beq_eq_false_iff_ne]
   intro e2
   have := h5 (by rw [e1, h3]) (by rw [e2, h4])
   omega
  ·exact .inl (by rw [beq_eq_false_iff_ne]; exact e1)
theorem fnd_not' {de ev : List Int} {d e : Int} (h : fnd de ev d e = none) (hm : mayE d e = true) {j : Nat} (hj : j < 512) (h1 : de.getD j 0 = d) (h2 : ev.getD j 0 = e) : False := by
 have := fnd_not h hm j hj
 rw [beq_iff_eq.2 h1, beq_iff_eq.2 h2] at this
 cases this
theorem opt_ext {α : Type} {a b : Option α} (h : ∀ x, a = some x ↔ b = some x) : a = b := by
 cases a with
 | none => cases b with
  | none => rfl
  | some y => exact absurd ((h y).2 rfl) (by simp)
 | some x => exact ((h x).1 rfl).symm
theorem getI_set {l : List Int} {k j : Nat} {x : Int} (hk : k < l.length) : (l.set k x).getD j 0 = if j = k then x else l.getD j 0 := getD_set hk
section
variable {de ev : List Int} (hd : de.length = 512) (he : ev.length = 512) (hu : Uni de ev)
include hd he hu
theorem uni_bind {d e : Int} (hm : mayE d e = true) (hf : fnd de ev d e = none) {i : Nat} (hi : i < 512) : Uni (de.set i d) (ev.set i e) := by
 intro n hn5 h0
 rw [getI_set (by omega), getI_set (by omega)] at *
 by_cases e1 : n = i
 ·rw [if_pos e1, if_pos e1]
  refine ⟨hm, fun j hj hjd hje => ?_⟩
  rw [getI_set (by omega)] at hjd hje
  by_cases e2 : j = i
  ·omega
  ·rw [if_neg e2] at hjd hje
   exact (fnd_not' hf hm hj hjd hje).elim
 ·rw [if_neg e1] at h0
  rw [if_neg e1, if_neg e1]
  obtain ⟨h1, h2⟩ := hu n hn5 h0
  refine ⟨h1, fun j hj hjd hje => ?_⟩
  rw [getI_set (by omega)] at hjd hje
  by_cases e2 : j = i
  ·rw [if_pos e2] at hjd hje
   exact (fnd_not' hf hm hn5 hjd.symm hje.symm).elim
  ·rw [if_neg e2] at hjd hje
   exact h2 j hj hjd hje
theorem fnd_bind {d e : Int} (hm : mayE d e = true) (hf : fnd de ev d e = none) {i : Nat} (hi : i < 512) (hneg : de.getD i 0 < 0) (d' e' : Int) : fnd (de.set i d) (ev.set i e) d' e' = if d' = d ∧ e' = e then some i else fnd de ev d' e' := by
 have hu2 := uni_bind hd he hu hm hf hi
 apply opt_ext
 intro n
 rw [fnd_iff hu2, getI_set (by omega), getI_set (by omega)]
 by_cases e1 : d' = d ∧ e' = e
 ·rw [if_pos e1]
  obtain ⟨rfl, rfl⟩ := e1
  constructor
  ·rintro ⟨_, h2, h3, h4⟩
   by_cases e2 : n = i
   ·rw [e2]
   ·rw [if_neg e2] at h3 h4
    exact (fnd_not' hf hm h2 h3 h4).elim
  ·intro h
   cases h
   exact ⟨hm, hi, by rw [if_pos rfl], by rw [if_pos rfl]⟩
 ·rw [if_neg e1, fnd_iff hu]
  by_cases e2 : n = i
  ·subst e2
   rw [if_pos rfl, if_pos rfl]
   constructor
   ·rintro ⟨_, _, h3, h4⟩; exact absurd ⟨h3.symm, h4.symm⟩ e1
   ·rintro ⟨h1, _, h3, _⟩
    have := may_lt h1; omega
  ·rw [if_neg e2, if_neg e2]
theorem uni_free {i : Nat} (hi : i < 512) : Uni (de.set i (-1)) (ev.set i (-1)) := by
 intro n hn5 h0
 rw [getI_set (by omega), getI_set (by omega)] at *
 by_cases e1 : n = i
 ·rw [if_pos e1] at h0; omega
 ·rw [if_neg e1] at h0
  rw [if_neg e1, if_neg e1]
  obtain ⟨h1, h2⟩ := hu n hn5 h0
  refine ⟨h1, fun j hj hjd hje => ?_⟩
  rw [getI_set (by omega)] at hjd hje
  by_cases e2 : j = i
  ·rw [if_pos e2] at hjd; omega
  ·rw [if_neg e2] at hjd hje
   exact h2 j hj hjd hje
theorem fnd_free {d e : Int} {i : Nat} (hf : fnd de ev d e = some i) (d' e' : Int) : fnd (de.set i (-1)) (ev.set i (-1)) d' e' = if d' = d ∧ e' = e then none else fnd de ev d' e' := by
 obtain ⟨hm, hi, h3, h4⟩ := (fnd_iff hu).1 hf
 have hu2 := uni_free hd he hu hi
 apply opt_ext
 intro n
 rw [fnd_iff hu2, getI_set (by omega), getI_set (by omega)]
 by_cases e1 : d' = d ∧ e' = e
 ·rw [if_pos e1]
  obtain ⟨rfl, rfl⟩ := e1
  constructor
  ·rintro ⟨h5, h6, h7, h8⟩
   by_cases e2 : n = i
   ·rw [if_pos e2] at h7
    have := may_lt h5; omega
   ·rw [if_neg e2] at h7 h8
    have := (fnd_iff hu).2 ⟨h5, h6, h7, h8⟩
    rw [hf] at this; cases this; exact absurd rfl e2
  ·intro h; cases h
 ·rw [if_neg e1, fnd_iff hu]
  by_cases e2 : n = i
  ·subst e2
   rw [if_pos rfl, if_pos rfl]
   constructor
   ·rintro ⟨h5, _, h7, _⟩
    have := may_lt h5; omega
   ·rintro ⟨h1, _, h7, h8⟩
    exact absurd ⟨by rw [← h7, h3], by rw [← h8, h4]⟩ e1
  ·rw [if_neg e2, if_neg e2]
end
structure SR (S : Sh) (de ev : List Int) : Prop where
 bn : BkOk S.ns
 bk : BkOk S.ks
 kn : ∀ p ∈ S.ns, 0 ≤ p.1 ∧ p.1 < 512
 kk : ∀ p ∈ S.ks, 0 ≤ p.1 ∧ p.1 < 512
 dl : de.length = 512
 el : ev.length = 512
 un : Uni de ev
 ns : ∀ d e, mayE d e = true → getB S.ns (kyV d e) = (fnd de ev d e).map (fun n => (n : Int))
 ks : ∀ n : Nat, n < 512 → getB S.ks (n : Int) = if 0 ≤ de.getD n 0 then some (kyV (de.getD n 0) (ev.getD n 0)) else none
section
variable {S : Sh} {de ev : List Int}
theorem SR.ok (h : SR S de ev) : S.ok := ⟨⟨h.bn, bk_len h.bn h.kn⟩, h.bk, bk_len h.bk h.kk⟩
theorem SR.num (h : SR S de ev) (d e : Int) : S.num d e = (fnd de ev d e).map (fun n => (n : Int)) := by
 unfold Sh.num
 cases hm : mayE d e with
 | true => rw [if_pos rfl, h.ns d e hm]
 | false => rw [if_neg (by simp), fnd_no hm]; rfl
theorem SR.sv (h : SR S de ev) : ∀ k n, getB S.ns k = some n → 0 ≤ n ∧ n < 512 := fun k n hg => by
 have hk := h.kn _ ((get_mem h.bn.1).1 hg)
 simp only at hk
 have hm : mayE (k / 16) (k % 16) = true := may_of (by omega)
 have h2 := h.ns _ _ hm
 rw [ky_may hm, show 16 * (k / 16) + k % 16 = k by omega, hg] at h2
 cases hf : fnd de ev (k / 16) (k % 16) with
 | none => rw [hf] at h2; cases h2
 | some m =>
  rw [hf] at h2
  have := (fnd_eq hf).2.1
  simp at h2; omega
theorem SR.least (h : SR S de ev) : match frI de with
  | some i => leastK S.ks = i
  | none => leastK S.ks = 512 := by
 cases hi : frI de with
 | some i =>
  obtain ⟨h1, h2, h3⟩ := frI_eq hi
  simp only
  refine least_eq (fun m hm => ?_) ?_
  ·rw [h.ks m (by omega), if_pos (by have := h3 m hm; omega)]; rfl
  ·rw [h.ks i h1, if_neg (by omega)]
 | none =>
  have h3 := frI_not hi
  simp only
  refine least_eq (fun m hm => ?_) ?_
  ·rw [h.ks m (by omega), if_pos (by have := h3 m (by omega); omega)]; rfl
  ·cases hg : getB S.ks ((512 : Nat) : Int) with
   | none => rfl
   | some v =>
    have := h.kk _ ((get_mem h.bk.1).1 hg)
    simp only at this; omega
theorem SR.bind (h : SR S de ev) {d e : Int} (hm : mayE d e = true) (hf : fnd de ev d e = none) {i : Nat} (hi : frI de = some i) : S.bind d e = (((i : Int), 0), ⟨putB S.ns (kyV d e) i, putB S.ks i (kyV d e)⟩) ∧ SR ⟨putB S.ns (kyV d e) i, putB S.ks i (kyV d e)⟩ (de.set i d) (ev.set i e) := by
 have hl := h.least
 rw [hi] at hl
 simp only at hl
 obtain ⟨i5, ineg, _⟩ := frI_eq hi
 have hg : getB S.ns (kyV d e) = none := by rw [h.ns d e hm, hf]; rfl
 have hg2 : getB S.ks (i : Int) = none := by rw [h.ks i i5, if_neg (by omega)]
 have hb : S.bind d e = (((i : Int), 0), ⟨putB S.ns (kyV d e) i, putB S.ks i (kyV d e)⟩) := by
  unfold Sh.bind
  rw [hm, if_pos rfl, hg]
  simp only
  rw [hl, if_pos i5]
 have l1 := bk_len h.bn h.kn
 have l2 := bk_len h.bk h.kk
 have hd := may_lt hm
 have hkk := ky_may hm
 refine ⟨hb, put_ok h.bn _ hg (by omega), put_ok h.bk _ hg2 (by omega), fun p hp => ?_, fun p hp => ?_, by simp; exact h.dl, by simp; exact h.el, uni_bind h.dl h.el h.un hm hf i5, fun d' e' hm' => ?_, fun n hn => ?_⟩
 ·rcases put_mem.1 hp with rfl | hp
  ·simp only; omega
  ·exact h.kn p hp
 ·rcases put_mem.1 hp with rfl | hp
  ·simp only; omega
  ·exact h.kk p hp
 ·rw [get_put h.bn _ hg (by omega), fnd_bind h.dl h.el h.un hm hf i5 ineg]
  by_cases e1 : d' = d ∧ e' = e
  ·obtain ⟨rfl, rfl⟩ := e1
   rw [if_pos rfl, if_pos ⟨rfl, rfl⟩]; rfl
  ·rw [if_neg e1, if_neg (fun hk => e1 (ky_inj hm' hm hk)), h.ns d' e' hm']
 ·rw [get_put h.bk _ hg2 (by omega), getI_set (by rw [h.dl]; exact i5), getI_set (by rw [h.el]; exact i5)]
  by_cases e1 : n = i
  ·subst e1
   rw [if_pos rfl, if_pos rfl, if_pos rfl, if_pos (by omega)]
  ·rw [if_neg (by omega), if_neg e1, if_neg e1, h.ks n hn]
theorem SR.full (h : SR S de ev) {d e : Int} (hm : mayE d e = true) (hf : fnd de ev d e = none) (hi : frI de = none) : S.bind d e = ((0, 2), S) := by
 have hl := h.least
 rw [hi] at hl
 simp only at hl
 have hg : getB S.ns (kyV d e) = none := by rw [h.ns d e hm, hf]; rfl
 unfold Sh.bind
 rw [hm, if_pos rfl, hg]
 simp only
 rw [hl, if_neg (by omega)]
theorem SR.free (h : SR S de ev) {d e : Int} {n : Nat} (hf : fnd de ev d e = some n) : S.free d e = (((n : Int), 0), ⟨delB S.ns (kyV d e), delB S.ks n⟩) ∧ SR ⟨delB S.ns (kyV d e), delB S.ks n⟩ (de.set n (-1)) (ev.set n (-1)) := by
 obtain ⟨hm, h5, h3, h4⟩ := (fnd_iff h.un).1 hf
 have hg : getB S.ns (kyV d e) = some (n : Int) := by rw [h.ns d e hm, hf]; rfl
 have hfr : S.free d e = (((n : Int), 0), ⟨delB S.ns (kyV d e), delB S.ks n⟩) := by
  unfold Sh.free
  rw [hm, if_pos rfl, hg]
 refine ⟨hfr, del_ok h.bn _, del_ok h.bk _, fun p hp => h.kn p (del_mem.1 hp).1, fun p hp => h.kk p (del_mem.1 hp).1, by simp; exact h.dl, by simp; exact h.el, uni_free h.dl h.el h.un h5, fun d' e' hm' => ?_, fun j hj => ?_⟩
 ·rw [get_del h.bn, fnd_free h.dl h.el h.un hf]
  by_cases e1 : d' = d ∧ e' = e
  ·obtain ⟨rfl, rfl⟩ := e1
   rw [if_pos rfl, if_pos ⟨rfl, rfl⟩]; rfl
  ·rw [if_neg e1, if_neg (fun hk => e1 (ky_inj hm' hm hk)), h.ns d' e' hm']
 ·rw [get_del h.bk, getI_set (by rw [h.dl]; exact h5), getI_set (by rw [h.el]; exact h5)]
  by_cases e1 : j = n
  ·subst e1
   rw [if_pos rfl, if_pos rfl, if_neg (by omega)]
  ·rw [if_neg (by omega), if_neg e1, if_neg e1, h.ks j hj]
theorem SR.free_no (h : SR S de ev) {d e : Int} (hf : fnd de ev d e = none) : S.free d e = ((0, if mayE d e then 250 else 1), S) := by
 unfold Sh.free
 cases hm : mayE d e with
 | true => rw [if_pos rfl, h.ns d e hm, hf]; rfl
 | false => rfl
theorem SR.ev_ (h : SR S de ev) (n : Int) : S.evT n = if 0 ≤ n ∧ n < 512 ∧ 0 ≤ de.getD n.toNat 0 then ((de.getD n.toNat 0, ev.getD n.toNat 0), 0) else ((0, 0), 250) := by
 unfold Sh.evT
 by_cases h1 : 0 ≤ n ∧ n < 512
 ·obtain ⟨k, rfl⟩ : ∃ k : Nat, n = k := ⟨n.toNat, by omega⟩
  rw [Int.toNat_natCast, h.ks k (by omega)]
  by_cases h2 : 0 ≤ de.getD k 0
  ·rw [if_pos h2, if_pos ⟨by omega, by omega, h2⟩]
   have hm := (h.un k (by omega) h2).1
   have := may_lt hm
   simp only
   unfold unkV
   rw [ky_may hm, Int.tdiv_eq_ediv_of_nonneg (by omega), Int.tmod_eq_emod_of_nonneg (by omega), wrap_id (by omega) (by omega)]
   congr 1
   exact Prod.ext (by simp only; omega) (by simp only; omega)
  ·rw [if_neg h2, if_neg (by omega)]
 ·rw [if_neg (by omega)]
  cases hg : getB S.ks n with
  | none => rfl
  | some v =>
   have := h.kk _ ((get_mem h.bk.1).1 hg)
   simp only at this; omega
theorem sr_new : SR ⟨[], []⟩ (List.replicate 512 (-1)) (List.replicate 512 (-1)) := by
 have hg : ∀ n, n < 512 → (List.replicate 512 (-1 : Int)).getD n 0 = -1 := fun n hn => by rw [List.getD_eq_getElem?_getD, List.getElem?_replicate, if_pos hn]; rfl
 refine ⟨⟨List.Pairwise.nil, by simp⟩, ⟨List.Pairwise.nil, by simp⟩, fun p hp => by simp at hp, fun p hp => by simp at hp, List.length_replicate, List.length_replicate, fun n hn h0 => by rw [hg n hn] at h0; omega, fun d e hm => ?_, fun n hn => ?_⟩
 ·rw [fnd_none fun hm j hj => ?_]
  ·rfl
  ·rw [hg j hj]
   have := may_lt hm
   rw [show (-1 == d) = false from beq_eq_false_iff_ne.2 (by omega), Bool.false_and]
 ·rw [hg n hn, if_neg (by omega)]; rfl
end
end Go.Proofs.YtakkogdmlbkdaaaGreatDoor.Sl.It
namespace Go.Proofs.YtakkogdmlbkdaaaGreatDoor.Sl.It
attribute [local irreducible] invK enK enV waitL
variable {T nc ns : Nat}
def F0 : Fc := facB fc0
theorem F0_ok : FcOk F0 := writeF_ok (writeF_ok (writeF_ok (by refine ⟨?_, ?_, ?_, ?_, ?_⟩ <;> decide) _ _) _ _) _ _
theorem F0_take : F0.takes 160 1 true 1 = true ∧ (F0.takeF 160 1 true 1).dropF 1 = F0 := ⟨by decide +kernel, by kernel_rfl⟩
theorem F0_no : F0.takes 0 0 false 1 = false := by decide +kernel
def onF (R : Rx) (k : Nat) : Bool := !R.asl.getD k false
def evO (R : Rx) (d e : Nat) : Option (Nat × Nat) := (fnd R.de R.ev (d : Int) (e : Int)).map fun n => (n, (R.core.getD n 0).toNat)
structure Rel (T ns nc : Nat) (x : Hx) (R : Rx) (dm : Nat → Bool) (Z : List Nat) : Prop where
 rx : R.ok ns nc
 n1 : 1 ≤ nc
 st : x.iw.st = false
 ij : x.iw.i = x.j
 j32 : x.j < 32
 wr : WR T nc x.iw.w (onF R) R.msB dm (evO R) Z
 dr : DR ns nc x.D R.high R.act R.asl
 fl : x.fs.length = nc
 fs : ∀ k, k < nc → x.fs[k]? = some F0
 sr : SR x.S R.de R.ev
 co : ∀ n, n < 512 → ∃ c : Nat, R.core.getD n 0 = (c : Int) ∧ c < nc
 wa : ∀ n, n < 512 → R.wait.getD n false = true → 0 ≤ R.de.getD n 0
theorem Rx.ms (R : Rx) (c n : Nat) : R.msB c n = (decide (0 ≤ R.de.getD n 0) && (R.core.getD n 0 == (c : Int) && R.wait.getD n false)) := rfl
theorem okd_of {D : DS} {high act asl : List Bool} (h : DR ns nc D high act asl) (h1 : 1 ≤ nc) (h8 : nc ≤ 8) (h64 : ns ≤ 64) : ∃ Q, OkD Q D := by
 refine ⟨⟨⟨0, none, 0, none, 0⟩, none, 0, none, 0, none, 0, none, 0, List.replicate nc ⟨0, none, 0, none, 0⟩⟩, by rw [h.xl]; exact h1, by rw [h.xl]; exact h8, fun x hx => by rw [h.own x hx]; exact ⟨ownK_len 16, ownK_ok 16⟩, by rw [h.len]; exact h64, fun e he => ?_, by simp; exact h.xl.symm, fun e he => ?_⟩
 ·obtain ⟨i, hi⟩ := List.getElem?_of_mem he
  have hlt : i < ns := by rw [← h.len]; exact (List.getElem?_eq_some_iff.1 hi).1
  rw [h.sh i hlt] at hi
  have := Option.some.inj hi
  rw [← this]
  exact ⟨by show (0 : Int) ≤ 1; decide, by show (1 : Int) ≤ 1; decide, by show (0 : Int) ≤ 160; decide, by show (160 : Int) ≤ 255; decide, by show realV 160 = 160; decide +kernel⟩
 ·obtain ⟨i, hi⟩ := List.getElem?_of_mem he
  have hlt : i < ns := by rw [← h.len]; exact (List.getElem?_eq_some_iff.1 hi).1
  rw [h.sh i hlt] at hi
  have := Option.some.inj hi
  rw [← this]
  exact ⟨by show (0 : Int) ≤ 0; decide, by show (0 : Int) ≤ 255; decide⟩
section
variable {x : Hx} {R : Rx} {dm : Nat → Bool} {Z : List Nat}
theorem Rel.hx (h : Rel T ns nc x R dm Z) : x.ok T nc := by
 refine ⟨⟨h.wr.ok, by rw [h.ij]; exact h.j32⟩, h.j32, fun k hk b hb => ?_, h.sr.ok, h.sr.sv, h.fl, fun f hf => ?_, okd_of h.dr h.n1 h.wr.n8 h.rx.n64, h.dr.xl, h.n1, h.wr.n8⟩
 ·obtain ⟨i, hi⟩ := List.getElem?_of_mem hb
  have hl := (ok_at h.wr.ok hk).2.1
  have hlt : i < 512 := by rw [← hl]; exact (List.getElem?_eq_some_iff.1 hi).1
  have h9 := h.wr.cf k hk i hlt
  rw [List.getD_eq_getElem?_getD, hi] at h9
  simp at h9; omega
 ·obtain ⟨i, hi⟩ := List.getElem?_of_mem hf
  have hlt : i < nc := by rw [← h.fl]; exact (List.getElem?_eq_some_iff.1 hi).1
  rw [h.fs i hlt] at hi
  rw [← Option.some.inj hi]; exact F0_ok
theorem Rel.num (h : Rel T ns nc x R dm Z) (d e : Int) : x.S.num d e = (fnd R.de R.ev d e).map (fun n => (n : Int)) := h.sr.num d e
theorem nat_of_may {d e : Int} (h : mayE d e = true) : ∃ a b : Nat, d = a ∧ e = b ∧ a < 32 ∧ b < 16 := by
 have := may_lt h
 exact ⟨d.toNat, e.toNat, by omega, by omega, by omega, by omega⟩
theorem ev_some {a b n c : Nat} (hf : fnd R.de R.ev (a : Int) (b : Int) = some n) (hc : R.core.getD n 0 = (c : Int)) : evO R a b = some (n, c) := by
 unfold evO
 rw [hf]
 simp only [Option.map_some, hc, Int.toNat_natCast]
theorem cmd_eq {x : Hx} (hB : okT T x.iw.w.B.length) (hj : x.j < 32) (hi : x.iw.i = x.j) (hst : x.iw.st = false) {c : Cm} (he : (encV c).2 = 0) (hd : (doV 64 ⟨stW x.iw.w.B x.j (encV c).1 4, x.iw.w.cs⟩ c).2 = 0) :
  x.cmd c = { x with iw := ⟨(doV 64 ⟨stW x.iw.w.B x.j (encV c).1 4, x.iw.w.cs⟩ c).1, false, (x.j + 1) % 32⟩, j := (x.j + 1) % 32 } ∧ x.cmdE c = 0 := by
 have h := cmd_run hB hj hi hst he hd
 unfold Hx.cmd Hx.cmdE
 rw [h]
 exact ⟨rfl, rfl⟩
theorem Rel.bind (h : Rel T ns nc x R dm Z) (d e c : Int) : ∃ dm', Rel T ns nc (x.bnd nc d e c) (R.bindV nc d e c).1 dm' Z ∧ x.bndR nc d e c = (R.bindV nc d e c).2 := by
 have h8 := h.wr.n8
 have hBl := h.wr.ok.1
 have hcl := h.rx.core
 have hwl := h.rx.wait
 unfold Hx.bnd Hx.bndR Rx.bindV
 cases hr : rightV nc c with
 | false => exact ⟨dm, h, rfl⟩
 | true =>
  obtain ⟨k, rfl, hk⟩ : ∃ k : Nat, c = k ∧ k < nc := ⟨c.toNat, by simp [rightV] at hr; omega, by simp [rightV] at hr; omega⟩
  simp only [if_true]
  rw [h.num]
  cases hm : mayE d e with
  | false =>
   rw [fnd_no hm]
   have hb : x.S.bind d e = ((0, 1), x.S) := by unfold Sh.bind; rw [hm]; rfl
   simp only [Option.map_none, hb]
   exact ⟨dm, h, rfl⟩
  | true =>
   obtain ⟨a, b, rfl, rfl, ha, hb⟩ := nat_of_may hm
   cases hf : fnd R.de R.ev (a : Int) (b : Int) with
   | some n =>
    obtain ⟨_, hn, hd3, he3⟩ := (fnd_iff h.sr.un).1 hf
    obtain ⟨q, hq, hqn⟩ := h.co n hn
    have hev := ev_some hf hq
    have hu : ∀ j, j < nc → j ≠ q → R.msB j n = false := fun j hj hne => by
     rw [R.ms, hq, show ((q : Int) == (j : Int)) = false from beq_eq_false_iff_ne.2 (by omega)]; simp
    obtain ⟨e1, w1⟩ := (h.wr.queue h.j32 (encV (cmMovi a b k)).1).movi ha hb hk hev hu
    obtain ⟨e2, e3⟩ := cmd_eq (x := x) (T := T) hBl h.j32 h.ij h.st (enc_movi ha hb (by omega)) e1
    simp only [Option.map_some, if_true]
    rw [e3, e2]
    refine ⟨dm, ⟨⟨h.rx.de, h.rx.ev, by simp; exact hcl, hwl, h.rx.high, h.rx.act, h.rx.asl, h.rx.n64, h.rx.n8⟩, h.n1, rfl, rfl, Nat.mod_lt _ (by omega), ?_, h.dr, h.fl, h.fs, h.sr, fun i hi => ?_, h.wa⟩, rfl⟩
    ·refine (w1.congr (fun _ _ => rfl) fun j i hj hi => ?_).evc fun d' e' hd' he' => ?_
     ·rw [R.ms, Rx.ms]
      simp only
      rw [getI_set (by omega)]
      by_cases e9 : i = n
      ·subst e9
       rw [if_pos rfl, if_pos rfl, hq, beq_self_eq_true, Bool.true_and]
       have : ((k : Int) == (j : Int)) = (j == k) := by rw [Bool.eq_iff_iff]; simp; omega
       rw [this]
       cases decide (0 ≤ R.de.getD i 0) <;> cases (j == k) <;> rfl
      ·rw [if_neg e9, if_neg e9]; rfl
     ·unfold evO
      simp only
      by_cases e9 : d' = a ∧ e' = b
      ·obtain ⟨rfl, rfl⟩ := e9
       rw [if_pos ⟨rfl, rfl⟩, hf]
       simp only [Option.map_some]
       rw [getI_set (by omega), if_pos rfl, Int.toNat_natCast]
      ·rw [if_neg e9]
       cases hf2 : fnd R.de R.ev (d' : Int) (e' : Int) with
       | none => rfl
       | some n2 =>
        simp only [Option.map_some]
        rw [getI_set (by omega), if_neg]
        rintro rfl
        obtain ⟨_, _, h6, h7⟩ := (fnd_iff h.sr.un).1 hf2
        exact e9 ⟨by omega, by omega⟩
    ·rw [getI_set (by omega)]
     split
     ·exact ⟨k, rfl, hk⟩
     ·exact h.co i hi
   | none =>
    simp only [Option.map_none, if_true]
    cases hi : frI R.de with
    | none =>
     rw [h.sr.full hm hf hi]
     exact ⟨dm, h, rfl⟩
    | some i =>
     obtain ⟨i5, ineg, _⟩ := frI_eq hi
     obtain ⟨hb1, hsr⟩ := h.sr.bind hm hf hi
     rw [hb1]
     simp only [ne_eq, not_true, if_false]
     -- ahead of the last command
     obtain ⟨y, dm1, hy, hdm, hyw, hyr⟩ : ∃ (y : Hx) (dm1 : Nat → Bool), x.bnd1 a b = y ∧ dm1 a = true ∧ WR T nc y.iw.w (onF R) R.msB dm1 (evO R) Z ∧ (y.iw.st = false ∧ y.iw.i = y.j ∧ y.j < 32 ∧ y.D = x.D ∧ y.fs = x.fs ∧ y.S = ⟨putB x.S.ns (kyV a b) i, putB x.S.ks i (kyV a b)⟩) := by
      unfold Hx.bnd1
      rw [hb1, h.wr.mt.tab ha]
      simp only
      cases hdm : dm a with
      | true =>
       rw [if_pos rfl, if_pos rfl]
       exact ⟨_, dm, rfl, hdm, h.wr, h.st, h.ij, h.j32, rfl, rfl, rfl⟩
      | false =>
       simp only [Bool.false_eq_true, if_false]
       obtain ⟨e1, w1⟩ := (h.wr.queue h.j32 (encV (cmMapd a)).1).mapd ha hdm
       obtain ⟨e2, e3⟩ := cmd_eq (x := ({ x with S := ⟨putB x.S.ns (kyV a b) i, putB x.S.ks i (kyV a b)⟩ } : Hx)) (T := T) hBl h.j32 h.ij h.st (enc_mapd ha) e1
       rw [e2]
       exact ⟨_, _, rfl, by simp, w1, rfl, rfl, Nat.mod_lt _ (by omega), rfl, rfl, rfl⟩
     rw [hy]
     obtain ⟨y1, y2, y3, y4, y5, y6⟩ := hyr
     have hev : evO R a b = none := by unfold evO; rw [hf]; rfl
     obtain ⟨e1, w1⟩ := (hyw.queue y3 (encV (cmMapti a b (8192 + (i : Int)) k)).1).mapti ha hb i5 hk hdm hev
     obtain ⟨e2, e3⟩ := cmd_eq (x := y) (T := T) hyw.ok.1 y3 y2 y1 (enc_mapti ha hb i5 (by omega)) e1
     rw [e3, e2]
     refine ⟨dm1, ⟨⟨by simp; exact h.rx.de, by simp; exact h.rx.ev, by simp; exact hcl, by simp; exact hwl, h.rx.high, h.rx.act, h.rx.asl, h.rx.n64, h.rx.n8⟩, h.n1, rfl, rfl, Nat.mod_lt _ (by omega), ?_, by show DR ns nc y.D _ _ _; rw [y4]; exact h.dr, by show y.fs.length = nc; rw [y5]; exact h.fl, by show ∀ k, k < nc → y.fs[k]? = some F0; rw [y5]; exact h.fs, by show SR y.S _ _; rw [y6]; exact hsr, fun n hn => ?_, fun n hn hw => ?_⟩, rfl⟩
     ·refine (w1.congr (fun _ _ => rfl) fun j n hj hn => ?_).evc fun d' e' hd' he' => ?_
      ·rw [R.ms, Rx.ms]
       simp only
       rw [getI_set (by rw [h.rx.de]; exact i5), getI_set (by omega), getB_set (by omega)]
       by_cases e9 : n = i
       ·subst e9
        rw [if_pos rfl, if_pos rfl, if_pos rfl]
        have : R.wait.getD n false = false := by
         cases hw : R.wait.getD n false with
         | false => rfl
         | true => have := h.wa n hn hw; omega
        rw [this]; simp
       ·rw [if_neg e9, if_neg e9, if_neg e9]
      ·unfold evO
       simp only
       rw [fnd_bind h.rx.de h.rx.ev h.sr.un hm hf i5 ineg]
       by_cases e9 : d' = a ∧ e' = b
       ·obtain ⟨rfl, rfl⟩ := e9
        rw [if_pos ⟨rfl, rfl⟩, if_pos ⟨rfl, rfl⟩]
        simp only [Option.map_some]
        rw [getI_set (by omega), if_pos rfl, Int.toNat_natCast]
       ·rw [if_neg e9, if_neg (fun hh => e9 ⟨by omega, by omega⟩)]
        cases hf2 : fnd R.de R.ev (d' : Int) (e' : Int) with
        | none => rfl
        | some n2 =>
         simp only [Option.map_some]
         rw [getI_set (by omega), if_neg]
         rintro rfl
         obtain ⟨h5, _, h6, h7⟩ := (fnd_iff h.sr.un).1 hf2
         have := may_lt h5; omega
     ·simp only
      rw [getI_set (by omega)]
      split
      ·exact ⟨k, rfl, hk⟩
      ·exact h.co n hn
     ·simp only at hw ⊢
      rw [getB_set (by omega)] at hw
      rw [getI_set (by rw [h.rx.de]; exact i5)]
      by_cases e9 : n = i
      ·rw [if_pos e9] at hw; cases hw
      ·rw [if_neg e9] at hw
       rw [if_neg e9]; exact h.wa n hn hw
theorem Rel.unb (h : Rel T ns nc x R dm Z) (d e : Int) : ∃ dm', Rel T ns nc (x.unb d e) (R.unbV d e).1 dm' Z ∧ x.unbE d e = (R.unbV d e).2 := by
 have h8 := h.wr.n8
 have hBl := h.wr.ok.1
 have hcl := h.rx.core
 have hwl := h.rx.wait
 unfold Hx.unb Hx.unbE Rx.unbV
 cases hf : fnd R.de R.ev d e with
 | none =>
  rw [h.sr.free_no hf]
  cases hm : mayE d e with
  | true => exact ⟨dm, h, rfl⟩
  | false => exact ⟨dm, h, rfl⟩
 | some n =>
  obtain ⟨hm, hn, hd3, he3⟩ := (fnd_iff h.sr.un).1 hf
  obtain ⟨a, b, rfl, rfl, ha, hb⟩ := nat_of_may hm
  obtain ⟨q, hq, hqn⟩ := h.co n hn
  obtain ⟨hfr, hsr⟩ := h.sr.free hf
  rw [hfr, hm]
  simp only [ne_eq, not_true, if_false, if_true]
  have hev := ev_some hf hq
  obtain ⟨e1, w1⟩ := (h.wr.queue h.j32 (encV (cmDisc a b)).1).disc ha hb hev
  obtain ⟨e2, e3⟩ := cmd_eq (x := ({ x with S := ⟨delB x.S.ns (kyV a b), delB x.S.ks n⟩ } : Hx)) (T := T) hBl h.j32 h.ij h.st (enc_disc ha hb) e1
  have e4 : x.cmdE (cmDisc a b) = 0 := e3
  rw [e4, e2]
  refine ⟨dm, ⟨⟨by simp; exact h.rx.de, by simp; exact h.rx.ev, hcl, by simp; exact hwl, h.rx.high, h.rx.act, h.rx.asl, h.rx.n64, h.rx.n8⟩, h.n1, rfl, rfl, Nat.mod_lt _ (by omega), ?_, h.dr, h.fl, h.fs, hsr, h.co, fun i hi hw => ?_⟩, rfl⟩
  ·refine (w1.congr (fun _ _ => rfl) fun j i hj hi => ?_).evc fun d' e' hd' he' => ?_
   ·rw [R.ms, Rx.ms]
    simp only
    rw [getI_set (by rw [h.rx.de]; exact hn), getB_set (by omega)]
    by_cases e9 : i = n
    ·subst e9
     rw [if_pos rfl, if_pos rfl]
     by_cases e8 : j = q
     ·rw [if_pos ⟨e8, rfl⟩]; simp
     ·rw [if_neg (fun hh => e8 hh.1), hq, show ((q : Int) == (j : Int)) = false from beq_eq_false_iff_ne.2 (by omega)]; simp
    ·rw [if_neg e9, if_neg e9, if_neg (fun hh => e9 hh.2)]
   ·unfold evO
    simp only
    rw [fnd_free h.rx.de h.rx.ev h.sr.un hf]
    by_cases e9 : d' = a ∧ e' = b
    ·obtain ⟨rfl, rfl⟩ := e9
     rw [if_pos ⟨rfl, rfl⟩, if_pos ⟨rfl, rfl⟩]; rfl
    ·rw [if_neg e9, if_neg (fun hh => e9 ⟨by omega, by omega⟩)]
  ·simp only at hw ⊢
   rw [getB_set (by omega)] at hw
   rw [getI_set (by rw [h.rx.de]; exact hn)]
   by_cases e9 : i = n
   ·rw [if_pos e9] at hw; cases hw
   ·rw [if_neg e9] at hw
    rw [if_neg e9]; exact h.wa i hi hw
theorem Rel.setw (h : Rel T ns nc x R dm Z) {n q : Nat} (hn : n < 512) (hq : R.core.getD n 0 = (q : Int)) (hqn : q < nc) (v : Bool) (hv : 0 ≤ R.de.getD n 0) :
  Rel T ns nc (x.setW (x.iw.w.set q (8192 + (n : Int)) v)) { R with wait := R.wait.set n v } dm Z := by
 have hwl := h.rx.wait
 refine ⟨⟨h.rx.de, h.rx.ev, h.rx.core, by simp; exact hwl, h.rx.high, h.rx.act, h.rx.asl, h.rx.n64, h.rx.n8⟩, h.n1, h.st, h.ij, h.j32, ?_, h.dr, h.fl, h.fs, h.sr, h.co, fun i hi hw => ?_⟩
 ·refine (h.wr.set hqn hn v).congr (fun _ _ => rfl) fun j i hj hi => ?_
  rw [R.ms, Rx.ms]
  simp only
  rw [getB_set (by omega)]
  by_cases e9 : i = n
  ·subst e9
   rw [if_pos rfl, hq]
   by_cases e8 : j = q
   ·rw [if_pos ⟨e8, rfl⟩, e8, beq_self_eq_true, decide_eq_true hv]; simp
   ·rw [if_neg (fun hh => e8 hh.1), show ((q : Int) == (j : Int)) = false from beq_eq_false_iff_ne.2 (by omega)]; simp
  ·rw [if_neg e9, if_neg (fun hh => e9 hh.2)]
 ·simp only at hw ⊢
  rw [getB_set (by omega)] at hw
  by_cases e9 : i = n
  ·rw [e9]; exact hv
  ·rw [if_neg e9] at hw; exact h.wa i hi hw
theorem Rel.msg (h : Rel T ns nc x R dm Z) (d e : Int) : Rel T ns nc (x.msg d e).1 (R.msgV d e).1 dm Z ∧ (x.msg d e).2 = (R.msgV d e).2 := by
 unfold Hx.msg Rx.msgV
 rw [h.num]
 cases hf : fnd R.de R.ev d e with
 | none => exact ⟨h, rfl⟩
 | some n =>
  obtain ⟨hm, hn, hd3, he3⟩ := (fnd_iff h.sr.un).1 hf
  obtain ⟨a, b, rfl, rfl, ha, hb⟩ := nat_of_may hm
  obtain ⟨q, hq, hqn⟩ := h.co n hn
  simp only [Option.map_some, Option.isSome_some, if_true]
  rw [h.wr.msg ha hb (ev_some hf hq)]
  exact ⟨h.setw hn hq hqn true (by omega), rfl⟩
theorem Rel.wtk (h : Rel T ns nc x R dm Z) (d e : Int) : Hx.wtK nc x.iw.w (x.S.num d e) = (R.wts d e).map (fun n => (R.core.getD n 0).toNat) := by
 rw [h.num]
 unfold Rx.wts Hx.wtK
 cases hf : fnd R.de R.ev d e with
 | none => rfl
 | some n =>
  obtain ⟨hm, hn, hd3, he3⟩ := (fnd_iff h.sr.un).1 hf
  obtain ⟨q, hq, hqn⟩ := h.co n hn
  have := may_lt hm
  simp only [Option.map_some]
  have hh : ∀ k, k < nc → x.iw.w.has k (8192 + (n : Int)) = R.msB k n := fun k hk => (h.wr.wt k hk).has hn
  cases hw : R.wait.getD n false with
  | false =>
   simp only [Bool.false_eq_true, if_false, Option.map_none]
   refine find_none fun j hj => ?_
   rw [hh j hj, R.ms, hw]; simp
  | true =>
   simp only [if_true, Option.map_some]
   rw [hq, Int.toNat_natCast]
   refine find_some hqn ?_ fun j hj => ?_
   ·rw [hh q hqn, R.ms, hw, hq, decide_eq_true (show 0 ≤ R.de.getD n 0 by omega), beq_self_eq_true]; rfl
   ·rw [hh j (by omega), R.ms, hq, show ((q : Int) == (j : Int)) = false from beq_eq_false_iff_ne.2 (by omega)]; simp
theorem Rel.wtv (h : Rel T ns nc x R dm Z) (d e : Int) : wtV (Hx.wtK nc x.iw.w (x.S.num d e)) = R.wtsV d e := by
 rw [h.wtk]
 unfold Rx.wtsV
 cases hw : R.wts d e with
 | none => rfl
 | some n =>
  have hf : fnd R.de R.ev d e = some n := by
   unfold Rx.wts at hw
   cases hh : fnd R.de R.ev d e with
   | none => rw [hh] at hw; cases hw
   | some m => rw [hh] at hw; simp only at hw; split at hw <;> cases hw; rfl
  obtain ⟨q, hq, hqn⟩ := h.co n ((fnd_iff h.sr.un).1 hf).2.1
  simp only [Option.map_some, hq, Int.toNat_natCast]
  rfl
theorem Rx.wts_some {R : Rx} {d e : Int} {n : Nat} (hw : R.wts d e = some n) : fnd R.de R.ev d e = some n ∧ R.wait.getD n false = true := by
 unfold Rx.wts at hw
 cases hh : fnd R.de R.ev d e with
 | none => rw [hh] at hw; cases hw
 | some m =>
  rw [hh] at hw
  simp only at hw
  split at hw
  ·rename_i h9
   cases hw
   exact ⟨rfl, h9⟩
  ·cases hw
theorem Rel.pull (h : Rel T ns nc x R dm Z) (d e : Int) : Rel T ns nc (x.pull nc d e) (R.pullV d e) dm Z ∧ (Hx.wtK nc x.iw.w (x.S.num d e)).isSome = (R.wts d e).isSome := by
 have hk := h.wtk d e
 unfold Hx.pull Rx.pullV
 rw [hk]
 cases hw : R.wts d e with
 | none => exact ⟨h, rfl⟩
 | some n =>
  obtain ⟨hf, _⟩ := Rx.wts_some hw
  obtain ⟨hm, hn, hd3, he3⟩ := (fnd_iff h.sr.un).1 hf
  obtain ⟨q, hq, hqn⟩ := h.co n hn
  have := may_lt hm
  simp only [Option.map_some]
  rw [h.num, hf, hq, Int.toNat_natCast]
  exact ⟨h.setw hn hq hqn false (by omega), rfl⟩
theorem Rel.setD_ (h : Rel T ns nc x R dm Z) {D : DS} {high act : List Bool} (hd : DR ns nc D high act R.asl) (h1 : high.length = ns) (h2 : act.length = ns) : Rel T ns nc (x.setD D) { R with high := high, act := act } dm Z :=
 ⟨⟨h.rx.de, h.rx.ev, h.rx.core, h.rx.wait, h1, h2, h.rx.asl, h.rx.n64, h.rx.n8⟩, h.n1, h.st, h.ij, h.j32, h.wr, hd, h.fl, h.fs, h.sr, h.co, h.wa⟩
theorem shr_cases (ns : Nat) (id : Int) : (id < 32 ∧ shrI ns id = -1) ∨ (32 ≤ id ∧ id - 32 ≥ ns ∧ shrI ns id = -1) ∨ ∃ k : Nat, k < ns ∧ id = 32 + (k : Int) ∧ shrI ns id = k := by
 unfold shrI
 by_cases h1 : id < 32
 ·exact .inl ⟨h1, by rw [if_pos (.inl h1)]⟩
 ·by_cases h2 : id - 32 ≥ ns
  ·exact .inr (.inl ⟨by omega, h2, by rw [if_pos (.inr h2)]⟩)
  ·refine .inr (.inr ⟨(id - 32).toNat, by omega, by omega, ?_⟩)
   rw [if_neg (by omega)]; omega
theorem Rel.wire (h : Rel T ns nc x R dm Z) (id : Int) (v : Bool) : Rel T ns nc (if id < 32 then x else x.setD (x.D.doV 0 id (if v then 1 else 2)).1) (R.wireV ns id v).1 dm Z ∧ (if id < 32 then 90 else (x.D.doV 0 id (if v then 1 else 2)).2) = (R.wireV ns id v).2 := by
 unfold Rx.wireV
 rcases shr_cases ns id with ⟨h1, h2⟩ | ⟨h1, h3, h2⟩ | ⟨k, hk, rfl, h2⟩
 ·rw [h2, if_pos (show (-1 : Int) < 0 by decide), if_pos h1, if_pos h1]
  exact ⟨h, rfl⟩
 ·have hn := h.dr.do_no h.n1 (k := 0) (by have := h.n1; omega) h1 h3 (if v then 1 else 2)
  rw [h2, if_pos (show (-1 : Int) < 0 by decide), if_neg (show ¬ id < 32 by omega), if_neg (show ¬ id < 32 by omega)]
  rw [show (0 : Int) = ((0 : Nat) : Int) by rfl, hn]
  exact ⟨h, rfl⟩
 ·obtain ⟨e1, e2⟩ := h.dr.wire h.n1 h.rx.high hk v
  rw [h2, if_neg (show ¬ (k : Int) < 0 by omega), if_neg (show ¬ 32 + (k : Int) < 32 by omega), if_neg (show ¬ 32 + (k : Int) < 32 by omega), Int.toNat_natCast]
  exact ⟨h.setD_ e2 (by simp; exact h.rx.high) h.rx.act, e1⟩
theorem Rel.end_ (h : Rel T ns nc x R dm Z) (id : Int) : Rel T ns nc (if id < 32 then x else x.setD (x.D.doV 0 id 6).1) (R.endV ns id).1 dm Z ∧ (if id < 32 then 90 else (x.D.doV 0 id 6).2) = (R.endV ns id).2 := by
 unfold Rx.endV
 rcases shr_cases ns id with ⟨h1, h2⟩ | ⟨h1, h3, h2⟩ | ⟨k, hk, rfl, h2⟩
 ·rw [h2, if_pos (show (-1 : Int) < 0 by decide), if_pos h1, if_pos h1]
  exact ⟨h, rfl⟩
 ·have hn := h.dr.do_no h.n1 (k := 0) (by have := h.n1; omega) h1 h3 6
  rw [h2, if_pos (show (-1 : Int) < 0 by decide), if_neg (show ¬ id < 32 by omega), if_neg (show ¬ id < 32 by omega)]
  rw [show (0 : Int) = ((0 : Nat) : Int) by rfl, hn]
  exact ⟨h, rfl⟩
 ·obtain ⟨e1, e2⟩ := h.dr.endd h.n1 h.rx.act hk
  rw [h2, if_neg (show ¬ (k : Int) < 0 by omega), if_neg (show ¬ 32 + (k : Int) < 32 by omega), if_neg (show ¬ 32 + (k : Int) < 32 by omega), Int.toNat_natCast]
  exact ⟨h.setD_ e2 h.rx.high (by simp; exact h.rx.act), e1⟩
theorem Rel.pow (h : Rel T ns nc x R dm Z) (k : Int) (on : Bool) : Rel T ns nc (if rightV nc k then x.pow k.toNat on else x) (R.powV nc k on).1 dm Z ∧ (if rightV nc k then 0 else 130) = (R.powV nc k on).2 := by
 unfold Rx.powV
 cases hr : rightV nc k with
 | false => exact ⟨h, rfl⟩
 | true =>
  obtain ⟨k, rfl, hk⟩ : ∃ n : Nat, k = n ∧ n < nc := ⟨k.toNat, by simp [rightV] at hr; omega, by simp [rightV] at hr; omega⟩
  simp only [if_true, Int.toNat_natCast]
  refine ⟨⟨⟨h.rx.de, h.rx.ev, h.rx.core, h.rx.wait, h.rx.high, h.rx.act, by simp; exact h.rx.asl, h.rx.n64, h.rx.n8⟩, h.n1, h.st, h.ij, h.j32, ?_, (h.dr.pow h.rx.asl hk on).2, h.fl, h.fs, h.sr, h.co, h.wa⟩, trivial⟩
  unfold Hx.pow
  have hal := h.rx.asl
  cases on with
  | true =>
   refine (h.wr.en hk).congr (fun j hj => ?_) fun _ _ _ _ => rfl
   unfold onF
   rw [getB_set (by omega)]
   by_cases e : j = k
   ·rw [if_pos e, if_pos e]; rfl
   ·rw [if_neg e, if_neg e]
  | false =>
   refine (h.wr.dis hk).congr (fun j hj => ?_) fun _ _ _ _ => rfl
   unfold onF
   rw [getB_set (by omega)]
   by_cases e : j = k
   ·rw [if_pos e, if_pos e]; rfl
   ·rw [if_neg e, if_neg e]
end
end Go.Proofs.YtakkogdmlbkdaaaGreatDoor.Sl.It
namespace Go.Proofs.YtakkogdmlbkdaaaGreatDoor.Sl.It
attribute [local irreducible] invK enK enV waitL
variable {T nc ns : Nat}
section
variable {x : Hx} {R : Rx} {dm : Nat → Bool} {Z : List Nat}
theorem Rel.bestI (h : Rel T ns nc x R dm Z) {k : Nat} (hk : k < nc) : bestC (x.iw.w.at_ k).C (x.iw.w.at_ k).U = if R.asl.getD k false then ((0, 0, 0, false) : Cd) else match R.msT k with
  | some n => (8192 + (n : Int), 160, 1, true)
  | none => (0, 0, 0, false) := by
 obtain ⟨h1, h2⟩ := h.wr.wt k hk
 obtain ⟨hU, _, _⟩ := ok_at h.wr.ok hk
 unfold onF at h2
 cases ha : R.asl.getD k false with
 | true =>
  rw [ha] at h2
  rw [if_pos rfl]
  exact best_none hU fun i hi => by rw [(h2 i hi).1]; rfl
 | false =>
  rw [ha] at h2
  rw [if_neg (show ¬ (false = true) by simp)]
  have h3 : ∀ i, i < 512 → hasS (x.iw.w.at_ k).U i = R.msB k i := fun i hi => by rw [(h2 i hi).1]; rfl
  unfold Rx.msT
  cases hf : (List.range 512).find? (R.msB k) with
  | none =>
   rw [List.find?_eq_none] at hf
   refine best_none hU fun i hi => ?_
   rw [h3 i hi]
   exact Bool.eq_false_iff.2 (hf i (by simpa using hi))
  | some n =>
   rw [List.find?_range_eq_some] at hf
   obtain ⟨f1, f2, f3⟩ := hf
   have hn : n < 512 := by simpa using f2
   refine best_some (h.wr.cf k hk) hU (by rw [h3 n hn]; exact f1) fun i hi => ?_
   rw [h3 i (by omega)]
   have := f3 i hi
   rwa [Bool.not_eq_true'] at this
theorem hiT_hiO (R : Rx) (k : Nat) : R.hiT ns k = hiO ns R.high R.act k := rfl
theorem hiT_eq {R : Rx} {k i : Nat} (h : R.hiT ns k = some i) : k = 0 ∧ i < ns ∧ (R.high.getD i false && !R.act.getD i false) = true := by
 unfold Rx.hiT at h
 split at h
 ·rename_i e
  rw [List.find?_range_eq_some] at h
  exact ⟨e, by simpa using h.2.1, h.1⟩
 ·cases h
theorem msT_eq {R : Rx} {k n : Nat} (h : R.msT k = some n) : n < 512 ∧ R.msB k n = true ∧ ∀ j, j < n → R.msB k j = false := by
 unfold Rx.msT at h
 rw [List.find?_range_eq_some] at h
 refine ⟨by simpa using h.2.1, h.1, fun j hj => ?_⟩
 have := h.2.2 j hj
 rwa [Bool.not_eq_true'] at this
theorem Rel.top (h : Rel T ns nc x R dm Z) {k : Nat} (hk : k < nc) : x.top k = if R.asl.getD k false then ((0, 0, 0, false) : Cd) else match R.hiT ns k with
  | some i => (32 + (i : Int), 160, 1, true)
  | none => match R.msT k with
   | some n => (8192 + (n : Int), 160, 1, true)
   | none => (0, 0, 0, false) := by
 unfold Hx.top
 rw [h.dr.best h.n1 hk, h.bestI hk, ← hiT_hiO]
 cases ha : R.asl.getD k false with
 | true => rfl
 | false =>
  simp only [Bool.false_eq_true, if_false]
  cases hh : R.hiT ns k with
  | none => rfl
  | some i =>
   have hi := (hiT_eq hh).2.1
   have h64 := h.rx.n64
   cases hm : R.msT k with
   | none => rfl
   | some n =>
    simp only
    unfold topC beforeV
    simp only [Bool.not_true, Bool.false_or, Bool.true_and]
    rw [if_neg]
    simp only [Bool.or_eq_true, decide_eq_true_eq, Bool.and_eq_true, beq_iff_eq, not_or, not_and]
    exact ⟨by omega, fun _ => by omega⟩
theorem Rel.bnds (h : Rel T ns nc x R dm Z) : ∀ n : Nat, n < nc → 0 ≤ (x.top n).2.1 ∧ (x.top n).2.1 ≤ 255 ∧ 0 ≤ (x.top n).2.2.1 ∧ (x.top n).2.2.1 ≤ 1 ∧ (x.top n).1 ≤ 100000 := fun k hk => by
 rw [h.top hk]
 have h64 := h.rx.n64
 split
 ·simp
 ·split
  ·rename_i i hh
   have := (hiT_eq hh).2.1
   simp only; omega
  ·split
   ·rename_i n hh
    have := (msT_eq hh).1
    simp only; omega
   ·simp
theorem Rel.face (h : Rel T ns nc x R dm Z) {k : Nat} (hk : k < nc) : x.face k = F0 := by unfold Hx.face; rw [h.fs k hk]; rfl
theorem Rel.take (h : Rel T ns nc x R dm Z) (k : Int) : Rel T ns nc (x.takeR nc k).1 (R.takeV ns nc k).1 dm Z ∧ (x.takeR nc k).2 = ibV (R.takeV ns nc k).2 := by
 unfold Hx.takeR Rx.takeV
 cases hr : rightV nc k with
 | false => exact ⟨h, rfl⟩
 | true =>
  obtain ⟨k, rfl, hk⟩ : ∃ n : Nat, k = n ∧ n < nc := ⟨k.toNat, by simp [rightV] at hr; omega, by simp [rightV] at hr; omega⟩
  have ht := h.top hk
  have hf := h.face hk
  have hfs : x.fs.set k F0 = x.fs := set_same_ (h.fs k hk)
  simp only [if_true, Int.toNat_natCast, Bool.true_and]
  cases ha : R.asl.getD k false with
  | true =>
   rw [ha, if_pos rfl] at ht
   have htk : x.tks k = false := by unfold Hx.tks; rw [ht, hf]; exact F0_no
   rw [htk]
   exact ⟨h, rfl⟩
  | false =>
   rw [ha, if_neg (show ¬ (false = true) by simp)] at ht
   simp only [Bool.not_false, if_true]
   unfold Rx.takeN
   cases hh : R.hiT ns k with
   | some i =>
    obtain ⟨rfl, hi, hb⟩ := hiT_eq hh
    have h64 := h.rx.n64
    rw [hh] at ht
    simp only at ht
    have htk : x.tks 0 = true := by unfold Hx.tks; rw [ht, hf]; exact F0_take.1
    rw [htk]
    simp only [if_true]
    have hto : x.took 0 = x.setD (x.D.doV (0 : Nat) (32 + (i : Int)) 5).1 := by
     unfold Hx.took
     rw [ht, hf]
     simp only
     rw [if_neg (by omega), show (160 : Int).toNat = 160 from rfl, show (1 : Int).toNat = 1 from rfl, F0_take.2, hfs]
     rfl
    rw [hto, ht]
    exact ⟨h.setD_ (h.dr.ack h.n1 h.rx.act hk hi hb) h.rx.high (by simp; exact h.rx.act), rfl⟩
   | none =>
    rw [hh] at ht
    simp only at ht
    cases hm : R.msT k with
    | some n =>
     obtain ⟨hn, hb, _⟩ := msT_eq hm
     obtain ⟨q, hq, hqn⟩ := h.co n hn
     rw [R.ms] at hb
     simp only [Bool.and_eq_true, decide_eq_true_eq, beq_iff_eq] at hb
     obtain rfl : q = k := by have := hb.2.1; omega
     rw [hm] at ht
     simp only at ht
     have htk : x.tks q = true := by unfold Hx.tks; rw [ht, hf]; exact F0_take.1
     rw [htk]
     simp only [if_true]
     have hto : x.took q = x.setW (x.iw.w.set q (8192 + (n : Int)) false) := by
      unfold Hx.took
      rw [ht, hf]
      simp only
      rw [if_pos (by omega), show (160 : Int).toNat = 160 from rfl, show (1 : Int).toNat = 1 from rfl, F0_take.2, hfs]
      rfl
     rw [hto, ht]
     exact ⟨h.setw hn hq hqn false hb.1, rfl⟩
    | none =>
     rw [hm] at ht
     simp only at ht
     have htk : x.tks k = false := by unfold Hx.tks; rw [ht, hf]; exact F0_no
     rw [htk]
     exact ⟨h, rfl⟩
theorem Rel.copy (h : Rel T ns nc x R dm Z) {E : DS} (hl : E.like x.D) : Rel T ns nc (x.setD E) R dm Z := h.setD_ (h.dr.like_ hl) h.rx.high h.rx.act
theorem Rel.awake (h : Rel T ns nc x R dm Z) (k : Int) : (!asleepV x.D.xs k) = (rightV nc k && !R.asl.getD k.toNat false) := by
 cases hr : rightV nc k with
 | false =>
  unfold asleepV
  rw [h.dr.xl, hr]; rfl
 | true =>
  obtain ⟨k, rfl, hk⟩ : ∃ n : Nat, k = n ∧ n < nc := ⟨k.toNat, by simp [rightV] at hr; omega, by simp [rightV] at hr; omega⟩
  rw [h.dr.sl k hk]; rfl
theorem filt_step {bs : List (Int × Int)} (h : bs.Pairwise (fun a b => a.1 < b.1)) (K : Int) : bs.filter (fun p => decide (p.1 < K + 1)) = bs.filter (fun p => decide (p.1 < K)) ++ (match getB bs K with | some v => [(K, v)] | none => []) := by
 obtain ⟨L, M, e, hL, hM, _⟩ := split_bk h K
 have h2 : (L ++ M).Pairwise (fun a b => a.1 < b.1) := e ▸ h
 have hM2 := (List.pairwise_append.1 h2).2.1
 have hg : getB bs K = getB M K := by
  unfold getB
  rw [e, List.find?_append]
  have : L.find? (fun e => e.1 == K) = none := by
   rw [List.find?_eq_none]
   intro p hp
   have := hL p hp
   simp; omega
  rw [this]; rfl
 rw [hg, e, List.filter_append, List.filter_append]
 have f1 : L.filter (fun p => decide (p.1 < K + 1)) = L := List.filter_eq_self.2 fun p hp => by have := hL p hp; simp; omega
 have f2 : L.filter (fun p => decide (p.1 < K)) = L := List.filter_eq_self.2 fun p hp => by have := hL p hp; simp; omega
 have f3 : M.filter (fun p => decide (p.1 < K)) = [] := List.filter_eq_nil_iff.2 fun p hp => by have := hM p hp; simp; omega
 rw [f1, f2, f3, List.append_nil]
 congr 1
 cases M with
 | nil => rfl
 | cons p r =>
  have hp := hM p (by simp)
  rw [List.pairwise_cons] at hM2
  have f4 : r.filter (fun p => decide (p.1 < K + 1)) = [] := List.filter_eq_nil_iff.2 fun q hq => by have := hM2.1 q hq; simp; omega
  rw [List.filter_cons, f4]
  unfold getB
  rw [List.find?_cons]
  by_cases e1 : p.1 = K
  ·rw [show (p.1 == K) = true from beq_iff_eq.2 e1, if_pos (by simp; omega)]
   simp only [Option.map_some]
   rw [← e1]
  ·rw [show (p.1 == K) = false from beq_eq_false_iff_ne.2 e1, if_neg (by simp; omega)]
   have : r.find? (fun e => e.1 == K) = none := by
    rw [List.find?_eq_none]
    intro q hq
    have := hM2.1 q hq
    simp; omega
   rw [this]; rfl
theorem evF_append (a b : List (Int × Int)) : evF (a ++ b) = evF a ++ evF b := by unfold evF; rw [List.flatMap_append]
theorem all_E {S : Sh} {de ev : List Int} (h : SR S de ev) {d : Nat} (hd : d < 32) : ∀ e : Nat, e ≤ 16 → evF (S.ns.filter (fun p => decide (p.1 < 16 * (d : Int) + (e : Int)))) = evF (S.ns.filter (fun p => decide (p.1 < 16 * (d : Int)))) ++ allE de ev d e
 | 0, _ => by
  rw [show allE de ev d 0 = [] by unfold allE; rfl, List.append_nil]
  simp
 | e + 1, he => by
  have hm : mayE (d : Int) (e : Int) = true := may_of (by omega)
  rw [show 16 * (d : Int) + ((e + 1 : Nat) : Int) = (16 * (d : Int) + (e : Int)) + 1 by omega, filt_step h.bn.1, evF_append, all_E h hd e (by omega), allE_s, List.append_assoc]
  congr 2
  have hg := h.ns d e hm
  rw [ky_may hm] at hg
  cases hf : fnd de ev (d : Int) (e : Int) with
  | none =>
   have hg2 : getB S.ns (16 * (d : Int) + (e : Int)) = none := by rw [hg, hf]; rfl
   rw [hg2]; rfl
  | some n =>
   have hg2 : getB S.ns (16 * (d : Int) + (e : Int)) = some (n : Int) := by rw [hg, hf]; rfl
   rw [hg2]
   simp only
   unfold evF unkV
   simp only [List.flatMap_cons, List.flatMap_nil, List.append_nil]
   rw [Int.tdiv_eq_ediv_of_nonneg (by omega), Int.tmod_eq_emod_of_nonneg (by omega), wrap_id (by omega) (by omega)]
   congr 1
   ·omega
   ·congr 1; omega
theorem all_D {S : Sh} {de ev : List Int} (h : SR S de ev) : ∀ d : Nat, d ≤ 32 → evF (S.ns.filter (fun p => decide (p.1 < 16 * (d : Int)))) = allD de ev d
 | 0, _ => by
  have : S.ns.filter (fun p => decide (p.1 < 16 * ((0 : Nat) : Int))) = [] := List.filter_eq_nil_iff.2 fun p hp => by have := h.kn p hp; simp; omega
  rw [this]
  unfold allD; rfl
 | d + 1, hd => by
  rw [allD_s, ← all_D h d (by omega), ← all_E h (by omega) 16 (Nat.le_refl _)]
  rw [show 16 * ((d + 1 : Nat) : Int) = 16 * (d : Int) + ((16 : Nat) : Int) by omega]
theorem SR.all {S : Sh} {de ev : List Int} (h : SR S de ev) : evF S.ns = allD de ev 32 := by
 rw [← all_D h 32 (Nat.le_refl _)]
 congr 1
 exact (List.filter_eq_self.2 fun p hp => by have := h.kn p hp; simp; omega).symm
end
end Go.Proofs.YtakkogdmlbkdaaaGreatDoor.Sl.It
namespace Go.Proofs.YtakkogdmlbkdaaaGreatDoor.Sl.It
attribute [local irreducible] invK enK enV waitL
variable {T nc ns : Nat}
theorem bootF_at {nc : Nat} : ∀ j, j ≤ nc → ∀ k, k < nc → (bootF (List.replicate nc fc0) j)[k]? = some (if k < j then F0 else fc0)
 | 0, _, k, hk => by
  show (List.replicate nc fc0)[k]? = _
  rw [List.getElem?_replicate, if_pos hk, if_neg (by omega)]
 | j + 1, hj, k, hk => by
  have ih := bootF_at (nc := nc) j (by omega)
  have hl : (bootF (List.replicate nc fc0) j).length = nc := by rw [bootF_len, List.length_replicate]
  have hb : bootF (List.replicate nc fc0) (j + 1) = (bootF (List.replicate nc fc0) j).set j (facB (((bootF (List.replicate nc fc0) j)[j]?).getD fc0)) := rfl
  rw [hb]
  by_cases e : k = j
  ·subst e
   rw [List.getElem?_set_self (by omega), ih k hk, if_neg (by omega), if_pos (by omega)]; rfl
  ·rw [List.getElem?_set_ne (by omega), ih k hk]
   by_cases e2 : k < j
   ·rw [if_pos e2, if_pos (by omega)]
   ·rw [if_neg e2, if_neg (by omega)]
theorem prop_spec {B : List Nat} (hB : okT T B.length) : ∀ k, k ≤ 512 → KS (fun a => a < 10240 ∨ 10752 ≤ a) B (propF B k) ∧ ∀ i, i < k → rdN (propF B k) (10240 + i) 1 = 161
 | 0, _ => by rw [propF_0]; exact ⟨KS.refl _ _, fun i hi => absurd hi (by omega)⟩
 | k + 1, hk => by
  obtain ⟨h1, h2⟩ := prop_spec hB k (by omega)
  rw [propF_s]
  have hl : 10240 + k + 1 ≤ (propF B k).length := by rw [h1.1]; omega
  refine ⟨h1.trans ((KS.wr hl).mono fun a ha => by omega), fun i hi => ?_⟩
  by_cases e : i = k
  ·subst e; rw [rd_wr _ hl]
  ·rw [rd_apart _ hl (by omega)]; exact h2 i (by omega)
theorem leads_spec {B : List Nat} (hB : okT T B.length) : ∀ k, k ≤ 4 → KS (fun a => a < 1024 ∨ 1056 ≤ a) B (leadsF B k) ∧ ∀ i, i < k → rdN (leadsF B k) (1024 + 8 * i) 8 = 2 ^ 63 + 1280 + 64 * i
 | 0, _ => ⟨KS.refl _ _, fun i hi => absurd hi (by omega)⟩
 | k + 1, hk => by
  obtain ⟨h1, h2⟩ := leads_spec hB k (by omega)
  have hb : leadsF B (k + 1) = leadV (leadsF B k) k := rfl
  rw [hb]
  unfold leadV
  have hl : 1024 + 8 * k + 8 ≤ (leadsF B k).length := by rw [h1.1]; omega
  refine ⟨h1.trans ((KS.wr hl).mono fun a ha => by omega), fun i hi => ?_⟩
  by_cases e : i = k
  ·subst e
   rw [rd_wr _ hl, show (256 : Nat) ^ 8 = 2 ^ 64 by decide]; omega
  ·rw [rd_apart _ hl (by omega)]; exact h2 i (by omega)
theorem en_boot {w : SW} (hw : w.ok T nc) (hp : prB w.B) (h0 : ∀ k, k < nc → WtK w k false (fun _ => false)) : ∀ j, j ≤ nc → (bootE w j).ok T nc ∧ KS (fun a => a < 10752 ∨ 11264 ≤ a) w.B (bootE w j).B ∧
  (∀ k, k < nc → WtK (bootE w j) k (decide (k < j)) (fun _ => false)) ∧ ∀ k, k < j → prC ((bootE w j).at_ k).C
 | 0, _ => ⟨hw, KS.refl _ _, fun k hk => by rw [decide_eq_false (by omega)]; exact h0 k hk, fun k hk => absurd hk (by omega)⟩
 | j + 1, hj => by
  obtain ⟨h1, h2, h3, h4⟩ := en_boot hw hp h0 j (by omega)
  have hb : bootE w (j + 1) = (bootE w j).en j := rfl
  have hoff : ((bootE w j).at_ j).on = false := by rw [(h3 j (by omega)).1]; simp
  obtain ⟨e1, e2, e3, e4, e5⟩ := en_spec h1 (k := j) (by omega) (hp.ks h2 fun a h5 h6 => by omega) (fun h => by rw [hoff] at h; cases h)
  rw [hb]
  refine ⟨SW.en_ok h1 (by omega), h2.trans e1, fun k hk => ?_, fun k hk => ?_⟩
  ·by_cases e : k = j
   ·subst e
    rw [decide_eq_true (by omega)]; exact e4 _ _ (h3 k hk)
   ·have : decide (k < j + 1) = decide (k < j) := by rw [Bool.eq_iff_iff]; simp; omega
    rw [this]; exact e5 k _ _ hk e (h3 k hk)
  ·by_cases e : k = j
   ·subst e; exact e2
   ·rw [e3 k e]; exact h4 k (by omega)
theorem do_mapc {w : SW} (hl : okT T w.B.length) (hcl : w.cs.length = nc) (h8 : nc ≤ 8) {k : Nat} (hk : k < nc) : doV 64 w (cmMapc k) = (⟨wrN w.B (1792 + 8 * k) 8 (2 ^ 63 + k), w.cs⟩, 0) := by
 have hr := mwr_8 (B := w.B) (a := 1792) (s := 64) (o := 8 * k) (by omega) (by omega) (by omega) (by omega) (2 ^ 63 + k)
 unfold doV
 rw [if_neg (by rw [enc_mapc (by omega)]; simp)]
 rw [show (cmMapc (k : Int)).1 = 9 from rfl, if_neg (by decide), if_pos rfl]
 unfold mapcV cmMapc
 simp only
 rw [if_neg (by omega)]
 unfold setTg
 rw [if_neg (by omega), if_neg (by omega)]
 simp only [if_true, Int.toNat_natCast]
 rw [show ((k : Int) * 8) = ((8 * k : Nat) : Int) by omega, show (1792 : Int) = ((1792 : Nat) : Int) by rfl, show (64 : Int) = ((64 : Nat) : Int) by rfl, hr]
 simp
theorem mapc_spec {w : SW} (hw : w.ok T nc) (h8 : nc ≤ 8) : ∀ k, k ≤ nc → ∃ B, mapcF (⟨w, false, 0⟩, 0) k = (⟨⟨B, w.cs⟩, false, k⟩, k) ∧ byOk B ∧ KS (fun a => (1024 ≤ a ∧ a < 1792) ∨ 1856 ≤ a) w.B B ∧ ∀ i, i < k → rdN B (1792 + 8 * i) 8 = 2 ^ 63 + i
 | 0, _ => ⟨w.B, rfl, hw.2.1, KS.refl _ _, fun i hi => absurd hi (by omega)⟩
 | k + 1, hk => by
  obtain ⟨B, h1, h2, h3, h4⟩ := mapc_spec hw h8 k (by omega)
  have hB : okT T B.length := by rw [h3.1]; exact hw.1
  have hm : mapcF (⟨w, false, 0⟩, 0) (k + 1) = ((cmdV (mapcF (⟨w, false, 0⟩, 0) k).2 (mapcF (⟨w, false, 0⟩, 0) k).1 (cmMapc k)).1, (cmdV (mapcF (⟨w, false, 0⟩, 0) k).2 (mapcF (⟨w, false, 0⟩, 0) k).1 (cmMapc k)).2.1) := rfl
  rw [hm, h1]
  simp only
  have ks := stW_ks hB (j := k) (by omega) (encV (cmMapc k)).1 (k := 4) (Nat.le_refl _)
  have hB2 : okT T (stW B k (encV (cmMapc k)).1 4).length := by rw [ks.1]; exact hB
  have hd := do_mapc (w := ⟨stW B k (encV (cmMapc k)).1 4, w.cs⟩) (T := T) hB2 hw.2.2.1 h8 (k := k) (by omega)
  have hr := cmd_run (x := ⟨⟨B, w.cs⟩, false, k⟩) (T := T) hB (j := k) (by omega) rfl rfl (c := cmMapc k) (enc_mapc (k := k) (by omega)) (by rw [hd])
  rw [hr]
  simp only
  rw [hd]
  have hl : 1792 + 8 * k + 8 ≤ (stW B k (encV (cmMapc k)).1 4).length := by omega
  have kw : KS (fun a => (1024 ≤ a ∧ a < 1792) ∨ 1856 ≤ a) (stW B k (encV (cmMapc k)).1 4) (wrN (stW B k (encV (cmMapc k)).1 4) (1792 + 8 * k) 8 (2 ^ 63 + k)) := (KS.wr hl).mono fun a ha => by omega
  refine ⟨_, by rw [Nat.mod_eq_of_lt (show k + 1 < 32 by omega)], wrN_ok _ _ _ (stW_ok h2), (h3.trans (ks.mono fun a ha => by omega)).trans kw, fun i hi => ?_⟩
  by_cases e : i = k
  ·subst e
   rw [rd_wr _ hl, show (256 : Nat) ^ 8 = 2 ^ 64 by decide]; omega
  ·rw [rd_apart _ hl (by omega), ks.rd fun a h5 h6 => by omega]; exact h4 i (by omega)
theorem rep_get {α : Type} {n k : Nat} (a d : α) (h : k < n) : (List.replicate n a).getD k d = a := by rw [List.getD_eq_getElem?_getD, List.getElem?_replicate, if_pos h]; rfl
theorem new_rel {D : DS} {c s z : Nat} (hD : newD D c s) (hc1 : 1 ≤ c) (hc8 : c ≤ 8) (hs : s ≤ 64) (hz1 : 11264 ≤ z) (hz2 : z ≤ 131072) :
  Rel z s c (bootX ⟨List.replicate z 0, List.replicate c pcN⟩ (List.replicate c fc0) ⟨[], []⟩ D c s) (rx0 s c) (fun _ => false) ((List.replicate z 0).drop 11264) := by
 have hB0 : okT z (List.replicate z 0).length := ⟨List.length_replicate, hz1, by omega⟩
 have hb0 : byOk (List.replicate z 0) := fun b hb => by have := List.eq_of_mem_replicate hb; omega
 have hZ : ∀ a w, rdN (List.replicate z 0) a w = 0 := fun a w => rd_zero z a w
 have hat : ∀ k, k < c → (List.replicate c pcN).getD k pc0 = pcN := fun k hk => rep_get _ _ hk
 generalize hBZ : List.replicate z 0 = BZ at hB0 hb0 hZ ⊢
 obtain ⟨p1, p2⟩ := prop_spec hB0 512 (Nat.le_refl _)
 obtain ⟨p3, p4⟩ := propF_ok hB0 hb0 512 (Nat.le_refl _)
 generalize hBP : propF BZ 512 = BP at p1 p2 p3 p4
 have hw1 : (⟨BP, List.replicate c pcN⟩ : SW).ok z c := ⟨p3, p4, pcs0 c hc8⟩
 have h0 : ∀ k, k < c → WtK ⟨BP, List.replicate c pcN⟩ k false (fun _ => false) := fun k hk => by
  have ha : (⟨BP, List.replicate c pcN⟩ : SW).at_ k = pcN := hat k hk
  refine ⟨by rw [ha]; rfl, fun i hi => ?_⟩
  rw [ha]
  refine ⟨by unfold hasS wAt pcN; simp, ?_⟩
  unfold bitP byP
  rw [p1.rd fun a h5 h6 => by omega, hZ]
  simp
 obtain ⟨b1, b2, b3, b4⟩ := en_boot hw1 p2 h0 c (Nat.le_refl _)
 generalize hWE : bootE ⟨BP, List.replicate c pcN⟩ c = WE at b1 b2 b3 b4
 obtain ⟨l1, l2⟩ := leads_spec b1.1 4 (Nat.le_refl _)
 obtain ⟨l3, l4⟩ := leadsF_ok b1.1 b1.2.1 4 (Nat.le_refl _)
 generalize hBL : leadsF WE.B 4 = BL at l1 l2 l3 l4
 have hw2 : (⟨BL, WE.cs⟩ : SW).ok z c := ⟨l3, l4, b1.2.2⟩
 obtain ⟨BM, m1, m2, m3, m4⟩ := mapc_spec hw2 hc8 c (Nat.le_refl _)
 have hbx : bootX ⟨BZ, List.replicate c pcN⟩ (List.replicate c fc0) ⟨[], []⟩ D c s = ⟨⟨⟨BM, WE.cs⟩, false, c⟩, c, bootD D s, ⟨[], []⟩, bootF (List.replicate c fc0) c⟩ := by
  unfold bootX
  simp only [hBP, hWE, hBL, m1]
 rw [hbx]
 have kAll : KS (fun a => (1280 ≤ a ∧ a < 1792) ∨ (1856 ≤ a ∧ a < 10240) ∨ 11264 ≤ a) BZ BM :=
  ((p1.mono fun a ha => by omega).trans (b2.mono fun a ha => by omega)).trans ((l1.mono fun a ha => by omega).trans (m3.mono fun a ha => by omega))
 have kPend : KS (fun a => 10752 ≤ a ∧ a < 11264) WE.B BM := (l1.mono fun a ha => by omega).trans (m3.mono fun a ha => by omega)
 have hBM : okT z BM.length := by rw [m3.1]; exact l3
 have hasl : ∀ k, k < c → (List.replicate c false).getD k false = false := fun k hk => rep_get _ _ hk
 refine ⟨rx0_ok hs hc8, hc1, rfl, rfl, by simp only; omega, ⟨⟨hBM, m2, b1.2.2⟩, hc8, ⟨hBM, fun i hi => ?_, fun k hk => ?_, m4, fun d hd => ?_, fun d e hd he hm => absurd hm (by simp), fun d e hd he _ => ?_⟩, fun k hk => ?_, fun k hk => b4 k hk, kAll.drop_ fun i hi => by omega⟩,
  boot_DR hD hc1 hs, by simp only; rw [bootF_len, List.length_replicate], fun k hk => by simp only; rw [bootF_at c (Nat.le_refl _) k hk, if_pos hk], sr_new, fun n hn => ⟨0, ?_, by omega⟩, fun n hn hw => ?_⟩
 ·have k2 : KS (fun a => 10240 ≤ a ∧ a < 10752) BP BM := (b2.mono fun a ha => by omega).trans ((l1.mono fun a ha => by omega).trans (m3.mono fun a ha => by omega))
  simp only
  rw [k2.rd fun a h5 h6 => by omega]; exact p2 i hi
 ·have k2 : KS (fun a => 1024 ≤ a ∧ a < 1056) BL BM := m3.mono fun a ha => by omega
  simp only
  rw [k2.rd fun a h5 h6 => by omega]; exact l2 k hk
 ·simp only
  rw [kAll.rd fun a h5 h6 => by omega, hZ]; rfl
 ·unfold evO
  have hf : fnd (rx0 s c).de (rx0 s c).ev (d : Int) (e : Int) = none := by
   refine fnd_none fun hm j hj => ?_
   rw [show (rx0 s c).de = List.replicate 512 (-1) from rfl, rep_get _ _ hj, show ((-1 : Int) == (d : Int)) = false from beq_eq_false_iff_ne.2 (by omega), Bool.false_and]
  rw [hf]; rfl
 ·have hon : onF (rx0 s c) k = true := by unfold onF; rw [show (rx0 s c).asl = List.replicate c false from rfl, hasl k hk]; rfl
  rw [hon]
  have h5 := b3 k hk
  rw [decide_eq_true hk] at h5
  have h6 := WtK.congr (w' := ⟨BM, WE.cs⟩) h5 rfl rfl kPend (by omega)
  refine ⟨h6.1, fun i hi => ?_⟩
  have h7 := h6.2 i hi
  have h8 : (rx0 s c).msB k i = false := by
   rw [Rx.ms, show (rx0 s c).de = List.replicate 512 (-1) from rfl, rep_get _ _ hi]; rfl
  rw [h8]; exact h7
 ·rw [show (rx0 s c).core = List.replicate 512 0 from rfl, rep_get _ _ hn]; rfl
 ·rw [show (rx0 s c).wait = List.replicate 512 false from rfl, rep_get _ _ hn] at hw; cases hw
end Go.Proofs.YtakkogdmlbkdaaaGreatDoor.Sl.It
namespace Go.Proofs.YtakkogdmlbkdaaaGreatDoor.Sl.It
attribute [local irreducible] CW Tri OW
attribute [local irreducible] invK enK enV waitL
variable {T nc ns : Nat}
abbrev At := Int × Int × Int × Int × Bool
@[reducible] def atC (a : At) : List Value := [.int .i64 a.1, .int .i64 a.2.1, .int .i64 a.2.2.1, .int .i64 a.2.2.2.1, .bool a.2.2.2.2]
end Go.Proofs.YtakkogdmlbkdaaaGreatDoor.Sl.It
namespace Go.Proofs.YtakkogdmlbkdaaaGreatDoor.Sl.It
attribute [local irreducible] CW Tri OW
@[reducible] def pk13 : List (Nat × Plan) := [(1, [(0, 0, []), (2, 0, []), (3, 0, []), (4, 0, []), (5, 0, []), (6, 0, []), (1, 1, [5]), (7, 0, []), (8, 0, []), (9, 0, []), (11, 0, []), (12, 0, []), (13, 0, []), (14, 0, []), (10, 1, [5, 14]), (15, 1, [5, 14]), (16, 0, []), (17, 0, []), (18, 0, []), (19, 0, []), (20, 0, []), (21, 0, []), (22, 0, []), (23, 0, []), (25, 0, []), (26, 0, []), (27, 0, []), (24, 1, [5, 14, 23, 27]), (28, 1, [5, 14, 23, 27]), (29, 0, []), (30, 0, []), (31, 0, []), (32, 0, []), (33, 0, []), (34, 0, []), (35, 0, []), (36, 0, []), (37, 0, []), (38, 0, []), (39, 0, []), (40, 0, []), (41, 0, []), (42, 0, []), (43, 0, []), (45, 0, []), (46, 0, []), (47, 0, []), (48, 0, []), (44, 1, [5, 14, 23, 27, 33, 35, 37, 48]), (49, 1, [5, 14, 23, 27, 33, 35, 37, 48]), (50, 1, [5, 14, 23, 27, 33, 35, 37, 48]), (51, 0, []), (52, 0, [])]), (8, [(0, 0, []), (1, 0, []), (2, 0, []), (3, 0, []), (4, 0, []), (5, 0, []), (6, 0, []), (7, 0, []), (8, 0, []), (9, 0, []), (10, 0, []), (11, 0, []), (12, 0, []), (13, 0, []), (14, 0, []), (15, 0, []), (16, 0, []), (17, 0, []), (18, 0, []), (19, 0, []), (20, 0, []), (21, 0, []), (22, 0, []), (23, 0, []), (24, 0, []), (25, 0, []), (26, 0, []), (27, 0, []), (28, 0, []), (29, 0, []), (30, 0, []), (31, 0, []), (32, 0, []), (33, 0, []), (34, 0, []), (35, 0, []), (36, 0, []), (37, 0, []), (38, 0, []), (39, 0, []), (40, 0, []), (41, 0, []), (42, 0, []), (43, 0, []), (44, 0, []), (45, 0, []), (46, 0, []), (47, 0, []), (48, 0, [])])]
attribute [local irreducible] invK enK enV waitL fnd frI allD
variable {T nc ns : Nat}
theorem hcores41 (β : Base) (h : Nat) (x : Hx) : Tri Tryz.prog β 41 [.pointer (some ⟨h, 0, none⟩)] [hoA h nc x] (fun v L => v = .int .i64 nc ∧ L = [hoA h nc x]) := by
 refine Tri.ho (enters_of Tryz.func41 (by kernel_rfl) rfl) fun a ha => ?_
 refine Tri.intro tt_ok Tryz.func41 rfl rfl Tryz.ntmps41 rfl fun F => ?_
 unfold hL hRow
 refine G tt_ok [] ?_
 exact CW.ret (fin_ret rfl (A := [hoA h nc x]) (ho_pick ha (by unfold hL hRow; exact pk_)) ⟨rfl, rfl⟩)
theorem third {l : List (Int × Int)} {n : Nat} (h : n = (evF l).length) : ((n : Int).tdiv 3) = (l.length : Int) := by
 rw [h, evF_len, Int.tdiv_eq_ediv_of_nonneg (by omega)]; omega
theorem ev_cases {x : Hx} {R : Rx} {dm : Nat → Bool} {Z : List Nat} (hr : Rel T ns nc x R dm Z) {N : Int} (h0 : -9223372036854775808 ≤ N) (h1 : N < 9223372036854775808) :
  (∃ n : Nat, n < 512 ∧ N = 8192 + (n : Int) ∧ IntKind.i64.wrap (N - 8192) = (n : Int) ∧ 0 ≤ R.de.getD n 0 ∧ x.S.evT (IntKind.i64.wrap (N - 8192)) = ((R.de.getD n 0, R.ev.getD n 0), 0)) ∨
  (x.S.evT (IntKind.i64.wrap (N - 8192)) = ((0, 0), 250) ∧ (N < 8192 ∨ (8192 ≤ N ∧ 512 ≤ IntKind.i64.wrap (N - 8192)) ∨ ∃ n : Nat, n < 512 ∧ N = 8192 + (n : Int) ∧ IntKind.i64.wrap (N - 8192) = (n : Int) ∧ R.de.getD n 0 < 0)) := by
 have he := hr.sr.ev_ (IntKind.i64.wrap (N - 8192))
 by_cases h2 : N < 8192
 ·refine .inr ⟨?_, .inl h2⟩
  rw [he, if_neg]
  rintro ⟨h3, h4, _⟩
  rw [wrap_i64] at h3 h4
  split at h3 <;> omega
 ·have hw : IntKind.i64.wrap (N - 8192) = N - 8192 := wrap_id (by omega) (by omega)
  by_cases h3 : N - 8192 < 512
  ·obtain ⟨n, hn⟩ : ∃ n : Nat, N - 8192 = (n : Int) := ⟨(N - 8192).toNat, by omega⟩
   rw [hw] at he ⊢
   rw [hn] at he ⊢
   rw [Int.toNat_natCast] at he
   by_cases h4 : 0 ≤ R.de.getD n 0
   ·exact .inl ⟨n, by omega, by omega, rfl, h4, by rw [he, if_pos ⟨by omega, by omega, h4⟩]⟩
   ·exact .inr ⟨by rw [he, if_neg (by omega)], .inr (.inr ⟨n, by omega, by omega, rfl, by omega⟩)⟩
  ·exact .inr ⟨by rw [he, if_neg (by omega)], .inr (.inl ⟨by omega, by omega⟩)⟩
set_option maxHeartbeats 16000000 in
theorem alike13 (β : Base) (h r : Nat) {x : Hx} {R : Rx} {dm : Nat → Bool} {Z : List Nat} (hr : Rel T ns nc x R dm Z) (a : At) (ha0 : -9223372036854775808 ≤ a.2.1) (ha : a.2.1 < 9223372036854775808) :
  Tri Tryz.prog β 13 [.pointer (some ⟨h, 0, none⟩), .pointer (some ⟨r, 0, none⟩), .agg (atC a).toArray] [rfA r ns nc R, hoA h nc x] (fun v L => v = .bool true ∧ L = [hoA h nc x, rfA r ns nc R]) := by
 obtain ⟨o, N, d, e, is⟩ := a
 simp only at ha0 ha
 have hx := hr.hx
 have k := hr.rx
 have c41 := hcores41 (nc := nc) β h x
 have c42 := many42 β h x hx
 have c32 := hawake32 (nc := nc) β h x N
 rw [hr.awake N] at c32
 have c46 := list46 β h x hx
 rw [hr.sr.all] at c46
 have c22 := hwaits22 β h x hx d e
 rw [hr.wtv d e] at c22
 have c24 := hevent24 β h x hx N
 have hal : (allD R.de R.ev 32).length = (evF x.S.ns).length := by rw [hr.sr.all]
 have hal2 := allD_len R.de R.ev 32
 have h3 := third hal
 have hel := evF_len x.S.ns
 refine Tri.rf (enters_of Tryz.func13 (by kernel_rfl) rfl) fun f => ?_
 have c43 := rall43 β f.s f.dq f.dc f.eq f.ec k.de k.ev
 have c44 := rthere44 (ns := ns) (nc := nc) β r f k.core k.wait N
 have h5 := rd_as (a := f) (ns := ns) (nc := nc) k.core k.wait
 have c45 := fun q1 q2 c1 c2 => same45 β q1 q2 c1 c2 (zs := allD R.de R.ev 32) (by omega)
 refine Tri.intro tt_ok Tryz.func13 rfl rfl Tryz.ntmps13 rfl fun F => ?_
 unfold sdL at c43
 unfold rfL
 generalize allD R.de R.ev 32 = zs at c43 c45 c46 hal hal2 h3
 (refine G tt_ok pk13 ?_; repeat (refine G1 tt_ok pk13 ?_; intro _))
 (refine SQ.ldA tt_ok rfl rfl (by repeat (first | exact .h | exact .q | apply At.t)) (h5) ?_)
 refine G tt_ok pk13 ?_
 (refine ka rfl rfl (c41) ?_; rintro _ _ ⟨rfl, rfl⟩; refine ⟨(by repeat (first | exact trivial | refine ⟨trivial, ?_⟩ | refine ⟨wk (by repeat (first | exact .h | exact .q | apply At.t)) h5, ?_⟩ | refine ⟨wk (by repeat (first | exact .h | exact .q | apply At.t)) (by rfl), ?_⟩)), ?_⟩)
 refine G tt_ok pk13 ?_
 rw [show ((nc : Int) != (nc : Int)) = false by simp]
 refine G tt_ok pk13 ?_
 (refine ka rfl rfl (c42) ?_; rintro _ _ ⟨rfl, rfl⟩; refine ⟨(by repeat (first | exact trivial | refine ⟨trivial, ?_⟩ | refine ⟨wk (by repeat (first | exact .h | exact .q | apply At.t)) h5, ?_⟩ | refine ⟨wk (by repeat (first | exact .h | exact .q | apply At.t)) (by rfl), ?_⟩)), ?_⟩)
 refine G tt_ok pk13 ?_
 (refine ka rfl rfl (c43) ?_; rintro _ _ ⟨q1, s1, rfl, rfl⟩; refine ⟨(by repeat (first | exact trivial | refine ⟨trivial, ?_⟩ | refine ⟨wk (by repeat (first | exact .h | exact .q | apply At.t)) h5, ?_⟩ | refine ⟨wk (by repeat (first | exact .h | exact .q | apply At.t)) (by rfl), ?_⟩)), ?_⟩)
 refine G tt_ok pk13 ?_
 rw [show ((x.S.ns.length : Int) != IntKind.i64.wrap ((zs.length : Int).tdiv 3)) = false by rw [h3, wrap_id (by omega) (by omega)]; simp]
 refine G tt_ok pk13 ?_
 (refine ka rfl rfl (c32) ?_; rintro _ _ ⟨rfl, rfl⟩; refine ⟨(by repeat (first | exact trivial | refine ⟨trivial, ?_⟩ | refine ⟨wk (by repeat (first | exact .h | exact .q | apply At.t)) h5, ?_⟩ | refine ⟨wk (by repeat (first | exact .h | exact .q | apply At.t)) (by rfl), ?_⟩)), ?_⟩)
 refine G tt_ok pk13 ?_
 (refine ka rfl rfl (c44) ?_; rintro _ _ ⟨rfl, rfl⟩; refine ⟨(by repeat (first | exact trivial | refine ⟨trivial, ?_⟩ | refine ⟨wk (by repeat (first | exact .h | exact .q | apply At.t)) h5, ?_⟩ | refine ⟨wk (by repeat (first | exact .h | exact .q | apply At.t)) (by rfl), ?_⟩)), ?_⟩)
 refine G tt_ok pk13 ?_
 have hfin : ∀ b : Bool, (!(b == b)) = false := fun b => by cases b <;> rfl
 obtain ⟨y1, y2, hy⟩ : ∃ y1 y2, R.wtsV d e = ibV (y1, y2) := by
  unfold Rx.wtsV
  cases R.wts d e with
  | none => exact ⟨_, _, rfl⟩
  | some n => exact ⟨_, _, rfl⟩
 have c47 := Tri.ent (rf_shut (a := f)) (rwaits47 β r k d e)
 unfold rfL at c47
 rw [hy] at c22 c47
 have hev := ev_cases hr ha0 ha
 generalize x.S.evT (IntKind.i64.wrap (N - 8192)) = E at c24 hev
 obtain ⟨⟨e1, e2⟩, e3⟩ := E
 rcases Bool.eq_false_or_eq_true (rightV nc N) with hri | hri
 obtain ⟨n, hNn⟩ : ∃ n : Nat, N = n := ⟨N.toNat, by simp [rightV] at hri; omega⟩
 have hlt : n < nc := by simp [rightV] at hri; omega
 have hkl : n < R.asl.length := by rw [k.asl]; exact hlt
 rw [hri, show N.toNat = n by omega]
 simp only [Bool.true_and]
 refine G tt_ok pk13 ?_
 (refine SQ.ldA tt_ok rfl rfl (by repeat (first | exact .h | exact .q | apply At.t)) (h5) ?_)
 refine G tt_ok pk13 ?_
 refine ir_ tt_ok rfl rfl (n) (hNn) rfl ?_ (hlt := hlt)
 refine G tt_ok pk13 ?_
 refine lr_ tt_ok rfl rfl (rd_b hkl) ?_
 refine G tt_ok pk13 ?_
 rw [hfin]
 refine G tt_ok pk13 ?_
 (refine ka rfl rfl (c46) ?_; rintro _ _ ⟨q2, s2, rfl, rfl⟩; refine ⟨(by repeat (first | exact trivial | refine ⟨trivial, ?_⟩ | refine ⟨wk (by repeat (first | exact .h | exact .q | apply At.t)) h5, ?_⟩ | refine ⟨rr_ (rd_b hkl), ?_⟩ | refine ⟨wk (by repeat (first | exact .h | exact .q | apply At.t)) (by rfl), ?_⟩)), ?_⟩)
 refine G tt_ok pk13 ?_
 (refine ka rfl rfl (c43) ?_; rintro _ _ ⟨q3, s3, rfl, rfl⟩; refine ⟨(by repeat (first | exact trivial | refine ⟨trivial, ?_⟩ | refine ⟨wk (by repeat (first | exact .h | exact .q | apply At.t)) h5, ?_⟩ | refine ⟨rr_ (rd_b hkl), ?_⟩ | refine ⟨wk (by repeat (first | exact .h | exact .q | apply At.t)) (by rfl), ?_⟩)), ?_⟩)
 refine G tt_ok pk13 ?_
 (refine ka rfl rfl (c45 q2 q3 s2 s3) ?_; rintro _ _ ⟨rfl, rfl⟩; refine ⟨(by repeat (first | exact trivial | refine ⟨trivial, ?_⟩ | refine ⟨wk (by repeat (first | exact .h | exact .q | apply At.t)) h5, ?_⟩ | refine ⟨rr_ (rd_b hkl), ?_⟩ | refine ⟨wk (by repeat (first | exact .h | exact .q | apply At.t)) (by rfl), ?_⟩)), ?_⟩)
 rotate_left
 rw [hri]
 simp only [Bool.false_and]
 refine G tt_ok pk13 ?_
 rw [hfin]
 refine G tt_ok pk13 ?_
 (refine ka rfl rfl (c46) ?_; rintro _ _ ⟨q2, s2, rfl, rfl⟩; refine ⟨(by repeat (first | exact trivial | refine ⟨trivial, ?_⟩ | refine ⟨wk (by repeat (first | exact .h | exact .q | apply At.t)) h5, ?_⟩ | refine ⟨wk (by repeat (first | exact .h | exact .q | apply At.t)) (by rfl), ?_⟩)), ?_⟩)
 refine G tt_ok pk13 ?_
 (refine ka rfl rfl (c43) ?_; rintro _ _ ⟨q3, s3, rfl, rfl⟩; refine ⟨(by repeat (first | exact trivial | refine ⟨trivial, ?_⟩ | refine ⟨wk (by repeat (first | exact .h | exact .q | apply At.t)) h5, ?_⟩ | refine ⟨wk (by repeat (first | exact .h | exact .q | apply At.t)) (by rfl), ?_⟩)), ?_⟩)
 refine G tt_ok pk13 ?_
 (refine ka rfl rfl (c45 q2 q3 s2 s3) ?_; rintro _ _ ⟨rfl, rfl⟩; refine ⟨(by repeat (first | exact trivial | refine ⟨trivial, ?_⟩ | refine ⟨wk (by repeat (first | exact .h | exact .q | apply At.t)) h5, ?_⟩ | refine ⟨wk (by repeat (first | exact .h | exact .q | apply At.t)) (by rfl), ?_⟩)), ?_⟩)
 all_goals
  refine G tt_ok pk13 ?_
  refine ke rfl rfl (c22) ?_
  refine G tt_ok pk13 ?_
  refine ke rfl rfl (c47) ?_
  refine G tt_ok pk13 ?_
  refine ke rfl rfl (c24) ?_
  (refine G tt_ok pk13 ?_; repeat (refine G1 tt_ok pk13 ?_; intro _))
  rcases hev with ⟨m, hm, hN, hw, hde, he⟩ | ⟨he, hc | ⟨hc, hc2⟩ | ⟨m, hm, hN, hw, hde⟩⟩
  ·cases he
   have r1 := rd3 (iS_at (l := R.de) (k := m) (by rw [k.de]; exact hm))
   have r2 := rd3 (iS_at (l := R.ev) (k := m) (by rw [k.ev]; exact hm))
   rw [decide_eq_true (show N ≥ 8192 by omega)]
   refine G tt_ok pk13 ?_
   rw [hw, decide_eq_true (show (m : Int) < 512 by omega)]
   refine G tt_ok pk13 ?_
   refine SQ.ent _ (rm_ (A := rfA r ns nc R) (Ent.refl _)) ?_
   unfold rfA
   refine SQ.open_ fun g => ?_
   unfold rfL
   refine G tt_ok pk13 ?_
   refine ir_ tt_ok rfl rfl (m) (rfl) rfl ?_ (hlt := hm)
   refine G tt_ok pk13 ?_
   refine lr_ tt_ok rfl rfl (r1) ?_
   refine G tt_ok pk13 ?_
   rw [decide_eq_true (show R.de.getD m 0 ≥ 0 by omega)]
   refine G tt_ok pk13 ?_
   rw [show (y1 == y1) = true by simp]
   refine G tt_ok pk13 ?_
   rw [show (y2 == y2) = true by simp]
   refine G tt_ok pk13 ?_
   refine ir_ tt_ok rfl rfl (m) (rfl) rfl ?_ (hlt := hm)
   refine G tt_ok pk13 ?_
   refine lr_ tt_ok rfl rfl (r1) ?_
   refine G tt_ok pk13 ?_
   rw [show (R.de.getD m 0 == R.de.getD m 0) = true by simp]
   refine G tt_ok pk13 ?_
   refine ir_ tt_ok rfl rfl (m) (rfl) rfl ?_ (hlt := hm)
   refine G tt_ok pk13 ?_
   refine lr_ tt_ok rfl rfl (r2) ?_
   refine G tt_ok pk13 ?_
   rw [show (R.ev.getD m 0 == R.ev.getD m 0) = true by simp]
   refine G tt_ok pk13 ?_
   refine CW.ret (fin_ret rfl (A := [hoA h nc x, rfA r ns nc R]) ?_ ⟨rfl, rfl⟩)
   exact (show Ent _ (rfL r g ns nc R ++ [hoA h nc x]) from by unfold rfL; exact pk_).trans ((Ent.append rf_shut (Ent.refl _)).trans pk_)
  ·cases he
   rw [decide_eq_false (show ¬ N ≥ 8192 by omega)]
   refine G tt_ok pk13 ?_
   rw [show (y1 == y1) = true by simp]
   refine G tt_ok pk13 ?_
   rw [show (y2 == y2) = true by simp]
   refine G tt_ok pk13 ?_
   exact CW.ret (fin_ret rfl (A := [hoA h nc x, rfA r ns nc R]) pk_ ⟨rfl, rfl⟩)
  ·cases he
   rw [decide_eq_true (show N ≥ 8192 by omega)]
   refine G tt_ok pk13 ?_
   rw [decide_eq_false (show ¬ IntKind.i64.wrap (N - 8192) < 512 by omega)]
   refine G tt_ok pk13 ?_
   rw [show (y1 == y1) = true by simp]
   refine G tt_ok pk13 ?_
   rw [show (y2 == y2) = true by simp]
   refine G tt_ok pk13 ?_
   exact CW.ret (fin_ret rfl (A := [hoA h nc x, rfA r ns nc R]) pk_ ⟨rfl, rfl⟩)
  ·cases he
   have r1 := rd3 (iS_at (l := R.de) (k := m) (by rw [k.de]; exact hm))
   rw [decide_eq_true (show N ≥ 8192 by omega)]
   refine G tt_ok pk13 ?_
   rw [hw, decide_eq_true (show (m : Int) < 512 by omega)]
   refine G tt_ok pk13 ?_
   refine SQ.ent _ (rm_ (A := rfA r ns nc R) (Ent.refl _)) ?_
   unfold rfA
   refine SQ.open_ fun g => ?_
   unfold rfL
   refine G tt_ok pk13 ?_
   refine ir_ tt_ok rfl rfl (m) (rfl) rfl ?_ (hlt := hm)
   refine G tt_ok pk13 ?_
   refine lr_ tt_ok rfl rfl (r1) ?_
   refine G tt_ok pk13 ?_
   rw [decide_eq_false (show ¬ R.de.getD m 0 ≥ 0 by omega)]
   refine G tt_ok pk13 ?_
   rw [show (y1 == y1) = true by simp]
   refine G tt_ok pk13 ?_
   rw [show (y2 == y2) = true by simp]
   refine G tt_ok pk13 ?_
   refine CW.ret (fin_ret rfl (A := [hoA h nc x, rfA r ns nc R]) ?_ ⟨rfl, rfl⟩)
   exact (show Ent _ (rfL r g ns nc R ++ [hoA h nc x]) from by unfold rfL; exact pk_).trans ((Ent.append rf_shut (Ent.refl _)).trans pk_)
end Go.Proofs.YtakkogdmlbkdaaaGreatDoor.Sl.It
namespace Go.Proofs.YtakkogdmlbkdaaaGreatDoor.Sl.It
attribute [local irreducible] CW Tri OW
@[reducible] def pk14 : List (Nat × Plan) := []
attribute [local irreducible] invK enK enV waitL fnd frI allD
variable {T nc ns : Nat}
theorem hnew_r (β : Base) {c s z : Nat} (hc1 : 1 ≤ c) (hc8 : c ≤ 8) (hs : s ≤ 64) (hz1 : 11264 ≤ z) (hz2 : z ≤ 131072) : Tri Tryz.prog β 11 [.int .i64 c, .int .i64 s, .int .i64 z] []
  (fun v L => ∃ h x, Rel z s c x (rx0 s c) (fun _ => false) ((List.replicate z 0).drop 11264) ∧ v = .tuple #[.pointer (some ⟨h, 0, none⟩), .int .i64 0] ∧ L = [hoA h c x]) := by
 refine Tri.mono (hnew11 β hc1 hc8 hs hz1 hz2) ?_
 rintro v L ⟨h, D, hD, rfl, rfl⟩
 exact ⟨h, _, new_rel hD hc1 hc8 hs hz1 hz2, rfl, rfl⟩
def atOk (a : At) : Prop := -9223372036854775808 ≤ a.2.1 ∧ a.2.1 < 9223372036854775808
theorem Rel.copyH {x : Hx} {R : Rx} {dm : Nat → Bool} {Z : List Nat} (hr : Rel T ns nc x R dm Z) (β : Base) (h : Nat) : Tri Tryz.prog β 31 [.pointer (some ⟨h, 0, none⟩)] [hoA h nc x] (fun v L => ∃ h' x', Rel T ns nc x' R dm Z ∧ v = .pointer (some ⟨h', 0, none⟩) ∧ L = [hoA h nc x, hoA h' nc x']) := by
 refine Tri.mono (hcopy31 β h x hr.hx) ?_
 rintro v L ⟨h', E, rfl, hl, rfl⟩
 exact ⟨h', _, hr.copy hl, rfl, rfl⟩
set_option maxHeartbeats 8000000 in
theorem drained14 (β : Base) (hG : TabOk β) (h r : Nat) {x : Hx} {R : Rx} {dm : Nat → Bool} {Z : List Nat} (hr : Rel T ns nc x R dm Z) :
  Tri Tryz.prog β 14 [.pointer (some ⟨h, 0, none⟩), .pointer (some ⟨r, 0, none⟩)] [hoA h nc x, rfA r ns nc R] (fun v L => v = .bool true ∧ L = [hoA h nc x, rfA r ns nc R]) := by
 have hn8 := hr.wr.n8
 have c1 := hr.copyH β h
 have c2 := rcopy48 β r hr.rx
 refine Tri.intro tt_ok Tryz.func14 rfl rfl Tryz.ntmps14 rfl fun F => ?_
 refine G tt_ok pk14 ?_
 (refine ka rfl rfl (c1) ?_; rintro _ _ ⟨g, x', hr', rfl, rfl⟩; refine w_ ?_)
 refine G tt_ok pk14 ?_
 (refine ka rfl rfl (c2) ?_; rintro _ _ ⟨s, rfl, rfl⟩; refine w_ ?_)
 refine G tt_ok pk14 ?_
 refine CW.loop (α := Nat × Hx × Rx) (fun y => y.1 ≤ nc ∧ Rel T ns nc y.2.1 y.2.2 dm Z) (fun y => [(7, .int .i64 y.1), (5, .pointer (some ⟨g, 0, none⟩)), (6, .pointer (some ⟨s, 0, none⟩))])
  (fun y => [rfA s ns nc y.2.2, hoA g nc y.2.1, hoA h nc x, rfA r ns nc R]) (fun y => nc - y.1) (0, x', R) ⟨Nat.zero_le _, hr'⟩ ⟨rfl, rfl, rfl, trivial⟩ pk_ ?_
 rintro ⟨k, y, Q⟩ ⟨hk, hq⟩
 simp only at hk hq ⊢
 have k9 := hq.rx
 unfold rfA
 refine CW.open_ fun f => ?_
 have h5 := rd_as (a := f) (ns := ns) (nc := nc) k9.core k9.wait
 unfold rfL
 refine G tt_ok pk14 ?_
 (refine SQ.ldA tt_ok rfl rfl (by repeat (first | exact .h | exact .q | apply At.t)) (h5) ?_)
 refine G tt_ok pk14 ?_
 by_cases hlt : k < nc
 ·rw [decide_eq_true (show (k : Int) < (nc : Int) by omega)]
  have hwr : IntKind.i64.wrap ((k : Int) + 1) = ((k + 1 : Nat) : Int) := by rw [wrap_id (by omega) (by omega)]; simp
  refine G tt_ok pk14 ?_
  refine CW.loop (α := Nat × Hx × Rx) (fun y => y.1 ≤ 600 ∧ Rel T ns nc y.2.1 y.2.2 dm Z) (fun y => [(8, .int .i64 y.1), (7, .int .i64 k), (5, .pointer (some ⟨g, 0, none⟩)), (6, .pointer (some ⟨s, 0, none⟩))])
   (fun y => [rfA s ns nc y.2.2, hoA g nc y.2.1, hoA h nc x, rfA r ns nc R]) (fun y => 600 - y.1) (0, y, Q) ⟨Nat.zero_le _, hq⟩ ⟨rfl, rfl, rfl, rfl, trivial⟩ ?_ ?_
  ·exact (show Ent _ (rfL s f ns nc Q ++ [hoA g nc y, hoA h nc x, rfA r ns nc R]) from by unfold rfL rfA; exact pk_).trans (Ent.append rf_shut (Ent.refl _))
  rintro ⟨i, z, S⟩ ⟨hi, hz⟩
  simp only at hi hz ⊢
  generalize hzi : (i : Int) = ii
  refine G tt_ok pk14 ?_
  by_cases hlt2 : i < 600
  ·rw [decide_eq_true (show ii < 600 by omega)]
   have hwi : IntKind.i64.wrap (ii + 1) = ((i + 1 : Nat) : Int) := by rw [wrap_id (by omega) (by omega)]; omega
   obtain ⟨hz2, he⟩ := hz.take (k : Int)
   have t1 := htake23 β hG g z hz.hx (k : Int) hz.bnds
   have t2 := rtake49 β s hz.rx (k : Int)
   rw [he] at t1
   generalize hp : (S.takeV ns nc (k : Int)).2 = p at t1 t2
   obtain ⟨p1, p2⟩ := p
   refine G tt_ok pk14 ?_
   refine ke rfl rfl (t1) ?_
   refine G tt_ok pk14 ?_
   refine ke rfl rfl (t2) ?_
   refine G tt_ok pk14 ?_
   rw [show (p1 != p1) = false by simp]
   refine G tt_ok pk14 ?_
   rw [show (!(p2 == p2)) = false by cases p2 <;> rfl]
   refine G tt_ok pk14 ?_
   cases p2 with
   | true =>
    refine G tt_ok pk14 ?_
    exact ⟨(i + 1, (z.takeR nc k).1, (S.takeV ns nc k).1), ⟨by simp only; omega, hz2⟩, by simp only; omega, ⟨by rw [← hwi]; rfl, rfl, rfl, rfl, trivial⟩, pk_⟩
   | false =>
    refine G tt_ok pk14 ?_
    refine CW.exit ?_
    refine G tt_ok pk14 ?_
    exact ⟨(k + 1, (z.takeR nc k).1, (S.takeV ns nc k).1), ⟨by simp only; omega, hz2⟩, by simp only; omega, ⟨by rw [← hwr]; rfl, rfl, rfl, trivial⟩, pk_⟩
  ·rw [decide_eq_false (show ¬ ii < 600 by omega)]
   refine G tt_ok pk14 ?_
   refine CW.exit ?_
   refine G tt_ok pk14 ?_
   exact ⟨(k + 1, z, S), ⟨by simp only; omega, hz⟩, by simp only; omega, ⟨by rw [← hwr]; rfl, rfl, rfl, trivial⟩, pk_⟩
 ·rw [decide_eq_false (show ¬ (k : Int) < (nc : Int) by omega)]
  refine G tt_ok pk14 ?_
  refine CW.exit ?_
  refine G tt_ok pk14 ?_
  exact CW.ret (fin_ret rfl (A := [hoA h nc x, rfA r ns nc R]) (by unfold rfA; exact pk_) ⟨rfl, rfl⟩)
def Rx.cnt (ns nc : Nat) (id : Int) (c : Int) : Nat → Rx → Nat
 | 0, _ => 0
 | f + 1, R => if (R.takeV ns nc c).2.2 then (if (R.takeV ns nc c).2.1 = id then 1 else 0) + Rx.cnt ns nc id c f (R.takeV ns nc c).1 else 0
def Rx.fin (ns nc : Nat) (c : Int) : Nat → Rx → Rx
 | 0, R => R
 | f + 1, R => if (R.takeV ns nc c).2.2 then Rx.fin ns nc c f (R.takeV ns nc c).1 else R
attribute [local irreducible] Rx.cnt Rx.fin
end Go.Proofs.YtakkogdmlbkdaaaGreatDoor.Sl.It
namespace Go.Proofs.YtakkogdmlbkdaaaGreatDoor.Sl.It
attribute [local irreducible] CW Tri OW
attribute [local irreducible] invK enK enV waitL
variable {T nc ns : Nat}
def eR1 : Rx := ((rx0 4 2).bindV 2 3 2 1).1
def eR2 : Rx := (eR1.msgV 3 2).1
def eR3 : Rx := (eR2.takeV 4 2 0).1
def eR4 : Rx := (eR3.bindV 2 3 2 0).1
def eR5 : Rx := (eR4.takeV 4 2 0).1
theorem e_1 : ((rx0 4 2).bindV 2 3 2 1).2 = (8192, 0) := by decide +kernel
theorem e_2 : (eR1.msgV 3 2).2 = 0 := by decide +kernel
theorem e_3 : eR2.wtsV 3 2 = .tuple #[.int .i64 1, .bool true] := by kernel_rfl
theorem e_4 : (eR2.takeV 4 2 0).2 = (0, false) := by decide +kernel
theorem e_5 : (eR3.bindV 2 3 2 0).2 = (8192, 0) := by decide +kernel
theorem e_6 : (eR4.takeV 4 2 0).2 = (8192, true) := by decide +kernel
theorem e_7 : (eR5.takeV 4 2 0).2 = (0, false) := by decide +kernel
set_option maxHeartbeats 8000000 in
theorem awake10 (β : Base) (hG : TabOk β) : Tri Tryz.prog β 10 [] [] (fun v L => v = .bool true ∧ L = []) := by
 have c1 := hnew_r β (c := 2) (s := 4) (z := 20000) (by omega) (by omega) (by omega) (by omega) (by omega)
 rw [show ((20000 : Nat) : Int) = 20000 from rfl] at c1
 generalize (List.replicate 20000 0).drop 11264 = Z at c1
 refine Tri.intro tt_ok Tryz.func10 rfl rfl Tryz.ntmps10 rfl fun F => ?_
 refine G tt_ok [] ?_
 (refine ka rfl rfl (c1) ?_; rintro _ _ ⟨h, x0, r0, rfl, rfl⟩; refine w_ ?_)
 (refine G tt_ok [] ?_; repeat (refine G1 tt_ok [] ?_; intro _))
 obtain ⟨d1, r1, a1⟩ := r0.bind 3 2 1
 have t1 := hbind30 β h x0 r0.hx 3 2 1
 rw [a1, e_1] at t1
 rw [show ((rx0 4 2).bindV 2 3 2 1).1 = eR1 from rfl] at r1
 refine ke rfl rfl (t1) ?_
 generalize x0.bnd 2 3 2 1 = x1 at r1 ⊢
 refine G tt_ok [] ?_
 have t2 := hmessage21 β h x1 r1.hx 3 2
 obtain ⟨r2, a2⟩ := r1.msg 3 2
 rw [a2, e_2] at t2
 rw [show (eR1.msgV 3 2).1 = eR2 from rfl] at r2
 refine ke rfl rfl (t2) ?_
 generalize (x1.msg 3 2).1 = x2 at r2 ⊢
 refine G tt_ok [] ?_
 have t3 := hwaits22 β h x2 r2.hx 3 2
 rw [r2.wtv, e_3] at t3
 refine ke rfl rfl (t3) ?_
 refine G tt_ok [] ?_
 have t4 := htake23 β hG h x2 r2.hx 0 r2.bnds
 obtain ⟨r3, a3⟩ := r2.take 0
 rw [a3, e_4] at t4
 rw [show (eR2.takeV 4 2 0).1 = eR3 from rfl] at r3
 refine ke rfl rfl (t4) ?_
 generalize (x2.takeR 2 0).1 = x3 at r3 ⊢
 refine G tt_ok [] ?_
 obtain ⟨d4, r4, a4⟩ := r3.bind 3 2 0
 have t5 := hbind30 β h x3 r3.hx 3 2 0
 rw [a4, e_5] at t5
 rw [show (eR3.bindV 2 3 2 0).1 = eR4 from rfl] at r4
 refine ke rfl rfl (t5) ?_
 generalize x3.bnd 2 3 2 0 = x4 at r4 ⊢
 refine G tt_ok [] ?_
 have t6 := htake23 β hG h x4 r4.hx 0 r4.bnds
 obtain ⟨r5, a5⟩ := r4.take 0
 rw [a5, e_6] at t6
 rw [show (eR4.takeV 4 2 0).1 = eR5 from rfl] at r5
 refine ke rfl rfl (t6) ?_
 generalize (x4.takeR 2 0).1 = x5 at r5 ⊢
 refine G tt_ok [] ?_
 have t7 := htake23 β hG h x5 r5.hx 0 r5.bnds
 obtain ⟨_, a6⟩ := r5.take 0
 rw [a6, e_7] at t7
 refine ke rfl rfl (t7) ?_
 refine G tt_ok [] ?_
 exact CW.ret (fin_ret rfl (A := []) (Ent.dropAll _) ⟨rfl, rfl⟩)
theorem newE_0 {c s z : Int} (h : newE c s z = 0) : ∃ a b d : Nat, c = a ∧ s = b ∧ z = d ∧ 1 ≤ a ∧ a ≤ 8 ∧ b ≤ 64 ∧ 11264 ≤ d ∧ d ≤ 131072 := by
 unfold newE at h
 split at h
 ·cases h
 ·split at h
  ·cases h
  ·exact ⟨c.toNat, s.toNat, z.toNat, by omega, by omega, by omega, by omega, by omega, by omega, by omega, by omega⟩
set_option maxHeartbeats 8000000 in
theorem law_news (β : Base) (hG : TabOk β) (c s z : Int) (a : At) (ha : atOk a) : Tri Tryz.prog β 3 [.int .i64 c, .int .i64 s, .int .i64 z, .agg (atC a).toArray] [] (fun v L => v = .bool true ∧ L = []) := by
 have c0 := awake10 β hG
 by_cases he : newE c s z = 0
 ·obtain ⟨nc, ns, n, rfl, rfl, rfl, h1, h2, h3, h4, h5⟩ := newE_0 he
  have c1 := hnew_r β h1 h2 h3 h4 h5
  have c2 := rnew12 β h1 h2 h3 h4 h5
  refine Tri.intro tt_ok Tryz.func3 rfl rfl Tryz.ntmps3 rfl fun F => ?_
  generalize (List.replicate n 0).drop 11264 = Z at c1
  generalize hzn : (n : Int) = zi at c1 c2
  (refine G tt_ok [] ?_; repeat (refine G1 tt_ok [] ?_; intro _))
  refine ke rfl rfl (c0) ?_
  refine G tt_ok [] ?_
  (refine ka rfl rfl (c1) ?_; rintro _ _ ⟨h, x, hr, rfl, rfl⟩; refine w_ ?_)
  refine G tt_ok [] ?_
  (refine ka rfl rfl (c2) ?_; rintro _ _ ⟨r, rfl, rfl⟩; refine w_ ?_)
  refine G tt_ok [] ?_
  have c3 := alike13 β h r hr a ha.1 ha.2
  have c4 := drained14 β hG h r hr
  refine ke rfl rfl (c3) ?_
  refine G tt_ok [] ?_
  refine ke rfl rfl (c4) ?_
  refine G tt_ok [] ?_
  refine SQ.ent _ (rm_ (A := hoA h nc x) (Ent.refl _)) ?_
  unfold hoA
  refine SQ.open_ fun b => ?_
  refine SQ.pure_ fun hb => ?_
  unfold hL hRow
  have hBl := hr.wr.ok.1
  have c5 := size10 β b.m (some ⟨b.g.1, 0, none⟩) x.iw.w.B.length (x.iw.w.B.length + b.g.2.length)
  rw [hBl.1, hzn] at c5
  rw [hBl.1]
  refine G tt_ok [] ?_
  refine ke rfl rfl (c5) ?_
  refine G tt_ok [] ?_
  rw [show (zi == zi) = true by simp]
  refine G tt_ok [] ?_
  exact CW.ret (fin_ret rfl (A := []) (Ent.dropAll _) ⟨rfl, rfl⟩)
 ·have c1 := hnew_no β he
  have c2 := rnew_no β he
  refine Tri.intro tt_ok Tryz.func3 rfl rfl Tryz.ntmps3 rfl fun F => ?_
  generalize newE c s z = e at c1 c2
  (refine G tt_ok [] ?_; repeat (refine G1 tt_ok [] ?_; intro _))
  refine ke rfl rfl (c0) ?_
  refine G tt_ok [] ?_
  refine ke rfl rfl (c1) ?_
  refine G tt_ok [] ?_
  refine ke rfl rfl (c2) ?_
  refine G tt_ok [] ?_
  rw [show (e != e) = false by simp]
  refine G tt_ok [] ?_
  exact CW.ret (fin_ret rfl (A := []) (Ent.dropAll _) ⟨rfl, rfl⟩)
end Go.Proofs.YtakkogdmlbkdaaaGreatDoor.Sl.It
namespace Go.Proofs.YtakkogdmlbkdaaaGreatDoor.Sl.It
set_option maxRecDepth 100000
theorem bys_get : ∀ (B : List Nat) (i : Nat), (bys B)[i]? = B[i]?.map fun b => Value.int .u8 (b : Int)
 | [], i => by simp [bys]
 | b :: r, 0 => rfl
 | b :: r, i + 1 => by
  have := bys_get r i
  show (bys r)[i]? = _
  rw [this]; rfl
@[reducible] def laidL : List (String × DataW Unit) := [("math/bits.deBruijn64tab", Rows.laid_math_bits_deBruijn64tab)]
theorem gTab : Tryz.prog.globalNamed "math/bits.deBruijn64tab" = some 0 := by kernel_rfl
theorem tTab : (Tryz.prog.globals[0]?).map (·.type) = some 313 := by kernel_rfl
theorem cTab : Tryz.prog.cellsOf 313 = 64 := by kernel_rfl
theorem cTab5 : Tryz.prog.cellsOf 5 = 1 := by kernel_rfl
theorem laid_is : (Rows.laid_math_bits_deBruijn64tab : DataW Unit) = .agg (tzT.map fun n : Nat => .lit (.int .u8 (n : Int))) := rfl
theorem tab_of_laid {W : World} (h : laidMetH Tryz.prog laidL W) : TabOk W := by
 rw [MakeChecks.laidMetH_plain _ _ _ (by kernel_rfl)] at h
 obtain ⟨ps, ⟨g, t, cs, fu, p, q, hg, ht, hv, hd, _, _⟩, _, _⟩ := h
 obtain rfl := Option.some.inj (gTab.symm.trans hg)
 obtain rfl := Option.some.inj (tTab.symm.trans ht)
 obtain ⟨xs, m, rfl, hx, hlen, hn, hel⟩ := DataW.trod_array Tryz.underlying313 hd
 rw [cTab] at hlen
 have hxs : xs.map (·.1) = tzT.map fun n : Nat => DataW.lit (.int .u8 (n : Int)) := by
  rw [laid_is] at hx
  injection hx with h1 _
  injection h1 with h1
  exact h1.symm
 have hcs : cs.toList = bys tzT := by
  apply List.ext_getElem?
  intro i
  rw [bys_get]
  by_cases hi : i < 64
  ·have h1 := hel i hi
   rw [cTab5] at h1
   obtain ⟨x, hx1⟩ : ∃ x, xs[i]? = some x := ⟨_, List.getElem?_eq_getElem (by rw [hn]; exact hi)⟩
   rw [hx1] at h1
   obtain ⟨n, e1, e2, _⟩ := DataW.trod_int Tryz.underlying5 h1
   have h2 : (xs.map (·.1))[i]? = some (.lit (.int .u8 n)) := by rw [List.getElem?_map, hx1, e2]; rfl
   rw [hxs, List.getElem?_map] at h2
   have h3 : cs.toList[i]? = some (.int .u8 n) := by
    have : ((cs.toList.drop (i * 1)).take 1)[0]? = some (.int .u8 n) := by rw [e1]; rfl
    rw [List.getElem?_take_of_lt (by omega), List.getElem?_drop] at this
    simpa using this
   rw [h3]
   cases hz : tzT[i]? with
   | none => rw [hz] at h2; cases h2
   | some z =>
    rw [hz] at h2
    simp only [Option.map_some, Option.some.injEq, DataW.lit.injEq, Lit.int.injEq, true_and] at h2
    rw [← h2]; rfl
  ·rw [List.getElem?_eq_none (by omega), List.getElem?_eq_none (by have : tzT.length = 64 := rfl; omega)]; rfl
 unfold World.var? at hv
 rw [gTab] at hv
 simp only [Option.bind_some] at hv
 cases hh : W.heap[0]? with
 | none => rw [hh] at hv; cases hv
 | some o =>
  rw [hh] at hv
  cases o with
  | cells c t fz =>
   simp only [Option.some.injEq] at hv
   subst hv
   refine ⟨(Array.getElem?_eq_some_iff.1 hh).1, t, fz, ?_⟩
   rw [hh, ← hcs]
  | _ => cases hv
noncomputable def laidWorld (os : Os) : World :=
 let w0 := World.holding Tryz.prog os ⟨#[], #[], []⟩
 { w0 with heap := w0.heap.modify 0 fun
   | .cells _ t frozen => .cells (bys tzT).toArray t frozen
   | o => o }
theorem laidWorld_met (os : Os) (args : Array Value) : laidMetH Tryz.prog laidL ((laidWorld os).forCall (fun _ _ => 0) ⟨#[], args, []⟩).memory := by
 rw [MakeChecks.laidMetH_plain _ _ _ (by kernel_rfl)]
 exact laidMet_of_run' 8 (by kernel_rfl) (by kernel_rfl)
end Go.Proofs.YtakkogdmlbkdaaaGreatDoor.Sl.It
namespace Go.Proofs.YtakkogdmlbkdaaaGreatDoor.Sl.It
attribute [local irreducible] CW Tri OW
attribute [local irreducible] invK enK enV waitL
variable {T nc ns : Nat}
section
variable {R : Rx}
end
end Go.Proofs.YtakkogdmlbkdaaaGreatDoor.Sl.It
namespace Go.Proofs.YtakkogdmlbkdaaaGreatDoor.Sl
section
variable {P : Program} {β : Base} {rnd : Option (Nat × Loop)} {N : Nat} {env : Env} {L : List Atom} {K : Env → List Atom → Prop} {ops : Array Oper} {T : TT}
end
end Go.Proofs.YtakkogdmlbkdaaaGreatDoor.Sl
namespace Go.Proofs.YtakkogdmlbkdaaaGreatDoor.Sl
open Go Go.RowKit Go.Proofs Go.ChangeShapes Go.WideShapes Go.Deep
end Go.Proofs.YtakkogdmlbkdaaaGreatDoor.Sl
namespace Go.Proofs.YtakkogdmlbkdaaaGreatDoor.Sl.It
attribute [local irreducible] CW Tri OW
attribute [local irreducible] invK enK enV waitL
variable {T nc ns : Nat}
end Go.Proofs.YtakkogdmlbkdaaaGreatDoor.Sl.It
