import Derived.Test.YtakkogdmlbkdaaaGreatDoorL5
namespace Go.Proofs.YtakkogdmlbkdaaaGreatDoor.Sl
open Go Go.RowKit Go.ChangeShapes Go.WideShapes Go.Deep
set_option linter.unusedVariables false
set_option linter.unusedSimpArgs false
def fieldsL (g : TypeId → Option (List TypeId)) (P : Program) : List Field → Nat → Option (List TypeId)
 | [], _ => some []
 | f :: r, o => match Nat.beq f.offset o, g f.type with
  | true, some l => match Nat.beq (P.cellsOf f.type) l.length, fieldsL g P r (o + l.length) with
   | true, some l2 => some (l ++ l2)
   | _, _ => none
  | _, _ => none
def leafs (P : Program) : Nat → TypeId → Option (List TypeId)
 | 0, _ => none
 | n + 1, t => match P.underlying t with
  | some (.struct fs) => match fieldsL (leafs P n) P fs.toList 0 with
   | some l => match Nat.beq (P.cellsOf t) l.length with
    | true => some l
    | false => none
   | none => none
  | some .bool => some [t]
  | some (.int _) => some [t]
  | _ => none
section
variable {H : Type} {enc : TypeId × Value → H} {P : Program} {W : World} {base : Nat} {spare : Nat → Bool} {held : Bool}
def Leaf (P : Program) (cs : List Value) (o : Nat) (L : List TypeId) : Prop := ∀ (j : Nat) (lt : TypeId), L[j]? = some lt → ∃ u, cs[o + j]? = some u ∧ isK P lt u
theorem fieldsL_at {n : Nat} {g : TypeId → Option (List TypeId)} (hg : ∀ t L cs y, g t = some L → DataW.trod enc P W base spare held n t cs = some y → cs.length = L.length ∧ Leaf P cs 0 L) {cs : List Value} :
  ∀ (fs : List Field) (o : Nat) (L : List TypeId), fieldsL g P fs o = some L → (∀ f ∈ fs, ∃ y, DataW.trod enc P W base spare held n f.type ((cs.drop f.offset).take (P.cellsOf f.type)) = some y) → Leaf P cs o L
 | [], o, L, h, _ => by
  simp only [fieldsL, Option.some.injEq] at h
  subst h
  intro j lt hj; simp at hj
 | f :: r, o, L, h, hf => by
  simp only [fieldsL] at h
  split at h <;> try (cases h; done)
  rename_i l ho hl
  split at h <;> try (cases h; done)
  rename_i l2 hc h2
  simp only [Option.some.injEq] at h
  subst h
  have ho := Nat.eq_of_beq_eq_true ho
  have hc := Nat.eq_of_beq_eq_true hc
  obtain ⟨y, hy⟩ := hf f (by simp)
  obtain ⟨k1, k2⟩ := hg _ _ _ _ hl hy
  have ih := fieldsL_at hg r _ _ h2 fun f hfr => hf f (by simp [hfr])
  intro j lt hj
  by_cases hjl : j < l.length
  ·rw [List.getElem?_append_left hjl] at hj
   obtain ⟨u, hu, hk⟩ := k2 j lt hj
   refine ⟨u, ?_, hk⟩
   rw [Nat.zero_add, List.getElem?_take] at hu
   split at hu
   ·rw [List.getElem?_drop, ho] at hu; exact hu
   ·cases hu
  ·rw [List.getElem?_append_right (by omega)] at hj
   obtain ⟨u, hu, hk⟩ := ih _ lt hj
   exact ⟨u, by rw [← hu]; congr 1; omega, hk⟩
theorem leafs_at : ∀ (m : Nat) {n : Nat} {t : TypeId} {L : List TypeId} {cs : List Value} {y : DataW H × List MemPlace}, leafs P m t = some L → DataW.trod enc P W base spare held n t cs = some y → cs.length = L.length ∧ Leaf P cs 0 L
 | 0, _, _, _, _, _, h, _ => by cases h
 | m + 1, n, t, L, cs, y, h, ht => by
  simp only [leafs] at h
  split at h
  ·rename_i fs hs
   split at h <;> try (cases h; done)
   rename_i l hl
   split at h <;> try (cases h; done)
   rename_i hc
   simp only [Option.some.injEq] at h
   subst h
   have hc := Nat.eq_of_beq_eq_true hc
   obtain ⟨xs, n', rfl, hx, hlen, hxl, hf⟩ := DataW.trod_struct hs ht
   refine ⟨by omega, fieldsL_at (n := n') (fun t L cs y a b => leafs_at m a b) fs.toList 0 _ hl fun f hfm => ?_⟩
   obtain ⟨i, hi, rfl⟩ := List.getElem_of_mem hfm
   have hi2 : i < fs.size := by simpa using hi
   have := hf i fs[i] (Array.getElem?_eq_getElem hi2)
   rw [List.getElem?_eq_getElem (by omega)] at this
   exact ⟨_, by simpa using this⟩
  ·rename_i hb
   simp only [Option.some.injEq] at h
   subst h
   obtain ⟨b, rfl, _⟩ := DataW.trod_bool hb ht
   refine ⟨rfl, fun j lt hj => ?_⟩
   match j, hj with
   | 0, hj =>
    simp only [List.getElem?_cons_zero, Option.some.injEq] at hj
    subst hj
    exact ⟨_, rfl, by unfold isK; rw [hb]; exact ⟨b, rfl⟩⟩
   | j + 1, hj => simp at hj
  ·rename_i k hb
   simp only [Option.some.injEq] at h
   subst h
   obtain ⟨b, rfl, _, hw⟩ := DataW.trod_int hb ht
   refine ⟨rfl, fun j lt hj => ?_⟩
   match j, hj with
   | 0, hj =>
    simp only [List.getElem?_cons_zero, Option.some.injEq] at hj
    subst hj
    exact ⟨_, rfl, by unfold isK; rw [hb]; exact ⟨b, rfl, hw⟩⟩
   | j + 1, hj => simp at hj
  ·cases h
theorem open_structL {r : Go.Reach} {b0 : Nat} {t : TypeId} {fs : Array Field} {v : Value} {d : DataW H} {p : List MemPlace} {L : List TypeId} (hs : P.underlying t = some (.struct fs)) (hL : leafs P 8 t = some L)
  (hv : Value.okWide P W r b0 t v) (h : DataW.Trod enc P W base spare held t v d p) : ∃ cs : Array Value, v = .agg cs ∧ cs.size = L.length ∧ ∀ (i : Nat) (lt : TypeId), L[i]? = some lt → ∃ u, cs[i]? = some u ∧ isK P lt u := by
 obtain ⟨cs, rfl, hsz⟩ := okWide_struct hs hv
 obtain ⟨fuel, hf⟩ := h
 obtain ⟨h1, h2⟩ := leafs_at 8 hL hf
 refine ⟨cs, rfl, by simpa [Value.cells] using h1, fun i lt hi => ?_⟩
 obtain ⟨u, hu, hk⟩ := h2 i lt hi
 exact ⟨u, by simpa [Value.cells] using hu, hk⟩
theorem open_slcL {t e : TypeId} {L : List TypeId} {fuel : Nat} {v : Value} {x : DataW H × List MemPlace} (ht : P.underlying t = some (.slice e)) (hL : leafs P 8 e = some L) (hC : P.cellsOf e = L.length) (hz : 0 < L.length)
  (hv : v.cells.toList = [v]) (h : DataW.trod enc P W base spare held fuel t v.cells.toList = some x) :
  ∃ (p : Option Addr) (n c : Nat) (cells : List Value) (A : Atom), v = .slice p n c ∧ n ≤ maxLen ∧ RdS W p n L.length cells A ∧ Ent [] [A] ∧ ∀ i, i < n → ∀ (j : Nat) (lt : TypeId), L[j]? = some lt → ∃ u, cells[i * L.length + j]? = some u ∧ isK P lt u := by
 rw [hv] at h
 rcases open_slice ht h with ⟨h0, _⟩ | ⟨a, len, cap, m, n, D, Pl, hcs, hb, hl, hm, hmm, hx, hi⟩
 ·simp only [List.cons.injEq, and_true] at h0
  exact ⟨none, 0, 0, [], pureA True, h0, by omega, ⟨by simp, .inl rfl⟩, Ent.pureA trivial, fun i hi => by omega⟩
 ·simp only [List.cons.injEq, and_true] at hcs
  by_cases hn : len = 0
  ·subst hn
   exact ⟨some a, 0, cap, [], pureA True, hcs, by omega, ⟨by simp, .inl rfl⟩, Ent.pureA trivial, fun i hi => by omega⟩
  ·have hle : len ≤ m := by rw [hmm]; split <;> omega
   have hcell : ∀ i, i < len → ∀ (j : Nat) (lt : TypeId), L[j]? = some lt → ∃ u, W.cell? (a.add (i * L.length + j)) = some u ∧ isK P lt u := fun i him j lt hj => by
    obtain ⟨cs', hc, ht'⟩ := hi i (by omega)
    rw [hC] at hc
    obtain ⟨_, hcl, hat⟩ := World.cells?_some hc
    obtain ⟨k1, k2⟩ := leafs_at 8 hL ht'
    have hjl : j < L.length := (List.getElem?_eq_some_iff.1 hj).1
    obtain ⟨u, hu, hk⟩ := k2 j lt hj
    rw [Nat.zero_add] at hu
    exact ⟨u, by rw [← Go.Deep.add_add, hat j hjl, hu], hk⟩
   ·have h00 := hcell 0 (by omega) 0 (L[0]'(by omega)) (List.getElem?_eq_getElem (by omega))
    obtain ⟨u0, hu0, _⟩ := h00
    have hsp : a.spot = none := by simpa [Addr.add] using World.cell?_spot hu0
    obtain ⟨b, off, spot⟩ := a
    simp only at hsp
    subst hsp
    simp only [Nat.zero_mul, Nat.add_zero] at hu0
    have hblk : ∃ arr t' fz, W.heap[b]? = some (.cells arr t' fz) := by
     unfold World.cell? at hu0
     split at hu0
     ·rename_i arr t' fz hh; exact ⟨arr, t', fz, by simpa [Addr.add] using hh⟩
     ·cases hu0
    obtain ⟨arr, t', fz, hblk⟩ := hblk
    have hbl : b < W.heap.size := (Array.getElem?_eq_some_iff.1 hblk).1
    have hrd : ∀ k, W.cell? ((⟨b, off, none⟩ : Addr).add k) = arr[off + k]? := fun k => by
     rw [addr_add]; simp [World.cell?, hblk]
    have hlen : len * L.length ≤ (arr.toList.drop off).length := by
     obtain ⟨u, hu, _⟩ := hcell (len - 1) (by omega) (L.length - 1) (L[L.length - 1]'(by omega)) (List.getElem?_eq_getElem (by omega))
     rw [hrd] at hu
     have := (Array.getElem?_eq_some_iff.1 hu).1
     have e1 : (len - 1) * L.length + (L.length - 1) + 1 = len * L.length := by
      obtain ⟨l', rfl⟩ : ∃ l', len = l' + 1 := ⟨len - 1, by omega⟩
      rw [Nat.add_sub_cancel, Nat.add_mul]; omega
     simp only [List.length_drop, Array.length_toList]
     omega
    refine ⟨some ⟨b, off, none⟩, len, cap, (arr.toList.drop off).take (len * L.length), pq W false b arr.toList, hcs, by omega, ⟨by rw [List.length_take]; omega, .inr ⟨b, off, false, arr.toList, rfl, rfl, rfl⟩⟩, ?_, fun i hi j lt hj => ?_⟩
    ·exact fun h s => ⟨Hp.emp, ⟨Hp.emp, Hp.emp, ⟨rfl, hbl, t', fz, hblk⟩, rfl, Hp.emp_disj _, (Hp.emp_add _).symm⟩, fun b o e => by simp [Hp.emp] at e⟩
    ·obtain ⟨u, hu, hk⟩ := hcell i hi j lt hj
     refine ⟨u, ?_, hk⟩
     rw [hrd] at hu
     have hjl : j < L.length := (List.getElem?_eq_some_iff.1 hj).1
     have : i * L.length + j < len * L.length := by
      have h5 : (i + 1) * L.length ≤ len * L.length := Nat.mul_le_mul_right _ (by omega)
      rw [Nat.add_mul] at h5; omega
     rw [List.getElem?_take_of_lt this, List.getElem?_drop, Array.getElem?_toList]
     exact hu
end
end Go.Proofs.YtakkogdmlbkdaaaGreatDoor.Sl

