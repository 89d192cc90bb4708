/-
  What comes in: arguments, opened.
-/
import Derived.Test.YtmaheecbohbilaaSlJ
import Derived.ProofKit
import Derived.Deep.Slices
import Derived.Deep.Fields
namespace Go.Proofs.Ytmaheecbohbilaa.Sl
open Go Go.RowKit Go.ChangeShapes Go.WideShapes Go.Deep
set_option linter.unusedVariables false
set_option linter.unusedSimpArgs false
/-- A slice that is read: its cells, and where they lie. -/
def RdS (β : Base) (p : Option Addr) (n sz : Nat) (cells : List Value) (A : Atom) : Prop :=
  cells.length = n * sz ∧ (n = 0 ∨ ∃ b off q cs, p = some ⟨b, off, none⟩ ∧ A = pq β q b cs ∧ (cs.drop off).take (n * sz) = cells)
theorem cells_at {cs cells : List Value} {off m j : Nat} (h : (cs.drop off).take m = cells) {v : Value} (hj : cells[j]? = some v) : cs[off + j]? = some v := by
  rw [← h, List.getElem?_take] at hj
  split at hj
  · rw [List.getElem?_drop] at hj; exact hj
  · cases hj
theorem own_rd (β : Base) {e sz n k : Nat} {q : Option Addr} {cs : List Value} : Ent [own e sz (.slice q n k) n cs] [exA fun B : Atom => [pureA (RdS β q n sz cs B), B]] := fun h s => by
  obtain ⟨h1, h2, ⟨hl, ho⟩, e0, d, rfl⟩ := s
  obtain rfl : h2 = Hp.emp := e0
  rcases ho with ⟨hv, hn, rfl⟩ | ⟨g, cap, cur, hv, hnc, hcl, htk, rfl⟩
  · have hr : RdS β q n sz cs (pureA True) := ⟨hl, .inl hn⟩
    exact (Ent.trans (Ent.pureA (L := []) trivial) (Ent.trans (Ent.pureA hr) (Ent.exA (f := fun B : Atom => [pureA (RdS β q n sz cs B), B]) (pureA True)))) _ (by rw [Hp.add_emp]; rfl)
  · have hr : RdS β q n sz cs (pt g cur) := by
      injection hv with h1 _ _
      exact ⟨hl, .inr ⟨g, 0, true, cur, h1, rfl, by simpa using htk⟩⟩
    exact (Ent.trans (Ent.pureA hr) (Ent.exA (f := fun B : Atom => [pureA (RdS β q n sz cs B), B]) (pt g cur))) _ ⟨_, _, ⟨e, rfl⟩, rfl, d, rfl⟩
section
variable {H : Type} {enc : TypeId × Value → H} {P : Program} {W : World}
/-- A value of a type of one cell. -/
def isK (P : Program) (t : Nat) (v : Value) : Prop :=
  match P.underlying t with
  | some .bool => ∃ b, v = .bool b
  | some (.int k) => ∃ n, v = .int k n ∧ (Lit.int k n).wf = true
  | _ => True
theorem isK_of {base : Nat} {spare : Nat → Bool} {held : Bool} {n t : Nat} {v : Value} {y : DataW H × List MemPlace} (h : DataW.trod enc P W base spare held n t [v] = some y) : isK P t v := by
  unfold isK
  split
  · rename_i ht
    obtain ⟨b, h1, _⟩ := DataW.trod_bool ht h
    exact ⟨b, by simpa using h1⟩
  · rename_i k ht
    obtain ⟨m, h1, _, h3⟩ := DataW.trod_int ht h
    exact ⟨m, by simpa using h1, h3⟩
  · trivial
theorem isK_bool {t : Nat} {v : Value} (ht : P.underlying t = some .bool) (h : isK P t v) : ∃ b, v = .bool b := by
  unfold isK at h; rw [ht] at h; exact h
theorem isK_int {t : Nat} {k : IntKind} {v : Value} (ht : P.underlying t = some (.int k)) (h : isK P t v) : ∃ n, v = .int k n ∧ k.min ≤ n ∧ n ≤ k.max := by
  unfold isK at h; rw [ht] at h
  obtain ⟨n, h1, h2⟩ := h
  exact ⟨n, h1, by simpa [Lit.wf] using h2⟩
theorem open_struct {r : Go.Reach} {b0 : Nat} {base : Nat} {spare : Nat → Bool} {held : Bool} {t : TypeId} {fs : Array Field} {v : Value} {d : DataW H} {p : List MemPlace} (hs : P.underlying t = some (.struct fs)) (hone : oneCellFields P fs = true) (hC : P.cellsOf t = fs.size)
    (hv : Value.okWide P W r b0 t v) (h : DataW.Trod enc P W base spare held t v d p) : ∃ cs : Array Value, v = .agg cs ∧ cs.size = fs.size ∧ ∀ (i : Nat) (f : Field), fs[i]? = some f → ∃ u, cs[i]? = some u ∧ isK P f.type u := by
  obtain ⟨cs, rfl, hsz⟩ := okWide_struct hs hv
  refine ⟨cs, rfl, hsz.trans hC, fun i f hi => ?_⟩
  obtain ⟨fuel, hf⟩ := h
  obtain ⟨xs, n, _, hx, _, hlen, hg⟩ := DataW.trod_struct hs hf
  obtain ⟨o, k⟩ := hone_of hone i f hi
  have hil : i < fs.size := (Array.getElem?_eq_some_iff.1 hi).1
  have hic : i < cs.size := by rw [hsz, hC]; exact hil
  have h1 := hg i f hi
  rw [o, k] at h1
  have e : ((Value.agg cs).cells.toList.drop i).take 1 = [cs[i]] := by
    simp only [Value.cells]
    rw [List.drop_eq_getElem_cons (by simpa using hic)]
    simp
  rw [e, List.getElem?_eq_getElem (by omega)] at h1
  exact ⟨cs[i], Array.getElem?_eq_getElem hic, isK_of h1⟩
/-- A slice of structs of one-cell fields, that came in. -/
theorem open_slc {t e : TypeId} {fs : Array Field} {fuel : Nat} {v : Value} {x : DataW H × List MemPlace} {base : Nat} {spare : Nat → Bool} {held : Bool} (ht : P.underlying t = some (.slice e)) (he : P.underlying e = some (.struct fs)) (hone : oneCellFields P fs = true) (hC : P.cellsOf e = fs.size) (hz : 0 < fs.size)
    (hv : v.cells.toList = [v]) (h : DataW.trod enc P W base spare held fuel t v.cells.toList = some x) :
    ∃ (p : Option Addr) (n c : Nat) (cells : List Value) (A : Atom), v = .slice p n c ∧ n ≤ maxLen ∧ RdS W p n fs.size cells A ∧ Ent [] [A] ∧ ∀ i, i < n → ∀ (j : Nat) (f : Field), fs[j]? = some f → ∃ u, cells[i * fs.size + j]? = some u ∧ isK P f.type u := by
  rw [hv] at h
  rcases open_slice ht h with ⟨h0, _⟩ | ⟨a, len, cap, m, n, D, Pl, hcs, hb, hl, hm, hmm, hx, hi⟩
  · simp only [List.cons.injEq, and_true] at h0
    exact ⟨none, 0, 0, [], pureA True, h0, by omega, ⟨by simp, .inl rfl⟩, Ent.pureA trivial, fun i hi => by omega⟩
  · simp only [List.cons.injEq, and_true] at hcs
    by_cases hn : len = 0
    · subst hn
      exact ⟨some a, 0, cap, [], pureA True, hcs, by omega, ⟨by simp, .inl rfl⟩, Ent.pureA trivial, fun i hi => by omega⟩
    · have hle : len ≤ m := by rw [hmm]; split <;> omega
      have hcell : ∀ i, i < len → ∀ (j : Nat) (f : Field), fs[j]? = some f → ∃ u, W.cell? (a.add (i * fs.size + j)) = some u ∧ isK P f.type u := fun i him j f hj => by
        obtain ⟨cs', hc, ht'⟩ := hi i (by omega)
        rw [hC] at hc
        obtain ⟨ys, n', _, hy, hlen, hyl, hf⟩ := DataW.trod_struct he ht'
        obtain ⟨_, hcl, hat⟩ := World.cells?_some hc
        obtain ⟨ho, hk⟩ := hone_of hone j f hj
        have hjl : j < fs.size := (Array.getElem?_eq_some_iff.1 hj).1
        have hcell := hat j hjl
        have hv : cs'[j]? = some (cs'[j]'(by omega)) := List.getElem?_eq_getElem (by omega)
        have h1 := hf j f hj
        rw [ho, hk] at h1
        have hone' : (cs'.drop j).take 1 = [cs'[j]'(by omega)] := by
          rw [List.drop_eq_getElem_cons (by omega)]; rfl
        rw [hone', List.getElem?_eq_getElem (by omega)] at h1
        exact ⟨_, by rw [← Go.Deep.add_add, hcell, hv], isK_of h1⟩
      · have h00 := hcell 0 (by omega) 0 (fs[0]'(by omega)) (Array.getElem?_eq_getElem (by omega))
        obtain ⟨u0, hu0, _⟩ := h00
        have hsp : a.spot = none := by simpa [Addr.add] using World.cell?_spot hu0
        obtain ⟨b, off, spot⟩ := a
        simp only at hsp
        subst hsp
        simp only [Nat.zero_mul, Nat.add_zero] at hu0
        have hblk : ∃ arr t' fz, W.heap[b]? = some (.cells arr t' fz) := by
          unfold World.cell? at hu0
          split at hu0
          · rename_i arr t' fz hh; exact ⟨arr, t', fz, by simpa [Addr.add] using hh⟩
          · cases hu0
        obtain ⟨arr, t', fz, hblk⟩ := hblk
        have hbl : b < W.heap.size := (Array.getElem?_eq_some_iff.1 hblk).1
        have hrd : ∀ k, W.cell? ((⟨b, off, none⟩ : Addr).add k) = arr[off + k]? := fun k => by
          rw [addr_add]; simp [World.cell?, hblk]
        have hlen : len * fs.size ≤ (arr.toList.drop off).length := by
          obtain ⟨u, hu, _⟩ := hcell (len - 1) (by omega) (fs.size - 1) (fs[fs.size - 1]'(by omega)) (Array.getElem?_eq_getElem (by omega))
          rw [hrd] at hu
          have := (Array.getElem?_eq_some_iff.1 hu).1
          have e1 : (len - 1) * fs.size + (fs.size - 1) + 1 = len * fs.size := by
            obtain ⟨l', rfl⟩ : ∃ l', len = l' + 1 := ⟨len - 1, by omega⟩
            rw [Nat.add_sub_cancel, Nat.add_mul]; omega
          simp only [List.length_drop, Array.length_toList]
          omega
        refine ⟨some ⟨b, off, none⟩, len, cap, (arr.toList.drop off).take (len * fs.size), pq W false b arr.toList, hcs, by omega, ⟨by rw [List.length_take]; omega, .inr ⟨b, off, false, arr.toList, rfl, rfl, rfl⟩⟩, ?_, fun i hi j f hj => ?_⟩
        · exact fun h s => ⟨Hp.emp, ⟨Hp.emp, Hp.emp, ⟨rfl, hbl, t', fz, hblk⟩, rfl, Hp.emp_disj _, (Hp.emp_add _).symm⟩, fun b o e => by simp [Hp.emp] at e⟩
        · obtain ⟨u, hu, hk⟩ := hcell i hi j f hj
          refine ⟨u, ?_, hk⟩
          rw [hrd] at hu
          have hjl : j < fs.size := (Array.getElem?_eq_some_iff.1 hj).1
          have : i * fs.size + j < len * fs.size := by
            have h5 : (i + 1) * fs.size ≤ len * fs.size := Nat.mul_le_mul_right _ (by omega)
            rw [Nat.add_mul] at h5; omega
          rw [List.getElem?_take_of_lt this, List.getElem?_drop, Array.getElem?_toList]
          exact hu
end
/-- Cells, told as elements. -/
theorem decode {α : Type} (enc : α → List Value) (p : α → Prop) (sz : Nat) : ∀ (n : Nat) (cells : List Value), cells.length = n * sz → (∀ i, i < n → ∃ a, p a ∧ (cells.drop (i * sz)).take sz = enc a) → ∃ ts : List α, ts.length = n ∧ cells = ts.flatMap enc ∧ ∀ a ∈ ts, p a
  | 0, cells, hl, _ => ⟨[], rfl, List.eq_nil_of_length_eq_zero (by simpa using hl), by simp⟩
  | n + 1, cells, hl, h => by
    obtain ⟨a, ha, h0⟩ := h 0 (by omega)
    simp only [Nat.zero_mul, List.drop_zero] at h0
    obtain ⟨ts, h1, h2, h3⟩ := decode enc p sz n (cells.drop sz) (by rw [List.length_drop, hl, Nat.add_mul]; omega) fun i hi => by
      obtain ⟨a, ha, e⟩ := h (i + 1) (by omega)
      refine ⟨a, ha, ?_⟩
      rw [List.drop_drop, show sz + i * sz = (i + 1) * sz from by rw [Nat.add_mul]; omega]
      exact e
    refine ⟨a :: ts, by simp [h1], ?_, ?_⟩
    · rw [List.flatMap_cons, ← h0, ← h2, List.take_append_drop]
    · intro x hx
      rcases List.mem_cons.1 hx with rfl | hx
      · exact ha
      · exact h3 x hx
theorem take3 {cells : List Value} {k : Nat} {a b c : Value} (h0 : cells[k + 0]? = some a) (h1 : cells[k + 1]? = some b) (h2 : cells[k + 2]? = some c) : (cells.drop k).take 3 = [a, b, c] := by
  have l2 := (List.getElem?_eq_some_iff.1 h2).1
  rw [List.drop_eq_getElem_cons (by omega), List.drop_eq_getElem_cons (by omega), List.drop_eq_getElem_cons (by omega)]
  have e0 := (List.getElem?_eq_some_iff.1 h0).2
  have e1 := (List.getElem?_eq_some_iff.1 h1).2
  have e2 := (List.getElem?_eq_some_iff.1 h2).2
  simp only [Nat.add_zero] at e0
  simp [e0, e1, e2]
theorem arr3 {cs : Array Value} {a b c : Value} (hs : cs.size = 3) (h0 : cs[0]? = some a) (h1 : cs[1]? = some b) (h2 : cs[2]? = some c) : cs = #[a, b, c] := by
  apply Array.ext_getElem?
  intro i
  match i with
  | 0 => simpa using h0
  | 1 => simpa using h1
  | 2 => simpa using h2
  | i + 3 => simp [Array.getElem?_eq_none (show cs.size ≤ i + 3 by omega)]
theorem flatE_len {α : Type} {enc : α → List Value} {sz : Nat} (hsz : ∀ a, (enc a).length = sz) : ∀ (ts : List α), (ts.flatMap enc).length = ts.length * sz
  | [] => by simp
  | a :: r => by rw [List.flatMap_cons, List.length_append, flatE_len hsz r, List.length_cons, hsz, Nat.add_mul]; omega
theorem flatE_at {α : Type} {enc : α → List Value} {sz : Nat} (hsz : ∀ a, (enc a).length = sz) : ∀ {ts : List α} {k : Nat} {t : α}, ts[k]? = some t → ((ts.flatMap enc).drop (k * sz)).take sz = enc t
  | a :: r, 0, t, h => by
    simp only [List.getElem?_cons_zero, Option.some.injEq] at h
    subst h
    rw [List.flatMap_cons, Nat.zero_mul, List.drop_zero]
    conv => lhs; rw [← hsz a]
    exact List.take_left
  | a :: r, k + 1, t, h => by
    have := flatE_at hsz (ts := r) (k := k) (t := t) (by simpa using h)
    rw [List.flatMap_cons, show (k + 1) * sz = sz + k * sz from by rw [Nat.add_mul]; omega, ← List.drop_drop]
    have e : (enc a ++ List.flatMap enc r).drop sz = List.flatMap enc r := by
      conv => lhs; rw [← hsz a]
      exact List.drop_left
    rw [e]; exact this
/-- An element that is a struct. -/
theorem rd_enc {α : Type} {enc : α → List Value} {sz : Nat} (hsz : ∀ a, (enc a).length = sz) {ti : TI} (ha : aggD ti.desc = true) (hti : ti.size = sz) {cs : List Value} {off n : Nat} {ts : List α} (h : (cs.drop off).take (n * sz) = ts.flatMap enc) {k : Nat} {t : α} (hk : ts[k]? = some t) :
    rdv ti cs (off + k * sz) = some (.agg (enc t).toArray) := by
  have hkl : k < ts.length := (List.getElem?_eq_some_iff.1 hk).1
  have hlen := flatE_len hsz ts
  have h1 : (((cs.drop off).take (n * sz)).drop (k * sz)).take sz = enc t := by rw [h]; exact flatE_at hsz hk
  have hl2 : ts.length * sz ≤ n * sz := by rw [← hlen, ← h, List.length_take]; omega
  have hl3 : k * sz + sz ≤ ts.length * sz := by
    have := Nat.mul_le_mul_right sz (show k + 1 ≤ ts.length by omega)
    rw [Nat.add_mul] at this; omega
  rw [List.drop_take, List.take_take, List.drop_drop, show min sz (n * sz - k * sz) = sz from by omega] at h1
  have h3 : sz ≤ (cs.drop (off + k * sz)).length := by
    have := congrArg List.length h1
    rw [List.length_take, hsz] at this
    omega
  simp only [rdv, ha, takeN_eq, dropN_eq, hti]
  rw [if_pos h3, h1]
/-- From a contract to a call. -/
theorem Tri.calls {P : Program} {W : World} {g : FuncId} {args : List Value} {A : List Atom} {R : Value → List Atom → Prop} (h : Tri P W g args A R) (hA : Ent [] A) : Calls P g args.toArray W fun e w' => ∃ v A', e = .returned v ∧ Below W.heap.size W w' ∧ R v A' := by
  have s0 : Sat W W [] := ⟨Below.refl _ _, Hp.emp, rfl, fun b o e => by simp [Hp.emp] at e⟩
  have := callsIn_wide.1 (h.2 [] 0 W (s0.ent hA))
  exact this.mono fun e w' ⟨v, A', he, hs, hr⟩ => ⟨v, A', he, hs.1, hr⟩
end Go.Proofs.Ytmaheecbohbilaa.Sl
