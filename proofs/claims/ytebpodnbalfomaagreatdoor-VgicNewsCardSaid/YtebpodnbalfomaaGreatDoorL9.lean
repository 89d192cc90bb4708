import Derived.Test.YtebpodnbalfomaaGreatDoorL8
import Derived.LaidEqlPtr
namespace Go.Proofs.YtebpodnbalfomaaGreatDoor.Sl
open Go Go.RowKit
set_option linter.unusedVariables false
set_option linter.unusedSimpArgs false
section
variable {P : Program} {β : Base} {rnd : Option (Nat × Loop)} {N : Nat} {env : Env} {L : List Atom} {K : Env → List Atom → Prop} {ops : Array Oper} {T : TT}
/-- A row of the call's own lies somewhere in it. -/
def RowIn (β : Base) (L : List Atom) (b : Nat) : Prop := ∀ w, Sat β w L → ∃ cs t, w.heap[b]? = some (.cells cs t (0, 0))
theorem RowIn.ent {L M : List Atom} {b : Nat} (h : RowIn β M b) (e : Ent L M) : RowIn β L b := fun w s => h w (s.ent e)
theorem RowIn.rm {A : Atom} {L M : List Atom} {b : Nat} (h : RowIn β [A] b) (hk : Rm A L M) : RowIn β L b := h.ent ((hk.to (Ent.refl [A])).trans (Ent.left [A] M))
theorem reads_cells {w : World} {b off t : Nat} {fz : Nat × Nat} {cs news : List Value} (e : w.heap[b]? = some (.cells cs.toArray t fz)) (hn : (cs.drop off).take news.length = news) : Reads β w b off news := by
  intro k u hk
  have hlt : k < news.length := (List.getElem?_eq_some_iff.1 hk).1
  rw [addr_add]
  rw [← hn, List.getElem?_take_of_lt hlt, List.getElem?_drop] at hk
  simp [World.cell?, e, hk]
theorem reads_slr {A : Atom} {n sz b off : Nat} {cs : List Value} (hS : SlR β A (some ⟨b, off, none⟩) n sz cs) (ha : AtA A L) (hl : cs.length = n * sz) : ∀ H w, Sat β w (H ++ L) → Reads β w b off cs := fun H w st => by
  obtain ⟨M, p⟩ := ha.rm
  have st2 := st.perm (List.Perm.append_left H p)
  obtain ⟨k, ho, hw⟩ := st2.at_ (i := H.length) (A := A) (by simp)
  rcases hS k ho with h0 | ⟨g, o, cur, hq, ht, ⟨t, fz, e⟩ | ⟨hlt, t, fz, e⟩⟩
  · have : cs = [] := List.length_eq_zero_iff.1 (by rw [hl, h0]; omega)
    subst this
    intro k u hk
    simp at hk
  · injection hq with hq
    injection hq with h1 h2
    subst h1 h2
    exact reads_cells (hw b _ e).2 (by rw [hl]; exact ht)
  · injection hq with hq
    injection hq with h1 h2
    subst h1 h2
    refine reads_cells (t := t) (fz := fz) (cs := cur) ?_ (by rw [hl]; exact ht)
    show w.heap[b]? = _
    rw [st.1.block b hlt]; exact e
/-- 'append(x, y...)', where y is any slice that is read. -/
theorem SQ.appG (hT : TTok P T) {s : Stp} {r : List Stp} {obs : Obs} {d e b off m : Nat} {te : TI} {v : Value} (he : s.k = 1) (h : apE T N ops env s.o = some (d, e, te, v, b, off, m)) (j1 : Nat) {n : Nat} {cs : List Value} (hL1 : L[j1]? = some (own e te.size v n cs))
    {A : Atom} {news : List Value} {sz : Nat} (hS : SlR β A (some ⟨b, off, none⟩) m sz news) (ha : AtA A L) (hsz : sz = te.size) (hl : news.length = m * te.size) (hz : (vcells te.zero).length = te.size) (h1 : ∀ u ∈ news, u.oneCell' = true)
    (h63 : n + m ≤ 4611686018427387904) (hby : (n + m) * te.bytes ≤ 140737488355328)
    (k : ∀ v', watchOk β obs (own e te.size v' (n + m) (cs ++ news) :: L.eraseIdx j1) s.watch ∧ SQ P β rnd N T ops K r obs ((d, v') :: env) (own e te.size v' (n + m) (cs ++ news) :: L.eraseIdx j1)) : SQ P β rnd N T ops K (s :: r) obs env L := by
  subst hsz
  exact SQ.appendR hT he h j1 hL1 news (reads_slr hS ha hl) hl hz h1 h63 hby k
theorem own_q {e sz n c : Nat} {q : Option Addr} {cs : List Value} : Ent [own e sz (.slice q n c) n cs] [pureA (q = none ∨ ∃ g, q = some ⟨g, 0, none⟩), own e sz (.slice q n c) n cs] := fun h s => by
  obtain ⟨h1, h2, ho, e0, d, rfl⟩ := s
  have : q = none ∨ ∃ g, q = some ⟨g, 0, none⟩ := by
    obtain ⟨_, ⟨hv, _, _⟩ | ⟨g, cap, cur, hv, _⟩⟩ := ho
    · injection hv with hq _ _; exact .inl hq
    · injection hv with hq _ _; exact .inr ⟨g, hq⟩
  exact Ent.pureA this _ ⟨h1, h2, ho, e0, d, rfl⟩
theorem row_q {n : Nat} {q : Option Addr} {cs : List Value} : Ent [rowA q n cs] [pureA (q = none ∧ n = 0 ∨ ∃ g, q = some ⟨g, 0, none⟩), rowA q n cs] := fun h s => by
  obtain ⟨h1, h2, ho, e0, d, rfl⟩ := s
  have : q = none ∧ n = 0 ∨ ∃ g, q = some ⟨g, 0, none⟩ := by
    rcases ho with ⟨hq, hn, _⟩ | ⟨g, rest, hq, _⟩
    · exact .inl ⟨hq, hn⟩
    · exact .inr ⟨g, hq⟩
  exact Ent.pureA this _ ⟨h1, h2, ho, e0, d, rfl⟩
end
end Go.Proofs.YtebpodnbalfomaaGreatDoor.Sl

