/-
  A row behind a slice of the call's own, with room behind it, that grows no more.
-/
import Derived.Test.YtmaheecbohbilaaSlS
namespace Go.Proofs.Ytmaheecbohbilaa.Sl
open Go Go.RowKit
set_option linter.unusedVariables false
set_option linter.unusedSimpArgs false
theorem own_shape (v : Value) (e sz n : Nat) (cs : List Value) : Ent (own e sz v n cs :: []) [exA fun x : Option Addr × Nat => [pureA (v = .slice x.1 n x.2), own e sz v n cs]] := fun h s => by
  obtain ⟨h1, h2, ho, e0, d, rfl⟩ := s
  have : ∃ x : Option Addr × Nat, v = .slice x.1 n x.2 := by
    obtain ⟨_, ⟨rfl, rfl, _⟩ | ⟨g, cap, cur, rfl, _⟩⟩ := ho
    · exact ⟨(none, 0), rfl⟩
    · exact ⟨(some ⟨g, 0, none⟩, cap), rfl⟩
  obtain ⟨x, hx⟩ := this
  exact (Ent.trans (Ent.pureA hx) (Ent.exA (f := fun x : Option Addr × Nat => [pureA (v = .slice x.1 n x.2), own e sz v n cs]) x)) _ ⟨h1, h2, ho, e0, d, rfl⟩
/-- n elements, the cells cs, and room behind them; no row, if there is no element. -/
def rowA (q : Option Addr) (n : Nat) (cs : List Value) : Atom := fun h => (n = 0 ∧ cs = [] ∧ h = Hp.emp) ∨ ∃ g rest, q = some ⟨g, 0, none⟩ ∧ pt g (cs ++ rest) h
theorem own_row {e sz n c : Nat} {q : Option Addr} {cs : List Value} : Ent [own e sz (.slice q n c) n cs] [rowA q n cs] := fun h s => by
  obtain ⟨h1, h2, ⟨hl, ho⟩, e0, d, rfl⟩ := s
  refine ⟨_, ⟨h1, h2, ?_, e0, d, rfl⟩, Hp.le_refl _⟩
  rcases ho with ⟨hv, hn, rfl⟩ | ⟨g, cap, cur, hv, hnc, hcl, htk, rfl⟩
  · subst hn
    exact .inl ⟨rfl, List.eq_nil_of_length_eq_zero (by simpa using hl), rfl⟩
  · injection hv with hq _ _
    refine .inr ⟨g, cur.drop (n * sz), hq, e, ?_⟩
    rw [← htk, List.take_append_drop]
theorem row_open {q : Option Addr} {n : Nat} {cs : List Value} (hn : 0 < n) : Ent [rowA q n cs] [exA fun x : Nat × List Value => [pureA (q = some ⟨x.1, 0, none⟩), pt x.1 (cs ++ x.2)]] := fun h s => by
  obtain ⟨h1, h2, ho, e0, d, rfl⟩ := s
  rcases ho with ⟨h0, _⟩ | ⟨g, rest, hq, hp⟩
  · omega
  · exact (Ent.trans (Ent.pureA hq) (Ent.exA (f := fun x : Nat × List Value => [pureA (q = some ⟨x.1, 0, none⟩), pt x.1 (cs ++ x.2)]) (g, rest))) _ ⟨h1, h2, hp, e0, d, rfl⟩
theorem row_close {g n : Nat} {cs rest : List Value} : Ent [pt g (cs ++ rest)] [rowA (some ⟨g, 0, none⟩) n cs] := fun h s => by
  obtain ⟨h1, h2, ho, e0, d, rfl⟩ := s
  exact ⟨_, ⟨h1, h2, .inr ⟨g, rest, rfl, ho⟩, e0, d, rfl⟩, Hp.le_refl _⟩
theorem row_rd (β : Base) {q : Option Addr} {n sz : Nat} {cs : List Value} (hl : cs.length = n * sz) : Ent [rowA q n cs] [exA fun B : Atom => [pureA (RdS β q n sz cs B), B]] := fun h s => by
  obtain ⟨h1, h2, ho, e0, d, rfl⟩ := s
  obtain rfl : h2 = Hp.emp := e0
  rcases ho with ⟨hn, hc, rfl⟩ | ⟨g, rest, hq, hp⟩
  · have hr : RdS β q n sz cs (pureA True) := ⟨hl, .inl hn⟩
    exact (Ent.trans (Ent.pureA (L := []) trivial) (Ent.trans (Ent.pureA hr) (Ent.exA (f := fun B : Atom => [pureA (RdS β q n sz cs B), B]) (pureA True)))) _ (by rw [Hp.add_emp]; rfl)
  · have hr : RdS β q n sz cs (pt g (cs ++ rest)) := ⟨hl, .inr ⟨g, 0, true, _, hq, rfl, by rw [List.drop_zero, ← hl]; exact List.take_left⟩⟩
    exact (Ent.trans (Ent.pureA hr) (Ent.exA (f := fun B : Atom => [pureA (RdS β q n sz cs B), B]) (pt g (cs ++ rest)))) _ ⟨_, _, hp, rfl, d, rfl⟩
end Go.Proofs.Ytmaheecbohbilaa.Sl
