/-
  A small separation logic over the model: partial heaps, lists of atoms, what a world holds.
-/
import Derived.RangeFuncNested
import Derived.OrdersIn
import Derived.KernelRfl
namespace Go.Proofs.Ytmaheecbohbilaa.Sl
open Go Go.RowKit
set_option linter.unusedVariables false
set_option linter.unusedSimpArgs false

/-! ### Partial heaps -/
abbrev Hp := Nat → Option Obj
def Hp.emp : Hp := fun _ => none
def Hp.disj (h k : Hp) : Prop := ∀ b, h b = none ∨ k b = none
def Hp.add (h k : Hp) : Hp := fun b => (h b).or (k b)
def Hp.one (b : Nat) (o : Obj) : Hp := fun k => if k = b then some o else none
def Hp.le (h k : Hp) : Prop := ∀ b o, h b = some o → k b = some o

theorem Hp.ext {h k : Hp} (e : ∀ b, h b = k b) : h = k := funext e
theorem Hp.emp_add (h : Hp) : Hp.add Hp.emp h = h := Hp.ext fun b => by simp [Hp.add, Hp.emp]
theorem Hp.add_emp (h : Hp) : Hp.add h Hp.emp = h := Hp.ext fun b => by simp [Hp.add, Hp.emp]
theorem Hp.disj_emp (h : Hp) : Hp.disj h Hp.emp := fun _ => .inr rfl
theorem Hp.emp_disj (h : Hp) : Hp.disj Hp.emp h := fun _ => .inl rfl
theorem Hp.disj_comm {h k : Hp} (d : Hp.disj h k) : Hp.disj k h := fun b => (d b).symm
theorem Hp.add_assoc (h k m : Hp) : Hp.add (Hp.add h k) m = Hp.add h (Hp.add k m) := Hp.ext fun b => by simp [Hp.add, Option.or_assoc]
theorem Hp.add_comm {h k : Hp} (d : Hp.disj h k) : Hp.add h k = Hp.add k h := Hp.ext fun b => by
  rcases d b with e | e <;> simp [Hp.add, e]
theorem Hp.disj_add {h k m : Hp} : Hp.disj h (Hp.add k m) ↔ Hp.disj h k ∧ Hp.disj h m := by
  constructor
  · intro d
    refine ⟨fun b => ?_, fun b => ?_⟩
    · rcases d b with e | e
      · exact .inl e
      · right; simp [Hp.add, Option.or_eq_none_iff] at e; exact e.1
    · rcases d b with e | e
      · exact .inl e
      · right; simp [Hp.add, Option.or_eq_none_iff] at e; exact e.2
  · rintro ⟨d1, d2⟩ b
    rcases d1 b with e | e
    · exact .inl e
    · rcases d2 b with e2 | e2
      · exact .inl e2
      · right; simp [Hp.add, e, e2]
theorem Hp.add_disj {h k m : Hp} : Hp.disj (Hp.add h k) m ↔ Hp.disj h m ∧ Hp.disj k m :=
  ⟨fun d => let ⟨a, b⟩ := Hp.disj_add.1 (Hp.disj_comm d); ⟨Hp.disj_comm a, Hp.disj_comm b⟩, fun ⟨a, b⟩ => Hp.disj_comm (Hp.disj_add.2 ⟨Hp.disj_comm a, Hp.disj_comm b⟩)⟩
theorem Hp.le_refl (h : Hp) : Hp.le h h := fun _ _ e => e
theorem Hp.le_trans {h k m : Hp} (a : Hp.le h k) (b : Hp.le k m) : Hp.le h m := fun x o e => b x o (a x o e)
theorem Hp.le_add_left (h k : Hp) : Hp.le h (Hp.add h k) := fun b o e => by simp [Hp.add, e]
theorem Hp.le_add_right {h k : Hp} (d : Hp.disj h k) : Hp.le k (Hp.add h k) := fun b o e => by
  rcases d b with e2 | e2
  · simp [Hp.add, e2, e]
  · rw [e] at e2; cases e2
theorem Hp.add_le_add {h k h' k' : Hp} (a : Hp.le h h') (b : Hp.le k k') (d : Hp.disj h' k') : Hp.le (Hp.add h k) (Hp.add h' k') := fun x o e => by
  simp only [Hp.add] at e ⊢
  cases hx : h x with
  | some o' => rw [hx] at e; simp at e; subst e; rw [a x _ hx]; rfl
  | none =>
    rw [hx] at e; simp at e
    have := b x _ e
    rcases d x with e2 | e2
    · rw [e2, this]; rfl
    · rw [this] at e2; cases e2
theorem Hp.disj_le {h k h' k' : Hp} (a : Hp.le h h') (b : Hp.le k k') (d : Hp.disj h' k') : Hp.disj h k := fun x => by
  rcases d x with e | e
  · left; cases hx : h x with
    | none => rfl
    | some o => rw [a x o hx] at e; cases e
  · right; cases hx : k x with
    | none => rfl
    | some o => rw [b x o hx] at e; cases e

/-! ### Atoms and stars -/
abbrev Atom := Hp → Prop
def star : List Atom → Atom
  | [] => fun h => h = Hp.emp
  | A :: L => fun h => ∃ h1 h2, A h1 ∧ star L h2 ∧ Hp.disj h1 h2 ∧ h = Hp.add h1 h2

theorem star_append {L M : List Atom} {h : Hp} : star (L ++ M) h ↔ ∃ h1 h2, star L h1 ∧ star M h2 ∧ Hp.disj h1 h2 ∧ h = Hp.add h1 h2 := by
  induction L generalizing h with
  | nil =>
    constructor
    · intro s; exact ⟨Hp.emp, h, rfl, s, Hp.emp_disj _, (Hp.emp_add _).symm⟩
    · rintro ⟨h1, h2, rfl, s, _, rfl⟩; rw [Hp.emp_add]; exact s
  | cons A L ih =>
    constructor
    · rintro ⟨h1, h2, a, s, d, rfl⟩
      obtain ⟨k1, k2, s1, s2, d2, rfl⟩ := ih.1 s
      have dd := Hp.disj_add.1 d
      exact ⟨Hp.add h1 k1, k2, ⟨h1, k1, a, s1, dd.1, rfl⟩, s2, Hp.add_disj.2 ⟨dd.2, d2⟩, (Hp.add_assoc _ _ _).symm⟩
    · rintro ⟨_, k2, ⟨h1, k1, a, s1, d1, rfl⟩, s2, d2, rfl⟩
      have dd := Hp.add_disj.1 d2
      exact ⟨h1, Hp.add k1 k2, a, ih.2 ⟨k1, k2, s1, s2, dd.2, rfl⟩, Hp.disj_add.2 ⟨d1, dd.1⟩, Hp.add_assoc _ _ _⟩

theorem star_perm {L M : List Atom} (p : L.Perm M) : ∀ {h : Hp}, star L h → star M h := by
  induction p with
  | nil => exact fun s => s
  | cons A _ ih => rintro h ⟨h1, h2, a, s, d, rfl⟩; exact ⟨h1, h2, a, ih s, d, rfl⟩
  | swap A B L =>
    rintro h ⟨h1, _, a, ⟨h2, h3, b, s, d2, rfl⟩, d, rfl⟩
    have dd := Hp.disj_add.1 d
    refine ⟨h2, Hp.add h1 h3, b, ⟨h1, h3, a, s, dd.2, rfl⟩, Hp.disj_add.2 ⟨Hp.disj_comm dd.1, d2⟩, ?_⟩
    rw [← Hp.add_assoc, Hp.add_comm dd.1, Hp.add_assoc]
  | trans _ _ i1 i2 => exact fun s => i2 (i1 s)

/-- What one list of atoms gives another (of a part of the heap). -/
def Ent (L M : List Atom) : Prop := ∀ h, star L h → ∃ k, star M k ∧ Hp.le k h
theorem Ent.refl (L : List Atom) : Ent L L := fun h s => ⟨h, s, Hp.le_refl h⟩
theorem Ent.trans {L M N : List Atom} (a : Ent L M) (b : Ent M N) : Ent L N := fun h s => let ⟨k, s1, l1⟩ := a h s; let ⟨m, s2, l2⟩ := b k s1; ⟨m, s2, Hp.le_trans l2 l1⟩
theorem Ent.perm {L M : List Atom} (p : L.Perm M) : Ent L M := fun h s => ⟨h, star_perm p s, Hp.le_refl h⟩
theorem Ent.append {L M L' M' : List Atom} (a : Ent L L') (b : Ent M M') : Ent (L ++ M) (L' ++ M') := fun h s => by
  obtain ⟨h1, h2, s1, s2, d, rfl⟩ := star_append.1 s
  obtain ⟨k1, t1, l1⟩ := a h1 s1
  obtain ⟨k2, t2, l2⟩ := b h2 s2
  exact ⟨_, star_append.2 ⟨k1, k2, t1, t2, Hp.disj_le l1 l2 d, rfl⟩, Hp.add_le_add l1 l2 d⟩
theorem Ent.cons {L M : List Atom} (A : Atom) (b : Ent L M) : Ent (A :: L) (A :: M) := Ent.append (Ent.refl [A]) b
theorem Ent.drop (A : Atom) (L : List Atom) : Ent (A :: L) L := by
  rintro h ⟨h1, h2, a, s, d, rfl⟩
  exact ⟨h2, s, Hp.le_add_right d⟩
theorem Ent.dropAll (L : List Atom) : Ent L [] := fun h _ => ⟨Hp.emp, rfl, fun b o e => by simp [Hp.emp] at e⟩
theorem Ent.left (L M : List Atom) : Ent (L ++ M) L := by
  have := Ent.append (Ent.refl L) (Ent.dropAll M); simpa using this
theorem Ent.right (L M : List Atom) : Ent (L ++ M) M := by
  have := Ent.append (Ent.dropAll L) (Ent.refl M); simpa using this
/-- An atom changed for others. -/
theorem Ent.head {A : Atom} {M L : List Atom} (e : Ent [A] M) : Ent (A :: L) (M ++ L) := Ent.append e (Ent.refl L)

/-! ### What lies in memory -/
abbrev Base := World
/-- A row of cells of the call's own. -/
def pt (b : Nat) (cs : List Value) : Atom := fun h => ∃ t, h = Hp.one b (.cells cs.toArray t (0, 0))
/-- A row of cells that came in: it is read alone. -/
def ro (β : Base) (b : Nat) (cs : List Value) : Atom := fun h => h = Hp.emp ∧ b < β.heap.size ∧ ∃ t fz, β.heap[b]? = some (.cells cs.toArray t fz)
def pq (β : Base) (q : Bool) (b : Nat) (cs : List Value) : Atom := if q then pt b cs else ro β b cs
def lpA (l : Nat) (r : Loop) : Atom := fun h => h = Hp.one l (.loop r)
def dfA (D : Nat) : Atom := fun h => h = Hp.one D (.deferred (some []))
/-- A plain fact. -/
def pureA (p : Prop) : Atom := fun h => p ∧ h = Hp.emp
/-- Something, of some kind. -/
def exA {α : Type} (f : α → List Atom) : Atom := fun h => ∃ x, star (f x) h

/-- A world that keeps what lay in β, and holds L in blocks of its own. -/
def Sat (β : Base) (w : World) (L : List Atom) : Prop :=
  Below β.heap.size β w ∧ ∃ h, star L h ∧ ∀ b o, h b = some o → β.heap.size ≤ b ∧ w.heap[b]? = some o

theorem Sat.ent {β : Base} {w : World} {L M : List Atom} (s : Sat β w L) (e : Ent L M) : Sat β w M := by
  obtain ⟨hb, h, st, hw⟩ := s
  obtain ⟨k, sk, l⟩ := e h st
  exact ⟨hb, k, sk, fun b o e => hw b o (l b o e)⟩
theorem Sat.perm {β : Base} {w : World} {L M : List Atom} (s : Sat β w L) (p : L.Perm M) : Sat β w M := s.ent (Ent.perm p)
theorem Sat.size {β : Base} {w : World} {L : List Atom} (s : Sat β w L) : β.heap.size ≤ w.heap.size := s.1.size
theorem Sat.heap_eq {β : Base} {w w' : World} {L : List Atom} (s : Sat β w L) (hh : w'.heap = w.heap) (ho : w'.os = w.os) (ht : w'.tape = w.tape) (hu : w'.output = w.output) : Sat β w' L := by
  obtain ⟨hb, h, st, hw⟩ := s
  exact ⟨⟨ho.trans hb.os, ht.trans hb.tape, hu.trans hb.output, by rw [hh]; exact hb.size, fun k hk => by rw [hh]; exact hb.block k hk⟩, h, st, by rw [hh]; exact hw⟩
theorem Sat.drew {β : Base} {w : World} {L : List Atom} (s : Sat β w L) : Sat β w.drew L := s.heap_eq rfl rfl rfl rfl

theorem Sat.here {β : Base} {w : World} {A : Atom} {L : List Atom} (s : Sat β w (A :: L)) : ∃ h, A h ∧ ∀ b o, h b = some o → β.heap.size ≤ b ∧ w.heap[b]? = some o := by
  obtain ⟨hb, h, ⟨h1, h2, a, _, d, rfl⟩, hw⟩ := s
  exact ⟨h1, a, fun b o e => hw b o (Hp.le_add_left _ _ b o e)⟩
theorem perm_at : ∀ {L : List Atom} {i : Nat} {A : Atom}, L[i]? = some A → L.Perm (A :: L.eraseIdx i)
  | [], _, _, h => by simp at h
  | B :: L, 0, A, h => by simp at h; subst h; exact List.Perm.refl _
  | B :: L, i + 1, A, h => by
    have := perm_at (L := L) (i := i) (A := A) (by simpa using h)
    exact (List.Perm.cons B this).trans (List.Perm.swap A B _)
theorem Sat.at_ {β : Base} {w : World} {A : Atom} {L : List Atom} {i : Nat} (s : Sat β w L) (h : L[i]? = some A) : ∃ h, A h ∧ ∀ b o, h b = some o → β.heap.size ≤ b ∧ w.heap[b]? = some o :=
  (s.perm (perm_at h)).here

theorem Sat.cell_pt {β : Base} {w : World} {L : List Atom} {b i : Nat} {cs : List Value} (s : Sat β w L) (h : L[i]? = some (pt b cs)) :
    β.heap.size ≤ b ∧ ∃ t, w.heap[b]? = some (.cells cs.toArray t (0, 0)) := by
  obtain ⟨k, ⟨t, rfl⟩, hw⟩ := s.at_ h
  have := hw b (.cells cs.toArray t (0, 0)) (by simp [Hp.one])
  exact ⟨this.1, t, this.2⟩
theorem Sat.cell_pq {β : Base} {w : World} {L : List Atom} {q : Bool} {b i : Nat} {cs : List Value} (s : Sat β w L) (h : L[i]? = some (pq β q b cs)) :
    ∃ t fz, w.heap[b]? = some (.cells cs.toArray t fz) := by
  cases q with
  | true => obtain ⟨_, t, ht⟩ := s.cell_pt (b := b) (cs := cs) (by rw [h]; rfl); exact ⟨t, _, ht⟩
  | false =>
    obtain ⟨k, ⟨rfl, hlt, t, fz, e⟩, _⟩ := s.at_ (A := ro β b cs) (by rw [h]; rfl)
    exact ⟨t, fz, by rw [s.1.block b hlt]; exact e⟩

theorem star_set {L : List Atom} {i : Nat} {A A' : Atom} (h : L[i]? = some A) : (L.set i A').Perm (A' :: L.eraseIdx i) := by
  have hi := (List.getElem?_eq_some_iff.1 h).1
  have := perm_at (L := L.set i A') (i := i) (A := A') (by simp [hi])
  have e : (L.set i A').eraseIdx i = L.eraseIdx i := by
    rw [List.eraseIdx_set_eq]
  rw [e] at this
  exact this

/-- One block of the call's own turned. -/
theorem Sat.update {β : Base} {w w' : World} {L : List Atom} {b : Nat} {o o' : Obj} {A' : Atom} (s : Sat β w ((fun h => h = Hp.one b o) :: L)) (hA : A' (Hp.one b o'))
    (hw' : ∀ k, w'.heap[k]? = if k = b then some o' else w.heap[k]?) (hsz : w'.heap.size = w.heap.size) (ho : w'.os = w.os) (ht : w'.tape = w.tape) (hu : w'.output = w.output) : Sat β w' (A' :: L) := by
  obtain ⟨hb, h, ⟨h1, h2, rfl, st, d, rfl⟩, hw⟩ := s
  have hB := (hw b o (by simp [Hp.add, Hp.one])).1
  refine ⟨⟨ho.trans hb.os, ht.trans hb.tape, hu.trans hb.output, by rw [hsz]; exact hb.size, fun k hk => by rw [hw' k, if_neg (by omega)]; exact hb.block k hk⟩, Hp.add (Hp.one b o') h2, ⟨_, h2, hA, st, ?_, rfl⟩, ?_⟩
  · intro k
    rcases d k with e | e
    · left; simp only [Hp.one] at e ⊢; split at e <;> simp_all
    · exact .inr e
  · intro k p e
    by_cases hk : k = b
    · subst hk
      simp [Hp.add, Hp.one] at e
      subst e
      exact ⟨hB, by rw [hw' k, if_pos rfl]⟩
    · have e2 : h2 k = some p := by simpa [Hp.add, Hp.one, hk] using e
      have := hw k p (by simp [Hp.add, Hp.one, hk, e2])
      exact ⟨this.1, by rw [hw' k, if_neg hk]; exact this.2⟩

/-- A new block. -/
theorem Sat.new {β : Base} {w : World} {L : List Atom} (s : Sat β w L) (o : Obj) {A : Atom} (hA : A (Hp.one w.heap.size o)) : Sat β (w.alloc o) (A :: L) := by
  obtain ⟨hb, h, st, hw⟩ := s
  have hlt : ∀ k p, h k = some p → k < w.heap.size := fun k p e => by
    have := (hw k p e).2
    exact (Array.getElem?_eq_some_iff.1 this).1
  refine ⟨hb.alloc hb.size o, Hp.add (Hp.one w.heap.size o) h, ⟨_, h, hA, st, ?_, rfl⟩, ?_⟩
  · intro k
    by_cases hk : k = w.heap.size
    · right; cases e : h k with
      | none => rfl
      | some p => have := hlt k p e; omega
    · left; simp [Hp.one, hk]
  · intro k p e
    by_cases hk : k = w.heap.size
    · subst hk
      simp [Hp.add, Hp.one] at e
      subst e
      exact ⟨hb.size, World.alloc_heap_new w o⟩
    · have e2 : h k = some p := by simpa [Hp.add, Hp.one, hk] using e
      have := hw k p e2
      have hk2 := hlt k p e2
      exact ⟨this.1, by rw [show (w.alloc o).heap[k]? = w.heap[k]? from Below.heap_alloc w o k hk2]; exact this.2⟩

/-! ### Opening an atom -/
theorem Sat.exA {β : Base} {w : World} {α : Type} {f : α → List Atom} {L : List Atom} (s : Sat β w (exA f :: L)) : ∃ x, Sat β w (f x ++ L) := by
  obtain ⟨hb, h, ⟨h1, h2, ⟨x, a⟩, st, d, rfl⟩, hw⟩ := s
  exact ⟨x, hb, _, star_append.2 ⟨h1, h2, a, st, d, rfl⟩, hw⟩
theorem Ent.exA {α : Type} {f : α → List Atom} (x : α) : Ent (f x) [exA f] := fun h s => ⟨h, ⟨h, Hp.emp, ⟨x, s⟩, rfl, Hp.disj_emp _, (Hp.add_emp _).symm⟩, Hp.le_refl h⟩
theorem Sat.pureA {β : Base} {w : World} {p : Prop} {L : List Atom} (s : Sat β w (pureA p :: L)) : p ∧ Sat β w L := by
  obtain ⟨hb, h, ⟨h1, h2, ⟨hp, rfl⟩, st, d, rfl⟩, hw⟩ := s
  exact ⟨hp, hb, h2, st, by rw [Hp.emp_add] at hw; exact hw⟩
theorem Ent.pureA {p : Prop} {L : List Atom} (hp : p) : Ent L (pureA p :: L) := fun h s => ⟨h, ⟨Hp.emp, h, ⟨hp, rfl⟩, s, Hp.emp_disj _, (Hp.emp_add _).symm⟩, Hp.le_refl h⟩
/-- Two rows of the call's own are two. -/
theorem Sat.ne {β : Base} {w : World} {b c : Nat} {xs ys : List Value} {L : List Atom} (s : Sat β w (pt b xs :: pt c ys :: L)) : b ≠ c := by
  rintro rfl
  obtain ⟨hb, h, ⟨h1, _, ⟨t, rfl⟩, ⟨h2, h3, ⟨t2, rfl⟩, st, d2, rfl⟩, d, rfl⟩, hw⟩ := s
  have := (Hp.disj_add.1 d).1 b
  simp [Hp.one] at this
end Go.Proofs.Ytmaheecbohbilaa.Sl
