import Derived.RangeFuncNested
import Derived.OrdersIn
import Derived.KernelRfl
import Derived.Laws.Sem
import Derived.Laws.Entries
import Derived.ChangeKeysEq
import Derived.Laws.CopyRow
import Derived.Shelf.Abstract
namespace Go.Proofs.YtakkogdmlbkdaaaGreatDoor.Sl
open Go Go.RowKit
set_option linter.unusedVariables false
set_option linter.unusedSimpArgs false

abbrev Hp := Nat → Option Obj
def Hp.emp : Hp := fun _ => none
def Hp.disj (h k : Hp) : Prop := ∀ b, h b = none ∨ k b = none
def Hp.add (h k : Hp) : Hp := fun b => (h b).or (k b)
def Hp.one (b : Nat) (o : Obj) : Hp := fun k => if k = b then some o else none
def Hp.le (h k : Hp) : Prop := ∀ b o, h b = some o → k b = some o

theorem Hp.ext {h k : Hp} (e : ∀ b, h b = k b) : h = k := funext e
theorem Hp.emp_add (h : Hp) : Hp.add Hp.emp h = h := Hp.ext fun b => by simp [Hp.add, Hp.emp]
theorem Hp.add_emp (h : Hp) : Hp.add h Hp.emp = h := Hp.ext fun b => by simp [Hp.add, Hp.emp]
theorem Hp.disj_emp (h : Hp) : Hp.disj h Hp.emp := fun _ => .inr rfl
theorem Hp.emp_disj (h : Hp) : Hp.disj Hp.emp h := fun _ => .inl rfl
theorem Hp.disj_comm {h k : Hp} (d : Hp.disj h k) : Hp.disj k h := fun b => (d b).symm
theorem Hp.add_assoc (h k m : Hp) : Hp.add (Hp.add h k) m = Hp.add h (Hp.add k m) := Hp.ext fun b => by simp [Hp.add, Option.or_assoc]
theorem Hp.add_comm {h k : Hp} (d : Hp.disj h k) : Hp.add h k = Hp.add k h := Hp.ext fun b => by
 rcases d b with e | e <;> simp [Hp.add, e]
theorem Hp.disj_add {h k m : Hp} : Hp.disj h (Hp.add k m) ↔ Hp.disj h k ∧ Hp.disj h m := by
 constructor
 ·intro d
  refine ⟨fun b => ?_, fun b => ?_⟩
  ·rcases d b with e | e
   ·exact .inl e
   ·right; simp [Hp.add, Option.or_eq_none_iff] at e; exact e.1
  ·rcases d b with e | e
   ·exact .inl e
   ·right; simp [Hp.add, Option.or_eq_none_iff] at e; exact e.2
 ·rintro ⟨d1, d2⟩ b
  rcases d1 b with e | e
  ·exact .inl e
  ·rcases d2 b with e2 | e2
   ·exact .inl e2
   ·right; simp [Hp.add, e, e2]
theorem Hp.add_disj {h k m : Hp} : Hp.disj (Hp.add h k) m ↔ Hp.disj h m ∧ Hp.disj k m :=
 ⟨fun d => let ⟨a, b⟩ := Hp.disj_add.1 (Hp.disj_comm d); ⟨Hp.disj_comm a, Hp.disj_comm b⟩, fun ⟨a, b⟩ => Hp.disj_comm (Hp.disj_add.2 ⟨Hp.disj_comm a, Hp.disj_comm b⟩)⟩
theorem Hp.le_refl (h : Hp) : Hp.le h h := fun _ _ e => e
theorem Hp.le_trans {h k m : Hp} (a : Hp.le h k) (b : Hp.le k m) : Hp.le h m := fun x o e => b x o (a x o e)
theorem Hp.le_add_left (h k : Hp) : Hp.le h (Hp.add h k) := fun b o e => by simp [Hp.add, e]
theorem Hp.le_add_right {h k : Hp} (d : Hp.disj h k) : Hp.le k (Hp.add h k) := fun b o e => by
 rcases d b with e2 | e2
 ·simp [Hp.add, e2, e]
 ·rw [e] at e2; cases e2
theorem Hp.add_le_add {h k h' k' : Hp} (a : Hp.le h h') (b : Hp.le k k') (d : Hp.disj h' k') : Hp.le (Hp.add h k) (Hp.add h' k') := fun x o e => by
 simp only [Hp.add] at e ⊢
 cases hx : h x with
 | some o' => rw [hx] at e; simp at e; subst e; rw [a x _ hx]; rfl
 | none =>
  rw [hx] at e; simp at e
  have := b x _ e
  rcases d x with e2 | e2
  ·rw [e2, this]; rfl
  ·rw [this] at e2; cases e2
theorem Hp.disj_le {h k h' k' : Hp} (a : Hp.le h h') (b : Hp.le k k') (d : Hp.disj h' k') : Hp.disj h k := fun x => by
 rcases d x with e | e
 ·left; cases hx : h x with
  | none => rfl
  | some o => rw [a x o hx] at e; cases e
 ·right; cases hx : k x with
  | none => rfl
  | some o => rw [b x o hx] at e; cases e

abbrev Atom := Hp → Prop
def star : List Atom → Atom
 | [] => fun h => h = Hp.emp
 | A :: L => fun h => ∃ h1 h2, A h1 ∧ star L h2 ∧ Hp.disj h1 h2 ∧ h = Hp.add h1 h2

theorem star_append {L M : List Atom} {h : Hp} : star (L ++ M) h ↔ ∃ h1 h2, star L h1 ∧ star M h2 ∧ Hp.disj h1 h2 ∧ h = Hp.add h1 h2 := by
 induction L generalizing h with
 | nil =>
  constructor
  ·intro s; exact ⟨Hp.emp, h, rfl, s, Hp.emp_disj _, (Hp.emp_add _).symm⟩
  ·rintro ⟨h1, h2, rfl, s, _, rfl⟩; rw [Hp.emp_add]; exact s
 | cons A L ih =>
  constructor
  ·rintro ⟨h1, h2, a, s, d, rfl⟩
   obtain ⟨k1, k2, s1, s2, d2, rfl⟩ := ih.1 s
   have dd := Hp.disj_add.1 d
   exact ⟨Hp.add h1 k1, k2, ⟨h1, k1, a, s1, dd.1, rfl⟩, s2, Hp.add_disj.2 ⟨dd.2, d2⟩, (Hp.add_assoc _ _ _).symm⟩
  ·rintro ⟨_, k2, ⟨h1, k1, a, s1, d1, rfl⟩, s2, d2, rfl⟩
   have dd := Hp.add_disj.1 d2
   exact ⟨h1, Hp.add k1 k2, a, ih.2 ⟨k1, k2, s1, s2, dd.2, rfl⟩, Hp.disj_add.2 ⟨d1, dd.1⟩, Hp.add_assoc _ _ _⟩

theorem star_perm {L M : List Atom} (p : L.Perm M) : ∀ {h : Hp}, star L h → star M h := by
 induction p with
 | nil => exact fun s => s
 | cons A _ ih => rintro h ⟨h1, h2, a, s, d, rfl⟩; exact ⟨h1, h2, a, ih s, d, rfl⟩
 | swap A B L =>
  rintro h ⟨h1, _, a, ⟨h2, h3, b, s, d2, rfl⟩, d, rfl⟩
  have dd := Hp.disj_add.1 d
  refine ⟨h2, Hp.add h1 h3, b, ⟨h1, h3, a, s, dd.2, rfl⟩, Hp.disj_add.2 ⟨Hp.disj_comm dd.1, d2⟩, ?_⟩
  rw [← Hp.add_assoc, Hp.add_comm dd.1, Hp.add_assoc]
 | trans _ _ i1 i2 => exact fun s => i2 (i1 s)

def Ent (L M : List Atom) : Prop := ∀ h, star L h → ∃ k, star M k ∧ Hp.le k h
theorem Ent.refl (L : List Atom) : Ent L L := fun h s => ⟨h, s, Hp.le_refl h⟩
theorem Ent.trans {L M N : List Atom} (a : Ent L M) (b : Ent M N) : Ent L N := fun h s => let ⟨k, s1, l1⟩ := a h s; let ⟨m, s2, l2⟩ := b k s1; ⟨m, s2, Hp.le_trans l2 l1⟩
theorem Ent.perm {L M : List Atom} (p : L.Perm M) : Ent L M := fun h s => ⟨h, star_perm p s, Hp.le_refl h⟩
theorem Ent.append {L M L' M' : List Atom} (a : Ent L L') (b : Ent M M') : Ent (L ++ M) (L' ++ M') := fun h s => by
 obtain ⟨h1, h2, s1, s2, d, rfl⟩ := star_append.1 s
 obtain ⟨k1, t1, l1⟩ := a h1 s1
 obtain ⟨k2, t2, l2⟩ := b h2 s2
 exact ⟨_, star_append.2 ⟨k1, k2, t1, t2, Hp.disj_le l1 l2 d, rfl⟩, Hp.add_le_add l1 l2 d⟩
theorem Ent.cons {L M : List Atom} (A : Atom) (b : Ent L M) : Ent (A :: L) (A :: M) := Ent.append (Ent.refl [A]) b
theorem Ent.drop (A : Atom) (L : List Atom) : Ent (A :: L) L := by
 rintro h ⟨h1, h2, a, s, d, rfl⟩
 exact ⟨h2, s, Hp.le_add_right d⟩
theorem Ent.dropAll (L : List Atom) : Ent L [] := fun h _ => ⟨Hp.emp, rfl, fun b o e => by simp [Hp.emp] at e⟩
theorem Ent.left (L M : List Atom) : Ent (L ++ M) L := by
 have := Ent.append (Ent.refl L) (Ent.dropAll M); simpa using this
theorem Ent.right (L M : List Atom) : Ent (L ++ M) M := by
 have := Ent.append (Ent.dropAll L) (Ent.refl M); simpa using this
theorem Ent.head {A : Atom} {M L : List Atom} (e : Ent [A] M) : Ent (A :: L) (M ++ L) := Ent.append e (Ent.refl L)

abbrev Base := World
def pt (b : Nat) (cs : List Value) : Atom := fun h => ∃ t, h = Hp.one b (.cells cs.toArray t (0, 0))
def ro (β : Base) (b : Nat) (cs : List Value) : Atom := fun h => h = Hp.emp ∧ b < β.heap.size ∧ ∃ t fz, β.heap[b]? = some (.cells cs.toArray t fz)
def pq (β : Base) (q : Bool) (b : Nat) (cs : List Value) : Atom := if q then pt b cs else ro β b cs
def lpA (l : Nat) (r : Loop) : Atom := fun h => h = Hp.one l (.loop r)
def dfA (D : Nat) : Atom := fun h => h = Hp.one D (.deferred (some []))
def pureA (p : Prop) : Atom := fun h => p ∧ h = Hp.emp
def exA {α : Type} (f : α → List Atom) : Atom := fun h => ∃ x, star (f x) h

structure Bel (β w : World) : Prop where
 bel : Below β.heap.size β w
 dr : β.drawn ≤ w.drawn
theorem Bel.os {β w : World} (h : Bel β w) : w.os = β.os := h.bel.os
theorem Bel.tape {β w : World} (h : Bel β w) : w.tape = β.tape := h.bel.tape
theorem Bel.output {β w : World} (h : Bel β w) : w.output = β.output := h.bel.output
theorem Bel.size {β w : World} (h : Bel β w) : β.heap.size ≤ w.heap.size := h.bel.size
theorem Bel.block {β w : World} (h : Bel β w) (k : Nat) (hk : k < β.heap.size) : w.heap[k]? = β.heap[k]? := h.bel.block k hk
def Sat (β : Base) (w : World) (L : List Atom) : Prop :=
 Bel β w ∧ ∃ h, star L h ∧ ∀ b o, h b = some o → β.heap.size ≤ b ∧ w.heap[b]? = some o

theorem Sat.ent {β : Base} {w : World} {L M : List Atom} (s : Sat β w L) (e : Ent L M) : Sat β w M := by
 obtain ⟨hb, h, st, hw⟩ := s
 obtain ⟨k, sk, l⟩ := e h st
 exact ⟨hb, k, sk, fun b o e => hw b o (l b o e)⟩
theorem Sat.perm {β : Base} {w : World} {L M : List Atom} (s : Sat β w L) (p : L.Perm M) : Sat β w M := s.ent (Ent.perm p)
theorem Sat.heap_eq {β : Base} {w w' : World} {L : List Atom} (s : Sat β w L) (hh : w'.heap = w.heap) (ho : w'.os = w.os) (ht : w'.tape = w.tape) (hu : w'.output = w.output) (hd : w.drawn ≤ w'.drawn := by exact Nat.le_refl _) : Sat β w' L := by
 obtain ⟨hb, h, st, hw⟩ := s
 exact ⟨⟨⟨ho.trans hb.os, ht.trans hb.tape, hu.trans hb.output, by rw [hh]; exact hb.size, fun k hk => by rw [hh]; exact hb.block k hk⟩, Nat.le_trans hb.dr hd⟩, h, st, by rw [hh]; exact hw⟩
theorem Sat.drew {β : Base} {w : World} {L : List Atom} (s : Sat β w L) : Sat β w.drew L := s.heap_eq rfl rfl rfl rfl (Nat.le_succ _)

theorem Sat.here {β : Base} {w : World} {A : Atom} {L : List Atom} (s : Sat β w (A :: L)) : ∃ h, A h ∧ ∀ b o, h b = some o → β.heap.size ≤ b ∧ w.heap[b]? = some o := by
 obtain ⟨hb, h, ⟨h1, h2, a, _, d, rfl⟩, hw⟩ := s
 exact ⟨h1, a, fun b o e => hw b o (Hp.le_add_left _ _ b o e)⟩
theorem perm_at : ∀ {L : List Atom} {i : Nat} {A : Atom}, L[i]? = some A → L.Perm (A :: L.eraseIdx i)
 | [], _, _, h => by simp at h
 | B :: L, 0, A, h => by simp at h; subst h; exact List.Perm.refl _
 | B :: L, i + 1, A, h => by
  have := perm_at (L := L) (i := i) (A := A) (by simpa using h)
  exact (List.Perm.cons B this).trans (List.Perm.swap A B _)
theorem Sat.at_ {β : Base} {w : World} {A : Atom} {L : List Atom} {i : Nat} (s : Sat β w L) (h : L[i]? = some A) : ∃ h, A h ∧ ∀ b o, h b = some o → β.heap.size ≤ b ∧ w.heap[b]? = some o :=
 (s.perm (perm_at h)).here

theorem Sat.cell_pt {β : Base} {w : World} {L : List Atom} {b i : Nat} {cs : List Value} (s : Sat β w L) (h : L[i]? = some (pt b cs)) :
  β.heap.size ≤ b ∧ ∃ t, w.heap[b]? = some (.cells cs.toArray t (0, 0)) := by
 obtain ⟨k, ⟨t, rfl⟩, hw⟩ := s.at_ h
 have := hw b (.cells cs.toArray t (0, 0)) (by simp [Hp.one])
 exact ⟨this.1, t, this.2⟩
theorem Sat.cell_pq {β : Base} {w : World} {L : List Atom} {q : Bool} {b i : Nat} {cs : List Value} (s : Sat β w L) (h : L[i]? = some (pq β q b cs)) :
  ∃ t fz, w.heap[b]? = some (.cells cs.toArray t fz) := by
 cases q with
 | true => obtain ⟨_, t, ht⟩ := s.cell_pt (b := b) (cs := cs) (by rw [h]; rfl); exact ⟨t, _, ht⟩
 | false =>
  obtain ⟨k, ⟨rfl, hlt, t, fz, e⟩, _⟩ := s.at_ (A := ro β b cs) (by rw [h]; rfl)
  exact ⟨t, fz, by rw [s.1.block b hlt]; exact e⟩

theorem star_set {L : List Atom} {i : Nat} {A A' : Atom} (h : L[i]? = some A) : (L.set i A').Perm (A' :: L.eraseIdx i) := by
 have hi := (List.getElem?_eq_some_iff.1 h).1
 have := perm_at (L := L.set i A') (i := i) (A := A') (by simp [hi])
 have e : (L.set i A').eraseIdx i = L.eraseIdx i := by
  rw [List.eraseIdx_set_eq]
 rw [e] at this
 exact this

theorem Sat.update {β : Base} {w w' : World} {L : List Atom} {b : Nat} {o o' : Obj} {A' : Atom} (s : Sat β w ((fun h => h = Hp.one b o) :: L)) (hA : A' (Hp.one b o'))
  (hw' : ∀ k, w'.heap[k]? = if k = b then some o' else w.heap[k]?) (hsz : w'.heap.size = w.heap.size) (ho : w'.os = w.os) (ht : w'.tape = w.tape) (hu : w'.output = w.output) (hdr : w.drawn ≤ w'.drawn := by exact Nat.le_refl _) : Sat β w' (A' :: L) := by
 obtain ⟨hb, h, ⟨h1, h2, rfl, st, d, rfl⟩, hw⟩ := s
 have hB := (hw b o (by simp [Hp.add, Hp.one])).1
 refine ⟨⟨⟨ho.trans hb.os, ht.trans hb.tape, hu.trans hb.output, by rw [hsz]; exact hb.size, fun k hk => by have := hb.size; rw [hw' k, if_neg (by omega)]; exact hb.block k hk⟩, Nat.le_trans hb.dr hdr⟩, Hp.add (Hp.one b o') h2, ⟨_, h2, hA, st, ?_, rfl⟩, ?_⟩
 ·intro k
  rcases d k with e | e
  ·left; simp only [Hp.one] at e ⊢; split at e <;> simp_all
  ·exact .inr e
 ·intro k p e
  by_cases hk : k = b
  ·subst hk
   simp [Hp.add, Hp.one] at e
   subst e
   exact ⟨hB, by rw [hw' k, if_pos rfl]⟩
  ·have e2 : h2 k = some p := by simpa [Hp.add, Hp.one, hk] using e
   have := hw k p (by simp [Hp.add, Hp.one, hk, e2])
   exact ⟨this.1, by rw [hw' k, if_neg hk]; exact this.2⟩

theorem Sat.new {β : Base} {w : World} {L : List Atom} (s : Sat β w L) (o : Obj) {A : Atom} (hA : A (Hp.one w.heap.size o)) : Sat β (w.alloc o) (A :: L) := by
 obtain ⟨hb, h, st, hw⟩ := s
 have hlt : ∀ k p, h k = some p → k < w.heap.size := fun k p e => by
  have := (hw k p e).2
  exact (Array.getElem?_eq_some_iff.1 this).1
 refine ⟨⟨hb.bel.alloc hb.size o, hb.dr⟩, Hp.add (Hp.one w.heap.size o) h, ⟨_, h, hA, st, ?_, rfl⟩, ?_⟩
 ·intro k
  by_cases hk : k = w.heap.size
  ·right; cases e : h k with
   | none => rfl
   | some p => have := hlt k p e; omega
  ·left; simp [Hp.one, hk]
 ·intro k p e
  by_cases hk : k = w.heap.size
  ·subst hk
   simp [Hp.add, Hp.one] at e
   subst e
   exact ⟨hb.size, World.alloc_heap_new w o⟩
  ·have e2 : h k = some p := by simpa [Hp.add, Hp.one, hk] using e
   have := hw k p e2
   have hk2 := hlt k p e2
   exact ⟨this.1, by rw [show (w.alloc o).heap[k]? = w.heap[k]? from Below.heap_alloc w o k hk2]; exact this.2⟩

theorem Sat.exA {β : Base} {w : World} {α : Type} {f : α → List Atom} {L : List Atom} (s : Sat β w (exA f :: L)) : ∃ x, Sat β w (f x ++ L) := by
 obtain ⟨hb, h, ⟨h1, h2, ⟨x, a⟩, st, d, rfl⟩, hw⟩ := s
 exact ⟨x, hb, _, star_append.2 ⟨h1, h2, a, st, d, rfl⟩, hw⟩
theorem Ent.exA {α : Type} {f : α → List Atom} (x : α) : Ent (f x) [exA f] := fun h s => ⟨h, ⟨h, Hp.emp, ⟨x, s⟩, rfl, Hp.disj_emp _, (Hp.add_emp _).symm⟩, Hp.le_refl h⟩
theorem Sat.pureA {β : Base} {w : World} {p : Prop} {L : List Atom} (s : Sat β w (pureA p :: L)) : p ∧ Sat β w L := by
 obtain ⟨hb, h, ⟨h1, h2, ⟨hp, rfl⟩, st, d, rfl⟩, hw⟩ := s
 exact ⟨hp, hb, h2, st, by rw [Hp.emp_add] at hw; exact hw⟩
theorem Ent.pureA {p : Prop} {L : List Atom} (hp : p) : Ent L (pureA p :: L) := fun h s => ⟨h, ⟨Hp.emp, h, ⟨hp, rfl⟩, s, Hp.emp_disj _, (Hp.emp_add _).symm⟩, Hp.le_refl h⟩
end Go.Proofs.YtakkogdmlbkdaaaGreatDoor.Sl
namespace Go.Proofs.YtakkogdmlbkdaaaGreatDoor.Sl
open Go Go.RowKit
set_option linter.unusedVariables false
set_option linter.unusedSimpArgs false

abbrev Env := List (Nat × Value)
def look : Env → Nat → Option Value
 | [], _ => none
 | (k, v) :: e, t => bif Nat.beq k t then some v else look e t
def ev (env : Env) : Operand → Option Value
 | .tmp t => look env t
 | .const v => some v
 | .func f => some (.func (.func f) #[] #[])
 | .global g => some (.pointer (some ⟨g, 0, none⟩))
def EnvOk (N : Nat) (a : Act) (env : Env) : Prop := a.tmps.size = N ∧ ∀ t v, look env t = some v → a.tmps.getD t undef = v

theorem EnvOk.eval {N : Nat} {a : Act} {env : Env} (h : EnvOk N a env) {x : Operand} {v : Value} (hx : ev env x = some v) : a.eval x = v := by
 cases x with
 | tmp t => exact h.2 t v hx
 | const u => simp [ev] at hx; exact hx
 | func f => simp [ev] at hx; exact hx
 | global g => simp [ev] at hx; subst hx; rfl
theorem EnvOk.put {N : Nat} {a : Act} {env : Env} (h : EnvOk N a env) {d : Nat} (hd : d < N) (v : Value) : EnvOk N (a.put (some d) v) ((d, v) :: env) := by
 refine ⟨by simp [Act.put, h.1], fun t u hu => ?_⟩
 simp only [look, Nat.beq_eq_true_eq] at hu
 by_cases e : d = t
 ·subst e
  simp at hu
  subst hu
  simp [Act.put, h.1, hd]
 ·have e2 : Nat.beq d t = false := by
   cases hb : Nat.beq d t with
   | false => rfl
   | true => exact absurd (Nat.eq_of_beq_eq_true hb) e
  rw [e2] at hu
  have := h.2 t u hu
  simp only [Act.put]
  rw [← this]
  simp [Array.getD_eq_getD_getElem?, Array.getElem?_setIfInBounds_ne e]
def bind_ (dst : Option Tmp) (v : Value) (env : Env) : Env := match dst with | some d => (d, v) :: env | none => env
def dstOk (N : Nat) (dst : Option Tmp) : Bool := match dst with | some d => Nat.blt d N | none => true
theorem EnvOk.bind {N : Nat} {a : Act} {env : Env} (h : EnvOk N a env) {dst : Option Tmp} (hd : dstOk N dst = true) (v : Value) : EnvOk N (a.put dst v) (bind_ dst v env) := by
 cases dst with
 | none => exact h
 | some d => exact h.put (by simpa [dstOk, Nat.blt_eq] using hd) v
theorem look_covers {N : Nat} {a : Act} {env env' : Env} (h : EnvOk N a env) (hc : ∀ t v, look env' t = some v → look env t = some v) : EnvOk N a env' := ⟨h.1, fun t v e => h.2 t v (hc t v e)⟩
def covers (env : Env) : Env → Prop
 | [] => True
 | (t, v) :: r => look env t = some v ∧ covers env r
theorem covers.look {env : Env} : ∀ {env' : Env}, covers env env' → ∀ t v, look env' t = some v → look env t = some v
 | [], _, t, v, e => by simp [Sl.look] at e
 | (k, u) :: r, h, t, v, e => by
  simp only [Sl.look] at e
  cases hb : Nat.beq k t with
  | true =>
   rw [hb] at e; simp at e; subst e
   have := Nat.eq_of_beq_eq_true hb
   subst this
   exact h.1
  | false => rw [hb] at e; exact h.2.look t v e
theorem EnvOk.covers {N : Nat} {a : Act} {env env' : Env} (h : EnvOk N a env) (hc : covers env env') : EnvOk N a env' := look_covers h fun _ _ => hc.look _ _

structure TI where
 desc : TypeDesc
 size : Nat
 bytes : Nat
 zero : Value
 places : List (Nat × Nat) := []
abbrev TT := List (Nat × TI)
def TT.get : TT → Nat → Option TI
 | [], _ => none
 | (k, v) :: e, t => bif Nat.beq k t then some v else TT.get e t
def placesOf (P : Program) : TypeDesc → Option (List (Nat × Nat))
 | .struct fs => fs.toList.mapM (fun f => (P.info? f.type).map fun i => (f.offset, i.size))
 | _ => some []
def TIok (P : Program) (t : Nat) (i : TI) : Prop := (P.underlying t = some i.desc ∧ (P.info? t).map (fun j => (j.size, j.bytes, j.zero)) = some (i.size, i.bytes, some i.zero)) ∧ placesOf P i.desc = some i.places
def TTok (P : Program) : TT → Prop
 | [] => True
 | (t, i) :: r => TIok P t i ∧ TTok P r
theorem TTok.get {P : Program} : ∀ {T : TT}, TTok P T → ∀ {t : Nat} {i : TI}, T.get t = some i → TIok P t i
 | [], _, t, i, e => by simp [TT.get] at e
 | (k, u) :: r, h, t, i, e => by
  simp only [TT.get] at e
  cases hb : Nat.beq k t with
  | true =>
   rw [hb] at e; simp at e; subst e
   have := Nat.eq_of_beq_eq_true hb
   subst this
   exact h.1
  | false => rw [hb] at e; exact h.2.get e
theorem TIok.info {P : Program} {t : Nat} {i : TI} (h : TIok P t i) : ∃ j, P.info? t = some j ∧ j.size = i.size ∧ j.bytes = i.bytes ∧ j.zero = some i.zero := by
 obtain ⟨⟨_, h⟩, _⟩ := h
 cases e : P.info? t with
 | none => rw [e] at h; simp at h
 | some j => rw [e] at h; simp at h; exact ⟨j, rfl, h.1, h.2.1, h.2.2⟩
theorem TIok.run_underlying {P : Program} {t : Nat} {i : TI} (h : TIok P t i) (w : World) : (underlying t).run P w = .ok i.desc w := Go.run_underlying h.1.1 w
theorem TIok.run_typeInfo {P : Program} {t : Nat} {i : TI} (h : TIok P t i) (w : World) : ∃ j, (typeInfo t).run P w = .ok j w ∧ j.size = i.size ∧ j.bytes = i.bytes ∧ j.zero = some i.zero := by
 obtain ⟨j, e, h1⟩ := h.info
 exact ⟨j, Go.run_typeInfo w e, h1⟩
theorem TIok.run_sizeOf {P : Program} {t : Nat} {i : TI} (h : TIok P t i) (w : World) : (sizeOf t).run P w = .ok i.size w := by
 obtain ⟨j, e, h1, _⟩ := h.run_typeInfo w
 simp [sizeOf, Sem.run_bind, e, Result.andThen, h1]
theorem TIok.run_zeroValue {P : Program} {t : Nat} {i : TI} (h : TIok P t i) (w : World) : (zeroValue t).run P w = .ok i.zero w := by
 obtain ⟨j, e, _, _, h1⟩ := h.run_typeInfo w
 simp [zeroValue, Sem.run_bind, e, Result.andThen, h1]
def aggD : TypeDesc → Bool
 | .struct _ | .array _ _ => true
 | _ => false
theorem TIok.run_isAgg {P : Program} {t : Nat} {i : TI} (h : TIok P t i) (w : World) : (isAgg t).run P w = .ok (aggD i.desc) w := by
 unfold isAgg
 simp only [Sem.run_bind, h.run_underlying w, Result.andThen, aggD]
 cases i.desc <;> rfl

def force {α : Type} {β : Type} : List α → (List α → β) → β
 | [], k => k []
 | x :: r, k => force r fun ys => k (x :: ys)
theorem force_eq {α β : Type} : ∀ (l : List α) (k : List α → β), force l k = k l
 | [], k => rfl
 | x :: r, k => by simp [force, force_eq r]
def takeN {β : Type} : Nat → List Value → (List Value → Option β) → Option β
 | 0, _, k => k []
 | n + 1, x :: r, k => takeN n r fun ys => k (x :: ys)
 | _ + 1, [], _ => none
theorem takeN_eq {β : Type} : ∀ (n : Nat) (l : List Value) (k : List Value → Option β), takeN n l k = if n ≤ l.length then k (l.take n) else none
 | 0, l, k => by simp [takeN]
 | n + 1, x :: r, k => by simp [takeN, takeN_eq n r]
 | n + 1, [], k => by simp [takeN]
def dropN : Nat → List Value → List Value
 | 0, l => l
 | n + 1, _ :: r => dropN n r
 | _ + 1, [] => []
theorem dropN_eq : ∀ (n : Nat) (l : List Value), dropN n l = l.drop n
 | 0, _ => rfl
 | n + 1, _ :: r => by simp [dropN, dropN_eq n r]
 | n + 1, [] => by simp [dropN]
def rdv (i : TI) (cs : List Value) (off : Nat) : Option Value :=
 match aggD i.desc with
 | true => takeN i.size (dropN off cs) fun ys => some (.agg ys.toArray)
 | false => match dropN off cs with | v :: _ => some v | [] => none
theorem rdv_agg {i : TI} {cs : List Value} {off : Nat} {v : Value} (ha : aggD i.desc = true) (h : rdv i cs off = some v) :
  i.size ≤ (cs.drop off).length ∧ v = .agg ((cs.drop off).take i.size).toArray := by
 simp only [rdv, ha, takeN_eq, dropN_eq] at h
 split at h
 ·rename_i hle; exact ⟨hle, by simpa using h.symm⟩
 ·cases h
theorem rdv_one {i : TI} {cs : List Value} {off : Nat} {v : Value} (ha : aggD i.desc = false) (h : rdv i cs off = some v) : cs[off]? = some v := by
 simp only [rdv, ha, dropN_eq] at h
 split at h
 ·rename_i u r e
  simp at h; subst h
  have := congrArg (·[0]?) e
  simpa using this
 ·cases h

theorem run_loadCells_of {P : Program} {w : World} {a : Addr} {cs : List Value} {off n : Nat} {t : Nat} {fz : Nat × Nat} {b : Nat} (ha : a = ⟨b, off, none⟩) (hb : w.heap[b]? = some (.cells cs.toArray t fz))
  (hn : off + n ≤ cs.length) : (loadCells a n).run P w = .ok ((cs.drop off).take n).toArray w := by
 subst ha
 have := run_loadCells_list (P := P) (w := w) ⟨b, off, none⟩ ((cs.drop off).take n) (fun j v hv => by
  have hj : j < n := by
   have := (List.getElem?_eq_some_iff.1 hv).1
   simp at this; omega
  have e : cs[off + j]? = some v := by
   rw [List.getElem?_take_of_lt hj, List.getElem?_drop] at hv
   exact hv
  have e2 : (Addr.add ⟨b, off, none⟩ j) = ⟨b, off + j, none⟩ := by
   unfold Addr.add
   split
   ·rename_i h0; subst h0; rfl
   ·rfl
  rw [e2]
  simp [World.cell?, hb, e])
 have e3 : ((cs.drop off).take n).length = n := by simp; omega
 rw [e3] at this
 exact this
theorem run_loadVar_of {P : Program} {w : World} {t0 : Nat} {i : TI} (hi : TIok P t0 i) {cs : List Value} {off : Nat} {t : Nat} {fz : Nat × Nat} {b : Nat} (hb : w.heap[b]? = some (.cells cs.toArray t fz))
  {v : Value} (hv : rdv i cs off = some v) : (loadVar t0 ⟨b, off, none⟩).run P w = .ok v w := by
 unfold loadVar
 simp only [Sem.run_bind, hi.run_isAgg w, Result.andThen]
 cases ha : aggD i.desc with
 | true =>
  obtain ⟨hl, rfl⟩ := rdv_agg ha hv
  have hl2 : off + i.size ≤ cs.length ∨ i.size = 0 := by simp at hl; omega
  simp only [if_true, Sem.run_bind, hi.run_sizeOf w, Result.andThen]
  rcases hl2 with hl2 | hl2
  ·rw [run_loadCells_of rfl hb hl2]; rfl
  ·rw [hl2]; simp [loadCells, loadCellsFrom]
 | false =>
  have := rdv_one ha hv
  simp only [Bool.false_eq_true, if_false]
  simp [load, Sem.run, World.cell?, hb, this]

def setN {β : Type} : List Value → List Value → (List Value → Option β) → Option β
 | [], l, k => k l
 | v :: vs, _ :: r, k => setN vs r fun ys => k (v :: ys)
 | _ :: _, [], _ => none
def wrAt {β : Type} : Nat → List Value → List Value → (List Value → Option β) → Option β
 | 0, vs, l, k => setN vs l k
 | n + 1, vs, x :: r, k => wrAt n vs r fun ys => k (x :: ys)
 | _ + 1, _, [], _ => none
theorem setN_eq {β : Type} : ∀ (vs l : List Value) (k : List Value → Option β), setN vs l k = if vs.length ≤ l.length then k (vs ++ l.drop vs.length) else none
 | [], l, k => by simp [setN]
 | v :: vs, x :: r, k => by simp [setN, setN_eq vs r]
 | v :: vs, [], k => by simp [setN]
theorem wrAt_eq {β : Type} : ∀ (n : Nat) (vs l : List Value) (k : List Value → Option β), n ≤ l.length → wrAt n vs l k = if n + vs.length ≤ l.length then k (l.take n ++ vs ++ l.drop (n + vs.length)) else none
 | 0, vs, l, k, _ => by simp [wrAt, setN_eq]
 | n + 1, vs, x :: r, k, h => by
  simp at h
  simp only [wrAt, wrAt_eq n vs r _ h]
  have e : n + 1 + vs.length = (n + vs.length) + 1 := by omega
  simp [e]
 | n + 1, vs, [], k, h => by simp at h
theorem wrAt_len {β : Type} : ∀ (n : Nat) (vs l : List Value) (k : List Value → Option β), l.length < n → wrAt n vs l k = none
 | n + 1, vs, x :: r, k, h => by simp at h; simp [wrAt, wrAt_len n vs r _ h]
 | n + 1, vs, [], k, _ => by simp [wrAt]
def vcells : Value → List Value
 | .agg cs => cs.toList
 | v => [v]
theorem vcells_eq (v : Value) : v.cells.toList = vcells v := by cases v <;> rfl
def wrv (i : TI) (cs : List Value) (off : Nat) (v : Value) : Option (List Value) :=
 bif Nat.beq (vcells v).length i.size then wrAt off (vcells v) cs some else none
theorem wrv_eq {i : TI} {cs cs' : List Value} {off : Nat} {v : Value} (h : wrv i cs off v = some cs') : (vcells v).length = i.size ∧ off + i.size ≤ cs.length ∧ cs' = cs.take off ++ vcells v ++ cs.drop (off + i.size) := by
 unfold wrv at h
 cases hb : Nat.beq (vcells v).length i.size with
 | false => rw [hb] at h; simp at h
 | true =>
  have e := Nat.eq_of_beq_eq_true hb
  rw [hb] at h
  simp only [cond_true] at h
  by_cases hle : off ≤ cs.length
  ·rw [wrAt_eq _ _ _ _ hle] at h
   split at h
   ·rename_i h2; simp at h; rw [e] at h2 h; exact ⟨e, h2, by rw [← h, List.append_assoc]⟩
   ·cases h
  ·rw [wrAt_len _ _ _ _ (by omega)] at h; cases h
end Go.Proofs.YtakkogdmlbkdaaaGreatDoor.Sl
namespace Go.Proofs.YtakkogdmlbkdaaaGreatDoor.Sl
open Go Go.RowKit
set_option linter.unusedVariables false
set_option linter.unusedSimpArgs false

section
variable {F : Fence} {n : Nat} {P : Program} {ops : Array Oper} {Q : Exit → Act → World → Prop}

def YI (P : Program) (ops : Array Oper) (H : World → Prop) (o : Oper) (v : Value) (a : Act) : Prop :=
 (Region.wanted o (yielded ops a.tmps) = true ∧ ∀ w, H w → (execOp a.eval o).run P w = .ok (.value v) w) ∨ (Region.wanted o (yielded ops a.tmps) = false ∧ v = undef)
theorem YI.of_same {H : World → Prop} {o : Oper} {v : Value} {a a' : Act} (hy : YI P ops H o v a) (he : execOp a'.eval o = execOp a.eval o)
  (hw : Region.wanted o (yielded ops a'.tmps) = Region.wanted o (yielded ops a.tmps)) : YI P ops H o v a' := by
 unfold YI at *; rw [he, hw]; exact hy
def noSD (o : Oper) : Bool := match o.op with | .select .. => false | .defer _ => false | _ => true
theorem noSD_sel {o : Oper} (h : noSD o = true) : ∀ cs b, o.op ≠ .select cs b := by intro cs b e; simp [noSD, e] at h
theorem noSD_defer {o : Oper} (h : noSD o = true) : ∀ c, o.op ≠ .defer c := by intro c e; simp [noSD, e] at h
theorem YI.wpOpIn (hF : ∀ f, F.fn f) {H : World → Prop} {i : Nat} {o : Oper} {v : Value} {a : Act} (hi : ops[i]? = some o) (hs : noSD o = true) (hy : YI P ops H o v a)
  {K : Act → World → Prop} {w : World} (hH : H w) (h : K (a.put o.dst v) w) : wpOpIn F n P ops Q i K a w := by
 unfold Go.wpOpIn
 simp only [hi]
 rcases hy with ⟨hw, hv⟩ | ⟨hw, rfl⟩
 ·simp only [hw, if_true, Oper.wpIn, Oper.semAt_eq _ _ _ (noSD_defer hs), hv w hH, Oper.uponIn]; exact ⟨fun f _ => hF f, h⟩
 ·simp only [hw, Bool.false_eq_true, if_false]; exact ⟨fun f _ => hF f, h⟩
theorem wpOpIn_putY (hF : ∀ f, F.fn f) {H : World → Prop} {j : Nat} {oi oj : Oper} {v : Value} (hj : ops[j]? = some oj) (hap : oi.apart ops oj = true) (hsi : noSD oi = true) (hsj : noSD oj = true)
  (hQ : ∀ c a w, Q (.panic c) (a.put oi.dst v) w → Q (.panic c) a w) {K : Act → World → Prop} {a : Act} {w : World}
  (hy : YI P ops H oi v a) (h : wpOpIn F n P ops Q j K (a.put oi.dst v) w) :
  wpOpIn F n P ops Q j (fun a' w' => YI P ops H oi v a' ∧ K (a'.put oi.dst v) w') a w := by
 obtain ⟨h1, h2, h3⟩ := Oper.apart_spec hap
 have keep : ∀ (a : Act), YI P ops H oi v a → ∀ u, YI P ops H oi v (a.put oj.dst u) := fun a hy u =>
  hy.of_same (execOp_put oi (noSD_sel hsi) a oj.dst u h3) (wanted_put oi a oj.dst u h3)
 have keepD : ∀ d, YI P ops H oi v { a with defers := d :: a.defers } := fun d => hy.of_same rfl rfl
 unfold wpOpIn at *
 simp only [hj] at *
 rw [wanted_put oj a oi.dst v h1] at h
 split
 ·rename_i hw
  simp only [hw, if_true] at h
  unfold Oper.wpIn at *
  refine ⟨fun f _ => hF f, ?_⟩
  have h := h.2
  rw [Oper.semAt_eq _ _ _ (noSD_defer hsj), execOp_put oj (noSD_sel hsj) a oi.dst v h1] at h
  rw [Oper.semAt_eq _ _ _ (noSD_defer hsj)]
  generalize (execOp a.eval oj).run P w = r at *
  cases r with
  | ok x w' =>
   cases x <;> simp only [Oper.uponIn] at h ⊢
   case value u => exact ⟨keep a hy u, by rw [← Act.put_comm a v u h2]; exact h⟩
   case skip => exact ⟨keep a hy _, by rw [← Act.put_comm a v undef h2]; exact h⟩
   case defer d =>
    refine ⟨keep _ (keepD d) _, ?_⟩
    rw [← Act.put_comm _ v undef h2, ← Act.put_defers]
    exact h
   case enter f args =>
    refine ⟨h.1, CallsIn.mono h.2 fun e w'' he => ?_⟩
    cases e with
    | returned u => exact ⟨keep a hy u, by rw [← Act.put_comm a v u h2]; exact he⟩
    | panicked c => exact hQ _ _ _ he
    | outgrown => exact he
   case row row args => exact ⟨h.1, RowsIn.mono h.2 fun u w'' he => ⟨keep a hy u, by rw [← Act.put_comm a v u h2]; exact he⟩⟩
   case round l f tmps assign body =>
    refine ⟨h.1, RoundIn.mono h.2 fun e w'' he => ?_⟩
    cases e with
    | returned u => exact ⟨keep a hy u, by rw [← Act.put_comm a v u h2]; exact he⟩
    | panicked c => exact hQ _ _ _ he
    | outgrown => exact he
  | halt x w' =>
   cases x <;> simp only [Oper.uponIn] at h ⊢
   case panic u => exact hQ _ _ _ h
 ·rename_i hw
  simp only [hw] at h
  exact ⟨fun f _ => hF f, keep a hy _, by rw [← Act.put_comm a v undef h2]; exact h.2⟩

inductive Reach (ops : Array Oper) (i : Nat) : Nat → Prop
 | one {k : Nat} {o : Oper} {e : Edge} : ops[k]? = some o → e ∈ o.after → Region.binds .any e = true → e.on = i → Reach ops i k
 | step {k : Nat} {o : Oper} {e : Edge} : ops[k]? = some o → e ∈ o.after → Region.binds .any e = true → Reach ops i e.on → Reach ops i k
def reachB (ops : Array Oper) (i : Nat) : Nat → Nat → Bool
 | 0, _ => false
 | fuel + 1, k => match ops[k]? with
  | some o => o.after.any fun e => Region.binds .any e && (e.on == i || reachB ops i fuel e.on)
  | none => false
theorem reachB_spec {i : Nat} : ∀ (fuel k : Nat), reachB ops i fuel k = true → Reach ops i k
 | 0, _, h => by simp [reachB] at h
 | fuel + 1, k, h => by
  unfold reachB at h
  cases ho : ops[k]? with
  | none => rw [ho] at h; simp at h
  | some o =>
   rw [ho] at h
   obtain ⟨e, he, h1⟩ := Array.any_eq_true'.1 h
   simp only [Bool.and_eq_true, Bool.or_eq_true, beq_iff_eq] at h1
   rcases h1.2 with h2 | h2
   ·exact .one ho he h1.1 h2
   ·exact .step ho he h1.1 (reachB_spec fuel e.on h2)
def Closed (ops : Array Oper) (listed : Array Bool) : Prop :=
 ∀ j oj, ops[j]? = some oj → listed.getD j false = true → ∀ e ∈ oj.after, Region.binds .any e = true → listed.getD e.on false = true
theorem Closed.set {listed : Array Bool} {i : Nat} (h : Closed ops listed) (hi : i ∈ Region.ready .any ops listed) : Closed ops (listed.setIfInBounds i true) := by
 obtain ⟨_, oi, hoi, hall⟩ := mem_ready.1 hi
 intro j oj hj hl e he hb
 by_cases hij : i = j
 ·subst hij
  have : oj = oi := Option.some.inj (hj.symm.trans hoi)
  subst this
  exact getD_set_true (hall e he hb)
 ·rw [getD_set_ne false hij] at hl
  exact getD_set_true (h j oj hj hl e he hb)
theorem Reach.listed {listed : Array Bool} {i k : Nat} (hc : Closed ops listed) (hr : Reach ops i k) : listed.getD k false = true → listed.getD i false = true := by
 induction hr with
 | one ho he hb e => exact fun hl => e ▸ hc _ _ ho hl _ he hb
 | step ho he hb _ ih => exact fun hl => ih (hc _ _ ho hl _ he hb)
theorem not_listed {listed : Array Bool} {i : Nat} (h : i ∈ Region.ready .any ops listed) : listed.getD i false = false := by
 obtain ⟨h0, _⟩ := mem_ready.1 h
 rcases Nat.lt_or_ge i listed.size with h' | h'
 ·simp [h'] at h0 ⊢; exact h0
 ·simp [Array.getElem?_eq_none h']
structure Ob where
 b : Nat
 off : Nat
 ti : TI
 v : Value
def Ob.holds (x : Ob) (w : World) : Prop := ∃ cs t fz, w.heap[x.b]? = some (.cells (List.toArray cs) t fz) ∧ rdv x.ti cs x.off = some x.v
abbrev Obs := List (Nat × Ob)
def lookO : Obs → Nat → Option Ob
 | [], _ => none
 | (k, v) :: e, t => bif Nat.beq k t then some v else lookO e t
theorem lookO_ne {i j : Nat} {x : Ob} {obs : Obs} (h : i ≠ j) : lookO ((i, x) :: obs) j = lookO obs j := by
 have : Nat.beq i j = false := by
  cases hb : Nat.beq i j with
  | false => rfl
  | true => exact absurd (Nat.eq_of_beq_eq_true hb) h
 simp [lookO, this]
theorem lookO_eq {i : Nat} {x : Ob} {obs : Obs} : lookO ((i, x) :: obs) i = some x := by simp [lookO]
def live (ops : Array Oper) (E : Nat → Bool) (i : Nat) (listed : Array Bool) : Prop := ∀ k, listed.getD k false = true → E k = true → ¬ Reach ops i k
def Inv (ops : Array Oper) (E : Nat → Bool) (obs : Obs) (listed : Array Bool) (w : World) : Prop := ∀ i x, lookO obs i = some x → live ops E i listed → x.holds w
def wpI (F : Fence) (n : Nat) (P : Program) (ops : Array Oper) (Q : Exit → Act → World → Prop) (E : Nat → Bool) (obs : Obs) : Nat → Array Bool → Act → World → Prop
 | 0, listed, a, w => Inv ops E obs listed w ∧ Region.ready .any ops listed = [] ∧ Q .normal a w
 | fuel + 1, listed, a, w => Inv ops E obs listed w ∧ (Region.ready .any ops listed = [] → Q .normal a w) ∧
  ∀ i ∈ Region.ready .any ops listed, wpOpIn F n P ops Q i (wpI F n P ops Q E obs fuel (listed.setIfInBounds i true)) a w
theorem wpI.inv {E : Nat → Bool} {obs : Obs} : ∀ {fuel : Nat} {listed : Array Bool} {a : Act} {w : World}, wpI F n P ops Q E obs fuel listed a w → Inv ops E obs listed w
 | 0, _, _, _, h => h.1
 | _ + 1, _, _, _, h => h.1
theorem wpAnyIn_of_wpI {E : Nat → Bool} {obs : Obs} : ∀ (fuel : Nat) (listed : Array Bool) (a : Act) (w : World), wpI F n P ops Q E obs fuel listed a w → wpAnyIn F n P .any ops Q fuel listed a w
 | 0, _, _, _, h => h.2
 | fuel + 1, _, _, _, h => ⟨h.2.1, fun i hi => wpOpIn_mono (fun a' w' h' => wpAnyIn_of_wpI fuel _ a' w' h') (h.2.2 i hi)⟩
theorem live_set {E : Nat → Bool} {i l : Nat} {listed : Array Bool} (hE : E i = false) : live ops E l (listed.setIfInBounds i true) ↔ live ops E l listed := by
 constructor
 ·intro h k hk he
  refine h k ?_ he
  exact getD_set_true hk
 ·intro h k hk he
  by_cases hik : i = k
  ·subst hik; rw [hE] at he; cases he
  ·rw [getD_set_ne false hik] at hk; exact h k hk he
theorem live_fresh {E : Nat → Bool} {i : Nat} {listed : Array Bool} (hc : Closed ops listed) (hi : listed.getD i false = false) : live ops E i listed := fun k hk _ hr => by
 have := hr.listed hc hk
 rw [hi] at this; cases this
def addO (i : Nat) (x : Option Ob) (obs : Obs) : Obs := match x with | some x => (i, x) :: obs | none => obs
def holdsO (x : Option Ob) (w : World) : Prop := match x with | some x => x.holds w | none => True
theorem wpI_take (hF : ∀ f, F.fn f) {E : Nat → Bool} {i : Nat} {oi : Oper} {v : Value} {x : Option Ob} {obs : Obs} (hi : ops[i]? = some oi) (hsd : ∀ (j : Nat) (o : Oper), ops[j]? = some o → noSD o = true)
  (hQ : ∀ c a w, Q (.panic c) (a.put oi.dst v) w → Q (.panic c) a w) (hE : E i = false) (hob : lookO obs i = none) :
  ∀ (fuel : Nat) (listed : Array Bool) (a : Act) (w : World),
   (∀ j oj, ops[j]? = some oj → j ≠ i → listed.getD j true = false → (∀ e ∈ oj.after, Region.binds .any e = true → e.on ≠ i) → oi.apart ops oj = true) →
   Closed ops listed → i ∈ Region.ready .any ops listed → YI P ops (holdsO x) oi v a → holdsO x w →
   wpI F n P ops Q E (addO i x obs) fuel (listed.setIfInBounds i true) (a.put oi.dst v) w → wpI F n P ops Q E obs (fuel + 1) listed a w := by
 have hinv : ∀ (listed : Array Bool) (w : World), Inv ops E (addO i x obs) (listed.setIfInBounds i true) w → Inv ops E obs listed w := fun listed w hv l y hl hlv => by
  refine hv l y ?_ ((live_set hE).2 hlv)
  have hne : i ≠ l := fun e => by rw [← e, hob] at hl; cases hl
  cases x with
  | none => exact hl
  | some x => rw [addO, lookO_ne hne]; exact hl
 intro fuel
 induction fuel with
 | zero =>
  intro listed a w _ _ hr hy hH K
  refine ⟨hinv _ _ K.inv, fun h => (by rw [h] at hr; cases hr), fun j hj => ?_⟩
  by_cases hji : j = i
  ·subst hji; exact hy.wpOpIn hF hi (hsd _ _ hi) hH ⟨fun l y hl hlv => hinv _ _ K.1 l y hl ((live_set hE).1 hlv), K.2⟩
  ·have := ready_mono hj hji
   rw [K.2.1] at this
   cases this
 | succ fuel ih =>
  intro listed a w hfree hc hr hy hH K
  refine ⟨hinv _ _ K.inv, fun h => (by rw [h] at hr; cases hr), fun j hj => ?_⟩
  by_cases hji : j = i
  ·subst hji
   refine hy.wpOpIn hF hi (hsd _ _ hi) hH ?_
   -- taken at its own place: what rested on it is not asked any more
   have weaken : ∀ (fuel : Nat) (listed : Array Bool) (a : Act) (w : World), wpI F n P ops Q E (addO j x obs) fuel listed a w → wpI F n P ops Q E obs fuel listed a w := by
    have hi2 : ∀ (listed : Array Bool) (w : World), Inv ops E (addO j x obs) listed w → Inv ops E obs listed w := fun listed w hv l y hl hlv => by
     refine hv l y ?_ hlv
     have hne : j ≠ l := fun e => by rw [← e, hob] at hl; cases hl
     cases x with
     | none => exact hl
     | some x => rw [addO, lookO_ne hne]; exact hl
    intro fuel
    induction fuel with
    | zero => exact fun listed a w h => ⟨hi2 _ _ h.1, h.2⟩
    | succ fuel ih2 => exact fun listed a w h => ⟨hi2 _ _ h.1, h.2.1, fun k hk => wpOpIn_mono (fun a' w' h' => ih2 _ _ _ h') (h.2.2 k hk)⟩
   exact weaken _ _ _ _ K
  ·have h1 := K.2.2 j (ready_mono hj hji)
   obtain ⟨hjun, oj, hoj, hall⟩ := mem_ready.1 hj
   have hnot : ∀ e ∈ oj.after, Region.binds .any e = true → e.on ≠ i := fun e he hb heq => by
    have h1 := hall e he hb
    rw [heq, not_listed hr] at h1; cases h1
   have h2 := wpOpIn_putY (H := holdsO x) hF hoj (hfree j oj hoj hji hjun hnot) (hsd _ _ hi) (hsd _ _ hoj) hQ hy h1
   have hfree' : ∀ k ok, ops[k]? = some ok → k ≠ i → (listed.setIfInBounds j true).getD k true = false →
     (∀ e ∈ ok.after, Region.binds .any e = true → e.on ≠ i) → oi.apart ops ok = true := fun k ok hk hki hun hno => by
    refine hfree k ok hk hki ?_ hno
    by_cases hjk : j = k
    ·subst hjk; exact hjun
    ·rw [getD_set_ne true hjk] at hun; exact hun
   have hri : i ∈ Region.ready .any ops (listed.setIfInBounds j true) := ready_mono hr (Ne.symm hji)
   refine wpOpIn_mono (fun a' w' h3 => ?_) h2
   have K3 := h3.2
   rw [← Array.setIfInBounds_comm _ _ hji] at K3
   refine ih (listed.setIfInBounds j true) a' w' hfree' (hc.set hj) hri h3.1 ?_ K3
   -- what it rests on holds behind j
   cases x with
   | none => trivial
   | some x => exact K3.inv i x lookO_eq ((live_set hE).2 (live_fresh (hc.set hj) (not_listed hri)))
theorem wpI_done {E : Nat → Bool} {obs : Obs} {listed : Array Bool} {a : Act} {w : World} (hr : Region.ready .any ops listed = []) (hv : Inv ops E obs listed w) (h : Q .normal a w) : ∀ fuel, wpI F n P ops Q E obs fuel listed a w
 | 0 => ⟨hv, hr, h⟩
 | _ + 1 => ⟨hv, fun _ => h, by rw [hr]; simp⟩

structure Stp where
 i : Nat
 o : Oper
 k : Nat
 watch : List Nat
abbrev Plan := List (Nat × Nat × List Nat)
def stps (ops : Array Oper) : Plan → List Stp
 | [] => []
 | (i, k, ws) :: r => match ops[i]? with
  | some o => ⟨i, o, k, ws⟩ :: stps ops r
  | none => []
def effs (p : Plan) (k : Nat) : Bool := p.any fun s => s.1 == k && s.2.1 == 1
def alls (p : Plan) (k : Nat) : Bool := p.any fun s => s.1 == k && s.2.1 == 2
theorem getD_true_of {l : Array Bool} {i : Nat} (h : l.getD i false = true) : l.getD i true = true := by
 rw [Array.getD_eq_getD_getElem?] at h ⊢
 cases e : l[i]? with
 | none => rfl
 | some b => rw [e] at h; exact h
def markA (A : Nat → Bool) (l : Array Bool) : Array Bool := l.mapIdx fun j b => b || A j
theorem markA_getD {A : Nat → Bool} {l : Array Bool} {j : Nat} {d : Bool} (h : j < l.size) : (markA A l).getD j d = (l.getD j d || A j) := by
 simp [markA, Array.getD_eq_getD_getElem?, h]
def planOk (ops : Array Oper) (E A : Nat → Bool) : Plan → Array Bool → List Nat → Bool
 | [], listed, _ => Region.ready .any ops listed == []
 | (i, k, ws) :: r, listed, tk =>
  (match ops[i]? with
   | some o => (match k with
     | 0 => (Region.ready .any ops listed).contains i && !E i && !A i && Region.free .any ops listed i
     | 1 => (Region.ready .any ops listed).contains i && Region.ready .any ops (markA A listed) == [i] && !A i && (tk.all fun l => ws.contains l || (List.range ops.size).any fun k => (listed.setIfInBounds i true).getD k false && E k && reachB ops l ops.size k)
     | _ => (Region.ready .any ops listed).contains i && Region.ready .any ops (markA (fun j => A j && !(j == i)) listed) == [i] && A i) &&
     planOk ops E A r (listed.setIfInBounds i true) (match o.op with | .load _ _ => i :: tk | _ => tk)
   | none => false)
def allocOk (ops : Array Oper) (A : Nat → Bool) : Bool :=
 (List.range ops.size).all fun i => !A i || match ops[i]? with
  | some o => o.guard.isNone && (match o.op with | .alloc _ => true | _ => false) && (o.after.all fun e => !Region.binds .any e) && (List.range ops.size).all fun j => j == i || match ops[j]? with
    | some oj => oj.after.any (fun e => Region.binds .any e && e.on == i) || o.apart ops oj
    | none => true
  | none => false
theorem allocOk_spec {A : Nat → Bool} (h : allocOk ops A = true) {i : Nat} (hi : A i = true) {o : Oper} (ho : ops[i]? = some o) :
  o.guard = none ∧ (∃ t, o.op = .alloc t) ∧ (∀ e ∈ o.after, Region.binds .any e = false) ∧ ∀ j oj, ops[j]? = some oj → j ≠ i → (∀ e ∈ oj.after, Region.binds .any e = true → e.on ≠ i) → o.apart ops oj = true := by
 have hlt : i < ops.size := (Array.getElem?_eq_some_iff.1 ho).1
 have h1 := List.all_eq_true.1 h i (List.mem_range.2 hlt)
 simp only [hi, Bool.not_true, Bool.false_or, ho, Bool.and_eq_true, Option.isNone_iff_eq_none] at h1
 obtain ⟨⟨⟨h2, h3⟩, h3b⟩, h4⟩ := h1
 refine ⟨h2, ?_, fun e he => ?_, fun j oj hj hne hno => ?_⟩
 ·split at h3
  ·rename_i t ht; exact ⟨t, ht⟩
  ·cases h3
 ·have := Array.all_eq_true_iff_forall_mem.1 h3b e he; simpa using this
 ·have hjl : j < ops.size := (Array.getElem?_eq_some_iff.1 hj).1
  have h5 := List.all_eq_true.1 h4 j (List.mem_range.2 hjl)
  simp only [hj, Bool.or_eq_true, beq_iff_eq] at h5
  rcases h5 with h5 | h5 | h5
  ·exact absurd h5 hne
  ·obtain ⟨e, he, h6⟩ := Array.any_eq_true'.1 h5
   simp only [Bool.and_eq_true, beq_iff_eq] at h6
   exact absurd h6.2 (hno e he h6.1)
  ·exact h5
theorem alloc_ready {A : Nat → Bool} (h : allocOk ops A = true) {i : Nat} (hi : A i = true) {o : Oper} (ho : ops[i]? = some o) {l : Array Bool} (hl : l.getD i true = false) : i ∈ Region.ready .any ops l :=
 mem_ready.2 ⟨hl, o, ho, fun e he hb => by rw [(allocOk_spec h hi ho).2.2.1 e he] at hb; cases hb⟩
def isLd (o : Oper) : Bool := match o.op with | .load _ _ => true | _ => false
theorem Ob.alloc {x : Ob} {w : World} (h : x.holds w) (o : Obj) : x.holds (w.alloc o) := by
 obtain ⟨cs, t, fz, hb, hv⟩ := h
 exact ⟨cs, t, fz, by rw [Below.heap_alloc _ _ _ (Array.getElem?_eq_some_iff.1 hb).1]; exact hb, hv⟩
theorem Inv.more {E : Nat → Bool} {obs : Obs} {listed : Array Bool} {w : World} (h : Inv ops E obs listed w) (i : Nat) : Inv ops E obs (listed.setIfInBounds i true) w :=
 fun l x hl hlv => h l x hl fun k hk he => hlv k (getD_set_true hk) he
theorem wpI_each {E : Nat → Bool} {obs : Obs} {fuel : Nat} {listed : Array Bool} {a : Act} {w : World} (hne : Region.ready .any ops listed ≠ []) (hv : Inv ops E obs listed w)
  (h : ∀ i ∈ Region.ready .any ops listed, wpOpIn F n P ops Q i (wpI F n P ops Q E obs fuel (listed.setIfInBounds i true)) a w) : wpI F n P ops Q E obs (fuel + 1) listed a w :=
 ⟨hv, fun h0 => absurd h0 hne, h⟩

abbrev Early := List (Nat × Nat)
def dstOf (ops : Array Oper) (i : Nat) : Option Tmp := (ops[i]?).bind (·.dst)
def putsE (ops : Array Oper) : Early → Act → Act
 | [], a => a
 | (i, b) :: r, a => (putsE ops r a).put (dstOf ops i) (.pointer (some ⟨b, 0, none⟩))
def lstE : Early → Array Bool → Array Bool
 | [], l => l
 | (i, _) :: r, l => (lstE r l).setIfInBounds i true
def farE (ops : Array Oper) (e : Early) (o : Oper) : Prop := ∀ x ∈ e, ∃ oi, ops[x.1]? = some oi ∧ oi.apart ops o = true
theorem farE.tail {x : Nat × Nat} {e : Early} {o : Oper} (h : farE ops (x :: e) o) : farE ops e o := fun y hy => h y (List.mem_cons_of_mem _ hy)
theorem putsE_exec {o : Oper} (hs : noSD o = true) : ∀ {e : Early} {a : Act}, farE ops e o → execOp (putsE ops e a).eval o = execOp a.eval o
 | [], a, _ => rfl
 | (i, b) :: r, a, h => by
  obtain ⟨oi, hi, hap⟩ := h (i, b) List.mem_cons_self
  obtain ⟨h1, h2, h3⟩ := Oper.apart_spec hap
  simp only [putsE]
  rw [execOp_put o (noSD_sel hs) _ _ _ (fun d hd => h1 d (by simpa [dstOf, hi] using hd))]
  exact putsE_exec hs h.tail
theorem putsE_wanted {o : Oper} : ∀ {e : Early} {a : Act}, farE ops e o → Region.wanted o (yielded ops (putsE ops e a).tmps) = Region.wanted o (yielded ops a.tmps)
 | [], a, _ => rfl
 | (i, b) :: r, a, h => by
  obtain ⟨oi, hi, hap⟩ := h (i, b) List.mem_cons_self
  obtain ⟨h1, h2, h3⟩ := Oper.apart_spec hap
  simp only [putsE]
  rw [wanted_put o _ _ _ (fun d hd => h1 d (by simpa [dstOf, hi] using hd))]
  exact putsE_wanted h.tail
theorem putsE_put {o : Oper} (u : Value) : ∀ {e : Early} {a : Act}, farE ops e o → (putsE ops e a).put o.dst u = putsE ops e (a.put o.dst u)
 | [], a, _ => rfl
 | (i, b) :: r, a, h => by
  obtain ⟨oi, hi, hap⟩ := h (i, b) List.mem_cons_self
  obtain ⟨h1, h2, h3⟩ := Oper.apart_spec hap
  simp only [putsE]
  rw [← putsE_put u h.tail]
  exact Act.put_comm _ _ _ (fun d hd => h2 d (by simpa [dstOf, hi] using hd))
theorem putsE_defers (d : Deferred) : ∀ {e : Early} {a : Act}, ({ putsE ops e a with defers := d :: (putsE ops e a).defers } : Act) = putsE ops e { a with defers := d :: a.defers }
 | [], a => rfl
 | (i, b) :: r, a => by
  simp only [putsE]
  rw [← putsE_defers d]
  exact Act.put_defers _ _ _ d
theorem YI.putsE {H : World → Prop} {o : Oper} {v : Value} {a : Act} {e : Early} (hs : noSD o = true) (h : farE ops e o) (hy : YI P ops H o v a) : YI P ops H o v (putsE ops e a) :=
 hy.of_same (putsE_exec hs h) (putsE_wanted h)
theorem uponIn_putsE {o : Oper} {e : Early} {a : Act} (h : farE ops e o) {K K' : Act → World → Prop} (hk : ∀ a w, K a w → K' (putsE ops e a) w) {r : Result Next} (hr : o.uponIn F n P a K (fun _ _ _ => False) r) : o.uponIn F n P (putsE ops e a) K' Q r := by
 cases r with
 | ok x w' =>
  cases x <;> simp only [Oper.uponIn] at hr ⊢
  case value v => rw [putsE_put v h]; exact hk _ _ hr
  case skip => rw [putsE_put undef h]; exact hk _ _ hr
  case defer d => rw [putsE_defers, putsE_put undef h]; exact hk _ _ hr
  case enter f args =>
   refine ⟨hr.1, hr.2.mono fun en w'' he => ?_⟩
   cases en with
   | returned v => simp only at he ⊢; rw [putsE_put v h]; exact hk _ _ he
   | panicked c => exact he.elim
   | outgrown => obtain ⟨_, _, he⟩ := he; exact he.elim
  case row row args => exact ⟨hr.1, hr.2.mono fun v w'' he => by rw [putsE_put v h]; exact hk _ _ he⟩
  case round l f tmps assign body =>
   refine ⟨hr.1, hr.2.mono fun en w'' he => ?_⟩
   cases en with
   | returned v => simp only at he ⊢; rw [putsE_put v h]; exact hk _ _ he
   | panicked c => exact he.elim
   | outgrown => obtain ⟨_, _, he⟩ := he; exact he.elim
 | halt x w' => cases x <;> simp only [Oper.uponIn] at hr
theorem lstE_mem {l : Array Bool} : ∀ {e : Early} {j : Nat}, (lstE e l).getD j true = false → l.getD j true = false ∧ ∀ x ∈ e, x.1 ≠ j
 | [], j, h => ⟨h, fun x hx => by cases hx⟩
 | (i, b) :: r, j, h => by
  simp only [lstE] at h
  by_cases hij : i = j
  ·subst hij
   exfalso
   have : i < (lstE r l).size ∨ (lstE r l).size ≤ i := Nat.lt_or_ge _ _
   rcases this with h1 | h1
   ·simp [h1] at h
   ·simp [h1] at h
  ·rw [getD_set_ne true hij] at h
   obtain ⟨h1, h2⟩ := lstE_mem h
   refine ⟨h1, fun x hx => ?_⟩
   rcases List.mem_cons.1 hx with rfl | hx
   ·exact hij
   ·exact h2 x hx
theorem lstE_false {l : Array Bool} {j : Nat} (h : l.getD j true = false) : ∀ {e : Early}, (∀ x ∈ e, x.1 ≠ j) → (lstE e l).getD j true = false
 | [], _ => h
 | (i, b) :: r, hn => by
  simp only [lstE]
  rw [getD_set_ne true (hn (i, b) List.mem_cons_self)]
  exact lstE_false h fun x hx => hn x (List.mem_cons_of_mem _ hx)
theorem lstE_true {l : Array Bool} {j : Nat} (h : l.getD j false = true) : ∀ {e : Early}, (lstE e l).getD j false = true
 | [] => h
 | (i, b) :: r => by simp only [lstE]; exact getD_set_true (lstE_true h)
theorem lstE_set {l : Array Bool} (j : Nat) : ∀ {e : Early}, (lstE e l).setIfInBounds j true = lstE e (l.setIfInBounds j true)
 | [] => rfl
 | (i, b) :: r => by
  simp only [lstE]
  rw [← lstE_set j]
  by_cases hij : i = j
  ·subst hij; rfl
  ·exact Array.setIfInBounds_comm _ _ hij
theorem lstE_size {l : Array Bool} : ∀ {e : Early}, (lstE e l).size = l.size
 | [] => rfl
 | (i, b) :: r => by simp [lstE, lstE_size]
theorem ready_lstE {l : Array Bool} {j : Nat} : ∀ {e : Early}, (∀ x ∈ e, x.1 ≠ j) → j ∈ Region.ready .any ops l → j ∈ Region.ready .any ops (lstE e l)
 | [], _, h => h
 | (i, b) :: r, hn, h => ready_mono (ready_lstE (fun x hx => hn x (List.mem_cons_of_mem _ hx)) h) (Ne.symm (hn (i, b) List.mem_cons_self))
theorem closed_lstE {A : Nat → Bool} (hA : allocOk ops A = true) {l : Array Bool} (hc : Closed ops l) : ∀ {e : Early}, (∀ x ∈ e, A x.1 = true ∧ l.getD x.1 true = false ∧ ∃ o, ops[x.1]? = some o) → (e.map (·.1)).Nodup → Closed ops (lstE e l)
 | [], _, _ => hc
 | (i, b) :: r, hn, hd => by
  simp only [List.map_cons, List.nodup_cons] at hd
  obtain ⟨h1, h2, o, ho⟩ := hn (i, b) List.mem_cons_self
  simp only [lstE]
  refine (closed_lstE hA hc (fun x hx => hn x (List.mem_cons_of_mem _ hx)) hd.2).set (alloc_ready hA h1 ho (lstE_false h2 fun x hx e => hd.1 ?_))
  exact List.mem_map.2 ⟨x, hx, e⟩
theorem lstE_true_of {l : Array Bool} {k : Nat} : ∀ {e : Early}, (lstE e l).getD k false = true → l.getD k false = true ∨ ∃ x ∈ e, x.1 = k
 | [], h => .inl h
 | (i, b) :: r, h => by
  by_cases hik : i = k
  ·exact .inr ⟨(i, b), List.mem_cons_self, hik⟩
  ·simp only [lstE] at h
   rw [getD_set_ne false hik] at h
   rcases lstE_true_of h with h | ⟨x, hx, e⟩
   ·exact .inl h
   ·exact .inr ⟨x, List.mem_cons_of_mem _ hx, e⟩
theorem ready_markA {A : Nat → Bool} {l : Array Bool} {e : Early} {j : Nat} (he : ∀ x ∈ e, A x.1 = true) (hj : j ∈ Region.ready .any ops (lstE e l)) (hA : A j = false) : j ∈ Region.ready .any ops (markA A l) := by
 obtain ⟨h1, o, ho, h2⟩ := mem_ready.1 hj
 obtain ⟨h3, _⟩ := lstE_mem h1
 have hlt : j < l.size := by
  rcases Nat.lt_or_ge j l.size with h | h
  ·exact h
  ·simp [Array.getD_eq_getD_getElem?, Array.getElem?_eq_none h] at h3
 refine mem_ready.2 ⟨by rw [markA_getD hlt, h3, hA]; rfl, o, ho, fun x hx hb => ?_⟩
 have h4 := h2 x hx hb
 have hlt2 : x.on < l.size := by
  rcases Nat.lt_or_ge x.on l.size with h | h
  ·exact h
  ·rw [← lstE_size (e := e)] at h
   simp [Array.getD_eq_getD_getElem?, Array.getElem?_eq_none h] at h4
 rw [markA_getD hlt2]
 rcases lstE_true_of h4 with h5 | ⟨y, hy, e5⟩
 ·rw [h5]; rfl
 ·rw [← e5, he y hy]; simp
theorem pull {A : Nat → Bool} (hA : allocOk ops A = true) {i b : Nat} {oi : Oper} (hi : ops[i]? = some oi) (hAi : A i = true) : ∀ {e : Early}, (i, b) ∈ e → (e.map (·.1)).Nodup → (∀ x ∈ e, A x.1 = true ∧ ∃ o, ops[x.1]? = some o) →
  ∃ e', e.Perm ((i, b) :: e') ∧ (∀ a, putsE ops e a = putsE ops e' (a.put oi.dst (.pointer (some ⟨b, 0, none⟩)))) ∧ ∀ l, lstE e l = lstE e' (l.setIfInBounds i true)
 | x :: r, hm, hd, hx => by
  simp only [List.map_cons, List.nodup_cons] at hd
  rcases List.mem_cons.1 hm with rfl | hm
  ·refine ⟨r, List.Perm.refl _, fun a => ?_, fun l => ?_⟩
   ·simp only [putsE, dstOf, hi, Option.bind_some]
    refine putsE_put _ fun y hy => ?_
    obtain ⟨h1, o, ho⟩ := hx y (List.mem_cons_of_mem _ hy)
    refine ⟨o, ho, (allocOk_spec hA h1 ho).2.2.2 i oi hi (fun e => hd.1 (List.mem_map.2 ⟨y, hy, e.symm⟩)) fun z hz hb => ?_⟩
    rw [(allocOk_spec hA hAi hi).2.2.1 z hz] at hb; cases hb
   ·simp only [lstE]; exact lstE_set i
  ·obtain ⟨e', hp, h1, h2⟩ := pull hA hi hAi hm hd.2 fun y hy => hx y (List.mem_cons_of_mem _ hy)
   refine ⟨x :: e', (List.Perm.cons x hp).trans (List.Perm.swap _ _ _), fun a => ?_, fun l => ?_⟩
   ·simp only [putsE, h1 a]
   ·simp only [lstE, h2 l]
def cnt (l : Array Bool) : Nat := l.toList.count false
theorem cnt_set {l : Array Bool} {i : Nat} (h : l.getD i true = false) : cnt (l.setIfInBounds i true) + 1 = cnt l := by
 have hlt : i < l.size := by
  rcases Nat.lt_or_ge i l.size with h' | h'
  ·exact h'
  ·simp [Array.getElem?_eq_none h'] at h
 have hv : l.toList[i]'(by simpa using hlt) = false := by simpa [hlt] using h
 unfold cnt
 rw [Array.toList_setIfInBounds]
 have key : ∀ (l : List Bool) (i : Nat) (hi : i < l.length), l[i] = false → (l.set i true).count false + 1 = l.count false := by
  intro l
  induction l with
  | nil => intro i hi; simp at hi
  | cons x l ih =>
   intro i hi hx
   cases i with
   | zero => simp at hx; subst hx; simp
   | succ i => simp at hx hi; have := ih i hi hx; simp only [List.set_cons_succ, List.count_cons]; omega
 exact key l.toList i (by simpa using hlt) hv
end
end Go.Proofs.YtakkogdmlbkdaaaGreatDoor.Sl
namespace Go.Proofs.YtakkogdmlbkdaaaGreatDoor.Sl
open Go Go.RowKit
set_option linter.unusedVariables false
set_option linter.unusedSimpArgs false

structure Cx where
 rnd : Option (Nat × Loop)
 fm : List Atom
def mark (D : Nat) : Deferred := { target := .collected D, args := #[] }
def rndA : Option (Nat × Loop) → List Atom
 | none => []
 | some (l, r) => [lpA l r]
def hid (Ds : List Nat) (cx : Cx) : List Atom := Ds.map dfA ++ (rndA cx.rnd ++ cx.fm)
def St (β : Base) (cx : Cx) (N : Nat) (env : Env) (L : List Atom) (a : Act) (w : World) : Prop :=
 EnvOk N a env ∧ ∃ Ds : List Nat, a.defers = Ds.map mark ∧ Sat β w (hid Ds cx ++ L)
def frR : Option (Nat × Loop) → Fence
 | none => Fence.wide
 | some (l, _) => Fence.wide.inRound l
def Fr (cx : Cx) : Fence := frR cx.rnd
theorem Fr_fn (cx : Cx) (f : FuncId) : (Fr cx).fn f := by unfold Fr; cases cx.rnd <;> trivial
theorem Fr_depth (cx : Cx) : (Fr cx).depth = none := by unfold Fr; cases cx.rnd <;> rfl
theorem Fr_round (cx : Cx) : (Fr cx).round = cx.rnd.map (·.1) := by unfold Fr; cases cx.rnd <;> rfl
abbrev Post := Exit → Env → List Atom → Prop
def up (β : Base) (cx : Cx) (N : Nat) (Q : Post) : Exit → Act → World → Prop
 | .panic _, _, _ => False
 | .outgrown, _, _ => False
 | e, a, w => ∃ env L, St β cx N env L a w ∧ Q e env L
def CW (P : Program) (β : Base) (cx : Cx) (N : Nat) (c : Code) (env : Env) (L : List Atom) (Q : Post) : Prop :=
 ∀ n a w, St β cx N env L a w → c.wpIn (Fr cx) n P (up β cx N Q) a w

section
variable {P : Program} {β : Base} {cx : Cx} {N : Nat} {env : Env} {L : List Atom} {Q : Post}

theorem St.conseq {env' : Env} {L' : List Atom} {a : Act} {w : World} (h : St β cx N env L a w) (hc : covers env env') (e : Ent L L') : St β cx N env' L' a w := by
 obtain ⟨h1, Ds, hd, s⟩ := h
 exact ⟨h1.covers hc, Ds, hd, s.ent (Ent.append (Ent.refl _) e)⟩
theorem CW.ent {c : Code} {L' : List Atom} (e : Ent L L') (h : CW P β cx N c env L' Q) : CW P β cx N c env L Q :=
 fun n a w ⟨h1, Ds, hd, s⟩ => h n a w ⟨h1, Ds, hd, s.ent (Ent.append (Ent.refl _) e)⟩
theorem CW.open_ {c : Code} {α : Type} {f : α → List Atom} (h : ∀ x, CW P β cx N c env (f x ++ L) Q) : CW P β cx N c env (exA f :: L) Q :=
 fun n a w ⟨h1, Ds, hd, s⟩ => by
  have s1 := (s.perm (List.perm_middle)).exA
  obtain ⟨x, s1⟩ := s1
  exact h x n a w ⟨h1, Ds, hd, s1.perm (by simpa [List.append_assoc] using (List.perm_append_comm_assoc (f x) (hid Ds cx) L))⟩
theorem CW.pure_ {c : Code} {p : Prop} (h : p → CW P β cx N c env L Q) : CW P β cx N c env (pureA p :: L) Q :=
 fun n a w ⟨h1, Ds, hd, s⟩ => by
  obtain ⟨hp, s1⟩ := (s.perm (List.perm_middle)).pureA
  exact h hp n a w ⟨h1, Ds, hd, s1⟩

@[reducible] def thn (K : Env → List Atom → Prop) (Q : Post) (e : Exit) : Env → List Atom → Prop :=
 match e with
 | .normal => K
 | e => Q e
@[reducible] def inB (id : Nat) (Q : Post) (e : Exit) : Env → List Atom → Prop :=
 match e with
 | .exit id' => match Nat.beq id' id with
  | true => Q .normal
  | false => Q (.exit id')
 | e => Q e
theorem up_thn {K : Env → List Atom → Prop} {e : Exit} {a : Act} {w : World} {K' : Act → World → Prop} (h : up β cx N (thn K Q) e a w)
  (hk : ∀ env L, St β cx N env L a w → K env L → K' a w) : Exit.then K' (up β cx N Q) e a w := by
 cases e with
 | normal => obtain ⟨env, L, st, q⟩ := h; exact hk env L st q
 | panic _ => exact h
 | outgrown => exact h
 | exit _ => exact h
 | goto _ => exact h
 | ret => exact h
theorem CW.seq {x y : Code} (h : CW P β cx N x env L (thn (fun env L => CW P β cx N y env L Q) Q)) : CW P β cx N (.seq x y) env L Q :=
 fun n a w s => wpIn_seq (wpIn_mono (h n a w s) fun _ _ _ q => up_thn q fun env L st k => k n _ _ st)
theorem CW.skip (h : Q .normal env L) : CW P β cx N .skip env L Q := fun n a w s => wpIn_skip ⟨env, L, s, h⟩
theorem CW.exit {id : Nat} (h : Q (.exit id) env L) : CW P β cx N (.exit id) env L Q := fun n a w s => wpIn_exit ⟨env, L, s, h⟩
theorem CW.ret (h : Q .ret env L) : CW P β cx N .ret env L Q := fun n a w s => wpIn_ret ⟨env, L, s, h⟩
theorem CW.cond {c : Operand} {x y : Code} {t : Bool} (hc : ev env c = some (.bool t)) (h1 : t = true → CW P β cx N x env L Q) (h2 : t = false → CW P β cx N y env L Q) : CW P β cx N (.cond c x y) env L Q :=
 fun n a w s => wpIn_cond_split (s.1.eval hc) (fun e => h1 e n a w s) (fun e => h2 e n a w s)
theorem CW.cond_tt {c : Operand} {x y : Code} (hc : ev env c = some (.bool true)) (h1 : CW P β cx N x env L Q) : CW P β cx N (.cond c x y) env L Q :=
 fun n a w s => wpIn_cond_true (s.1.eval hc) (h1 n a w s)
theorem CW.cond_ff {c : Operand} {x y : Code} (hc : ev env c = some (.bool false)) (h1 : CW P β cx N y env L Q) : CW P β cx N (.cond c x y) env L Q :=
 fun n a w s => wpIn_cond_false (s.1.eval hc) (h1 n a w s)
theorem CW.block {id : Nat} {c : Code} (h : CW P β cx N c env L (inB id Q)) : CW P β cx N (.block id c) env L Q :=
 fun n a w s => wpIn_block (wpIn_mono (h n a w s) fun e a w q => by
  cases e with
  | exit id' =>
   obtain ⟨env, L, st, q⟩ := q
   simp only [Exit.inBlock]
   split <;> rename_i hid
   ·subst hid
    simp only [inB, show Nat.beq id' id' = true from Nat.beq_refl id'] at q; exact ⟨env, L, st, q⟩
   ·have hb : Nat.beq id' id = false := by
     cases h2 : Nat.beq id' id with
     | false => rfl
     | true => exact absurd (Nat.eq_of_beq_eq_true h2) hid
    simp only [inB, hb] at q; exact ⟨env, L, st, q⟩
  | normal => exact q
  | panic _ => exact q
  | outgrown => exact q
  | goto _ => exact q
  | ret => exact q)
theorem least {p : Nat → Prop} (h : ∃ k, p k) : ∃ k, p k ∧ ∀ j, p j → k ≤ j := by
 obtain ⟨k, hk⟩ := h
 induction k using Nat.strongRecOn with
 | _ k ih =>
  by_cases hx : ∃ j, j < k ∧ p j
  ·obtain ⟨j, hj, hp⟩ := hx; exact ih j hj hp
  ·exact ⟨k, hk, fun j hp => Nat.le_of_not_lt fun hlt => hx ⟨j, hlt, hp⟩⟩
theorem CW.loop {c : Code} {α : Type} (ok : α → Prop) (E : α → Env) (A : α → List Atom) (μ : α → Nat) (x0 : α) (h0 : ok x0) (hc : covers env (E x0)) (hL : Ent L (A x0))
  (round : ∀ x, ok x → CW P β cx N c (E x) (A x) (thn (fun env' L' => ∃ x', ok x' ∧ μ x' < μ x ∧ covers env' (E x') ∧ Ent L' (A x')) Q)) : CW P β cx N (.loop c) env L Q := by
 intro n a w s
 have key : ∀ a w, (∃ x, ok x ∧ St β cx N (E x) (A x) a w) → ∃ k, (∃ x, μ x = k ∧ ok x ∧ St β cx N (E x) (A x) a w) ∧ ∀ j, (∃ x, μ x = j ∧ ok x ∧ St β cx N (E x) (A x) a w) → k ≤ j :=
  fun a w ⟨x, hx, st⟩ => least ⟨μ x, x, rfl, hx, st⟩
 open Classical in
 refine wpIn_loop (fun a w => ∃ x, ok x ∧ St β cx N (E x) (A x) a w) (fun a w => if h : ∃ x, ok x ∧ St β cx N (E x) (A x) a w then Classical.choose (key a w h) else 0) ⟨x0, h0, s.conseq hc hL⟩ ?_
 rintro a w hex
 obtain ⟨⟨x, hμ, hx, st⟩, hmin⟩ := Classical.choose_spec (key a w hex)
 refine wpIn_mono (round x hx n a w st) fun e a' w' q => up_thn q fun env' L' st' k => ?_
 obtain ⟨x', hx', hlt, hc', hL'⟩ := k
 have st2 := st'.conseq hc' hL'
 have hex' : ∃ x, ok x ∧ St β cx N (E x) (A x) a' w' := ⟨x', hx', st2⟩
 refine ⟨hex', ?_⟩
 simp only [dif_pos hex, dif_pos hex']
 have h1 := (Classical.choose_spec (key a' w' hex')).2 (μ x') ⟨x', rfl, hx', st2⟩
 omega

def wants (ops : Array Oper) (env : Env) (o : Oper) : Option Bool :=
 match o.guard with
 | none => some true
 | some (j, want) => match ops[j]? with
  | some p => match p.dst with
   | some d => match look env d with
    | some (.bool b) => some (b == want)
    | some (.tuple vs) => match vs.toList with
     | [] => some false
     | _ => none
    | _ => none
   | none => none
  | none => none
theorem wants_ok {ops : Array Oper} {o : Oper} {b : Bool} {a : Act} (h : wants ops env o = some b) (he : EnvOk N a env) : Region.wanted o (yielded ops a.tmps) = b := by
 unfold wants at h
 unfold Region.wanted
 split at h
 ·rename_i hg; rw [hg]; simpa using h
 ·rename_i j want hg
  rw [hg]
  split at h
  ·rename_i p hp
   split at h
   ·rename_i d hd
    split at h
    ·rename_i c hc
     have e2 : a.tmps.getD d undef = .bool c := he.2 d _ hc
     have e3 : a.tmps[d]? = some (.bool c) := by
      rw [Array.getD_eq_getD_getElem?] at e2
      cases e4 : a.tmps[d]? with
      | none => rw [e4] at e2; simp [undef] at e2
      | some u => rw [e4] at e2; simp at e2; rw [e2]
     simp at h
     subst h
     simp [yielded, hp, hd, e3]
    ·rename_i vs hc
     have e2 : a.tmps.getD d undef = .tuple vs := he.2 d _ hc
     split at h
     ·simp at h
      subst h
      rw [Array.getD_eq_getD_getElem?] at e2
      cases e4 : a.tmps[d]? with
      | none => simp [yielded, hp, hd, e4]
      | some u => rw [e4] at e2; simp at e2; subst e2; simp [yielded, hp, hd, e4]
     ·cases h
    ·cases h
   ·cases h
  ·cases h
end
end Go.Proofs.YtakkogdmlbkdaaaGreatDoor.Sl

