import Derived.Test.YtakkogdmlbkdaaaGreatDoorL8
import Derived.LaidEqlPtr
namespace Go.Proofs.YtakkogdmlbkdaaaGreatDoor.Sl
open Go Go.RowKit
set_option linter.unusedVariables false
set_option linter.unusedSimpArgs false
section
variable {P : Program} {β : Base} {rnd : Option (Nat × Loop)} {N : Nat} {env : Env} {L : List Atom} {K : Env → List Atom → Prop} {ops : Array Oper} {T : TT}
def eqpE (T : TT) (N : Nat) (ops : Array Oper) (env : Env) (o : Oper) : Option (Nat × Bool × Addr × Addr × Nat) :=
 match dstE N ops env o with
 | some d => match o.op with
  | .binOp op t x y _ => match T.get t, ev env x, ev env y with
   | some i, some (.pointer (some a)), some (.pointer (some b)) => match i.desc with
    | .pointer e => match T.get e with
     | some ei => match op with
      | .eql => some (d, true, a, b, ei.size)
      | .neq => some (d, false, a, b, ei.size)
      | _ => none
     | none => none
    | _ => none
   | _, _, _ => none
  | _ => none
 | none => none
def RowIn (β : Base) (L : List Atom) (b : Nat) : Prop := ∀ w, Sat β w L → ∃ cs t, w.heap[b]? = some (.cells cs t (0, 0))
theorem RowIn.ent {L M : List Atom} {b : Nat} (h : RowIn β M b) (e : Ent L M) : RowIn β L b := fun w s => h w (s.ent e)
theorem RowIn.rm {A : Atom} {L M : List Atom} {b : Nat} (h : RowIn β [A] b) (hk : Rm A L M) : RowIn β L b := h.ent ((hk.to (Ent.refl [A])).trans (Ent.left [A] M))
theorem RowIn.of_at {L : List Atom} {b : Nat} {cs : List Value} (h : At β b L true cs) : RowIn β L b := fun w s => by
 obtain ⟨j, hj⟩ := h.idx
 obtain ⟨_, t, e⟩ := s.cell_pt (cs := cs) hj
 exact ⟨_, t, e⟩
theorem eqpE_run (hT : TTok P T) {o : Oper} {d : Nat} {e : Bool} {a b : Addr} {z : Nat} (h : eqpE T N ops env o = some (d, e, a, b, z)) : dstE N ops env o = some d ∧ ∀ (ρ : Operand → Value), (∀ x u, ev env x = some u → ρ x = u) → ∀ w (q : Bool),
  (∀ tp te (j : TypeInfo), P.underlying tp = some (.pointer te) → P.info? te = some j → j.size = z → (Op.equalIn 10000 tp (.pointer (some a)) (.pointer (some b))).run P w = .ok q w) →
  (execOp ρ o).run P w = .ok (.value (.bool (if e then q else !q))) w := by
 unfold eqpE at h
 split at h <;> try (cases h; done)
 rename_i d' hde
 split at h <;> try (cases h; done)
 rename_i op t x y e2 hop
 split at h <;> try (cases h; done)
 rename_i i a' b' hi hx hy
 split at h <;> try (cases h; done)
 rename_i el hds
 split at h <;> try (cases h; done)
 rename_i ei hei
 have hu := (hT.get hi).1.1
 rw [hds] at hu
 have he := (hT.get hei).1.2
 obtain ⟨inf, hinf, hsz⟩ : ∃ inf, P.info? el = some inf ∧ inf.size = ei.size := by
  cases hin : P.info? el with
  | none => rw [hin] at he; cases he
  | some inf =>
   rw [hin] at he
   simp only [Option.map_some, Option.some.injEq, Prod.mk.injEq] at he
   exact ⟨inf, rfl, he.1⟩
 obtain ⟨dst, op', type, pos, after, guard⟩ := o
 simp only at hop
 subst hop
 split at h <;> try (cases h; done)
 all_goals
  simp only [Option.some.injEq, Prod.mk.injEq] at h
  obtain ⟨rfl, rfl, rfl, rfl, rfl⟩ := h
  refine ⟨hde, fun ρ hρ w q hq => ?_⟩
  have h1 := hq t el inf hu hinf hsz
  have h2 : (Op.equal t (.pointer (some a')) (.pointer (some b'))).run P w = .ok q w := h1
  simp [execOp, hρ _ _ hx, hρ _ _ hy, Sem.run_bind, eqGuard, binOp, h2]
theorem SQ.eqpS (hT : TTok P T) {s : Stp} {r : List Stp} {obs : Obs} {d z : Nat} {e : Bool} {a b : Addr} (hk : Nat.ble s.k 1 = true) (h : eqpE T N ops env s.o = some (d, e, a, b, z)) (hab : a = b)
  (k : SQ P β rnd N T ops K r obs ((d, .bool e) :: env) L) : SQ P β rnd N T ops K (s :: r) obs env L := by
 subst hab
 obtain ⟨hde, hr⟩ := eqpE_run (P := P) hT h
 obtain ⟨hw, hd, hdl⟩ := dstE_eq hde
 refine SQ.val' hk hw hd hdl (fun ρ hρ w => ?_) k
 have := hr ρ hρ w true (fun tp te j hp hte _ => (show ∀ D : Nat, (Op.equalIn (D + 1) tp (.pointer (some a)) (.pointer (some a))).run P w = .ok true w from fun D => by simp [Op.equalIn, run_underlying hp, sizeOf, typeInfo, hte, run_sameAddr_same]) 9999)
 rw [this]
 cases e <;> rfl
theorem SQ.eqpN (hT : TTok P T) {s : Stp} {r : List Stp} {obs : Obs} {d z : Nat} {e : Bool} {a b : Addr} (hk : s.k = 1) (h : eqpE T N ops env s.o = some (d, e, a, b, z)) (hz : z ≠ 0) (hab : a.block ≠ b.block) (ha : RowIn β L a.block) (hb : RowIn β L b.block)
  (hwt : watchOk β obs L s.watch) (k : SQ P β rnd N T ops K r obs ((d, .bool !e) :: env) L) : SQ P β rnd N T ops K (s :: r) obs env L := by
 obtain ⟨hde, hr⟩ := eqpE_run (P := P) hT h
 obtain ⟨hw, hd, hdl⟩ := dstE_eq hde
 refine SQ.act hk hw fun fm n Qx ac w st => ?_
 obtain ⟨hen, Ds, hds, s0⟩ := st
 have s1 : Sat β w L := s0.ent (Ent.right _ _)
 obtain ⟨ca, ta, ea⟩ := ha w s1
 obtain ⟨cb, tb, eb⟩ := hb w s1
 have e2 := hr ac.eval (fun x u hx => hen.eval hx) w false (fun tp te j hp hte hj => (show ∀ D : Nat, (Op.equalIn (D + 1) tp (.pointer (some a)) (.pointer (some b))).run P w = .ok false w from fun D => by
  simp [Op.equalIn, run_underlying hp, sizeOf, typeInfo, hte, hj, hz, run_sameAddr_other w (fun h => hab (by rw [h])) ea eb]) 9999)
 rw [e2]
 have e3 : (if e = true then false else !false) = !e := by cases e <;> rfl
 rw [e3]
 exact ⟨_, _, ⟨by rw [hd]; exact hen.put hdl _, Ds, by rw [hd]; exact hds, s0⟩, hwt, k⟩
theorem reads_cells {w : World} {b off t : Nat} {fz : Nat × Nat} {cs news : List Value} (e : w.heap[b]? = some (.cells cs.toArray t fz)) (hn : (cs.drop off).take news.length = news) : Reads β w b off news := by
 intro k u hk
 have hlt : k < news.length := (List.getElem?_eq_some_iff.1 hk).1
 rw [addr_add]
 rw [← hn, List.getElem?_take_of_lt hlt, List.getElem?_drop] at hk
 simp [World.cell?, e, hk]
theorem reads_slr {A : Atom} {n sz b off : Nat} {cs : List Value} (hS : SlR β A (some ⟨b, off, none⟩) n sz cs) (ha : AtA A L) (hl : cs.length = n * sz) : ∀ H w, Sat β w (H ++ L) → Reads β w b off cs := fun H w st => by
 obtain ⟨M, p⟩ := ha.rm
 have st2 := st.perm (List.Perm.append_left H p)
 obtain ⟨k, ho, hw⟩ := st2.at_ (i := H.length) (A := A) (by simp)
 rcases hS k ho with h0 | ⟨g, o, cur, hq, ht, ⟨t, fz, e⟩ | ⟨hlt, t, fz, e⟩⟩
 ·have : cs = [] := List.length_eq_zero_iff.1 (by rw [hl, h0]; omega)
  subst this
  intro k u hk
  simp at hk
 ·injection hq with hq
  injection hq with h1 h2
  subst h1 h2
  exact reads_cells (hw b _ e).2 (by rw [hl]; exact ht)
 ·injection hq with hq
  injection hq with h1 h2
  subst h1 h2
  refine reads_cells (t := t) (fz := fz) (cs := cur) ?_ (by rw [hl]; exact ht)
  show w.heap[b]? = _
  rw [st.1.block b hlt]; exact e
theorem SQ.appG (hT : TTok P T) {s : Stp} {r : List Stp} {obs : Obs} {d e b off m : Nat} {te : TI} {v : Value} (he : s.k = 1) (h : apE T N ops env s.o = some (d, e, te, v, b, off, m)) (j1 : Nat) {n : Nat} {cs : List Value} (hL1 : L[j1]? = some (own e te.size v n cs))
  {A : Atom} {news : List Value} {sz : Nat} (hS : SlR β A (some ⟨b, off, none⟩) m sz news) (ha : AtA A L) (hsz : sz = te.size) (hl : news.length = m * te.size) (hz : (vcells te.zero).length = te.size) (h1 : ∀ u ∈ news, u.oneCell' = true)
  (h63 : n + m ≤ 4611686018427387904) (hby : (n + m) * te.bytes ≤ 140737488355328)
  (k : ∀ v', watchOk β obs (own e te.size v' (n + m) (cs ++ news) :: L.eraseIdx j1) s.watch ∧ SQ P β rnd N T ops K r obs ((d, v') :: env) (own e te.size v' (n + m) (cs ++ news) :: L.eraseIdx j1)) : SQ P β rnd N T ops K (s :: r) obs env L := by
 subst hsz
 exact SQ.appendR hT he h j1 hL1 news (reads_slr hS ha hl) hl hz h1 h63 hby k
theorem own_q {e sz n c : Nat} {q : Option Addr} {cs : List Value} : Ent [own e sz (.slice q n c) n cs] [pureA (q = none ∨ ∃ g, q = some ⟨g, 0, none⟩), own e sz (.slice q n c) n cs] := fun h s => by
 obtain ⟨h1, h2, ho, e0, d, rfl⟩ := s
 have : q = none ∨ ∃ g, q = some ⟨g, 0, none⟩ := by
  obtain ⟨_, ⟨hv, _, _⟩ | ⟨g, cap, cur, hv, _⟩⟩ := ho
  ·injection hv with hq _ _; exact .inl hq
  ·injection hv with hq _ _; exact .inr ⟨g, hq⟩
 exact Ent.pureA this _ ⟨h1, h2, ho, e0, d, rfl⟩
end
end Go.Proofs.YtakkogdmlbkdaaaGreatDoor.Sl

