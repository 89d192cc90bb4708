import Derived.Test.YtakkogdmlbkdaaaGreatDoorL3
import Derived.ProofKit
import Derived.Deep.Slices
import Derived.Deep.Fields
import Derived.Laws.MakeOwn
namespace Go.Proofs.YtakkogdmlbkdaaaGreatDoor.Sl
open Go Go.RowKit Go.ChangeShapes Go.WideShapes Go.Deep
set_option linter.unusedVariables false
set_option linter.unusedSimpArgs false
def RdS (β : Base) (p : Option Addr) (n sz : Nat) (cells : List Value) (A : Atom) : Prop :=
 cells.length = n * sz ∧ (n = 0 ∨ ∃ b off q cs, p = some ⟨b, off, none⟩ ∧ A = pq β q b cs ∧ (cs.drop off).take (n * sz) = cells)
theorem cells_at {cs cells : List Value} {off m j : Nat} (h : (cs.drop off).take m = cells) {v : Value} (hj : cells[j]? = some v) : cs[off + j]? = some v := by
 rw [← h, List.getElem?_take] at hj
 split at hj
 ·rw [List.getElem?_drop] at hj; exact hj
 ·cases hj
section
variable {H : Type} {enc : TypeId × Value → H} {P : Program} {W : World}
def isK (P : Program) (t : Nat) (v : Value) : Prop :=
 match P.underlying t with
 | some .bool => ∃ b, v = .bool b
 | some (.int k) => ∃ n, v = .int k n ∧ (Lit.int k n).wf = true
 | _ => True
theorem isK_bool {t : Nat} {v : Value} (ht : P.underlying t = some .bool) (h : isK P t v) : ∃ b, v = .bool b := by
 unfold isK at h; rw [ht] at h; exact h
theorem isK_int {t : Nat} {k : IntKind} {v : Value} (ht : P.underlying t = some (.int k)) (h : isK P t v) : ∃ n, v = .int k n ∧ k.min ≤ n ∧ n ≤ k.max := by
 unfold isK at h; rw [ht] at h
 obtain ⟨n, h1, h2⟩ := h
 exact ⟨n, h1, by simpa [Lit.wf] using h2⟩
end
theorem decode {α : Type} (enc : α → List Value) (p : α → Prop) (sz : Nat) : ∀ (n : Nat) (cells : List Value), cells.length = n * sz → (∀ i, i < n → ∃ a, p a ∧ (cells.drop (i * sz)).take sz = enc a) → ∃ ts : List α, ts.length = n ∧ cells = ts.flatMap enc ∧ ∀ a ∈ ts, p a
 | 0, cells, hl, _ => ⟨[], rfl, List.eq_nil_of_length_eq_zero (by simpa using hl), by simp⟩
 | n + 1, cells, hl, h => by
  obtain ⟨a, ha, h0⟩ := h 0 (by omega)
  simp only [Nat.zero_mul, List.drop_zero] at h0
  obtain ⟨ts, h1, h2, h3⟩ := decode enc p sz n (cells.drop sz) (by rw [List.length_drop, hl, Nat.add_mul]; omega) fun i hi => by
   obtain ⟨a, ha, e⟩ := h (i + 1) (by omega)
   refine ⟨a, ha, ?_⟩
   rw [List.drop_drop, show sz + i * sz = (i + 1) * sz from by rw [Nat.add_mul]; omega]
   exact e
  refine ⟨a :: ts, by simp [h1], ?_, ?_⟩
  ·rw [List.flatMap_cons, ← h0, ← h2, List.take_append_drop]
  ·intro x hx
   rcases List.mem_cons.1 hx with rfl | hx
   ·exact ha
   ·exact h3 x hx
theorem flatE_len {α : Type} {enc : α → List Value} {sz : Nat} (hsz : ∀ a, (enc a).length = sz) : ∀ (ts : List α), (ts.flatMap enc).length = ts.length * sz
 | [] => by simp
 | a :: r => by rw [List.flatMap_cons, List.length_append, flatE_len hsz r, List.length_cons, hsz, Nat.add_mul]; omega
theorem flatE_at {α : Type} {enc : α → List Value} {sz : Nat} (hsz : ∀ a, (enc a).length = sz) : ∀ {ts : List α} {k : Nat} {t : α}, ts[k]? = some t → ((ts.flatMap enc).drop (k * sz)).take sz = enc t
 | a :: r, 0, t, h => by
  simp only [List.getElem?_cons_zero, Option.some.injEq] at h
  subst h
  rw [List.flatMap_cons, Nat.zero_mul, List.drop_zero]
  conv => lhs; rw [← hsz a]
  exact List.take_left
 | a :: r, k + 1, t, h => by
  have := flatE_at hsz (ts := r) (k := k) (t := t) (by simpa using h)
  rw [List.flatMap_cons, show (k + 1) * sz = sz + k * sz from by rw [Nat.add_mul]; omega, ← List.drop_drop]
  have e : (enc a ++ List.flatMap enc r).drop sz = List.flatMap enc r := by
   conv => lhs; rw [← hsz a]
   exact List.drop_left
  rw [e]; exact this
theorem rd_enc {α : Type} {enc : α → List Value} {sz : Nat} (hsz : ∀ a, (enc a).length = sz) {ti : TI} (ha : aggD ti.desc = true) (hti : ti.size = sz) {cs : List Value} {off n : Nat} {ts : List α} (h : (cs.drop off).take (n * sz) = ts.flatMap enc) {k : Nat} {t : α} (hk : ts[k]? = some t) :
  rdv ti cs (off + k * sz) = some (.agg (enc t).toArray) := by
 have hkl : k < ts.length := (List.getElem?_eq_some_iff.1 hk).1
 have hlen := flatE_len hsz ts
 have h1 : (((cs.drop off).take (n * sz)).drop (k * sz)).take sz = enc t := by rw [h]; exact flatE_at hsz hk
 have hl2 : ts.length * sz ≤ n * sz := by rw [← hlen, ← h, List.length_take]; omega
 have hl3 : k * sz + sz ≤ ts.length * sz := by
  have := Nat.mul_le_mul_right sz (show k + 1 ≤ ts.length by omega)
  rw [Nat.add_mul] at this; omega
 rw [List.drop_take, List.take_take, List.drop_drop, show min sz (n * sz - k * sz) = sz from by omega] at h1
 have h3 : sz ≤ (cs.drop (off + k * sz)).length := by
  have := congrArg List.length h1
  rw [List.length_take, hsz] at this
  omega
 simp only [rdv, ha, takeN_eq, dropN_eq, hti]
 rw [if_pos h3, h1]
theorem Tri.calls {P : Program} {W : World} {g : FuncId} {args : List Value} {A : List Atom} {R : Value → List Atom → Prop} (h : Tri P W g args A R) (hA : Ent [] A) : Calls P g args.toArray W fun e w' => ∃ v A', e = .returned v ∧ Below W.heap.size W w' ∧ R v A' := by
 have s0 : Sat W W [] := ⟨⟨Below.refl _ _, Nat.le_refl _⟩, Hp.emp, rfl, fun b o e => by simp [Hp.emp] at e⟩
 have := callsIn_wide.1 (h.2 [] 0 W (s0.ent hA))
 exact this.mono fun e w' ⟨v, A', he, hs, hr⟩ => ⟨v, A', he, hs.1.bel, hr⟩
end Go.Proofs.YtakkogdmlbkdaaaGreatDoor.Sl
namespace Go.Proofs.YtakkogdmlbkdaaaGreatDoor.Sl
open Go Go.RowKit
set_option linter.unusedVariables false
set_option linter.unusedSimpArgs false
theorem wrv_mk {i : TI} {cs : List Value} {off : Nat} {v : Value} (h1 : (vcells v).length = i.size) (h2 : off + i.size ≤ cs.length) : wrv i cs off v = some (cs.take off ++ vcells v ++ cs.drop (off + i.size)) := by
 unfold wrv
 rw [show Nat.beq (vcells v).length i.size = true from by rw [h1]; exact Nat.beq_refl _]
 simp only [cond_true]
 rw [wrAt_eq off _ _ _ (by omega), if_pos (by omega), h1]
theorem flat_split {α : Type} {enc : α → List Value} {sz : Nat} (hsz : ∀ a, (enc a).length = sz) : ∀ {es : List α} {k : Nat} {e : α}, es[k]? = some e → ∃ P R : List Value, P.length = k * sz ∧ es.flatMap enc = P ++ (enc e ++ R) ∧ ∀ e', (es.set k e').flatMap enc = P ++ (enc e' ++ R)
 | a :: r, 0, e, h => by
  simp only [List.getElem?_cons_zero, Option.some.injEq] at h
  subst h
  exact ⟨[], r.flatMap enc, by simp, by simp, fun e' => by simp⟩
 | a :: r, k + 1, e, h => by
  obtain ⟨P, R, h1, h2, h3⟩ := flat_split hsz (es := r) (k := k) (e := e) (by simpa using h)
  refine ⟨enc a ++ P, R, by rw [List.length_append, hsz, h1, Nat.add_mul]; omega, by rw [List.flatMap_cons, h2, List.append_assoc], fun e' => by rw [List.set_cons_succ, List.flatMap_cons, h3, List.append_assoc]⟩
theorem wr_enc {α : Type} {enc : α → List Value} {sz : Nat} (hsz : ∀ a, (enc a).length = sz) {es : List α} {k : Nat} {e e' : α} (h : es[k]? = some e) {i : TI} {v : Value} (a : Nat) (ha : a + i.size ≤ sz) (hv : (vcells v).length = i.size)
  (he : enc e' = (enc e).take a ++ vcells v ++ (enc e).drop (a + i.size)) {off : Nat} (ho : off = k * sz + a) : wrv i (es.flatMap enc) off v = some ((es.set k e').flatMap enc) := by
 subst ho
 obtain ⟨P, R, h1, h2, h3⟩ := flat_split hsz h
 have hl : (enc e).length = sz := hsz e
 rw [wrv_mk hv (by rw [h2, List.length_append, List.length_append, h1, hl]; omega), h2, h3 e', he]
 congr 1
 rw [List.take_append, List.drop_append, List.take_append, List.drop_append, h1, hl]
 rw [List.take_of_length_le (by omega), show P.drop (k * sz + a + i.size) = [] from List.drop_eq_nil_of_le (by omega)]
 rw [show k * sz + a - k * sz = a from by omega, show k * sz + a + i.size - k * sz = a + i.size from by omega, show a - sz = 0 from by omega, show a + i.size - sz = 0 from by omega]
 simp
theorem rd_part {α : Type} {enc : α → List Value} {sz : Nat} (hsz : ∀ a, (enc a).length = sz) {es : List α} {k : Nat} {e : α} (h : es[k]? = some e) {i : TI} (a : Nat) {v : Value} (hv : rdv i (enc e) a = some v) (hi : a + i.size ≤ sz) {off : Nat} (ho : off = k * sz + a) (h1 : 0 < i.size) :
  rdv i (es.flatMap enc) off = some v := by
 subst ho
 obtain ⟨P, R, h2, h3, _⟩ := flat_split hsz h
 have hl : (enc e).length = sz := hsz e
 rw [h3]
 unfold rdv at hv ⊢
 simp only [dropN_eq, takeN_eq] at hv ⊢
 have e1 : (P ++ (enc e ++ R)).drop (k * sz + a) = (enc e).drop a ++ R := by
  rw [List.drop_append, h2, List.drop_eq_nil_of_le (by omega), show k * sz + a - k * sz = a from by omega, List.drop_append, hl, show a - sz = 0 from by omega]
  simp
 rw [e1]
 cases hd : aggD i.desc with
 | true =>
  rw [hd] at hv
  simp only at hv ⊢
  have hlen : i.size ≤ ((enc e).drop a).length := by rw [List.length_drop]; omega
  rw [if_pos hlen] at hv
  rw [if_pos (by rw [List.length_append]; omega), List.take_append_of_le_length hlen]
  exact hv
 | false =>
  rw [hd] at hv
  simp only at hv ⊢
  cases he : (enc e).drop a with
  | nil => rw [he] at hv; cases hv
  | cons x r => rw [he] at hv; simpa using hv
theorem wr_encR {α : Type} {enc : α → List Value} {sz : Nat} (hsz : ∀ a, (enc a).length = sz) {es : List α} {k : Nat} {e e' : α} (h : es[k]? = some e) {i : TI} {v : Value} (a : Nat) (ha : a + i.size ≤ sz) (hv : (vcells v).length = i.size)
  (he : enc e' = (enc e).take a ++ vcells v ++ (enc e).drop (a + i.size)) {off : Nat} (ho : off = k * sz + a) (X : List Value) : wrv i (es.flatMap enc ++ X) off v = some ((es.set k e').flatMap enc ++ X) := by
 have h1 := wr_enc hsz h a ha hv he ho
 obtain ⟨g1, g2, g3⟩ := wrv_eq h1
 rw [wrv_mk hv (by rw [List.length_append]; omega), g3]
 congr 1
 rw [List.take_append_of_le_length (by omega), List.drop_append_of_le_length (by omega)]
 simp
theorem rd_partR {α : Type} {enc : α → List Value} {sz : Nat} (hsz : ∀ a, (enc a).length = sz) {es : List α} {k : Nat} {e : α} (h : es[k]? = some e) {i : TI} (a : Nat) {v : Value} (hv : rdv i (enc e) a = some v) (hi : a + i.size ≤ sz) {off : Nat} (ho : off = k * sz + a) (h1 : 0 < i.size) (X : List Value) :
  rdv i (es.flatMap enc ++ X) off = some v := by
 have h2 := rd_part hsz h a hv hi ho h1
 have hkl : k < es.length := (List.getElem?_eq_some_iff.1 h).1
 have hlen := flatE_len hsz es
 have hl3 : k * sz + sz ≤ es.length * sz := by
  have := Nat.mul_le_mul_right sz (show k + 1 ≤ es.length by omega)
  rw [Nat.add_mul] at this; omega
 unfold rdv at h2 ⊢
 simp only [dropN_eq, takeN_eq] at h2 ⊢
 rw [List.drop_append_of_le_length (by omega)]
 have hlen2 : i.size ≤ ((es.flatMap enc).drop off).length := by rw [List.length_drop]; omega
 cases hd : aggD i.desc with
 | true =>
  rw [hd] at h2
  simp only at h2 ⊢
  rw [if_pos hlen2] at h2
  rw [if_pos (by rw [List.length_append]; omega), List.take_append_of_le_length hlen2]
  exact h2
 | false =>
  rw [hd] at h2
  simp only at h2 ⊢
  cases hc : (es.flatMap enc).drop off with
  | nil => rw [hc] at h2; cases h2
  | cons x r => rw [hc] at h2; simpa using h2
theorem off_add (n m : Nat) : (bif Nat.beq n 0 then m else n + m) = n + m := by
 cases n with
 | zero => simp
 | succ n => rfl
end Go.Proofs.YtakkogdmlbkdaaaGreatDoor.Sl
namespace Go.Proofs.YtakkogdmlbkdaaaGreatDoor.Sl
open Go Go.RowKit
set_option linter.unusedVariables false
set_option linter.unusedSimpArgs false
section
variable {P : Program} {β : Base} {rnd : Option (Nat × Loop)} {N : Nat} {env : Env} {L : List Atom} {K : Env → List Atom → Prop} {ops : Array Oper} {T : TT}
def shE (N : Nat) (ops : Array Oper) (env : Env) (o : Oper) : Option (Nat × Bool × IntKind × Int × Int) :=
 match dstE N ops env o with
 | some d => match o.op with
  | .binOp op t x y _ => match ev env x, ev env y with
   | some (.int k a), some (.int _ b) => match op with
    | .shl => some (d, true, k, a, b)
    | .shr => some (d, false, k, a, b)
    | _ => none
   | _, _ => none
  | _ => none
 | none => none
theorem SQ.shift (hT : TTok P T) {s : Stp} {r : List Stp} {obs : Obs} {d : Nat} {l : Bool} {k : IntKind} {a b : Int} (hk : Nat.ble s.k 1 = true) (h : shE N ops env s.o = some (d, l, k, a, b)) (n : Nat) (hn : b = (n : Int)) {v : Int}
  (hv : (if l then k.wrap (a * 2 ^ min n k.bits) else a.fdiv (2 ^ min n k.bits)) = v) (kk : SQ P β rnd N T ops K r obs ((d, .int k v) :: env) L) : SQ P β rnd N T ops K (s :: r) obs env L := by
 subst hv
 unfold shE at h
 split at h <;> try (cases h; done)
 rename_i d' hde
 obtain ⟨hw, hd, hdl⟩ := dstE_eq hde
 split at h <;> try (cases h; done)
 rename_i op t x y e2 hop
 split at h <;> try (cases h; done)
 rename_i k' a' k2 b' hx hy
 obtain ⟨si, ⟨dst, op', type, pos, after, guard⟩, se, sw⟩ := s
 simp only at hop
 subst hop
 have h0 : ¬ ((n : Int) < 0) := by omega
 split at h <;> try (cases h; done)
 ·simp only [Option.some.injEq, Prod.mk.injEq] at h
  obtain ⟨rfl, rfl, rfl, rfl, rfl⟩ := h
  subst hn
  refine SQ.val' hk hw hd hdl (fun ρ hρ w => ?_) kk
  have hg : (eqGuard .shl t x y (.int k' a') (.int k2 (n : Int))).run P w = .ok () w := run_eqGuard_plain rfl w
  simp only [execOp, hρ _ _ hx, hρ _ _ hy, Sem.run_bind, hg, Result.andThen]
  simp [binOp, Op.shift, h0]
 ·simp only [Option.some.injEq, Prod.mk.injEq] at h
  obtain ⟨rfl, rfl, rfl, rfl, rfl⟩ := h
  subst hn
  refine SQ.val' hk hw hd hdl (fun ρ hρ w => ?_) kk
  have hg : (eqGuard .shr t x y (.int k' a') (.int k2 (n : Int))).run P w = .ok () w := run_eqGuard_plain rfl w
  simp only [execOp, hρ _ _ hx, hρ _ _ hy, Sem.run_bind, hg, Result.andThen]
  simp [binOp, Op.shift, h0]
def mkE (T : TT) (N : Nat) (ops : Array Oper) (env : Env) (o : Oper) : Option (Nat × TI × Int × Int) :=
 match dstE N ops env o with
 | some d => match o.op with
  | .makeSlice t x y => match T.get t, ev env x, ev env y with
   | some ti, some (.int _ a), some (.int _ b) => match ti.desc with
    | .slice e => match T.get e with
     | some te => some (d, te, a, b)
     | none => none
    | _ => none
   | _, _, _ => none
  | _ => none
 | none => none
theorem SQ.make (hT : TTok P T) {s : Stp} {r : List Stp} {obs : Obs} {d : Nat} {te : TI} {a b : Int} (he : s.k = 1) (h : mkE T N ops env s.o = some (d, te, a, b)) (n : Nat) (ha : a = (n : Int)) (hb : b = (n : Int)) (hc : n * te.size ≤ 16777216) (hby : te.bytes * n ≤ 281474976710656) (h63 : n ≤ 9223372036854775807)
  (k : ∀ g, watchOk β obs (pt g (madeCells te.zero.cells (n * te.size)).toList :: L) s.watch ∧ SQ P β rnd N T ops K r obs ((d, .slice (some ⟨g, 0, none⟩) n n) :: env) (pt g (madeCells te.zero.cells (n * te.size)).toList :: L)) : SQ P β rnd N T ops K (s :: r) obs env L := by
 unfold mkE at h
 split at h <;> try (cases h; done)
 rename_i d' hde
 obtain ⟨hw, hd, hdl⟩ := dstE_eq hde
 split at h <;> try (cases h; done)
 rename_i t x y hop
 split at h <;> try (cases h; done)
 rename_i ti k1 a' k2 b' hti hx hy
 split at h <;> try (cases h; done)
 rename_i e hde2
 split at h <;> try (cases h; done)
 rename_i te' hte
 simp only [Option.some.injEq, Prod.mk.injEq] at h
 obtain ⟨rfl, rfl, rfl, rfl⟩ := h
 subst ha
 subst hb
 have hu := (hT.get hti).1.1
 rw [hde2] at hu
 obtain ⟨inf, hinf, hsz, hbt, hzz⟩ := (hT.get hte).info
 refine SQ.act he hw fun fm nn Qx aa w st0 => ?_
 obtain ⟨hen, Ds, hds, st⟩ := st0
 have hrun := run_makeSlice w t e inf te'.zero hu hinf hzz k1 k2 (n : Int) (n : Int) (by omega) (by omega) (by rw [hsz, Int.toNat_natCast]; exact hc) (by rw [hbt]; have h9 := Int.ofNat_le.2 hby; rw [Int.natCast_mul] at h9; exact h9) (by omega)
 have e2 : (execOp aa.eval s.o).run P w = .ok (.value (.slice (some ⟨w.heap.size, 0, none⟩) n n)) (w.alloc (.cells (madeCells te'.zero.cells (n * te'.size)) e)) := by
  obtain ⟨si, ⟨dst, op, type, pos, after, guard⟩, se, sw⟩ := s
  simp only at hop
  subst hop
  simp only [execOp, hen.eval hx, hen.eval hy, Sem.run_bind, hrun, Result.andThen, Sem.run_pure]
  rw [hsz]; simp
 rw [e2]
 refine ⟨_, _, ⟨by rw [hd]; exact hen.put hdl _, Ds, by rw [hd]; exact hds, ?_⟩, k w.heap.size⟩
 have := st.alloc (madeCells te'.zero.cells (n * te'.size)).toList e
 simpa using this
end
end Go.Proofs.YtakkogdmlbkdaaaGreatDoor.Sl
namespace Go.Proofs.YtakkogdmlbkdaaaGreatDoor.Sl
open Go Go.RowKit
set_option linter.unusedVariables false
set_option linter.unusedSimpArgs false
section
variable {P : Program} {β : Base} {rnd : Option (Nat × Loop)} {N : Nat} {env : Env} {L : List Atom} {K : Env → List Atom → Prop} {ops : Array Oper} {T : TT}
def fEq (T : TT) (g : Nat → List Value → List Value → Option Bool) (f : Field) (xs ys : List Value) : Option Bool :=
 match fieldEq T f xs ys with
 | some b => some b
 | none => match T.get f.type with
  | some i => match i.desc with
   | .struct _ => match rdv i xs f.offset, rdv i ys f.offset with
    | some (.agg a), some (.agg b) => g f.type a.toList b.toList
    | _, _ => none
   | _ => none
  | none => none
def fsEq (T : TT) (g : Nat → List Value → List Value → Option Bool) : List Field → List Value → List Value → Option Bool
 | [], _, _ => some true
 | f :: r, xs, ys => match fEq T g f xs ys with
  | some a => match fsEq T g r xs ys with
   | some b => some (a && b)
   | none => none
  | none => none
def sEq (T : TT) (sts : List Nat) : Nat → Nat → List Value → List Value → Option Bool
 | 0, _, _, _ => none
 | n + 1, t, xs, ys => match T.get t, sts.any (Nat.beq t), namesOk T t with
  | some i, true, true => match i.desc with
   | .struct fs => fsEq T (sEq T sts n) fs.toList xs ys
   | _ => none
  | _, _, _ => none
def stoodAll (P : Program) : List Nat → Prop
 | [] => True
 | t :: r => P.stoodInHeld t = false ∧ stoodAll P r
theorem stoodAll.at_ : ∀ {l : List Nat}, stoodAll P l → ∀ {t : Nat}, l.any (Nat.beq t) = true → P.stoodInHeld t = false
 | u :: r, h, t, ht => by
  simp only [List.any_cons, Bool.or_eq_true] at ht
  rcases ht with ht | ht
  ·have := Nat.eq_of_beq_eq_true ht; subst this; exact h.1
  ·exact h.2.at_ ht
theorem sEq_run (hT : TTok P T) {sts : List Nat} (hst : stoodAll P sts) (w : World) : ∀ (n : Nat) {t : Nat} {xs ys : List Value} {r : Bool}, sEq T sts n t xs ys = some r → ∀ d, n ≤ d → (Op.equalIn (d + 1) t (.agg xs.toArray) (.agg ys.toArray)).run P w = .ok r w
 | n + 1, t, xs, ys, r, h, d, hd => by
  obtain ⟨d, rfl⟩ : ∃ d', d = d' + 1 := ⟨d - 1, by omega⟩
  unfold sEq at h
  split at h <;> try (cases h; done)
  rename_i i hi hs hnm
  split at h <;> try (cases h; done)
  rename_i fs hds
  have hu := (hT.get hi).1.1
  rw [hds] at hu
  have hp := hst.at_ hs
  have hnn : ∀ f ∈ fs.toList, (f.name == "_") = false := fun f hf => by
   simp only [namesOk, hi, hds] at hnm
   have := List.all_eq_true.1 hnm f hf
   simpa using this
  have hf : P.fieldsOf t = fs := by simp [Program.fieldsOf, hu]
  rw [run_equalIn_struct (P := P) w (d + 1) t xs.toArray ys.toArray (by rw [hf]; exact hu) hp, hf]
  have key : ∀ {gs : List Field} {r : Bool}, (∀ f ∈ gs, (f.name == "_") = false) → fsEq T (sEq T sts n) gs xs ys = some r → (Op.eqFields (d + 1) xs.toArray ys.toArray gs).run P w = .ok r w := by
   intro gs
   induction gs with
   | nil => intro r _ h; simp [fsEq] at h; subst h; simp [Op.eqFields]
   | cons f gs ih =>
    intro r hn h
    unfold fsEq at h
    split at h <;> try (cases h; done)
    rename_i a ha
    split at h <;> try (cases h; done)
    rename_i b hb
    simp only [Option.some.injEq] at h
    subst h
    have ih := ih (fun g hg => hn g (List.mem_cons_of_mem _ hg)) hb
    have hn' : f.name ≠ "_" := by simpa using hn f List.mem_cons_self
    have one : ∃ u v, (part f.type xs.toArray f.offset).run P w = .ok u w ∧ (part f.type ys.toArray f.offset).run P w = .ok v w ∧ (Op.equalIn (d + 1) f.type u v).run P w = .ok a w := by
     unfold fEq at ha
     split at ha
     ·rename_i b' hb'
      simp only [Option.some.injEq] at ha
      subst ha
      exact fieldEq_run (P := P) hT hb' d w
     ·split at ha <;> try (cases ha; done)
      rename_i j hj
      split at ha <;> try (cases ha; done)
      split at ha <;> try (cases ha; done)
      rename_i ua ub h1 h2
      refine ⟨_, _, run_part_of (hT.get hj) (by simpa using h1) w, run_part_of (hT.get hj) (by simpa using h2) w, ?_⟩
      have := sEq_run hT hst w n ha d (by omega)
      simpa using this
    obtain ⟨u, v, h1, h2, h3⟩ := one
    rw [Op.eqFields]
    simp only [if_pos hn', Sem.run_bind, h1, h2, h3, Result.andThen_ok]
    cases a
    ·simp
    ·simpa using ih
  exact key hnn h
def eqnE (T : TT) (sts : List Nat) (N : Nat) (ops : Array Oper) (env : Env) (o : Oper) : Option (Nat × Nat × Bool × Bool) :=
 match dstE N ops env o with
 | some d => match o.op with
  | .binOp op t x y _ => match ev env x, ev env y with
   | some (.agg xs), some (.agg ys) => match op with
    | .eql => match sEq T sts 9 t xs.toList ys.toList with
     | some r => some (d, t, true, r)
     | none => none
    | .neq => match sEq T sts 9 t xs.toList ys.toList with
     | some r => some (d, t, false, r)
     | none => none
    | _ => none
   | _, _ => none
  | _ => none
 | none => none
theorem SQ.eqn (hT : TTok P T) {s : Stp} {r : List Stp} {obs : Obs} {d t : Nat} {e b : Bool} (sts : List Nat) (hst : stoodAll P sts) (hk : Nat.ble s.k 1 = true) (h : eqnE T sts N ops env s.o = some (d, t, e, b)) (hg : P.eqGuardType P.depth t = false)
  (q : Bool) (hq : (if e then b else !b) = q) (k : SQ P β rnd N T ops K r obs ((d, .bool q) :: env) L) : SQ P β rnd N T ops K (s :: r) obs env L := by
 subst hq
 unfold eqnE at h
 split at h <;> try (cases h; done)
 rename_i d' hde
 obtain ⟨hw, hd, hdl⟩ := dstE_eq hde
 split at h <;> try (cases h; done)
 rename_i op t' x y e2 hop
 split at h <;> try (cases h; done)
 rename_i xs ys hx hy
 obtain ⟨si, ⟨dst, op', type, pos, after, guard⟩, se, sw⟩ := s
 simp only at hop
 subst hop
 split at h <;> try (cases h; done)
 ·split at h <;> try (cases h; done)
  rename_i q hq
  simp only [Option.some.injEq, Prod.mk.injEq] at h
  obtain ⟨rfl, rfl, rfl, rfl⟩ := h
  refine SQ.val' hk hw hd hdl (fun ρ hρ w => ?_) k
  have h2 : (Op.equal t' (.agg xs) (.agg ys)).run P w = .ok q w := sEq_run (P := P) hT hst w 9 hq 9999 (by omega)
  simp only [execOp, hρ _ _ hx, hρ _ _ hy, Sem.run_bind, run_eqGuard_agg w _ _ _ _ xs ys hg, Result.andThen_ok, binOp]
  simp [h2]
 ·split at h <;> try (cases h; done)
  rename_i q hq
  simp only [Option.some.injEq, Prod.mk.injEq] at h
  obtain ⟨rfl, rfl, rfl, rfl⟩ := h
  refine SQ.val' hk hw hd hdl (fun ρ hρ w => ?_) k
  have h2 : (Op.equal t' (.agg xs) (.agg ys)).run P w = .ok q w := sEq_run (P := P) hT hst w 9 hq 9999 (by omega)
  simp only [execOp, hρ _ _ hx, hρ _ _ hy, Sem.run_bind, run_eqGuard_agg w _ _ _ _ xs ys hg, Result.andThen_ok, binOp]
  simp [h2]
end
end Go.Proofs.YtakkogdmlbkdaaaGreatDoor.Sl
namespace Go.Proofs.YtakkogdmlbkdaaaGreatDoor.Sl
open Go Go.RowKit Go.Proofs
theorem nat_and_two (n : Nat) : n &&& 2 = 2 * (n / 2 % 2) := by
 have h : n = 4 * (n / 4) + n % 4 := by omega
 have h2 : n % 4 < 4 := by omega
 apply Nat.eq_of_testBit_eq
 intro i
 have e : 2 * (n / 2 % 2) = (n / 2 % 2) <<< 1 := by rw [Nat.shiftLeft_eq]; omega
 rw [e, Nat.testBit_and, Nat.testBit_shiftLeft]
 have e2 : (2 : Nat) = 2 ^ 1 := rfl
 rw [show Nat.testBit 2 i = decide (1 = i) from by rw [e2, Nat.testBit_two_pow]]
 by_cases h1 : 1 = i
 ·subst h1
  simp [Nat.testBit_eq_decide_div_mod_eq]
 ·simp only [h1, decide_false, Bool.and_false]
  rcases Nat.lt_or_ge i 1 with hi | hi
  ·simp; omega
  ·have : n / 2 % 2 < 2 ^ (i - 1) := by
    have : 2 ^ 1 ≤ 2 ^ (i - 1) := Nat.pow_le_pow_right (by omega) (by omega)
    omega
   rw [Nat.testBit_lt_two_pow this]; simp
theorem wrap_u64 (n : Int) : IntKind.u64.wrap n = n % 18446744073709551616 := by
 simp [IntKind.wrap, IntKind.bits, IntKind.signed]
theorem wrap_u32 (n : Int) : IntKind.u32.wrap n = n % 4294967296 := by
 simp [IntKind.wrap, IntKind.bits, IntKind.signed]
theorem wrap_i64 (n : Int) : IntKind.i64.wrap n = if 9223372036854775808 ≤ n % 18446744073709551616 then n % 18446744073709551616 - 18446744073709551616 else n % 18446744073709551616 := by
 simp [IntKind.wrap, IntKind.bits, IntKind.signed]
end Go.Proofs.YtakkogdmlbkdaaaGreatDoor.Sl
namespace Go.Proofs.YtakkogdmlbkdaaaGreatDoor.Sl
open Go Go.RowKit
set_option linter.unusedVariables false
set_option linter.unusedSimpArgs false
variable {L : List Atom}
theorem own_shape (v : Value) (e sz n : Nat) (cs : List Value) : Ent (own e sz v n cs :: []) [exA fun x : Option Addr × Nat => [pureA (v = .slice x.1 n x.2), own e sz v n cs]] := fun h s => by
 obtain ⟨h1, h2, ho, e0, d, rfl⟩ := s
 have : ∃ x : Option Addr × Nat, v = .slice x.1 n x.2 := by
  obtain ⟨_, ⟨rfl, rfl, _⟩ | ⟨g, cap, cur, rfl, _⟩⟩ := ho
  ·exact ⟨(none, 0), rfl⟩
  ·exact ⟨(some ⟨g, 0, none⟩, cap), rfl⟩
 obtain ⟨x, hx⟩ := this
 exact (Ent.trans (Ent.pureA hx) (Ent.exA (f := fun x : Option Addr × Nat => [pureA (v = .slice x.1 n x.2), own e sz v n cs]) x)) _ ⟨h1, h2, ho, e0, d, rfl⟩
def rowA (q : Option Addr) (n : Nat) (cs : List Value) : Atom := fun h => (q = none ∧ n = 0 ∧ cs = [] ∧ h = Hp.emp) ∨ ∃ g rest, q = some ⟨g, 0, none⟩ ∧ pt g (cs ++ rest) h
theorem own_row {e sz n c : Nat} {q : Option Addr} {cs : List Value} : Ent [own e sz (.slice q n c) n cs] [rowA q n cs] := fun h s => by
 obtain ⟨h1, h2, ⟨hl, ho⟩, e0, d, rfl⟩ := s
 refine ⟨_, ⟨h1, h2, ?_, e0, d, rfl⟩, Hp.le_refl _⟩
 rcases ho with ⟨hv, hn, rfl⟩ | ⟨g, cap, cur, hv, hnc, hcl, htk, rfl⟩
 ·subst hn
  injection hv with hq _ _
  exact .inl ⟨hq, rfl, List.eq_nil_of_length_eq_zero (by simpa using hl), rfl⟩
 ·injection hv with hq _ _
  refine .inr ⟨g, cur.drop (n * sz), hq, e, ?_⟩
  rw [← htk, List.take_append_drop]
theorem row_open {q : Option Addr} {n : Nat} {cs : List Value} (hn : 0 < n) : Ent [rowA q n cs] [exA fun x : Nat × List Value => [pureA (q = some ⟨x.1, 0, none⟩), pt x.1 (cs ++ x.2)]] := fun h s => by
 obtain ⟨h1, h2, ho, e0, d, rfl⟩ := s
 rcases ho with ⟨_, h0, _⟩ | ⟨g, rest, hq, hp⟩
 ·omega
 ·exact (Ent.trans (Ent.pureA hq) (Ent.exA (f := fun x : Nat × List Value => [pureA (q = some ⟨x.1, 0, none⟩), pt x.1 (cs ++ x.2)]) (g, rest))) _ ⟨h1, h2, hp, e0, d, rfl⟩
theorem row_some {a : Addr} {n : Nat} {cs : List Value} : Ent [rowA (some a) n cs] [exA fun x : Nat × List Value => [pureA (a = ⟨x.1, 0, none⟩), pt x.1 (cs ++ x.2)]] := fun h s => by
 obtain ⟨h1, h2, ho, e0, d, rfl⟩ := s
 rcases ho with ⟨h0, _⟩ | ⟨g, rest, hq, hp⟩
 ·cases h0
 ·injection hq with hq
  exact (Ent.trans (Ent.pureA hq) (Ent.exA (f := fun x : Nat × List Value => [pureA (a = ⟨x.1, 0, none⟩), pt x.1 (cs ++ x.2)]) (g, rest))) _ ⟨h1, h2, hp, e0, d, rfl⟩
theorem row_none {n : Nat} {cs : List Value} : Ent [rowA none n cs] [pureA (n = 0 ∧ cs = [])] := fun h s => by
 obtain ⟨h1, h2, ho, e0, d, rfl⟩ := s
 rcases ho with ⟨_, hn, hc, hh⟩ | ⟨g, rest, hq, hp⟩
 ·exact ⟨_, ⟨h1, h2, ⟨⟨hn, hc⟩, hh⟩, e0, d, rfl⟩, Hp.le_refl _⟩
 ·cases hq
theorem row_nil : Ent L (rowA none 0 [] :: L) := fun h s =>
 ⟨h, ⟨Hp.emp, h, .inl ⟨rfl, rfl, rfl, rfl⟩, s, Hp.emp_disj _, (Hp.emp_add _).symm⟩, Hp.le_refl h⟩
theorem row_close {g n : Nat} {cs rest : List Value} : Ent [pt g (cs ++ rest)] [rowA (some ⟨g, 0, none⟩) n cs] := fun h s => by
 obtain ⟨h1, h2, ho, e0, d, rfl⟩ := s
 exact ⟨_, ⟨h1, h2, .inr ⟨g, rest, rfl, ho⟩, e0, d, rfl⟩, Hp.le_refl _⟩
theorem row_close0 {g n : Nat} {cs : List Value} : Ent [pt g cs] [rowA (some ⟨g, 0, none⟩) n cs] := by
 have h := row_close (g := g) (n := n) (cs := cs) (rest := [])
 rw [List.append_nil] at h
 exact h
theorem row_rd (β : Base) {q : Option Addr} {n sz : Nat} {cs : List Value} (hl : cs.length = n * sz) : Ent [rowA q n cs] [exA fun B : Atom => [pureA (RdS β q n sz cs B), B]] := fun h s => by
 obtain ⟨h1, h2, ho, e0, d, rfl⟩ := s
 obtain rfl : h2 = Hp.emp := e0
 rcases ho with ⟨_, hn, hc, rfl⟩ | ⟨g, rest, hq, hp⟩
 ·have hr : RdS β q n sz cs (pureA True) := ⟨hl, .inl hn⟩
  exact (Ent.trans (Ent.pureA (L := []) trivial) (Ent.trans (Ent.pureA hr) (Ent.exA (f := fun B : Atom => [pureA (RdS β q n sz cs B), B]) (pureA True)))) _ (by rw [Hp.add_emp]; rfl)
 ·have hr : RdS β q n sz cs (pt g (cs ++ rest)) := ⟨hl, .inr ⟨g, 0, true, _, hq, rfl, by rw [List.drop_zero, ← hl]; exact List.take_left⟩⟩
  exact (Ent.trans (Ent.pureA hr) (Ent.exA (f := fun B : Atom => [pureA (RdS β q n sz cs B), B]) (pt g (cs ++ rest)))) _ ⟨_, _, hp, rfl, d, rfl⟩
theorem one_flat {α : Type} {enc : α → List Value} (h : ∀ a, scal (enc a) = true) (es : List α) : ∀ u ∈ es.flatMap enc, u.oneCell' = true := fun u hu => by
 obtain ⟨a, _, ha⟩ := List.mem_flatMap.1 hu
 exact scal_eq (h a) u ha
end Go.Proofs.YtakkogdmlbkdaaaGreatDoor.Sl
namespace Go.Proofs.YtakkogdmlbkdaaaGreatDoor.Sl
open Go Go.RowKit
set_option linter.unusedVariables false
set_option linter.unusedSimpArgs false
section
variable {P : Program} {β : Base} {cx : Cx} {rnd : Option (Nat × Loop)} {N : Nat} {env : Env} {L : List Atom} {K : Env → List Atom → Prop} {ops : Array Oper} {T : TT}
def dvE (N : Nat) (ops : Array Oper) (env : Env) (o : Oper) : Option (Nat × Bool × IntKind × Int × Int) :=
 match dstE N ops env o with
 | some d => match o.op with
  | .binOp op t x y _ => match ev env x, ev env y with
   | some (.int k a), some (.int k2 b) => match kindEq k k2 with
    | true => match op with
     | .quo => some (d, true, k, a, b)
     | .rem => some (d, false, k, a, b)
     | _ => none
    | false => none
   | _, _ => none
  | _ => none
 | none => none
theorem SQ.div (hT : TTok P T) {s : Stp} {r : List Stp} {obs : Obs} {d : Nat} {l : Bool} {k : IntKind} {a b : Int} (hk : Nat.ble s.k 1 = true) (h : dvE N ops env s.o = some (d, l, k, a, b)) (hn : b ≠ 0) {v : Int}
  (hv : (if l then k.wrap (a.tdiv b) else a.tmod b) = v) (kk : SQ P β rnd N T ops K r obs ((d, .int k v) :: env) L) : SQ P β rnd N T ops K (s :: r) obs env L := by
 subst hv
 unfold dvE at h
 split at h <;> try (cases h; done)
 rename_i d' hde
 obtain ⟨hw, hd, hdl⟩ := dstE_eq hde
 split at h <;> try (cases h; done)
 rename_i op t x y e2 hop
 split at h <;> try (cases h; done)
 rename_i k' a' k2 b' hx hy
 split at h <;> try (cases h; done)
 rename_i hkk
 obtain rfl := kindEq_eq hkk
 obtain ⟨si, ⟨dst, op', type, pos, after, guard⟩, se, sw⟩ := s
 simp only at hop
 subst hop
 split at h <;> try (cases h; done)
 ·simp only [Option.some.injEq, Prod.mk.injEq] at h
  obtain ⟨rfl, rfl, rfl, rfl, rfl⟩ := h
  refine SQ.val' hk hw hd hdl (fun ρ hρ w => ?_) kk
  have hg : (eqGuard .quo t x y (.int k' a') (.int k' b')).run P w = .ok () w := run_eqGuard_plain rfl w
  simp only [execOp, hρ _ _ hx, hρ _ _ hy, Sem.run_bind, hg, Result.andThen]
  simp [binOp, Op.intArith, Op.intDiv, hn]
 ·simp only [Option.some.injEq, Prod.mk.injEq] at h
  obtain ⟨rfl, rfl, rfl, rfl, rfl⟩ := h
  refine SQ.val' hk hw hd hdl (fun ρ hρ w => ?_) kk
  have hg : (eqGuard .rem t x y (.int k' a') (.int k' b')).run P w = .ok () w := run_eqGuard_plain rfl w
  simp only [execOp, hρ _ _ hx, hρ _ _ hy, Sem.run_bind, hg, Result.andThen]
  simp [binOp, Op.intArith, Op.intDiv, hn]
def beE (T : TT) (o : Oper) : Option (Nat × Nat) :=
 match o.op with
 | .buildSlice t len parts => match T.get t with
  | some ti => match ti.desc with
   | .slice e => match T.get e with
    | some te => some (e, te.size)
    | none => none
   | _ => none
  | none => none
 | _ => none
theorem Sat.allocO {w : World} {H : List Atom} (s : Sat β w (H ++ L)) (cs : List Value) (t sz n : Nat) (hl : cs.length = n * sz) : Sat β (w.alloc (.cells cs.toArray t)) (H ++ own t sz (.slice (some ⟨w.heap.size, 0, none⟩) n n) n cs :: L) :=
 (s.new _ (A := own t sz (.slice (some ⟨w.heap.size, 0, none⟩) n n) n cs) ⟨hl, .inr ⟨w.heap.size, n, cs, rfl, Nat.le_refl _, hl, by rw [← hl]; exact List.take_length, rfl⟩⟩).perm List.perm_middle.symm
theorem OW.builtO (hT : TTok P T) {o : Oper} {d len : Nat} {cs : List Value} {e sz : Nat} (h : bsE T N ops env o = some (d, len, cs)) (h2 : beE T o = some (e, sz)) (hcl : cs.length = len * sz) (k : ∀ b, K ((d, .slice (some ⟨b, 0, none⟩) len len) :: env) (own e sz (.slice (some ⟨b, 0, none⟩) len len) len cs :: L)) :
  wants ops env o = some true ∧ (∀ c, o.op ≠ .defer c) ∧ OW P β cx N o env L K := by
 unfold bsE at h
 split at h <;> try (cases h; done)
 rename_i d' hde
 obtain ⟨hw, hd, hdl⟩ := dstE_eq hde
 split at h <;> try (cases h; done)
 rename_i t len' parts hop
 split at h <;> try (cases h; done)
 rename_i ti hti
 split at h <;> try (cases h; done)
 rename_i e' hde2
 split at h <;> try (cases h; done)
 rename_i te hte
 split at h <;> try (cases h; done)
 rename_i hb1 hb2
 have hle := Nat.le_of_ble_eq_true hb1
 have hzl := Nat.eq_of_beq_eq_true hb2
 have hee : e' = e ∧ te.size = sz := by
  unfold beE at h2
  rw [hop] at h2
  simp only [hti, hde2, hte] at h2
  simpa using h2
 obtain ⟨rfl, rfl⟩ := hee
 refine ⟨hw, by rw [hop]; simp, fun n Qx a w s => ?_⟩
 obtain ⟨hen, Ds, hds, st⟩ := s
 obtain ⟨cs', hf, hk⟩ := fillS_eq (fun x v hx => hen.eval hx) h
 simp only [Option.some.injEq, Prod.mk.injEq] at hk
 obtain ⟨rfl, rfl, rfl⟩ := hk
 have hu := (hT.get hti).1.1
 rw [hde2] at hu
 have e2 : (execOp a.eval o).run P w = .ok (.value (.slice (some ⟨w.heap.size, 0, none⟩) len' len')) (w.alloc (.cells cs'.toArray e')) := by
  obtain ⟨dst, op, type, pos, after, guard⟩ := o
  simp only at hop
  subst hop
  have hnot : ¬ (len' * te.size > 2 ^ 24) := by omega
  have hzs : te.zero.cells.size = te.size := by rw [← Array.length_toList, vcells_eq]; exact hzl
  have hz := zeros_eq (zero := te.zero.cells) (n := len') hzs
  rw [vcells_eq] at hz
  rw [repz_eq, List.append_nil, ← hz] at hf
  by_cases h0 : len' * te.size = 0
  ·have hrow : (Array.range (len' * te.size)).map (fun i => (#[] : Array Value)[i % (#[] : Array Value).size]!) = #[] := by rw [h0]; apply Array.eq_empty_of_size_eq_zero; simp
   have hf2 : Instr.fill (fun i => some (i * te.size, te.size)) #[] (parts.map fun (x : Nat × Operand) => (x.1, a.eval x.2)).toList = some cs'.toArray := by
    rw [if_pos h0] at hf; rw [← hf]; congr 1; simp
   simp only [execOp, Instr.buildSlice, Sem.run_bind, run_underlying hu, Result.andThen, (hT.get hte).run_sizeOf w, if_neg hnot, if_pos h0, Sem.run_pure, hrow, hf2, newRow, newObj, Sem.run, World.alloc_eq]
  ·have hf2 : Instr.fill (fun i => some (i * te.size, te.size)) ((Array.range (len' * te.size)).map (fun i => te.zero.cells[i % te.zero.cells.size]!)) (parts.map fun (x : Nat × Operand) => (x.1, a.eval x.2)).toList = some cs'.toArray := by
    rw [if_neg h0] at hf; rw [← hf]; congr 1; simp
   simp only [execOp, Instr.buildSlice, Sem.run_bind, run_underlying hu, Result.andThen, (hT.get hte).run_sizeOf w, if_neg hnot, if_neg h0, (hT.get hte).run_zeroValue w, Sem.run_pure, hf2, newRow, newObj, Sem.run, World.alloc_eq]
 rw [e2]
 exact ⟨_, _, ⟨by rw [hd]; exact hen.put hdl _, Ds, by rw [hd]; exact hds, st.allocO cs' e' te.size len' hcl⟩, k w.heap.size⟩
theorem SQ.builtO (hT : TTok P T) {s : Stp} {r : List Stp} {obs : Obs} {d len : Nat} {cs : List Value} {e sz : Nat} (he : s.k = 1) (h : bsE T N ops env s.o = some (d, len, cs)) (h2 : beE T s.o = some (e, sz)) (hcl : cs.length = len * sz)
  (k : ∀ b, watchOk β obs (own e sz (.slice (some ⟨b, 0, none⟩) len len) len cs :: L) s.watch ∧ SQ P β rnd N T ops K r obs ((d, .slice (some ⟨b, 0, none⟩) len len) :: env) (own e sz (.slice (some ⟨b, 0, none⟩) len len) len cs :: L)) : SQ P β rnd N T ops K (s :: r) obs env L := by
 exact SQ.act he (OW.builtO (P := P) (β := β) (cx := ⟨rnd, []⟩) (L := L) (K := fun env L => watchOk β obs L s.watch ∧ SQ P β rnd N T ops K r obs env L) hT h h2 hcl k).1 fun fm => (OW.builtO hT h h2 hcl k).2.2
end
end Go.Proofs.YtakkogdmlbkdaaaGreatDoor.Sl
namespace Go.Proofs.YtakkogdmlbkdaaaGreatDoor.Sl
open Go Go.RowKit
set_option linter.unusedVariables false
set_option linter.unusedSimpArgs false
theorem take5 {cells : List Value} {k : Nat} {a0 a1 a2 a3 a4 : Value} (h0 : cells[k + 0]? = some a0) (h1 : cells[k + 1]? = some a1) (h2 : cells[k + 2]? = some a2) (h3 : cells[k + 3]? = some a3) (h4 : cells[k + 4]? = some a4) : (cells.drop k).take 5 = [a0, a1, a2, a3, a4] := by
 have l := (List.getElem?_eq_some_iff.1 h4).1
 rw [List.drop_eq_getElem_cons (by omega), List.drop_eq_getElem_cons (by omega), List.drop_eq_getElem_cons (by omega), List.drop_eq_getElem_cons (by omega), List.drop_eq_getElem_cons (by omega)]
 have e0 := (List.getElem?_eq_some_iff.1 h0).2
 have e1 := (List.getElem?_eq_some_iff.1 h1).2
 have e2 := (List.getElem?_eq_some_iff.1 h2).2
 have e3 := (List.getElem?_eq_some_iff.1 h3).2
 have e4 := (List.getElem?_eq_some_iff.1 h4).2
 simp only [Nat.add_zero] at e0
 simp [e0, e1, e2, e3, e4]
theorem arr5 {cs : Array Value} {a0 a1 a2 a3 a4 : Value} (hs : cs.size = 5) (h0 : cs[0]? = some a0) (h1 : cs[1]? = some a1) (h2 : cs[2]? = some a2) (h3 : cs[3]? = some a3) (h4 : cs[4]? = some a4) : cs = #[a0, a1, a2, a3, a4] := by
 apply Array.ext_getElem?
 intro i
 match i with
 | 0 => simpa using h0
 | 1 => simpa using h1
 | 2 => simpa using h2
 | 3 => simpa using h3
 | 4 => simpa using h4
 | i + 5 => simp [Array.getElem?_eq_none (show cs.size ≤ i + 5 by omega)]
open Go.ChangeShapes Go.WideShapes Go.Deep
end Go.Proofs.YtakkogdmlbkdaaaGreatDoor.Sl
namespace Go.Proofs.YtakkogdmlbkdaaaGreatDoor.Sl
open Go Go.RowKit
set_option linter.unusedVariables false
set_option linter.unusedSimpArgs false
inductive Ph (PL : List (Nat × Plan)) : Prop
 | mk : Ph PL
def lookP : List (Nat × Plan) → Nat → Option Plan
 | [], _ => none
 | (k, p) :: r, i => bif Nat.beq k i then some p else lookP r i
section
variable {P : Program} {β : Base} {cx : Cx} {rnd : Option (Nat × Loop)} {N : Nat} {env : Env} {L : List Atom} {K : Env → List Atom → Prop} {ops : Array Oper} {T : TT}
theorem w_ {A B : Prop} (k : B) (h : A := by repeat (first | exact trivial | refine ⟨trivial, ?_⟩ | refine ⟨wk (by repeat (first | exact .h | exact .q | apply At.t)) (by rfl), ?_⟩)) : A ∧ B := ⟨h, k⟩
theorem pk_ {As L F : List Atom} (h : Tk As L F := by repeat (first | exact .n | exact Rm.h | exact Rm.of own_row | exact Rm.of row_close0 | apply Tk.c | apply Rm.t)) : Ent L As := h.ent
theorem tk_ {As L F B : List Atom} (e : Ent As B) (h : Tk As L F := by repeat (first | exact .n | exact Rm.h | exact Rm.of own_row | exact Rm.of row_close0 | apply Tk.c | apply Rm.t)) : Ent L (B ++ F) := h.gives.trans (Ent.append e (Ent.refl F))
theorem rm_ {A : Atom} {L M B : List Atom} (e : Ent [A] B) (h : Rm A L M := by repeat (first | exact Rm.h | apply Rm.t)) : Ent L (B ++ M) := h.to e
theorem new_ {s : Stp} {r : List Stp} {obs : Obs} {d : Nat} {cs : List Value} (k : ∀ b, SQ P β rnd N T ops K r obs ((d, .pointer (some ⟨b, 0, none⟩)) :: env) (pt b cs :: L)) (h1 : Nat.beq s.k 0 = false := by rfl) (h2 : alE T N ops env s.o = some (d, cs) := by rfl) : SQ P β rnd N T ops K (s :: r) obs env L :=
 SQ.new d cs h1 h2 k
theorem ld_ (hT : TTok P T) {s : Stp} {r : List Stp} {obs : Obs} {d b off : Nat} {i : TI} {q : Bool} {cs : List Value} {v : Value} (k : SQ P β rnd N T ops K r ((s.i, ⟨b, off, i, v⟩) :: obs) ((d, v) :: env) L) (hk : Nat.ble s.k 1 = true := by rfl) (h : ldE T N ops env s.o = some (d, b, off, i) := by rfl)
  (ha : At β b L q cs := by repeat (first | exact .h | exact .q | apply At.t)) (hv : rdv i cs off = some v := by rfl) : SQ P β rnd N T ops K (s :: r) obs env L := SQ.ldA hT hk h ha hv k
theorem st_ (hT : TTok P T) {s : Stp} {r : List Stp} {obs : Obs} {b off : Nat} {i : TI} {v : Value} {cs cs' : List Value} {M : List Atom} (k : SQ P β rnd N T ops K r obs env M) (he : s.k = 1 := by rfl) (h : stE T N ops env s.o = some (b, off, i, v) := by rfl) (hu : Up b cs cs' L M := by repeat (first | apply Up.h | apply Up.t))
  (hs : scal (vcells v) = true := by rfl) (hv : wrv i cs off v = some cs' := by rfl) (hw : watchOk β obs M s.watch := by repeat (first | exact trivial | refine ⟨trivial, ?_⟩ | refine ⟨wk (by repeat (first | exact .h | exact .q | apply At.t)) (by rfl), ?_⟩)) : SQ P β rnd N T ops K (s :: r) obs env L := SQ.stA hT he h hu hs hv hw k
theorem ke {s : Stp} {r : List Stp} {obs : Obs} {d : Nat} {g : Nat} {args : List Value} {A F B : List Atom} {V : Value} (hef : s.k = 1) (h : clE N ops env s.o = some (some d, g, args)) (hT : Tri P β g args A fun v L => v = V ∧ L = B) (k : SQ P β rnd N T ops K r obs ((d, V) :: env) (B ++ F))
  (hk : Tk A L F := by repeat (first | exact .n | exact Rm.h | exact Rm.of own_row | exact Rm.of row_close0 | apply Tk.c | apply Rm.t))
  (hw : watchOk β obs (B ++ F) s.watch := by repeat (first | exact trivial | refine ⟨trivial, ?_⟩ | refine ⟨wk (by repeat (first | exact .h | exact .q | apply At.t)) (by rfl), ?_⟩)) : SQ P β rnd N T ops K (s :: r) obs env L :=
 SQ.callA hef h hT hk fun v A' hr => by obtain ⟨rfl, rfl⟩ := hr; exact ⟨hw, k⟩
theorem ka {s : Stp} {r : List Stp} {obs : Obs} {d : Nat} {g : Nat} {args : List Value} {A F : List Atom} {R : Value → List Atom → Prop} (hef : s.k = 1) (h : clE N ops env s.o = some (some d, g, args)) (hT : Tri P β g args A R)
  (k : ∀ v A', R v A' → watchOk β obs (A' ++ F) s.watch ∧ SQ P β rnd N T ops K r obs ((d, v) :: env) (A' ++ F))
  (hk : Tk A L F := by repeat (first | exact .n | exact Rm.h | exact Rm.of own_row | exact Rm.of row_close0 | apply Tk.c | apply Rm.t)) : SQ P β rnd N T ops K (s :: r) obs env L := SQ.callA hef h hT hk k
theorem CW.regionP {PL : List (Nat × Plan)} (p : Ph PL) (hT : TTok P T) {Q : Exit → Env → List Atom → Prop} {id : Nat} {ops : Array Oper} {pl : Plan} (hq : lookP PL id = some pl) (hm : P.follows .mixedOrders = true) (hc : (noSDs ops.toList && planOk ops (effs pl) (alls pl) pl (Array.replicate ops.size false) [] && allocOk ops (alls pl) && allT T ops (alls pl)) = true)
  (h : SQ P β cx.rnd N T ops (Q .normal) (stps ops pl) [] env L) : CW P β cx N (.region id ops true) env L Q := CW.regionD hT hm pl hc h
theorem cl_ {A : Prop} (h : A := by first | exact ⟨_, _, _, _, 0, rfl, rfl, rfl, rfl⟩ | exact ⟨_, _, _, _, 1, rfl, rfl, rfl, rfl⟩ | exact ⟨_, _, _, _, 2, rfl, rfl, rfl, rfl⟩ | exact ⟨_, _, _, _, 3, rfl, rfl, rfl, rfl⟩ | exact ⟨_, _, _, _, 4, rfl, rfl, rfl, rfl⟩ | exact ⟨_, _, _, _, 5, rfl, rfl, rfl, rfl⟩ | exact ⟨_, _, _, _, 6, rfl, rfl, rfl, rfl⟩ | exact ⟨_, _, _, _, 7, rfl, rfl, rfl, rfl⟩ | exact ⟨_, _, _, _, 8, rfl, rfl, rfl, rfl⟩ | exact ⟨_, _, _, _, 9, rfl, rfl, rfl, rfl⟩ | exact ⟨_, _, _, _, 10, rfl, rfl, rfl, rfl⟩ | exact ⟨_, _, _, _, 11, rfl, rfl, rfl, rfl⟩ | exact ⟨_, _, _, _, 12, rfl, rfl, rfl, rfl⟩ | exact ⟨_, _, _, _, 13, rfl, rfl, rfl, rfl⟩ | exact ⟨_, _, _, _, 14, rfl, rfl, rfl, rfl⟩ | exact ⟨_, _, _, _, 15, rfl, rfl, rfl, rfl⟩ | exact ⟨_, _, _, _, 16, rfl, rfl, rfl, rfl⟩ | exact ⟨_, _, _, _, 17, rfl, rfl, rfl, rfl⟩ | exact ⟨_, _, _, _, 18, rfl, rfl, rfl, rfl⟩ | exact ⟨_, _, _, _, 19, rfl, rfl, rfl, rfl⟩ | exact ⟨_, _, _, _, 20, rfl, rfl, rfl, rfl⟩ | exact ⟨_, _, _, _, 21, rfl, rfl, rfl, rfl⟩ | exact ⟨_, _, _, _, 22, rfl, rfl, rfl, rfl⟩ | exact ⟨_, _, _, _, 23, rfl, rfl, rfl, rfl⟩) : A := h
theorem G (hT : TTok P T) (PL : List (Nat × Plan)) {Goal Rest : Prop} (k : Rest) (h : TTok P T → Ph PL → Rest → Goal := by
  intro hT_ ph_ r_
  repeat (first | refine CW.seq ?_ | refine CW.region hT_ rfl ?_ | refine CW.regionP ph_ hT_ rfl (by kernel_rfl) (by decide +kernel) ?_ | refine CW.block ?_ | refine CW.skip ?_ | refine SQ.nil ?_ | refine SQ.pures1 hT_ rfl ?_ | refine SQ.pure1 hT_ rfl ?_ | refine ld_ hT_ ?_ | refine st_ hT_ ?_ | refine CW.cond_tt rfl ?_ | refine CW.cond_ff rfl ?_)
  exact r_) : Goal := h hT ⟨⟩ k
theorem G1 (hT : TTok P T) (PL : List (Nat × Plan)) {Goal : Prop} {Rest : Nat → Prop} (k : ∀ b, Rest b) (h : TTok P T → Ph PL → (∀ b, Rest b) → Goal := by
  intro hT_ ph_ r_
  refine new_ ?_
  intro b_
  repeat (first | refine CW.seq ?_ | refine CW.region hT_ rfl ?_ | refine CW.regionP ph_ hT_ rfl (by kernel_rfl) (by decide +kernel) ?_ | refine CW.block ?_ | refine CW.skip ?_ | refine SQ.nil ?_ | refine SQ.pures1 hT_ rfl ?_ | refine SQ.pure1 hT_ rfl ?_ | refine ld_ hT_ ?_ | refine st_ hT_ ?_ | refine CW.cond_tt rfl ?_ | refine CW.cond_ff rfl ?_)
  exact r_ b_) : Goal := h hT ⟨⟩ k
end
end Go.Proofs.YtakkogdmlbkdaaaGreatDoor.Sl

