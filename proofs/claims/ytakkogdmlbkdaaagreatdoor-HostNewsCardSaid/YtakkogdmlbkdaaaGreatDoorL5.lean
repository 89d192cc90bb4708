import Derived.Test.YtakkogdmlbkdaaaGreatDoorL4
import Derived.Laws.Slices
namespace Go.Proofs.YtakkogdmlbkdaaaGreatDoor.Sl
open Go Go.RowKit
set_option linter.unusedVariables false
set_option linter.unusedSimpArgs false
def ptT (e b : Nat) (cs : List Value) : Atom := fun h => h = Hp.one b (.cells cs.toArray e (0, 0))
theorem ptT_pt {e b : Nat} {cs : List Value} : Ent [ptT e b cs] [pt b cs] := fun h s => by
 obtain ⟨h1, h2, ho, e0, d, rfl⟩ := s
 exact ⟨_, ⟨h1, h2, ⟨e, ho⟩, e0, d, rfl⟩, Hp.le_refl _⟩
theorem Sat.cell_ptT {β : Base} {w : World} {L : List Atom} {e b i : Nat} {cs : List Value} (s : Sat β w L) (h : L[i]? = some (ptT e b cs)) : w.heap[b]? = some (.cells cs.toArray e (0, 0)) := by
 obtain ⟨k, rfl, hw⟩ := s.at_ h
 exact (hw b (.cells cs.toArray e (0, 0)) (by simp [Hp.one])).2
section
variable {P : Program} {β : Base} {rnd : Option (Nat × Loop)} {N : Nat} {env : Env} {L : List Atom} {K : Env → List Atom → Prop} {ops : Array Oper} {T : TT}
theorem run_byteOf {w : World} {b off e : Nat} {cs : Array Value} {fz : Nat × Nat} (hb : w.heap[b]? = some (.cells cs e fz)) {s x : Nat} (hs : P.cellsOf e = s + 1) (hx : byteOfCell P P.depth e (off % (s + 1)) = some x) : ∃ B, (byteOf ⟨b, off, none⟩).run P w = .ok B w := by
 have h1 : (shape b).run P w = .ok (some (e, cs.size)) w := by
  simp [shape, Sem.run, World.shape?, hb]
 have h2 : (noView ⟨b, off, none⟩).run P w = .ok () w := by
  simp [noView, viewAt, Sem.run_bind, h1, Result.andThen]
 refine ⟨off / (s + 1) * P.bytesOf e + x, ?_⟩
 simp [byteOf, Sem.run_bind, h2, h1, Result.andThen, hs, hx]
theorem run_fieldAt0 {w : World} {b off e : Nat} {cs : Array Value} {fz : Nat × Nat} (hb : w.heap[b]? = some (.cells cs e fz)) {s x y t n : Nat} {fs : Array Field} {f : Field} (hu : P.underlying t = some (.struct fs)) (hf : fs[n]? = some f) (hz : ∀ w, (sizeOf f.type).run P w = .ok 0 w)
  (hs : P.cellsOf e = s + 1) (hx : byteOfCell P P.depth e (off % (s + 1)) = some x) (hy : byteOfCell P P.depth e ((off + f.offset) % (s + 1)) = some y) : ∃ a, (Instr.fieldAt t (.pointer (some ⟨b, off, none⟩)) n).run P w = .ok (.pointer (some a)) w := by
 obtain ⟨B1, h1⟩ := run_byteOf hb hs hx
 obtain ⟨B2, h2⟩ := run_byteOf hb hs hy
 by_cases hq : B2 = B1 + f.byteOffset
 ·refine ⟨⟨b, off + f.offset, none⟩, ?_⟩
  simp [Instr.fieldAt, Sem.run_bind, run_underlying hu, Result.andThen, hf, Instr.sureAddr, fieldPlace, hz, partAt, h1, h2, hq]
 ·refine ⟨⟨b, off + f.offset, some (B1 + f.byteOffset)⟩, ?_⟩
  simp [Instr.fieldAt, Sem.run_bind, run_underlying hu, Result.andThen, hf, Instr.sureAddr, fieldPlace, hz, partAt, h1, h2, hq]
def f0E (N : Nat) (ops : Array Oper) (env : Env) (o : Oper) : Option (Nat × Nat × Nat × Nat × Nat) :=
 match dstE N ops env o with
 | some d => match o.op with
  | .fieldAddr t x n => match ev env x with
   | some (.pointer (some ⟨b, off, none⟩)) => some (d, b, off, t, n)
   | _ => none
  | _ => none
 | none => none
theorem SQ.field0 {s : Stp} {r : List Stp} {obs : Obs} {d b off t n : Nat} (he : s.k = 1) (h : f0E N ops env s.o = some (d, b, off, t, n)) {e : Nat} {cs : List Value} (j : Nat) (hL : L[j]? = some (ptT e b cs)) {fs : Array Field} {f : Field} (hu : P.underlying t = some (.struct fs)) (hf : fs[n]? = some f)
  (hz : ∀ w, (sizeOf f.type).run P w = .ok 0 w) {q x y : Nat} (hs : P.cellsOf e = q + 1) (hx : byteOfCell P P.depth e (off % (q + 1)) = some x) (hy : byteOfCell P P.depth e ((off + f.offset) % (q + 1)) = some y)
  (k : ∀ a, watchOk β obs L s.watch ∧ SQ P β rnd N T ops K r obs ((d, .pointer (some a)) :: env) L) : SQ P β rnd N T ops K (s :: r) obs env L := by
 unfold f0E at h
 split at h <;> try (cases h; done)
 rename_i d' hde
 obtain ⟨hw, hd, hdl⟩ := dstE_eq hde
 split at h <;> try (cases h; done)
 rename_i t' x' n' hop
 split at h <;> try (cases h; done)
 rename_i b' off' hxv
 simp only [Option.some.injEq, Prod.mk.injEq] at h
 obtain ⟨rfl, rfl, rfl, rfl, rfl⟩ := h
 refine SQ.act he hw fun fm nn Qx aa w st0 => ?_
 obtain ⟨hen, Ds, hds, st⟩ := st0
 have hb := st.cell_ptT (hid_at hL)
 obtain ⟨a, ha⟩ := run_fieldAt0 (P := P) hb hu hf hz hs hx hy
 have e2 : (execOp aa.eval s.o).run P w = .ok (.value (.pointer (some a))) w := by
  obtain ⟨si, ⟨dst, op, type, pos, after, guard⟩, se, sw⟩ := s
  simp only at hop
  subst hop
  simp only [execOp, hen.eval hxv, Sem.run_bind, ha, Result.andThen, Sem.run_pure]
 rw [e2]
 exact ⟨_, _, ⟨by rw [hd]; exact hen.put hdl _, Ds, by rw [hd]; exact hds, st⟩, k a⟩
def s0E (T : TT) (ops : Array Oper) (env : Env) (o : Oper) : Option Nat :=
 match wants ops env o with
 | some true => match o.op with
  | .store t x y => match o.dst with
   | none => match ev env x with
    | some (.pointer (some _)) => match T.get t, ev env y with
     | some i, some v => match i.size, vcells v with
      | 0, [] => some 0
      | _, _ => none
     | _, _ => none
    | _ => none
   | some _ => none
  | _ => none
 | _ => none
theorem SQ.st0 (hT : TTok P T) {s : Stp} {r : List Stp} {obs : Obs} (he : s.k = 1) (h : s0E T ops env s.o = some 0) (k : watchOk β obs L s.watch ∧ SQ P β rnd N T ops K r obs env L) : SQ P β rnd N T ops K (s :: r) obs env L := by
 unfold s0E at h
 split at h <;> try (cases h; done)
 rename_i hw
 split at h <;> try (cases h; done)
 rename_i t x y hop
 split at h <;> try (cases h; done)
 rename_i hd
 split at h <;> try (cases h; done)
 rename_i a0 hx
 split at h <;> try (cases h; done)
 rename_i i v hi hy
 split at h <;> try (cases h; done)
 rename_i hsz hv
 refine SQ.act he hw fun fm nn Qx aa w st0 => ?_
 obtain ⟨hen, Ds, hds, st⟩ := st0
 have e1 : v.cells.size = 0 := by rw [← Array.length_toList, vcells_eq, hv]; rfl
 have e2 : (execOp aa.eval s.o).run P w = .ok .skip w := by
  obtain ⟨si, ⟨dst, op, type, pos, after, guard⟩, se, sw⟩ := s
  simp only at hop
  subst hop
  simp only [execOp, hen.eval hx, hen.eval hy, Instr.storeAt, Instr.sureAddr]
  have e3 : (storeVar t a0 v).run P w = .ok () w := by
   unfold storeVar
   simp only [Sem.run_bind, (hT.get hi).run_sizeOf w, Result.andThen, e1, hsz, ne_eq, not_true, if_false]
   rw [vcells_eq, hv]
   simp [storeCells]
  simp only [Sem.run_bind, Sem.run_pure, Result.andThen, e3]
 rw [e2]
 exact ⟨env, L, by rw [hd]; exact ⟨hen, Ds, hds, st⟩, k⟩
def mtE (T : TT) (o : Oper) : Option Nat :=
 match o.op with
 | .makeSlice t x y => match T.get t with
  | some ti => match ti.desc with
   | .slice e => some e
   | _ => none
  | none => none
 | _ => none
theorem Sat.allocT {w : World} {H : List Atom} (s : Sat β w (H ++ L)) (cs : List Value) (t : Nat) : Sat β (w.alloc (.cells cs.toArray t)) (H ++ ptT t w.heap.size cs :: L) :=
 (s.new _ (A := ptT t w.heap.size cs) rfl).perm List.perm_middle.symm
theorem SQ.makeT (hT : TTok P T) {s : Stp} {r : List Stp} {obs : Obs} {d : Nat} {te : TI} {a b : Int} {e0 : Nat} (he : s.k = 1) (h : mkE T N ops env s.o = some (d, te, a, b)) (h2 : mtE T s.o = some e0) (n : Nat) (ha : a = (n : Int)) (hb : b = (n : Int)) (hc : n * te.size ≤ 16777216) (hby : te.bytes * n ≤ 281474976710656) (h63 : n ≤ 9223372036854775807)
  (k : ∀ g, watchOk β obs (ptT e0 g (madeCells te.zero.cells (n * te.size)).toList :: L) s.watch ∧ SQ P β rnd N T ops K r obs ((d, .slice (some ⟨g, 0, none⟩) n n) :: env) (ptT e0 g (madeCells te.zero.cells (n * te.size)).toList :: L)) : SQ P β rnd N T ops K (s :: r) obs env L := by
 unfold mkE at h
 split at h <;> try (cases h; done)
 rename_i d' hde
 obtain ⟨hw, hd, hdl⟩ := dstE_eq hde
 split at h <;> try (cases h; done)
 rename_i t x y hop
 split at h <;> try (cases h; done)
 rename_i ti k1 a' k2 b' hti hx hy
 split at h <;> try (cases h; done)
 rename_i e hde2
 split at h <;> try (cases h; done)
 rename_i te' hte
 simp only [Option.some.injEq, Prod.mk.injEq] at h
 obtain ⟨rfl, rfl, rfl, rfl⟩ := h
 subst ha
 subst hb
 have hee : e = e0 := by
  unfold mtE at h2
  rw [hop] at h2
  simp only [hti, hde2] at h2
  simpa using h2
 subst hee
 have hu := (hT.get hti).1.1
 rw [hde2] at hu
 obtain ⟨inf, hinf, hsz, hbt, hzz⟩ := (hT.get hte).info
 refine SQ.act he hw fun fm nn Qx aa w st0 => ?_
 obtain ⟨hen, Ds, hds, st⟩ := st0
 have hrun := run_makeSlice w t e inf te'.zero hu hinf hzz k1 k2 (n : Int) (n : Int) (by omega) (by omega) (by rw [hsz, Int.toNat_natCast]; exact hc) (by rw [hbt]; have h9 := Int.ofNat_le.2 hby; rw [Int.natCast_mul] at h9; exact h9) (by omega)
 have e2 : (execOp aa.eval s.o).run P w = .ok (.value (.slice (some ⟨w.heap.size, 0, none⟩) n n)) (w.alloc (.cells (madeCells te'.zero.cells (n * te'.size)) e)) := by
  obtain ⟨si, ⟨dst, op, type, pos, after, guard⟩, se, sw⟩ := s
  simp only at hop
  subst hop
  simp only [execOp, hen.eval hx, hen.eval hy, Sem.run_bind, hrun, Result.andThen, Sem.run_pure]
  rw [hsz]; simp
 rw [e2]
 refine ⟨_, _, ⟨by rw [hd]; exact hen.put hdl _, Ds, by rw [hd]; exact hds, ?_⟩, k w.heap.size⟩
 have := st.allocT (madeCells te'.zero.cells (n * te'.size)).toList e
 simpa using this
def baE (T : TT) (N : Nat) (ops : Array Oper) (env : Env) (o : Oper) : Option (Nat × List Value) :=
 match dstE N ops env o with
 | some d => match o.op with
  | .build t parts => match T.get t with
   | some ti => match ti.desc with
    | .array n e => match T.get e with
     | some te => fillS env te.size parts.toList (vcells ti.zero) fun cs => some (d, cs)
     | none => none
    | _ => none
   | none => none
  | _ => none
 | none => none
theorem SQ.bArr (hT : TTok P T) {s : Stp} {r : List Stp} {obs : Obs} {d : Nat} {cs : List Value} (hk : Nat.ble s.k 1 = true) (h : baE T N ops env s.o = some (d, cs)) (kk : SQ P β rnd N T ops K r obs ((d, .agg cs.toArray) :: env) L) : SQ P β rnd N T ops K (s :: r) obs env L := by
 unfold baE at h
 split at h <;> try (cases h; done)
 rename_i d' hde
 obtain ⟨hw, hd, hdl⟩ := dstE_eq hde
 split at h <;> try (cases h; done)
 rename_i t parts hop
 split at h <;> try (cases h; done)
 rename_i ti hti
 split at h <;> try (cases h; done)
 rename_i n e hde2
 split at h <;> try (cases h; done)
 rename_i te hte
 have hu := (hT.get hti).1.1
 rw [hde2] at hu
 have hdd : d' = d := by
  obtain ⟨cs', _, hk2⟩ := fillS_eq (env := env) (ρ := fun x => (ev env x).getD undef) (fun x v hx => by simp [hx]) h
  simp only [Option.some.injEq, Prod.mk.injEq] at hk2
  exact hk2.1
 subst hdd
 refine SQ.val' hk hw hd hdl (fun ρ hρ w => ?_) kk
 obtain ⟨cs', hf, hk2⟩ := fillS_eq hρ h
 simp only [Option.some.injEq, Prod.mk.injEq] at hk2
 obtain ⟨_, rfl⟩ := hk2
 obtain ⟨si, ⟨dst, op, type, pos, after, guard⟩, se, sw⟩ := s
 simp only at hop
 subst hop
 have hz := (hT.get hti).run_zeroValue (P := P) w
 have hf2 : Instr.fill (fun i => some (i * te.size, te.size)) ti.zero.cells (parts.map fun (x : Nat × Operand) => (x.1, ρ x.2)).toList = some cs'.toArray := by
  have e1 : (vcells ti.zero).toArray = ti.zero.cells := by rw [← vcells_eq]
  rw [← hf, e1]; congr 1; simp
 simp only [execOp, Instr.build, Sem.run_bind, hz, run_underlying hu, Result.andThen, (hT.get hte).run_sizeOf w, hf2, Sem.run_pure]
theorem SQ.yieldA {s : Stp} {r : List Stp} {obs : Obs} {d l : Nat} {args : List Value} (hef : s.k = 1) (h : ylE N ops env s.o = some (d, l, args)) {A F : List Atom} {R : Bool → List Atom → Prop}
  (hY : Yld P β l args A R) (hk : Tk A L F) (k : ∀ b A', R b A' → watchOk β obs (A' ++ F) s.watch ∧ SQ P β rnd N T ops K r obs ((d, .bool b) :: env) (A' ++ F)) : SQ P β rnd N T ops K (s :: r) obs env L :=
 SQ.ent _ hk.gives (SQ.yield hef h hY _ (sel_front A) k)
end
end Go.Proofs.YtakkogdmlbkdaaaGreatDoor.Sl
namespace Go.Proofs.YtakkogdmlbkdaaaGreatDoor.Sl
open Go Go.RowKit
set_option linter.unusedVariables false
set_option linter.unusedSimpArgs false
section
variable {P : Program} {β : Base} {cx : Cx} {rnd : Option (Nat × Loop)} {N : Nat} {env : Env} {L : List Atom} {K : Env → List Atom → Prop} {ops : Array Oper} {T : TT}
def BQ (P : Program) (β : Base) (rnd : Option (Nat × Loop)) (N : Nat) (T : TT) (ops : Array Oper) (K : Env → List Atom → Prop) : Nat → Array Bool → Env → List Atom → Prop
 | 0, listed, env, L => Region.ready .any ops listed = [] ∧ K env L
 | f + 1, listed, env, L => Region.ready .any ops listed ≠ [] ∧ ∀ i ∈ Region.ready .any ops listed, ∃ o, ops[i]? = some o ∧ noSD o = true ∧ SQ P β rnd N T ops (BQ P β rnd N T ops K f (listed.setIfInBounds i true)) [⟨i, o, 1, []⟩] [] env L
def AllL (p : Nat → Prop) : List Nat → Prop
 | [] => True
 | i :: r => p i ∧ AllL p r
theorem all_of {p : Nat → Prop} {l : List Nat} (l' : List Nat) (h : l = l') (hp : AllL p l') : ∀ i ∈ l, p i := by
 subst h
 induction l with
 | nil => intro i hi; cases hi
 | cons x r ih =>
  intro i hi
  rcases List.mem_cons.1 hi with rfl | hi
  ·exact hp.1
  ·exact ih hp.2 i hi
theorem uponIn_Q {F : Fence} {n : Nat} {o : Oper} {a : Act} {next : Act → World → Prop} {Q Q' : Exit → Act → World → Prop} (hp : ∀ c a w, Q' (.panic c) a w → Q (.panic c) a w) (ho : LetsOut Q' → LetsOut Q) {r : Result Next} (h : o.uponIn F n P a next Q' r) : o.uponIn F n P a next Q r := by
 cases r with
 | ok x w' =>
  cases x <;> simp only [Oper.uponIn] at h ⊢ <;>
   first
    | exact h
    | exact ⟨h.1, CallsIn.mono h.2 (fun e w'' he => by cases e <;> first | exact he | exact hp _ _ _ he | exact ho he)⟩
    | exact ⟨h.1, RoundIn.mono h.2 (fun e w'' he => by cases e <;> first | exact he | exact hp _ _ _ he | exact ho he)⟩
 | halt x w' => cases x <;> simp only [Oper.uponIn] at h ⊢ <;> first | exact h | exact hp _ _ _ h
theorem wpOpIn_Q {F : Fence} {n i : Nat} {Q Q' : Exit → Act → World → Prop} (hp : ∀ c a w, Q' (.panic c) a w → Q (.panic c) a w) (ho : LetsOut Q' → LetsOut Q) {k : Act → World → Prop} {a : Act} {w : World} (h : wpOpIn F n P ops Q' i k a w) : wpOpIn F n P ops Q i k a w := by
 unfold wpOpIn at h ⊢
 split at h
 ·exact h
 ·split at h
  ·rename_i hw; rw [if_pos hw]; exact ⟨h.1, uponIn_Q hp ho h.2⟩
  ·rename_i hw; rw [if_neg hw]; exact h
theorem BQ.sound (hT : TTok P T) {Q : Post} (hK : ∀ env L, K env L → Q .normal env L) (n : Nat) : ∀ (f : Nat) (listed : Array Bool) {env : Env} {L : List Atom}, BQ P β cx.rnd N T ops K f listed env L → ∀ (a : Act) (w : World),
  St β cx N env L a w → wpAnyIn (Fr cx) n P .any ops (up β cx N Q) f listed a w
 | 0, listed, env, L, h, a, w, s => ⟨h.1, env, L, s, hK _ _ h.2⟩
 | f + 1, listed, env, L, h, a, w, s => by
  refine ⟨fun h0 => absurd h0 h.1, fun i hi => ?_⟩
  obtain ⟨o, ho, hs, hq⟩ := h.2 i hi
  let Q' : Exit → Act → World → Prop := fun e a w => match e with
   | .normal => wpAnyIn (Fr cx) n P .any ops (up β cx N Q) f (listed.setIfInBounds i true) a w
   | _ => False
  have h1 := hq.sound0 hT i n Q' a w (fun j hj => by
   simp only [List.length_singleton, Nat.lt_one_iff] at hj
   subst hj; simpa using ho) (fun s' hs' => by simp at hs'; subst hs'; exact hs) (fun a' w' ⟨env', L', st', hb⟩ => BQ.sound hT hK n f _ hb a' w' st') s
  simp only [List.length_singleton, List.range'_one] at h1
  rw [wpOpsIn_cons] at h1
  exact wpOpIn_Q (fun c a w h => h.elim) (fun ⟨_, _, h⟩ => h.elim) h1
end
end Go.Proofs.YtakkogdmlbkdaaaGreatDoor.Sl
namespace Go.Proofs.YtakkogdmlbkdaaaGreatDoor.Sl
open Go Go.RowKit
set_option linter.unusedVariables false
set_option linter.unusedSimpArgs false
section
variable {P : Program} {β : Base} {cx : Cx} {rnd : Option (Nat × Loop)} {N : Nat} {env : Env} {L : List Atom} {K : Env → List Atom → Prop} {ops : Array Oper} {T : TT}
def gb : Option Addr → Nat
 | some a => a.block
 | none => 0
inductive AtR (q : Option Addr) (n : Nat) (cs : List Value) : List Atom → Prop
 | h {L : List Atom} : AtR q n cs (rowA q n cs :: L)
 | t {A : Atom} {L : List Atom} : AtR q n cs L → AtR q n cs (A :: L)
inductive UpR (q : Option Addr) (n : Nat) (cs cs' : List Value) : List Atom → List Atom → Prop
 | h {L : List Atom} : UpR q n cs cs' (rowA q n cs :: L) (rowA q n cs' :: L)
 | t {A : Atom} {L M : List Atom} : UpR q n cs cs' L M → UpR q n cs cs' (A :: L) (A :: M)
theorem AtR.rm {q : Option Addr} {n : Nat} {cs : List Value} (h : AtR q n cs L) : ∃ M, L.Perm (rowA q n cs :: M) := by
 induction h with
 | h => exact ⟨_, List.Perm.refl _⟩
 | t _ ih => obtain ⟨M, p⟩ := ih; exact ⟨_, (List.Perm.cons _ p).trans (List.Perm.swap _ _ _)⟩
theorem UpR.rm {q : Option Addr} {n : Nat} {cs cs' : List Value} {L M : List Atom} (h : UpR q n cs cs' L M) : ∃ R, L.Perm (rowA q n cs :: R) ∧ M.Perm (rowA q n cs' :: R) := by
 induction h with
 | h => exact ⟨_, List.Perm.refl _, List.Perm.refl _⟩
 | t _ ih => obtain ⟨R, p, p'⟩ := ih; exact ⟨_, (List.Perm.cons _ p).trans (List.Perm.swap _ _ _), (List.Perm.cons _ p').trans (List.Perm.swap _ _ _)⟩
theorem row_is {q : Option Addr} {n : Nat} {cs : List Value} (hn : 0 < n) : Ent [rowA q n cs] [pureA (q = some ⟨gb q, 0, none⟩), rowA q n cs] := fun h s => by
 obtain ⟨h1, h2, ho, e0, d, rfl⟩ := s
 rcases ho with ⟨_, h0, _⟩ | ⟨g, rest, hq, hp⟩
 ·omega
 ·exact Ent.pureA (by subst hq; rfl) _ ⟨h1, h2, .inr ⟨g, rest, hq, hp⟩, e0, d, rfl⟩
theorem RdAt.row {q : Option Addr} {n : Nat} {cs : List Value} {off : Nat} {i : TI} {v : Value} (ha : AtR q n cs L) (hn : 0 < n) (hv : ∀ X, rdv i (cs ++ X) off = some v) : RdAt β L (gb q) off i v := fun H w st => by
 obtain ⟨M, p⟩ := ha.rm
 have st2 := st.perm (List.Perm.append_left H p)
 obtain ⟨k, ho, hw⟩ := st2.at_ (i := H.length) (A := rowA q n cs) (by simp)
 rcases ho with ⟨_, h0, _⟩ | ⟨g, rest, rfl, t, rfl⟩
 ·omega
 ·exact ⟨cs ++ rest, t, (0, 0), (hw g (.cells (cs ++ rest).toArray t (0, 0)) (by simp [Hp.one])).2, hv rest⟩
theorem SQ.ldR (hT : TTok P T) {s : Stp} {r : List Stp} {obs : Obs} {d off : Nat} {i : TI} {q : Option Addr} (hk : Nat.ble s.k 1 = true) (h : ldE T N ops env s.o = some (d, gb q, off, i)) {n : Nat} {cs : List Value} {v : Value} (ha : AtR q n cs L) (hn : 0 < n)
  (hv : ∀ X, rdv i (cs ++ X) off = some v) (k : SQ P β rnd N T ops K r ((s.i, ⟨gb q, off, i, v⟩) :: obs) ((d, v) :: env) L) : SQ P β rnd N T ops K (s :: r) obs env L := by
 obtain ⟨hw, t0, x, ho, hd, hx, hi, hlt⟩ := ldE_eq h
 refine .ld ⟨gb q, off, i, v⟩ hk hw (by simpa [dstOk, hd, Nat.blt_eq] using hlt) (ldE_isLd h) (fun ρ hρ w hw' => ?_) (fun H w st => RdAt.row ha hn hv H w st) (by rw [hd]; exact k)
 obtain ⟨cs', t, fz, hb', hv'⟩ := hw'
 exact ld_run hT h hρ hb' hv'
theorem SQ.stR (hT : TTok P T) {s : Stp} {r : List Stp} {obs : Obs} {off : Nat} {i : TI} {v : Value} {q : Option Addr} (he : s.k = 1) (h : stE T N ops env s.o = some (gb q, off, i, v)) {n : Nat} {cs cs' : List Value} {M : List Atom} (hu : UpR q n cs cs' L M) (hn : 0 < n)
  (hs : scal (vcells v) = true) (hv : ∀ X, wrv i (cs ++ X) off v = some (cs' ++ X)) (hwt : watchOk β obs M s.watch) (k : SQ P β rnd N T ops K r obs env M) : SQ P β rnd N T ops K (s :: r) obs env L := by
 obtain ⟨R, p, p'⟩ := hu.rm
 refine SQ.ent _ ((Ent.perm p).trans (Ent.head (row_open hn))) (SQ.open_ fun x => SQ.pure_ fun hq => ?_)
 obtain ⟨g, rest⟩ := x
 simp only at hq
 subst hq
 have e : Ent (pt g (cs' ++ rest) :: R) M := (Ent.head row_close).trans (Ent.perm p'.symm)
 exact SQ.stA hT he h Up.h hs (hv rest) (hwt.ent e) (SQ.ent _ e k)
def idxRE (T : TT) (N : Nat) (ops : Array Oper) (env : Env) (o : Oper) : Option (Nat × Option Addr × Nat × Int × Nat) :=
 match dstE N ops env o with
 | some d => match o.op with
  | .indexAddr t x y => match ev env y with
   | some (.int _ i) => match T.get t, ev env x with
    | some ti, some (.slice q len _) => match ti.desc with
     | .slice e => match T.get e with
      | some te => some (d, q, len, i, te.size)
      | none => none
     | _ => none
    | _, _ => none
   | _ => none
  | _ => none
 | none => none
theorem idxRE_eq {o : Oper} {d len sz b off : Nat} {i : Int} {q : Option Addr} (h : idxRE T N ops env o = some (d, q, len, i, sz)) (hq : q = some ⟨b, off, none⟩) : idxE T N ops env o = some (d, b, off, len, i, sz) := by
 unfold idxRE at h
 unfold idxE
 split at h <;> try (cases h; done)
 rename_i d' hde
 rw [hde]
 simp only
 split at h <;> try (cases h; done)
 rename_i t x y hop
 rw [hop]
 simp only
 split at h <;> try (cases h; done)
 rename_i kk i' hy
 rw [hy]
 simp only
 split at h <;> try (cases h; done)
 rename_i ti q' len' cap' hti hx
 split at h <;> try (cases h; done)
 rename_i e hde2
 split at h <;> try (cases h; done)
 rename_i te hte
 simp only [Option.some.injEq, Prod.mk.injEq] at h
 obtain ⟨rfl, rfl, rfl, rfl, rfl⟩ := h
 rw [hti, hx, hq]
 simp only
 rw [hde2]
 simp only
 rw [hte]
theorem SQ.idxR (hT : TTok P T) {s : Stp} {r : List Stp} {obs : Obs} {d len sz : Nat} {i : Int} {q : Option Addr} (hk : Nat.ble s.k 1 = true) (h : idxRE T N ops env s.o = some (d, q, len, i, sz)) {cs : List Value} (ha : AtR q len cs L) (j : Nat) (hj : i = (j : Int)) (hlt : j < len) {o' : Nat} (ho : 0 + j * sz = o')
  (k : SQ P β rnd N T ops K r obs ((d, .pointer (some ⟨gb q, o', none⟩)) :: env) L) : SQ P β rnd N T ops K (s :: r) obs env L := by
 obtain ⟨M, p⟩ := ha.rm
 refine SQ.ent _ ((Ent.perm p).trans (Ent.head (row_is (by omega)))) (SQ.pure_ fun hq => SQ.ent _ (Ent.perm p.symm) ?_)
 exact SQ.idx hT hk (idxRE_eq h hq) j hj hlt ho k
theorem ir_ (hT : TTok P T) {s : Stp} {r : List Stp} {obs : Obs} {d len sz : Nat} {i : Int} {q : Option Addr} (hk : Nat.ble s.k 1 = true) (h : idxRE T N ops env s.o = some (d, q, len, i, sz)) {cs : List Value} (j : Nat) (hj : i = (j : Int)) {o' : Nat} (ho : 0 + j * sz = o')
  (k : SQ P β rnd N T ops K r obs ((d, .pointer (some ⟨gb q, o', none⟩)) :: env) L) (ha : AtR q len cs L := by repeat (first | exact .h | apply AtR.t)) (hlt : j < len) : SQ P β rnd N T ops K (s :: r) obs env L := SQ.idxR hT hk h ha j hj hlt ho k
theorem lr_ (hT : TTok P T) {s : Stp} {r : List Stp} {obs : Obs} {d off : Nat} {i : TI} {q : Option Addr} (hk : Nat.ble s.k 1 = true) (h : ldE T N ops env s.o = some (d, gb q, off, i)) {n : Nat} {cs : List Value} {v : Value}
  (hv : ∀ X, rdv i (cs ++ X) off = some v) (k : SQ P β rnd N T ops K r ((s.i, ⟨gb q, off, i, v⟩) :: obs) ((d, v) :: env) L) (ha : AtR q n cs L := by repeat (first | exact .h | apply AtR.t)) (hn : 0 < n := by omega) : SQ P β rnd N T ops K (s :: r) obs env L := SQ.ldR hT hk h ha hn hv k
theorem sr_ (hT : TTok P T) {s : Stp} {r : List Stp} {obs : Obs} {off : Nat} {i : TI} {v : Value} {q : Option Addr} (he : s.k = 1) (h : stE T N ops env s.o = some (gb q, off, i, v)) {n : Nat} {cs cs' : List Value} {M : List Atom}
  (hv : ∀ X, wrv i (cs ++ X) off v = some (cs' ++ X)) (k : SQ P β rnd N T ops K r obs env M) (hu : UpR q n cs cs' L M := by repeat (first | exact .h | apply UpR.t)) (hn : 0 < n := by omega) (hs : scal (vcells v) = true := by rfl)
  (hw : watchOk β obs M s.watch := by repeat (first | exact trivial | refine ⟨trivial, ?_⟩ | refine ⟨wk (by repeat (first | exact .h | exact .q | apply At.t)) (by rfl), ?_⟩)) : SQ P β rnd N T ops K (s :: r) obs env L := SQ.stR hT he h hu hn hs hv hw k
theorem rr_ {q : Option Addr} {n : Nat} {cs : List Value} {off : Nat} {i : TI} {v : Value} (hv : ∀ X, rdv i (cs ++ X) off = some v) (ha : AtR q n cs L := by repeat (first | exact .h | apply AtR.t)) (hn : 0 < n := by omega) : RdAt β L (gb q) off i v := RdAt.row ha hn hv
def go : Option Addr → Nat
 | some a => a.off
 | none => 0
def SlR (β : Base) (A : Atom) (q : Option Addr) (n sz : Nat) (cs : List Value) : Prop := ∀ h, A h → n = 0 ∨ ∃ (g off : Nat) (cur : List Value), q = some ⟨g, off, none⟩ ∧ (cur.drop off).take (n * sz) = cs ∧
 ((∃ t fz, h g = some (.cells cur.toArray t fz)) ∨ (g < β.heap.size ∧ ∃ t fz, β.heap[g]? = some (.cells cur.toArray t fz)))
theorem RdS.slr {A : Atom} {q : Option Addr} {n sz : Nat} {cs : List Value} (r : RdS β q n sz cs A) : SlR β A q n sz cs := fun h a => by
 rcases r.2 with hn | ⟨g, off, qq, cur, hq, rfl, ht⟩
 ·exact .inl hn
 ·refine .inr ⟨g, off, cur, hq, ht, ?_⟩
  cases qq with
  | true => obtain ⟨t, rfl⟩ := a; exact .inl ⟨t, (0, 0), by simp [Hp.one]⟩
  | false => obtain ⟨_, hlt, t, fz, e⟩ := a; exact .inr ⟨hlt, t, fz, e⟩
theorem slr_row {q : Option Addr} {n sz : Nat} {cs : List Value} (hl : cs.length = n * sz) : SlR β (rowA q n cs) q n sz cs := fun h a => by
 rcases a with ⟨_, hn, _⟩ | ⟨g, rest, hq, t, rfl⟩
 ·exact .inl hn
 ·exact .inr ⟨g, 0, cs ++ rest, hq, by rw [List.drop_zero, ← hl]; exact List.take_left, .inl ⟨t, (0, 0), by simp [Hp.one]⟩⟩
theorem slr_own {e sz n c : Nat} {q : Option Addr} {cs : List Value} : SlR β (own e sz (.slice q n c) n cs) q n sz cs := fun h a => by
 obtain ⟨hl, ⟨hv, hn, _⟩ | ⟨g, cap, cur, hv, hnc, hcl, htk, rfl⟩⟩ := a
 ·exact .inl hn
 ·injection hv with h1 _ _
  exact .inr ⟨g, 0, cur, h1, by simpa using htk, .inl ⟨e, (0, 0), by simp [Hp.one]⟩⟩
inductive AtA (A : Atom) : List Atom → Prop
 | h {L : List Atom} : AtA A (A :: L)
 | t {B : Atom} {L : List Atom} : AtA A L → AtA A (B :: L)
theorem AtA.rm {A : Atom} (h : AtA A L) : ∃ M, L.Perm (A :: M) := by
 induction h with
 | h => exact ⟨_, List.Perm.refl _⟩
 | t _ ih => obtain ⟨M, p⟩ := ih; exact ⟨_, (List.Perm.cons _ p).trans (List.Perm.swap _ _ _)⟩
theorem SlR.is {A : Atom} {q : Option Addr} {n sz : Nat} {cs : List Value} (r : SlR β A q n sz cs) (hn : 0 < n) : Ent [A] [pureA (q = some ⟨gb q, go q, none⟩), A] := fun h s => by
 obtain ⟨h1, h2, ho, e0, d, rfl⟩ := s
 rcases r h1 ho with h0 | ⟨g, off, cur, hq, _⟩
 ·omega
 ·exact Ent.pureA (by subst hq; rfl) _ ⟨h1, h2, ho, e0, d, rfl⟩
theorem RdAt.slr {A : Atom} {q : Option Addr} {n sz : Nat} {cs : List Value} {off : Nat} {i : TI} {v : Value} (r : SlR β A q n sz cs) (ha : AtA A L) (hn : 0 < n) (hv : ∀ cur, (cur.drop (go q)).take (n * sz) = cs → rdv i cur off = some v) : RdAt β L (gb q) off i v := fun H w st => by
 obtain ⟨M, p⟩ := ha.rm
 have st2 := st.perm (List.Perm.append_left H p)
 obtain ⟨k, ho, hw⟩ := st2.at_ (i := H.length) (A := A) (by simp)
 rcases r k ho with h0 | ⟨g, o, cur, rfl, ht, ⟨t, fz, e⟩ | ⟨hlt, t, fz, e⟩⟩
 ·omega
 ·exact ⟨cur, t, fz, (hw g _ e).2, hv cur ht⟩
 ·exact ⟨cur, t, fz, by show w.heap[g]? = _; rw [st.1.block g hlt]; exact e, hv cur ht⟩
theorem SQ.ldG (hT : TTok P T) {s : Stp} {r : List Stp} {obs : Obs} {d off : Nat} {i : TI} {q : Option Addr} (hk : Nat.ble s.k 1 = true) (h : ldE T N ops env s.o = some (d, gb q, off, i)) {A : Atom} {n sz : Nat} {cs : List Value} {v : Value} (hS : SlR β A q n sz cs) (ha : AtA A L) (hn : 0 < n)
  (hv : ∀ cur, (cur.drop (go q)).take (n * sz) = cs → rdv i cur off = some v) (k : SQ P β rnd N T ops K r ((s.i, ⟨gb q, off, i, v⟩) :: obs) ((d, v) :: env) L) : SQ P β rnd N T ops K (s :: r) obs env L := by
 obtain ⟨hw, t0, x, ho, hd, hx, hi, hlt⟩ := ldE_eq h
 refine .ld ⟨gb q, off, i, v⟩ hk hw (by simpa [dstOk, hd, Nat.blt_eq] using hlt) (ldE_isLd h) (fun ρ hρ w hw' => ?_) (fun H w st => RdAt.slr hS ha hn hv H w st) (by rw [hd]; exact k)
 obtain ⟨cs', t, fz, hb', hv'⟩ := hw'
 exact ld_run hT h hρ hb' hv'
theorem SQ.idxG (hT : TTok P T) {s : Stp} {r : List Stp} {obs : Obs} {d len sz sz2 : Nat} {i : Int} {q : Option Addr} (hk : Nat.ble s.k 1 = true) (h : idxRE T N ops env s.o = some (d, q, len, i, sz)) {A : Atom} {cs : List Value} (hS : SlR β A q len sz2 cs) (ha : AtA A L) (j : Nat) (hj : i = (j : Int)) (hlt : j < len) {o' : Nat} (ho : go q + j * sz = o')
  (k : SQ P β rnd N T ops K r obs ((d, .pointer (some ⟨gb q, o', none⟩)) :: env) L) : SQ P β rnd N T ops K (s :: r) obs env L := by
 obtain ⟨M, p⟩ := ha.rm
 refine SQ.ent _ ((Ent.perm p).trans (Ent.head (hS.is (by omega)))) (SQ.pure_ fun hq => SQ.ent _ (Ent.perm p.symm) ?_)
 refine SQ.idx hT hk (b := gb q) (off := go q) (len := len) (sz := sz) (i := i) ?_ j hj hlt ho k
 rw [idxRE_eq (q := q) h hq]
theorem SQ.appA (hT : TTok P T) {s : Stp} {r : List Stp} {obs : Obs} {d e b off n c m : Nat} {te : TI} {q : Option Addr} (he : s.k = 1) (h : apE T N ops env s.o = some (d, e, te, .slice q n c, b, off, m)) {cs : List Value} {M : List Atom} (hk : Rm (own e te.size (.slice q n c) n cs) L M)
  {q2 : Bool} {cs2 : List Value} (ha : At β b M q2 cs2) (news : List Value) (hn : (cs2.drop off).take news.length = news) (hl : news.length = m * te.size) (hz : (vcells te.zero).length = te.size) (h1 : ∀ u ∈ news, u.oneCell' = true)
  (h63 : n + m ≤ 4611686018427387904) (hby : (n + m) * te.bytes ≤ 140737488355328)
  (k : ∀ q' c', watchOk β obs (own e te.size (.slice q' (n + m) c') (n + m) (cs ++ news) :: M) s.watch ∧ SQ P β rnd N T ops K r obs ((d, .slice q' (n + m) c') :: env) (own e te.size (.slice q' (n + m) c') (n + m) (cs ++ news) :: M)) : SQ P β rnd N T ops K (s :: r) obs env L := by
 obtain ⟨j, hj⟩ := ha.idx
 refine SQ.ent _ hk.gives ?_
 refine SQ.append hT he h 0 rfl (j + 1) (by simpa using hj) news hn hl hz h1 h63 hby (fun v' => ?_)
 simp only [List.eraseIdx_cons_zero]
 have sh : Ent (own e te.size v' (n + m) (cs ++ news) :: M) (exA (fun x : Option Addr × Nat => [pureA (v' = .slice x.1 (n + m) x.2), own e te.size v' (n + m) (cs ++ news)]) :: M) := Ent.head (own_shape _ _ _ _ _)
 refine ⟨watchOk.ent sh (watchOk.open_ fun x => watchOk.pure_ fun hv => ?_), SQ.ent _ sh (SQ.open_ fun x => SQ.pure_ fun hv => ?_)⟩
 ·subst hv; exact (k x.1 x.2).1
 ·subst hv; exact (k x.1 x.2).2
theorem Sat.storeT {w : World} {H : List Atom} {j e b : Nat} {cs cs' : List Value} (s : Sat β w (H ++ L)) (hL : L[j]? = some (ptT e b cs)) : Sat β (w.setRow b cs'.toArray) (H ++ L.set j (ptT e b cs')) := by
 have hp : (H ++ L).Perm (ptT e b cs :: (H ++ L.eraseIdx j)) := (List.Perm.append_left H (perm_at hL)).trans List.perm_middle
 have s1 := s.perm hp
 have e0 := s1.cell_ptT (i := 0) rfl
 have s3 := s1.update (w' := w.setRow b cs'.toArray) (o' := .cells cs'.toArray e (0, 0)) (A' := ptT e b cs') rfl (fun k => by
  by_cases hk : k = b
  ·subst hk; rw [if_pos rfl]; exact setRow_heap w k _ _ e _ e0
  ·rw [if_neg hk]; exact setRow_other w b k _ hk) (by simp) rfl rfl rfl
 refine s3.perm ?_
 exact List.perm_middle.symm.trans (List.Perm.append_left H (star_set hL).symm)
theorem SQ.stT (hT : TTok P T) {s : Stp} {r : List Stp} {obs : Obs} {b off e : Nat} {i : TI} {v : Value} (he : s.k = 1) (h : stE T N ops env s.o = some (b, off, i, v)) {cs cs' : List Value}
  (hs : scal (vcells v) = true) (hv : wrv i cs off v = some cs') (hwt : watchOk β obs (ptT e b cs' :: L) s.watch) (k : SQ P β rnd N T ops K r obs env (ptT e b cs' :: L)) : SQ P β rnd N T ops K (s :: r) obs env (ptT e b cs :: L) := by
 obtain ⟨hw, t0, x, y, ho, hd, hx, hy, hi⟩ := stE_eq h
 refine SQ.act he hw fun fm n Qx a w st0 => ?_
 obtain ⟨hen, Ds, hds, st⟩ := st0
 have hbb := st.cell_ptT (hid_at (i := 0) (A := ptT e b cs) rfl)
 have e1 := run_storeVar_of (hT.get hi) hbb (scal_eq hs) hv
 have e2 : (execOp a.eval s.o).run P w = .ok .skip (w.setRow b cs'.toArray) := by
  obtain ⟨si, ⟨dst, op, type, pos, after, guard⟩, se, sw⟩ := s
  simp only at ho
  subst ho
  simp only [execOp, hen.eval hx, hen.eval hy, Instr.storeAt, Instr.sureAddr]
  simp only [Sem.run_bind, Sem.run_pure, Result.andThen, e1]
 rw [e2]
 refine ⟨env, _, ?_, hwt, k⟩
 rw [hd]
 exact ⟨hen, Ds, hds, st.storeT (j := 0) rfl⟩
theorem own_open {e sz n c : Nat} {q : Option Addr} {cs : List Value} (hn : 0 < n) : Ent [own e sz (.slice q n c) n cs] [exA fun x : Nat × List Value => [pureA (q = some ⟨x.1, 0, none⟩ ∧ cs.length = n * sz ∧ n ≤ c ∧ (cs ++ x.2).length = c * sz), ptT e x.1 (cs ++ x.2)]] := fun h s => by
 obtain ⟨h1, h2, ⟨hl, ho⟩, e0, d, rfl⟩ := s
 rcases ho with ⟨_, h0, _⟩ | ⟨g, cap, cur, hv, hnc, hcl, htk, hh⟩
 ·omega
 ·injection hv with hq _ hc
  subst hc
  have e1 : cs ++ cur.drop (n * sz) = cur := by rw [← htk]; exact List.take_append_drop _ _
  exact (Ent.trans (Ent.pureA ⟨hq, hl, hnc, by rw [e1]; exact hcl⟩) (Ent.exA (f := fun x : Nat × List Value => [pureA (q = some ⟨x.1, 0, none⟩ ∧ cs.length = n * sz ∧ n ≤ c ∧ (cs ++ x.2).length = c * sz), ptT e x.1 (cs ++ x.2)]) (g, cur.drop (n * sz)))) _ ⟨h1, h2, by rw [e1]; exact hh, e0, d, rfl⟩
theorem own_close {e sz n c g : Nat} {cs rest : List Value} (hl : cs.length = n * sz) (hn : n ≤ c) (hc : (cs ++ rest).length = c * sz) : Ent [ptT e g (cs ++ rest)] [own e sz (.slice (some ⟨g, 0, none⟩) n c) n cs] := fun h s => by
 obtain ⟨h1, h2, ho, e0, d, rfl⟩ := s
 exact ⟨_, ⟨h1, h2, ⟨hl, .inr ⟨g, c, cs ++ rest, rfl, hn, hc, by rw [← hl]; exact List.take_left, ho⟩⟩, e0, d, rfl⟩, Hp.le_refl _⟩
inductive UpO (e sz : Nat) (q : Option Addr) (n c : Nat) (cs cs' : List Value) : List Atom → List Atom → Prop
 | h {L : List Atom} : UpO e sz q n c cs cs' (own e sz (.slice q n c) n cs :: L) (own e sz (.slice q n c) n cs' :: L)
 | t {A : Atom} {L M : List Atom} : UpO e sz q n c cs cs' L M → UpO e sz q n c cs cs' (A :: L) (A :: M)
theorem UpO.rm {e sz n c : Nat} {q : Option Addr} {cs cs' : List Value} {L M : List Atom} (h : UpO e sz q n c cs cs' L M) : ∃ R, L.Perm (own e sz (.slice q n c) n cs :: R) ∧ M.Perm (own e sz (.slice q n c) n cs' :: R) := by
 induction h with
 | h => exact ⟨_, List.Perm.refl _, List.Perm.refl _⟩
 | t _ ih => obtain ⟨R, p, p'⟩ := ih; exact ⟨_, (List.Perm.cons _ p).trans (List.Perm.swap _ _ _), (List.Perm.cons _ p').trans (List.Perm.swap _ _ _)⟩
theorem SQ.stO (hT : TTok P T) {s : Stp} {r : List Stp} {obs : Obs} {off : Nat} {i : TI} {v : Value} {q : Option Addr} (he : s.k = 1) (h : stE T N ops env s.o = some (gb q, off, i, v)) {e sz n c : Nat} {cs cs' : List Value} {M : List Atom} (hu : UpO e sz q n c cs cs' L M) (hn : 0 < n)
  (hs : scal (vcells v) = true) (hv : ∀ X, wrv i (cs ++ X) off v = some (cs' ++ X)) (hwt : watchOk β obs M s.watch) (k : SQ P β rnd N T ops K r obs env M) : SQ P β rnd N T ops K (s :: r) obs env L := by
 obtain ⟨R, p, p'⟩ := hu.rm
 refine SQ.ent _ ((Ent.perm p).trans (Ent.head (own_open hn))) (SQ.open_ fun x => SQ.pure_ fun hq => ?_)
 obtain ⟨g, rest⟩ := x
 simp only at hq
 obtain ⟨rfl, hl, hnc, hcl⟩ := hq
 have hlen : cs'.length = cs.length := by
  obtain ⟨h1, h2, h3⟩ := wrv_eq (hv [])
  have := congrArg List.length h3
  simp only [List.append_nil, List.length_append, List.length_take, List.length_drop, h1] at this h2
  omega
 have e1 : Ent (ptT e g (cs' ++ rest) :: R) M := (Ent.head (own_close (by omega) hnc (by rw [List.length_append, hlen, ← List.length_append]; exact hcl))).trans (Ent.perm p'.symm)
 exact SQ.stT hT he h hs (hv rest) (hwt.ent e1) (SQ.ent _ e1 k)
theorem CW.rangeA {Q : Post} {g : Operand} {ps : Array Tmp} {assign body : Code} {gf : Nat} {cap : Array Value} (hg : ev env g = some (.func (.func gf) #[] cap)) {A L0 : List Atom} {α : Type} {encs : α → List Value} {xs : List α}
  (hI : Iter P β gf cap.toList A encs xs) (hk : Tk A L L0) (I : List α → List Atom) (stop : Code → List Atom → Prop) (hL0 : Ent L0 (I [])) (hps : ∀ x, (encs x).length = ps.size) (hpN : ∀ p ∈ ps.toList, p < N)
  (hbody : ∀ pre x, (pre ++ [x]) <+: xs → ∀ l fm rec1, CW P β ⟨some (l, rec1), fm⟩ N assign (bindps ps.toList (encs x) env) (I pre ++ A) (thn (fun env2 L2 => ∀ fm2 rec2, CW P β ⟨some (l, rec2), fm2⟩ N body env2 L2 (rndQ (I (pre ++ [x])) stop A)) (fun _ _ _ => False)))
  (hdone : Q .normal env (I xs ++ A)) (hstop : ∀ c M, stop c M → CW P β cx N c env (M ++ A) Q) : CW P β cx N (.rangeFunc g ps assign body) env L Q :=
 CW.ent hk.gives (CW.rangeFunc hg hI (List.replicate A.length 0) (sel_front A) I stop hL0 hps hpN hbody hdone hstop)
theorem perm_ix {α : Type} : ∀ {L : List α} {i : Nat} {A : α}, L[i]? = some A → L.Perm (A :: L.eraseIdx i)
 | [], _, _, h => by simp at h
 | B :: L, 0, A, h => by simp at h; subst h; exact List.Perm.refl _
 | B :: L, i + 1, A, h => by
  have := perm_ix (L := L) (i := i) (A := A) (by simpa using h)
  exact (List.Perm.cons B this).trans (List.Perm.swap A B _)
def pkA {α : Type} (f : α → List Atom) (l : List α) : Atom := packA (l.flatMap f)
theorem pk_open {α : Type} {f : α → List Atom} {l : List α} {k : Nat} {x : α} (h : l[k]? = some x) : Ent [pkA f l] (f x ++ [pkA f (l.eraseIdx k)]) := by
 have p : (l.flatMap f).Perm (f x ++ (l.eraseIdx k).flatMap f) := by
  have := (perm_ix h).flatMap_right f
  simpa using this
 have e1 := Ent.unpack (l.flatMap f) []
 rw [List.append_nil] at e1
 refine e1.trans ((Ent.perm p).trans (Ent.append (Ent.refl _) ?_))
 have e2 := Ent.pack ((l.eraseIdx k).flatMap f) []
 rw [List.append_nil] at e2
 exact e2
theorem pk_close {α : Type} {f : α → List Atom} {l : List α} {k : Nat} (x : α) (h : k < l.length) : Ent (f x ++ [pkA f (l.eraseIdx k)]) [pkA f (l.set k x)] := by
 have h2 : (l.set k x)[k]? = some x := List.getElem?_set_self h
 have p : (f x ++ (l.eraseIdx k).flatMap f).Perm ((l.set k x).flatMap f) := by
  have := (perm_ix h2).flatMap_right f
  rw [List.eraseIdx_set_eq] at this
  simpa using this.symm
 have e1 := Ent.unpack ((l.eraseIdx k).flatMap f) []
 rw [List.append_nil] at e1
 have e2 := Ent.pack ((l.set k x).flatMap f) []
 rw [List.append_nil] at e2
 exact (Ent.append (Ent.refl _) e1).trans ((Ent.perm p).trans e2)
theorem set_same_ {α : Type} {l : List α} {k : Nat} {x : α} (h : l[k]? = some x) : l.set k x = l := by
 apply List.ext_getElem?
 intro i
 by_cases e : k = i
 ·subst e
  rw [List.getElem?_set_self (List.getElem?_eq_some_iff.1 h).1, h]
 ·rw [List.getElem?_set_ne e]
theorem pk_shut {α : Type} {f : α → List Atom} {l : List α} {k : Nat} {x : α} (h : l[k]? = some x) : Ent (f x ++ [pkA f (l.eraseIdx k)]) [pkA f l] := by
 have := pk_close (f := f) x (List.getElem?_eq_some_iff.1 h).1
 rw [set_same_ h] at this
 exact this
theorem pk_nil {α : Type} {f : α → List Atom} {L : List Atom} : Ent L (pkA f [] :: L) := fun h s => ⟨h, ⟨Hp.emp, h, rfl, s, Hp.emp_disj _, (Hp.emp_add _).symm⟩, Hp.le_refl h⟩
theorem pk_snoc {α : Type} {f : α → List Atom} {l : List α} {x : α} : Ent (f x ++ [pkA f l]) [pkA f (l ++ [x])] := by
 have e1 := Ent.unpack (l.flatMap f) []
 rw [List.append_nil] at e1
 have e2 := Ent.pack ((l ++ [x]).flatMap f) []
 rw [List.append_nil] at e2
 refine (Ent.append (Ent.refl _) e1).trans (Ent.trans (Ent.perm ?_) e2)
 rw [List.flatMap_append]
 simp only [List.flatMap_cons, List.flatMap_nil, List.append_nil]
 exact List.perm_append_comm
end
end Go.Proofs.YtakkogdmlbkdaaaGreatDoor.Sl
namespace Go.Proofs.YtakkogdmlbkdaaaGreatDoor.Sl
open Go Go.RowKit
set_option linter.unusedVariables false
set_option linter.unusedSimpArgs false
section
variable {P : Program} {β : Base} {cx : Cx} {rnd : Option (Nat × Loop)} {N : Nat} {env : Env} {L : List Atom} {K : Env → List Atom → Prop} {ops : Array Oper} {T : TT}
def slE (T : TT) (N : Nat) (ops : Array Oper) (env : Env) (o : Oper) : Option (Nat × Option Addr × Nat × Int × Int × Nat) :=
 match dstE N ops env o with
 | some d => match o.op with
  | .slice t x (some y) (some z) none => match ev env y, ev env z with
   | some (.int _ l), some (.int _ h) => match T.get t, ev env x with
    | some ti, some (.slice q _ c) => match ti.desc with
     | .slice e => match T.get e with
      | some te => some (d, q, c, l, h, te.size)
      | none => none
     | _ => none
    | _, _ => none
   | _, _ => none
  | _ => none
 | none => none
theorem SQ.slc_ (hT : TTok P T) {s : Stp} {r : List Stp} {obs : Obs} {d c sz : Nat} {q : Option Addr} {l h : Int} (hk : Nat.ble s.k 1 = true) (hh : slE T N ops env s.o = some (d, q, c, l, h, sz)) (lo hi : Nat) (hl : l = (lo : Int)) (hhi : h = (hi : Int)) (h1 : lo ≤ hi) (h2 : hi ≤ c) {v : Value}
  (hv : sliced q lo hi c sz = v) (k : SQ P β rnd N T ops K r obs ((d, v) :: env) L) : SQ P β rnd N T ops K (s :: r) obs env L := by
 subst hv
 unfold slE at hh
 split at hh <;> try (cases hh; done)
 rename_i d' hde
 obtain ⟨hw, hd, hdl⟩ := dstE_eq hde
 split at hh <;> try (cases hh; done)
 rename_i t x y z hop
 split at hh <;> try (cases hh; done)
 rename_i k1 l' k2 h' hy hz
 split at hh <;> try (cases hh; done)
 rename_i ti q' n' c' hti hx
 split at hh <;> try (cases hh; done)
 rename_i e hde2
 split at hh <;> try (cases hh; done)
 rename_i te hte
 simp only [Option.some.injEq, Prod.mk.injEq] at hh
 obtain ⟨rfl, rfl, rfl, rfl, rfl, rfl⟩ := hh
 refine SQ.val' hk hw hd hdl (fun ρ hρ w => ?_) k
 obtain ⟨si, ⟨dst, op, type, pos, after, guard⟩, se, sw⟩ := s
 simp only at hop
 subst hop
 have hu := (hT.get hti).1.1
 rw [hde2] at hu
 have hel : P.elem t = e := by simp [Program.elem, hu]
 have hu2 : P.underlying t = some (.slice (P.elem t)) := by rw [hel]; exact hu
 subst hl; subst hhi
 simp only [execOp, Option.map_some, Option.map_none, hρ _ _ hx, hρ _ _ hy, hρ _ _ hz]
 simp only [Sem.run_bind, run_sliceAt_slice w _ _ _ _ _ hu2, run_slice_lh w t q' n' c' hu2 k1 k2 (lo : Int) (hi : Int) (by omega) (by omega) (by omega), hel, (hT.get hte).run_sizeOf, Result.andThen, Int.toNat_natCast, Sem.run_pure]
theorem sliced_some {b off lo hi c sz : Nat} (h : lo < c) : sliced (some ⟨b, off, none⟩) lo hi c sz = .slice (some ⟨b, off + lo * sz, none⟩) (hi - lo) (c - lo) := by
 unfold sliced
 rw [if_neg (by omega)]
 simp [addr_add]
theorem SQ.slc (hT : TTok P T) {s : Stp} {r : List Stp} {obs : Obs} {d c sz b off : Nat} {l h : Int} (hk : Nat.ble s.k 1 = true) (hh : slE T N ops env s.o = some (d, some ⟨b, off, none⟩, c, l, h, sz)) (lo hi : Nat) (hl : l = (lo : Int)) (hhi : h = (hi : Int)) (h1 : lo ≤ hi) (h2 : hi ≤ c) (h3 : lo < c) {o' n' c' : Nat} (e1 : off + lo * sz = o') (e2 : hi - lo = n') (e3 : c - lo = c')
  (k : SQ P β rnd N T ops K r obs ((d, .slice (some ⟨b, o', none⟩) n' c') :: env) L) : SQ P β rnd N T ops K (s :: r) obs env L :=
 by subst e1; subst e2; subst e3; exact SQ.slc_ hT hk hh lo hi hl hhi h1 h2 (sliced_some h3) k
def crE (T : TT) (N : Nat) (ops : Array Oper) (env : Env) (o : Oper) : Option (Nat × Nat × Nat × Value) :=
 match wants ops env o with
 | some true => match o.dst, o.op with
  | none, .call c => match c.callee, c.args.toList, c.argTypes.toList with
   | .builtin .clear, [x], [t] => match T.get t, ev env x with
    | some ti, some (.slice (some ⟨b, off, none⟩) n _) => match ti.desc with
     | .slice e => match T.get e with
      | some te => match vcells te.zero with
       | [z] => match scal [z] with
        | true => some (b, off, n, z)
        | false => none
       | _ => none
      | none => none
     | _ => none
    | _, _ => none
   | _, _, _ => none
  | _, _ => none
 | _ => none
theorem SQ.clr (hT : TTok P T) {s : Stp} {r : List Stp} {obs : Obs} {b off n : Nat} {z : Value} (he : s.k = 1) (h : crE T N ops env s.o = some (b, off, n, z)) {cs : List Value} (hn : 0 < n) (hle : off + n ≤ cs.length) {M : List Atom} (hu : Up b cs (cs.take off ++ List.replicate n z ++ cs.drop (off + n)) L M)
  (hwt : watchOk β obs M s.watch) (k : SQ P β rnd N T ops K r obs env M) : SQ P β rnd N T ops K (s :: r) obs env L := by
 obtain ⟨j, hL, rfl⟩ := hu.idx
 unfold crE at h
 split at h <;> try (cases h; done)
 rename_i hw
 split at h <;> try (cases h; done)
 rename_i c hd hop
 split at h <;> try (cases h; done)
 rename_i x t hc ha hat
 split at h <;> try (cases h; done)
 rename_i ti b' off' n' c' hti hx
 split at h <;> try (cases h; done)
 rename_i e hde
 split at h <;> try (cases h; done)
 rename_i te hte
 split at h <;> try (cases h; done)
 rename_i z' hz
 split at h <;> try (cases h; done)
 rename_i hsc
 simp only [Option.some.injEq, Prod.mk.injEq] at h
 obtain ⟨rfl, rfl, rfl, rfl⟩ := h
 refine SQ.act he hw fun fm nn Qx a w st0 => ?_
 obtain ⟨hen, Ds, hds, st⟩ := st0
 obtain ⟨_, tt, hbb⟩ := st.cell_pt (hid_at hL)
 have hu3 := (hT.get hti).1.1
 rw [hde] at hu3
 have hzc : te.zero.cells = #[z'] := by apply Array.toList_inj.1; rw [vcells_eq]; exact hz
 have hlist : (Builtin.zeroCells te.zero.cells n').toList = List.replicate n' z' := by
  rw [hzc]
  simp [Builtin.zeroCells]
  apply List.ext_getElem
  ·simp
  ·intro i h1 h2
   simp [Nat.mod_one]
 have hrun := run_storeCells_at P b' off' tt (List.replicate n' z') 0 cs.toArray w hbb (by simp; omega) (fun u hu => by rw [List.eq_of_mem_replicate hu]; exact scal_eq hsc z' (by simp))
 obtain ⟨m, rfl⟩ : ∃ m, n' = m + 1 := ⟨n' - 1, by omega⟩
 have e2 : (execOp a.eval s.o).run P w = .ok (.value (.tuple #[])) (w.setRow b' (cs.take off' ++ List.replicate (m + 1) z' ++ cs.drop (off' + (m + 1))).toArray) := by
  obtain ⟨si, ⟨dst, op, type, pos, after, guard⟩, se, sw⟩ := s
  obtain ⟨callee, args, ats⟩ := c
  simp only at hop hc ha hat hd
  subst hop
  subst hc
  obtain rfl : args = #[x] := Array.toList_inj.1 (by simpa using ha)
  obtain rfl : ats = #[t] := Array.toList_inj.1 (by simpa using hat)
  simp only [execOp, resolve, invoke, builtin, Sem.run_bind, Sem.run_pure, Result.andThen]
  have e3 : (#[x] : Array Operand).map a.eval = #[.slice (some ⟨b', off', none⟩) (m + 1) c'] := by simp [hen.eval hx]
  rw [e3]
  unfold Builtin.clear_
  simp only [List.getElem?_toArray, List.getElem?_cons_zero, Sem.run_bind, run_underlying hu3, Result.andThen, (hT.get hte).run_zeroValue, hlist, hrun, Sem.run_pure]
  simp
 rw [e2]
 refine ⟨env, _, ?_, hwt, k⟩
 rw [hd]
 exact ⟨hen, Ds, hds, st.store hL⟩
end
end Go.Proofs.YtakkogdmlbkdaaaGreatDoor.Sl

