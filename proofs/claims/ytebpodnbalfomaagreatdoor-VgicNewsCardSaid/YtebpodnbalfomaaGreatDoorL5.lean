import Derived.Test.YtebpodnbalfomaaGreatDoorL4
import Derived.Laws.Slices
namespace Go.Proofs.YtebpodnbalfomaaGreatDoor.Sl
open Go Go.RowKit
set_option linter.unusedVariables false
set_option linter.unusedSimpArgs false
/-- A row of the call's own, of elements of one type. -/
def ptT (e b : Nat) (cs : List Value) : Atom := fun h => h = Hp.one b (.cells cs.toArray e (0, 0))
theorem ptT_pt {e b : Nat} {cs : List Value} : Ent [ptT e b cs] [pt b cs] := fun h s => by
  obtain ⟨h1, h2, ho, e0, d, rfl⟩ := s
  exact ⟨_, ⟨h1, h2, ⟨e, ho⟩, e0, d, rfl⟩, Hp.le_refl _⟩
theorem Sat.cell_ptT {β : Base} {w : World} {L : List Atom} {e b i : Nat} {cs : List Value} (s : Sat β w L) (h : L[i]? = some (ptT e b cs)) : w.heap[b]? = some (.cells cs.toArray e (0, 0)) := by
  obtain ⟨k, rfl, hw⟩ := s.at_ h
  exact (hw b (.cells cs.toArray e (0, 0)) (by simp [Hp.one])).2
section
variable {P : Program} {β : Base} {rnd : Option (Nat × Loop)} {N : Nat} {env : Env} {L : List Atom} {K : Env → List Atom → Prop} {ops : Array Oper} {T : TT}
theorem run_byteOf {w : World} {b off e : Nat} {cs : Array Value} {fz : Nat × Nat} (hb : w.heap[b]? = some (.cells cs e fz)) {s x : Nat} (hs : P.cellsOf e = s + 1) (hx : byteOfCell P P.depth e (off % (s + 1)) = some x) : ∃ B, (byteOf ⟨b, off, none⟩).run P w = .ok B w := by
  have h1 : (shape b).run P w = .ok (some (e, cs.size)) w := by
    simp [shape, Sem.run, World.shape?, hb]
  have h2 : (noView ⟨b, off, none⟩).run P w = .ok () w := by
    simp [noView, viewAt, Sem.run_bind, h1, Result.andThen]
  refine ⟨off / (s + 1) * P.bytesOf e + x, ?_⟩
  simp [byteOf, Sem.run_bind, h2, h1, Result.andThen, hs, hx]
theorem run_fieldAt0 {w : World} {b off e : Nat} {cs : Array Value} {fz : Nat × Nat} (hb : w.heap[b]? = some (.cells cs e fz)) {s x y t n : Nat} {fs : Array Field} {f : Field} (hu : P.underlying t = some (.struct fs)) (hf : fs[n]? = some f) (hz : ∀ w, (sizeOf f.type).run P w = .ok 0 w)
    (hs : P.cellsOf e = s + 1) (hx : byteOfCell P P.depth e (off % (s + 1)) = some x) (hy : byteOfCell P P.depth e ((off + f.offset) % (s + 1)) = some y) : ∃ a, (Instr.fieldAt t (.pointer (some ⟨b, off, none⟩)) n).run P w = .ok (.pointer (some a)) w := by
  obtain ⟨B1, h1⟩ := run_byteOf hb hs hx
  obtain ⟨B2, h2⟩ := run_byteOf hb hs hy
  by_cases hq : B2 = B1 + f.byteOffset
  · refine ⟨⟨b, off + f.offset, none⟩, ?_⟩
    simp [Instr.fieldAt, Sem.run_bind, run_underlying hu, Result.andThen, hf, Instr.sureAddr, fieldPlace, hz, partAt, h1, h2, hq]
  · refine ⟨⟨b, off + f.offset, some (B1 + f.byteOffset)⟩, ?_⟩
    simp [Instr.fieldAt, Sem.run_bind, run_underlying hu, Result.andThen, hf, Instr.sureAddr, fieldPlace, hz, partAt, h1, h2, hq]
def f0E (N : Nat) (ops : Array Oper) (env : Env) (o : Oper) : Option (Nat × Nat × Nat × Nat × Nat) :=
  match dstE N ops env o with
  | some d => match o.op with
    | .fieldAddr t x n => match ev env x with
      | some (.pointer (some ⟨b, off, none⟩)) => some (d, b, off, t, n)
      | _ => none
    | _ => none
  | none => none
/-- The place of a field without cells. -/
theorem SQ.field0 {s : Stp} {r : List Stp} {obs : Obs} {d b off t n : Nat} (he : s.k = 1) (h : f0E N ops env s.o = some (d, b, off, t, n)) {e : Nat} {cs : List Value} (j : Nat) (hL : L[j]? = some (ptT e b cs)) {fs : Array Field} {f : Field} (hu : P.underlying t = some (.struct fs)) (hf : fs[n]? = some f)
    (hz : ∀ w, (sizeOf f.type).run P w = .ok 0 w) {q x y : Nat} (hs : P.cellsOf e = q + 1) (hx : byteOfCell P P.depth e (off % (q + 1)) = some x) (hy : byteOfCell P P.depth e ((off + f.offset) % (q + 1)) = some y)
    (k : ∀ a, watchOk β obs L s.watch ∧ SQ P β rnd N T ops K r obs ((d, .pointer (some a)) :: env) L) : SQ P β rnd N T ops K (s :: r) obs env L := by
  unfold f0E at h
  split at h <;> try (cases h; done)
  rename_i d' hde
  obtain ⟨hw, hd, hdl⟩ := dstE_eq hde
  split at h <;> try (cases h; done)
  rename_i t' x' n' hop
  split at h <;> try (cases h; done)
  rename_i b' off' hxv
  simp only [Option.some.injEq, Prod.mk.injEq] at h
  obtain ⟨rfl, rfl, rfl, rfl, rfl⟩ := h
  refine SQ.act he hw fun fm nn Qx aa w st0 => ?_
  obtain ⟨hen, Ds, hds, st⟩ := st0
  have hb := st.cell_ptT (hid_at hL)
  obtain ⟨a, ha⟩ := run_fieldAt0 (P := P) hb hu hf hz hs hx hy
  have e2 : (execOp aa.eval s.o).run P w = .ok (.value (.pointer (some a))) w := by
    obtain ⟨si, ⟨dst, op, type, pos, after, guard⟩, se, sw⟩ := s
    simp only at hop
    subst hop
    simp only [execOp, hen.eval hxv, Sem.run_bind, ha, Result.andThen, Sem.run_pure]
  rw [e2]
  exact ⟨_, _, ⟨by rw [hd]; exact hen.put hdl _, Ds, by rw [hd]; exact hds, st⟩, k a⟩
def s0E (T : TT) (ops : Array Oper) (env : Env) (o : Oper) : Option Nat :=
  match wants ops env o with
  | some true => match o.op with
    | .store t x y => match o.dst with
      | none => match ev env x with
        | some (.pointer (some _)) => match T.get t, ev env y with
          | some i, some v => match i.size, vcells v with
            | 0, [] => some 0
            | _, _ => none
          | _, _ => none
        | _ => none
      | some _ => none
    | _ => none
  | _ => none
/-- A store of no cells. -/
theorem SQ.st0 (hT : TTok P T) {s : Stp} {r : List Stp} {obs : Obs} (he : s.k = 1) (h : s0E T ops env s.o = some 0) (k : watchOk β obs L s.watch ∧ SQ P β rnd N T ops K r obs env L) : SQ P β rnd N T ops K (s :: r) obs env L := by
  unfold s0E at h
  split at h <;> try (cases h; done)
  rename_i hw
  split at h <;> try (cases h; done)
  rename_i t x y hop
  split at h <;> try (cases h; done)
  rename_i hd
  split at h <;> try (cases h; done)
  rename_i a0 hx
  split at h <;> try (cases h; done)
  rename_i i v hi hy
  split at h <;> try (cases h; done)
  rename_i hsz hv
  refine SQ.act he hw fun fm nn Qx aa w st0 => ?_
  obtain ⟨hen, Ds, hds, st⟩ := st0
  have e1 : v.cells.size = 0 := by rw [← Array.length_toList, vcells_eq, hv]; rfl
  have e2 : (execOp aa.eval s.o).run P w = .ok .skip w := by
    obtain ⟨si, ⟨dst, op, type, pos, after, guard⟩, se, sw⟩ := s
    simp only at hop
    subst hop
    simp only [execOp, hen.eval hx, hen.eval hy, Instr.storeAt, Instr.sureAddr]
    have e3 : (storeVar t a0 v).run P w = .ok () w := by
      unfold storeVar
      simp only [Sem.run_bind, (hT.get hi).run_sizeOf w, Result.andThen, e1, hsz, ne_eq, not_true, if_false]
      rw [vcells_eq, hv]
      simp [storeCells]
    simp only [Sem.run_bind, Sem.run_pure, Result.andThen, e3]
  rw [e2]
  exact ⟨env, L, by rw [hd]; exact ⟨hen, Ds, hds, st⟩, k⟩
def mtE (T : TT) (o : Oper) : Option Nat :=
  match o.op with
  | .makeSlice t x y => match T.get t with
    | some ti => match ti.desc with
      | .slice e => some e
      | _ => none
    | none => none
  | _ => none
theorem Sat.allocT {w : World} {H : List Atom} (s : Sat β w (H ++ L)) (cs : List Value) (t : Nat) : Sat β (w.alloc (.cells cs.toArray t)) (H ++ ptT t w.heap.size cs :: L) :=
  (s.new _ (A := ptT t w.heap.size cs) rfl).perm List.perm_middle.symm
theorem SQ.makeT (hT : TTok P T) {s : Stp} {r : List Stp} {obs : Obs} {d : Nat} {te : TI} {a b : Int} {e0 : Nat} (he : s.k = 1) (h : mkE T N ops env s.o = some (d, te, a, b)) (h2 : mtE T s.o = some e0) (n : Nat) (ha : a = (n : Int)) (hb : b = (n : Int)) (hc : n * te.size ≤ 16777216) (hby : te.bytes * n ≤ 281474976710656) (h63 : n ≤ 9223372036854775807)
    (k : ∀ g, watchOk β obs (ptT e0 g (madeCells te.zero.cells (n * te.size)).toList :: L) s.watch ∧ SQ P β rnd N T ops K r obs ((d, .slice (some ⟨g, 0, none⟩) n n) :: env) (ptT e0 g (madeCells te.zero.cells (n * te.size)).toList :: L)) : SQ P β rnd N T ops K (s :: r) obs env L := by
  unfold mkE at h
  split at h <;> try (cases h; done)
  rename_i d' hde
  obtain ⟨hw, hd, hdl⟩ := dstE_eq hde
  split at h <;> try (cases h; done)
  rename_i t x y hop
  split at h <;> try (cases h; done)
  rename_i ti k1 a' k2 b' hti hx hy
  split at h <;> try (cases h; done)
  rename_i e hde2
  split at h <;> try (cases h; done)
  rename_i te' hte
  simp only [Option.some.injEq, Prod.mk.injEq] at h
  obtain ⟨rfl, rfl, rfl, rfl⟩ := h
  subst ha
  subst hb
  have hee : e = e0 := by
    unfold mtE at h2
    rw [hop] at h2
    simp only [hti, hde2] at h2
    simpa using h2
  subst hee
  have hu := (hT.get hti).1.1
  rw [hde2] at hu
  obtain ⟨inf, hinf, hsz, hbt, hzz⟩ := (hT.get hte).info
  refine SQ.act he hw fun fm nn Qx aa w st0 => ?_
  obtain ⟨hen, Ds, hds, st⟩ := st0
  have hrun := run_makeSlice w t e inf te'.zero hu hinf hzz k1 k2 (n : Int) (n : Int) (by omega) (by omega) (by rw [hsz, Int.toNat_natCast]; exact hc) (by rw [hbt]; have h9 := Int.ofNat_le.2 hby; rw [Int.natCast_mul] at h9; exact h9) (by omega)
  have e2 : (execOp aa.eval s.o).run P w = .ok (.value (.slice (some ⟨w.heap.size, 0, none⟩) n n)) (w.alloc (.cells (madeCells te'.zero.cells (n * te'.size)) e)) := by
    obtain ⟨si, ⟨dst, op, type, pos, after, guard⟩, se, sw⟩ := s
    simp only at hop
    subst hop
    simp only [execOp, hen.eval hx, hen.eval hy, Sem.run_bind, hrun, Result.andThen, Sem.run_pure]
    rw [hsz]; simp
  rw [e2]
  refine ⟨_, _, ⟨by rw [hd]; exact hen.put hdl _, Ds, by rw [hd]; exact hds, ?_⟩, k w.heap.size⟩
  have := st.allocT (madeCells te'.zero.cells (n * te'.size)).toList e
  simpa using this
/-- An array written out. -/
def baE (T : TT) (N : Nat) (ops : Array Oper) (env : Env) (o : Oper) : Option (Nat × List Value) :=
  match dstE N ops env o with
  | some d => match o.op with
    | .build t parts => match T.get t with
      | some ti => match ti.desc with
        | .array n e => match T.get e with
          | some te => fillS env te.size parts.toList (vcells ti.zero) fun cs => some (d, cs)
          | none => none
        | _ => none
      | none => none
    | _ => none
  | none => none
theorem SQ.bArr (hT : TTok P T) {s : Stp} {r : List Stp} {obs : Obs} {d : Nat} {cs : List Value} (hk : Nat.ble s.k 1 = true) (h : baE T N ops env s.o = some (d, cs)) (kk : SQ P β rnd N T ops K r obs ((d, .agg cs.toArray) :: env) L) : SQ P β rnd N T ops K (s :: r) obs env L := by
  unfold baE at h
  split at h <;> try (cases h; done)
  rename_i d' hde
  obtain ⟨hw, hd, hdl⟩ := dstE_eq hde
  split at h <;> try (cases h; done)
  rename_i t parts hop
  split at h <;> try (cases h; done)
  rename_i ti hti
  split at h <;> try (cases h; done)
  rename_i n e hde2
  split at h <;> try (cases h; done)
  rename_i te hte
  have hu := (hT.get hti).1.1
  rw [hde2] at hu
  have hdd : d' = d := by
    obtain ⟨cs', _, hk2⟩ := fillS_eq (env := env) (ρ := fun x => (ev env x).getD undef) (fun x v hx => by simp [hx]) h
    simp only [Option.some.injEq, Prod.mk.injEq] at hk2
    exact hk2.1
  subst hdd
  refine SQ.val' hk hw hd hdl (fun ρ hρ w => ?_) kk
  obtain ⟨cs', hf, hk2⟩ := fillS_eq hρ h
  simp only [Option.some.injEq, Prod.mk.injEq] at hk2
  obtain ⟨_, rfl⟩ := hk2
  obtain ⟨si, ⟨dst, op, type, pos, after, guard⟩, se, sw⟩ := s
  simp only at hop
  subst hop
  have hz := (hT.get hti).run_zeroValue (P := P) w
  have hf2 : Instr.fill (fun i => some (i * te.size, te.size)) ti.zero.cells (parts.map fun (x : Nat × Operand) => (x.1, ρ x.2)).toList = some cs'.toArray := by
    have e1 : (vcells ti.zero).toArray = ti.zero.cells := by rw [← vcells_eq]
    rw [← hf, e1]; congr 1; simp
  simp only [execOp, Instr.build, Sem.run_bind, hz, run_underlying hu, Result.andThen, (hT.get hte).run_sizeOf w, hf2, Sem.run_pure]
theorem SQ.yieldA {s : Stp} {r : List Stp} {obs : Obs} {d l : Nat} {args : List Value} (hef : s.k = 1) (h : ylE N ops env s.o = some (d, l, args)) {A F : List Atom} {R : Bool → List Atom → Prop}
    (hY : Yld P β l args A R) (hk : Tk A L F) (k : ∀ b A', R b A' → watchOk β obs (A' ++ F) s.watch ∧ SQ P β rnd N T ops K r obs ((d, .bool b) :: env) (A' ++ F)) : SQ P β rnd N T ops K (s :: r) obs env L :=
  SQ.ent _ hk.gives (SQ.yield hef h hY _ (sel_front A) k)
end
end Go.Proofs.YtebpodnbalfomaaGreatDoor.Sl
namespace Go.Proofs.YtebpodnbalfomaaGreatDoor.Sl
open Go Go.RowKit
set_option linter.unusedVariables false
set_option linter.unusedSimpArgs false
section
variable {P : Program} {β : Base} {cx : Cx} {rnd : Option (Nat × Loop)} {N : Nat} {env : Env} {L : List Atom} {K : Env → List Atom → Prop} {ops : Array Oper} {T : TT}
def BQ (P : Program) (β : Base) (rnd : Option (Nat × Loop)) (N : Nat) (T : TT) (ops : Array Oper) (K : Env → List Atom → Prop) : Nat → Array Bool → Env → List Atom → Prop
  | 0, listed, env, L => Region.ready .any ops listed = [] ∧ K env L
  | f + 1, listed, env, L => Region.ready .any ops listed ≠ [] ∧ ∀ i ∈ Region.ready .any ops listed, ∃ o, ops[i]? = some o ∧ noSD o = true ∧ SQ P β rnd N T ops (BQ P β rnd N T ops K f (listed.setIfInBounds i true)) [⟨i, o, 1, []⟩] [] env L
def AllL (p : Nat → Prop) : List Nat → Prop
  | [] => True
  | i :: r => p i ∧ AllL p r
theorem all_of {p : Nat → Prop} {l : List Nat} (l' : List Nat) (h : l = l') (hp : AllL p l') : ∀ i ∈ l, p i := by
  subst h
  induction l with
  | nil => intro i hi; cases hi
  | cons x r ih =>
    intro i hi
    rcases List.mem_cons.1 hi with rfl | hi
    · exact hp.1
    · exact ih hp.2 i hi
theorem uponIn_Q {F : Fence} {n : Nat} {o : Oper} {a : Act} {next : Act → World → Prop} {Q Q' : Exit → Act → World → Prop} (hp : ∀ c a w, Q' (.panic c) a w → Q (.panic c) a w) (ho : LetsOut Q' → LetsOut Q) {r : Result Next} (h : o.uponIn F n P a next Q' r) : o.uponIn F n P a next Q r := by
  cases r with
  | ok x w' =>
    cases x <;> simp only [Oper.uponIn] at h ⊢ <;>
      first
        | exact h
        | exact ⟨h.1, CallsIn.mono h.2 (fun e w'' he => by cases e <;> first | exact he | exact hp _ _ _ he | exact ho he)⟩
        | exact ⟨h.1, RoundIn.mono h.2 (fun e w'' he => by cases e <;> first | exact he | exact hp _ _ _ he | exact ho he)⟩
  | halt x w' => cases x <;> simp only [Oper.uponIn] at h ⊢ <;> first | exact h | exact hp _ _ _ h
theorem wpOpIn_Q {F : Fence} {n i : Nat} {Q Q' : Exit → Act → World → Prop} (hp : ∀ c a w, Q' (.panic c) a w → Q (.panic c) a w) (ho : LetsOut Q' → LetsOut Q) {k : Act → World → Prop} {a : Act} {w : World} (h : wpOpIn F n P ops Q' i k a w) : wpOpIn F n P ops Q i k a w := by
  unfold wpOpIn at h ⊢
  split at h
  · exact h
  · split at h
    · rename_i hw; rw [if_pos hw]; exact ⟨h.1, uponIn_Q hp ho h.2⟩
    · rename_i hw; rw [if_neg hw]; exact h
theorem BQ.sound (hT : TTok P T) {Q : Post} (hK : ∀ env L, K env L → Q .normal env L) (n : Nat) : ∀ (f : Nat) (listed : Array Bool) {env : Env} {L : List Atom}, BQ P β cx.rnd N T ops K f listed env L → ∀ (a : Act) (w : World),
    St β cx N env L a w → wpAnyIn (Fr cx) n P .any ops (up β cx N Q) f listed a w
  | 0, listed, env, L, h, a, w, s => ⟨h.1, env, L, s, hK _ _ h.2⟩
  | f + 1, listed, env, L, h, a, w, s => by
    refine ⟨fun h0 => absurd h0 h.1, fun i hi => ?_⟩
    obtain ⟨o, ho, hs, hq⟩ := h.2 i hi
    let Q' : Exit → Act → World → Prop := fun e a w => match e with
      | .normal => wpAnyIn (Fr cx) n P .any ops (up β cx N Q) f (listed.setIfInBounds i true) a w
      | _ => False
    have h1 := hq.sound0 hT i n Q' a w (fun j hj => by
      simp only [List.length_singleton, Nat.lt_one_iff] at hj
      subst hj; simpa using ho) (fun s' hs' => by simp at hs'; subst hs'; exact hs) (fun a' w' ⟨env', L', st', hb⟩ => BQ.sound hT hK n f _ hb a' w' st') s
    simp only [List.length_singleton, List.range'_one] at h1
    rw [wpOpsIn_cons] at h1
    exact wpOpIn_Q (fun c a w h => h.elim) (fun ⟨_, _, h⟩ => h.elim) h1
end
end Go.Proofs.YtebpodnbalfomaaGreatDoor.Sl
namespace Go.Proofs.YtebpodnbalfomaaGreatDoor.Sl
open Go Go.RowKit
set_option linter.unusedVariables false
set_option linter.unusedSimpArgs false
section
variable {P : Program} {β : Base} {cx : Cx} {rnd : Option (Nat × Loop)} {N : Nat} {env : Env} {L : List Atom} {K : Env → List Atom → Prop} {ops : Array Oper} {T : TT}
/-- The block of a slice's row. -/
def gb : Option Addr → Nat
  | some a => a.block
  | none => 0
inductive AtR (q : Option Addr) (n : Nat) (cs : List Value) : List Atom → Prop
  | h {L : List Atom} : AtR q n cs (rowA q n cs :: L)
  | t {A : Atom} {L : List Atom} : AtR q n cs L → AtR q n cs (A :: L)
inductive UpR (q : Option Addr) (n : Nat) (cs cs' : List Value) : List Atom → List Atom → Prop
  | h {L : List Atom} : UpR q n cs cs' (rowA q n cs :: L) (rowA q n cs' :: L)
  | t {A : Atom} {L M : List Atom} : UpR q n cs cs' L M → UpR q n cs cs' (A :: L) (A :: M)
theorem AtR.rm {q : Option Addr} {n : Nat} {cs : List Value} (h : AtR q n cs L) : ∃ M, L.Perm (rowA q n cs :: M) := by
  induction h with
  | h => exact ⟨_, List.Perm.refl _⟩
  | t _ ih => obtain ⟨M, p⟩ := ih; exact ⟨_, (List.Perm.cons _ p).trans (List.Perm.swap _ _ _)⟩
theorem UpR.rm {q : Option Addr} {n : Nat} {cs cs' : List Value} {L M : List Atom} (h : UpR q n cs cs' L M) : ∃ R, L.Perm (rowA q n cs :: R) ∧ M.Perm (rowA q n cs' :: R) := by
  induction h with
  | h => exact ⟨_, List.Perm.refl _, List.Perm.refl _⟩
  | t _ ih => obtain ⟨R, p, p'⟩ := ih; exact ⟨_, (List.Perm.cons _ p).trans (List.Perm.swap _ _ _), (List.Perm.cons _ p').trans (List.Perm.swap _ _ _)⟩
theorem row_is {q : Option Addr} {n : Nat} {cs : List Value} (hn : 0 < n) : Ent [rowA q n cs] [pureA (q = some ⟨gb q, 0, none⟩), rowA q n cs] := fun h s => by
  obtain ⟨h1, h2, ho, e0, d, rfl⟩ := s
  rcases ho with ⟨_, h0, _⟩ | ⟨g, rest, hq, hp⟩
  · omega
  · exact Ent.pureA (by subst hq; rfl) _ ⟨h1, h2, .inr ⟨g, rest, hq, hp⟩, e0, d, rfl⟩
theorem RdAt.row {q : Option Addr} {n : Nat} {cs : List Value} {off : Nat} {i : TI} {v : Value} (ha : AtR q n cs L) (hn : 0 < n) (hv : ∀ X, rdv i (cs ++ X) off = some v) : RdAt β L (gb q) off i v := fun H w st => by
  obtain ⟨M, p⟩ := ha.rm
  have st2 := st.perm (List.Perm.append_left H p)
  obtain ⟨k, ho, hw⟩ := st2.at_ (i := H.length) (A := rowA q n cs) (by simp)
  rcases ho with ⟨_, h0, _⟩ | ⟨g, rest, rfl, t, rfl⟩
  · omega
  · exact ⟨cs ++ rest, t, (0, 0), (hw g (.cells (cs ++ rest).toArray t (0, 0)) (by simp [Hp.one])).2, hv rest⟩
theorem SQ.ldR (hT : TTok P T) {s : Stp} {r : List Stp} {obs : Obs} {d off : Nat} {i : TI} {q : Option Addr} (hk : Nat.ble s.k 1 = true) (h : ldE T N ops env s.o = some (d, gb q, off, i)) {n : Nat} {cs : List Value} {v : Value} (ha : AtR q n cs L) (hn : 0 < n)
    (hv : ∀ X, rdv i (cs ++ X) off = some v) (k : SQ P β rnd N T ops K r ((s.i, ⟨gb q, off, i, v⟩) :: obs) ((d, v) :: env) L) : SQ P β rnd N T ops K (s :: r) obs env L := by
  obtain ⟨hw, t0, x, ho, hd, hx, hi, hlt⟩ := ldE_eq h
  refine .ld ⟨gb q, off, i, v⟩ hk hw (by simpa [dstOk, hd, Nat.blt_eq] using hlt) (ldE_isLd h) (fun ρ hρ w hw' => ?_) (fun H w st => RdAt.row ha hn hv H w st) (by rw [hd]; exact k)
  obtain ⟨cs', t, fz, hb', hv'⟩ := hw'
  exact ld_run hT h hρ hb' hv'
theorem SQ.stR (hT : TTok P T) {s : Stp} {r : List Stp} {obs : Obs} {off : Nat} {i : TI} {v : Value} {q : Option Addr} (he : s.k = 1) (h : stE T N ops env s.o = some (gb q, off, i, v)) {n : Nat} {cs cs' : List Value} {M : List Atom} (hu : UpR q n cs cs' L M) (hn : 0 < n)
    (hs : scal (vcells v) = true) (hv : ∀ X, wrv i (cs ++ X) off v = some (cs' ++ X)) (hwt : watchOk β obs M s.watch) (k : SQ P β rnd N T ops K r obs env M) : SQ P β rnd N T ops K (s :: r) obs env L := by
  obtain ⟨R, p, p'⟩ := hu.rm
  refine SQ.ent _ ((Ent.perm p).trans (Ent.head (row_open hn))) (SQ.open_ fun x => SQ.pure_ fun hq => ?_)
  obtain ⟨g, rest⟩ := x
  simp only at hq
  subst hq
  have e : Ent (pt g (cs' ++ rest) :: R) M := (Ent.head row_close).trans (Ent.perm p'.symm)
  exact SQ.stA hT he h Up.h hs (hv rest) (hwt.ent e) (SQ.ent _ e k)
/-- A slice's element's place, wherever its row lies. -/
def idxRE (T : TT) (N : Nat) (ops : Array Oper) (env : Env) (o : Oper) : Option (Nat × Option Addr × Nat × Int × Nat) :=
  match dstE N ops env o with
  | some d => match o.op with
    | .indexAddr t x y => match ev env y with
      | some (.int _ i) => match T.get t, ev env x with
        | some ti, some (.slice q len _) => match ti.desc with
          | .slice e => match T.get e with
            | some te => some (d, q, len, i, te.size)
            | none => none
          | _ => none
        | _, _ => none
      | _ => none
    | _ => none
  | none => none
theorem idxRE_eq {o : Oper} {d len sz b off : Nat} {i : Int} {q : Option Addr} (h : idxRE T N ops env o = some (d, q, len, i, sz)) (hq : q = some ⟨b, off, none⟩) : idxE T N ops env o = some (d, b, off, len, i, sz) := by
  unfold idxRE at h
  unfold idxE
  split at h <;> try (cases h; done)
  rename_i d' hde
  rw [hde]
  simp only
  split at h <;> try (cases h; done)
  rename_i t x y hop
  rw [hop]
  simp only
  split at h <;> try (cases h; done)
  rename_i kk i' hy
  rw [hy]
  simp only
  split at h <;> try (cases h; done)
  rename_i ti q' len' cap' hti hx
  split at h <;> try (cases h; done)
  rename_i e hde2
  split at h <;> try (cases h; done)
  rename_i te hte
  simp only [Option.some.injEq, Prod.mk.injEq] at h
  obtain ⟨rfl, rfl, rfl, rfl, rfl⟩ := h
  rw [hti, hx, hq]
  simp only
  rw [hde2]
  simp only
  rw [hte]
theorem SQ.idxR (hT : TTok P T) {s : Stp} {r : List Stp} {obs : Obs} {d len sz : Nat} {i : Int} {q : Option Addr} (hk : Nat.ble s.k 1 = true) (h : idxRE T N ops env s.o = some (d, q, len, i, sz)) {cs : List Value} (ha : AtR q len cs L) (j : Nat) (hj : i = (j : Int)) (hlt : j < len) {o' : Nat} (ho : 0 + j * sz = o')
    (k : SQ P β rnd N T ops K r obs ((d, .pointer (some ⟨gb q, o', none⟩)) :: env) L) : SQ P β rnd N T ops K (s :: r) obs env L := by
  obtain ⟨M, p⟩ := ha.rm
  refine SQ.ent _ ((Ent.perm p).trans (Ent.head (row_is (by omega)))) (SQ.pure_ fun hq => SQ.ent _ (Ent.perm p.symm) ?_)
  exact SQ.idx hT hk (idxRE_eq h hq) j hj hlt ho k
theorem ir_ (hT : TTok P T) {s : Stp} {r : List Stp} {obs : Obs} {d len sz : Nat} {i : Int} {q : Option Addr} (hk : Nat.ble s.k 1 = true) (h : idxRE T N ops env s.o = some (d, q, len, i, sz)) {cs : List Value} (j : Nat) (hj : i = (j : Int)) {o' : Nat} (ho : 0 + j * sz = o')
    (k : SQ P β rnd N T ops K r obs ((d, .pointer (some ⟨gb q, o', none⟩)) :: env) L) (ha : AtR q len cs L := by repeat (first | exact .h | apply AtR.t)) (hlt : j < len) : SQ P β rnd N T ops K (s :: r) obs env L := SQ.idxR hT hk h ha j hj hlt ho k
theorem lr_ (hT : TTok P T) {s : Stp} {r : List Stp} {obs : Obs} {d off : Nat} {i : TI} {q : Option Addr} (hk : Nat.ble s.k 1 = true) (h : ldE T N ops env s.o = some (d, gb q, off, i)) {n : Nat} {cs : List Value} {v : Value}
    (hv : ∀ X, rdv i (cs ++ X) off = some v) (k : SQ P β rnd N T ops K r ((s.i, ⟨gb q, off, i, v⟩) :: obs) ((d, v) :: env) L) (ha : AtR q n cs L := by repeat (first | exact .h | apply AtR.t)) (hn : 0 < n := by omega) : SQ P β rnd N T ops K (s :: r) obs env L := SQ.ldR hT hk h ha hn hv k
theorem sr_ (hT : TTok P T) {s : Stp} {r : List Stp} {obs : Obs} {off : Nat} {i : TI} {v : Value} {q : Option Addr} (he : s.k = 1) (h : stE T N ops env s.o = some (gb q, off, i, v)) {n : Nat} {cs cs' : List Value} {M : List Atom}
    (hv : ∀ X, wrv i (cs ++ X) off v = some (cs' ++ X)) (k : SQ P β rnd N T ops K r obs env M) (hu : UpR q n cs cs' L M := by repeat (first | exact .h | apply UpR.t)) (hn : 0 < n := by omega) (hs : scal (vcells v) = true := by rfl)
    (hw : watchOk β obs M s.watch := by repeat (first | exact trivial | refine ⟨trivial, ?_⟩ | refine ⟨wk (by repeat (first | exact .h | exact .q | apply At.t)) (by rfl), ?_⟩)) : SQ P β rnd N T ops K (s :: r) obs env L := SQ.stR hT he h hu hn hs hv hw k
theorem rr_ {q : Option Addr} {n : Nat} {cs : List Value} {off : Nat} {i : TI} {v : Value} (hv : ∀ X, rdv i (cs ++ X) off = some v) (ha : AtR q n cs L := by repeat (first | exact .h | apply AtR.t)) (hn : 0 < n := by omega) : RdAt β L (gb q) off i v := RdAt.row ha hn hv
def go : Option Addr → Nat
  | some a => a.off
  | none => 0
/-- The atom A holds what the slice q shows: n elements of sz cells. -/
def SlR (β : Base) (A : Atom) (q : Option Addr) (n sz : Nat) (cs : List Value) : Prop := ∀ h, A h → n = 0 ∨ ∃ (g off : Nat) (cur : List Value), q = some ⟨g, off, none⟩ ∧ (cur.drop off).take (n * sz) = cs ∧
  ((∃ t fz, h g = some (.cells cur.toArray t fz)) ∨ (g < β.heap.size ∧ ∃ t fz, β.heap[g]? = some (.cells cur.toArray t fz)))
theorem slr_row {q : Option Addr} {n sz : Nat} {cs : List Value} (hl : cs.length = n * sz) : SlR β (rowA q n cs) q n sz cs := fun h a => by
  rcases a with ⟨_, hn, _⟩ | ⟨g, rest, hq, t, rfl⟩
  · exact .inl hn
  · exact .inr ⟨g, 0, cs ++ rest, hq, by rw [List.drop_zero, ← hl]; exact List.take_left, .inl ⟨t, (0, 0), by simp [Hp.one]⟩⟩
theorem slr_own {e sz n c : Nat} {q : Option Addr} {cs : List Value} : SlR β (own e sz (.slice q n c) n cs) q n sz cs := fun h a => by
  obtain ⟨hl, ⟨hv, hn, _⟩ | ⟨g, cap, cur, hv, hnc, hcl, htk, rfl⟩⟩ := a
  · exact .inl hn
  · injection hv with h1 _ _
    exact .inr ⟨g, 0, cur, h1, by simpa using htk, .inl ⟨e, (0, 0), by simp [Hp.one]⟩⟩
inductive AtA (A : Atom) : List Atom → Prop
  | h {L : List Atom} : AtA A (A :: L)
  | t {B : Atom} {L : List Atom} : AtA A L → AtA A (B :: L)
theorem AtA.rm {A : Atom} (h : AtA A L) : ∃ M, L.Perm (A :: M) := by
  induction h with
  | h => exact ⟨_, List.Perm.refl _⟩
  | t _ ih => obtain ⟨M, p⟩ := ih; exact ⟨_, (List.Perm.cons _ p).trans (List.Perm.swap _ _ _)⟩
theorem SlR.is {A : Atom} {q : Option Addr} {n sz : Nat} {cs : List Value} (r : SlR β A q n sz cs) (hn : 0 < n) : Ent [A] [pureA (q = some ⟨gb q, go q, none⟩), A] := fun h s => by
  obtain ⟨h1, h2, ho, e0, d, rfl⟩ := s
  rcases r h1 ho with h0 | ⟨g, off, cur, hq, _⟩
  · omega
  · exact Ent.pureA (by subst hq; rfl) _ ⟨h1, h2, ho, e0, d, rfl⟩
/-- 'append(x, y...)': x owns its row. -/
theorem SQ.appA (hT : TTok P T) {s : Stp} {r : List Stp} {obs : Obs} {d e b off n c m : Nat} {te : TI} {q : Option Addr} (he : s.k = 1) (h : apE T N ops env s.o = some (d, e, te, .slice q n c, b, off, m)) {cs : List Value} {M : List Atom} (hk : Rm (own e te.size (.slice q n c) n cs) L M)
    {q2 : Bool} {cs2 : List Value} (ha : At β b M q2 cs2) (news : List Value) (hn : (cs2.drop off).take news.length = news) (hl : news.length = m * te.size) (hz : (vcells te.zero).length = te.size) (h1 : ∀ u ∈ news, u.oneCell' = true)
    (h63 : n + m ≤ 4611686018427387904) (hby : (n + m) * te.bytes ≤ 140737488355328)
    (k : ∀ q' c', watchOk β obs (own e te.size (.slice q' (n + m) c') (n + m) (cs ++ news) :: M) s.watch ∧ SQ P β rnd N T ops K r obs ((d, .slice q' (n + m) c') :: env) (own e te.size (.slice q' (n + m) c') (n + m) (cs ++ news) :: M)) : SQ P β rnd N T ops K (s :: r) obs env L := by
  obtain ⟨j, hj⟩ := ha.idx
  refine SQ.ent _ hk.gives ?_
  refine SQ.append hT he h 0 rfl (j + 1) (by simpa using hj) news hn hl hz h1 h63 hby (fun v' => ?_)
  simp only [List.eraseIdx_cons_zero]
  have sh : Ent (own e te.size v' (n + m) (cs ++ news) :: M) (exA (fun x : Option Addr × Nat => [pureA (v' = .slice x.1 (n + m) x.2), own e te.size v' (n + m) (cs ++ news)]) :: M) := Ent.head (own_shape _ _ _ _ _)
  refine ⟨watchOk.ent sh (watchOk.open_ fun x => watchOk.pure_ fun hv => ?_), SQ.ent _ sh (SQ.open_ fun x => SQ.pure_ fun hv => ?_)⟩
  · subst hv; exact (k x.1 x.2).1
  · subst hv; exact (k x.1 x.2).2
inductive UpO (e sz : Nat) (q : Option Addr) (n c : Nat) (cs cs' : List Value) : List Atom → List Atom → Prop
  | h {L : List Atom} : UpO e sz q n c cs cs' (own e sz (.slice q n c) n cs :: L) (own e sz (.slice q n c) n cs' :: L)
  | t {A : Atom} {L M : List Atom} : UpO e sz q n c cs cs' L M → UpO e sz q n c cs cs' (A :: L) (A :: M)
theorem UpO.rm {e sz n c : Nat} {q : Option Addr} {cs cs' : List Value} {L M : List Atom} (h : UpO e sz q n c cs cs' L M) : ∃ R, L.Perm (own e sz (.slice q n c) n cs :: R) ∧ M.Perm (own e sz (.slice q n c) n cs' :: R) := by
  induction h with
  | h => exact ⟨_, List.Perm.refl _, List.Perm.refl _⟩
  | t _ ih => obtain ⟨R, p, p'⟩ := ih; exact ⟨_, (List.Perm.cons _ p).trans (List.Perm.swap _ _ _), (List.Perm.cons _ p').trans (List.Perm.swap _ _ _)⟩
theorem CW.rangeA {Q : Post} {g : Operand} {ps : Array Tmp} {assign body : Code} {gf : Nat} {cap : Array Value} (hg : ev env g = some (.func (.func gf) #[] cap)) {A L0 : List Atom} {α : Type} {encs : α → List Value} {xs : List α}
    (hI : Iter P β gf cap.toList A encs xs) (hk : Tk A L L0) (I : List α → List Atom) (stop : Code → List Atom → Prop) (hL0 : Ent L0 (I [])) (hps : ∀ x, (encs x).length = ps.size) (hpN : ∀ p ∈ ps.toList, p < N)
    (hbody : ∀ pre x, (pre ++ [x]) <+: xs → ∀ l fm rec1, CW P β ⟨some (l, rec1), fm⟩ N assign (bindps ps.toList (encs x) env) (I pre ++ A) (thn (fun env2 L2 => ∀ fm2 rec2, CW P β ⟨some (l, rec2), fm2⟩ N body env2 L2 (rndQ (I (pre ++ [x])) stop A)) (fun _ _ _ => False)))
    (hdone : Q .normal env (I xs ++ A)) (hstop : ∀ c M, stop c M → CW P β cx N c env (M ++ A) Q) : CW P β cx N (.rangeFunc g ps assign body) env L Q :=
  CW.ent hk.gives (CW.rangeFunc hg hI (List.replicate A.length 0) (sel_front A) I stop hL0 hps hpN hbody hdone hstop)
theorem perm_ix {α : Type} : ∀ {L : List α} {i : Nat} {A : α}, L[i]? = some A → L.Perm (A :: L.eraseIdx i)
  | [], _, _, h => by simp at h
  | B :: L, 0, A, h => by simp at h; subst h; exact List.Perm.refl _
  | B :: L, i + 1, A, h => by
    have := perm_ix (L := L) (i := i) (A := A) (by simpa using h)
    exact (List.Perm.cons B this).trans (List.Perm.swap A B _)
/-- Things of one kind, each in rows of its own. -/
def pkA {α : Type} (f : α → List Atom) (l : List α) : Atom := packA (l.flatMap f)
theorem pk_open {α : Type} {f : α → List Atom} {l : List α} {k : Nat} {x : α} (h : l[k]? = some x) : Ent [pkA f l] (f x ++ [pkA f (l.eraseIdx k)]) := by
  have p : (l.flatMap f).Perm (f x ++ (l.eraseIdx k).flatMap f) := by
    have := (perm_ix h).flatMap_right f
    simpa using this
  have e1 := Ent.unpack (l.flatMap f) []
  rw [List.append_nil] at e1
  refine e1.trans ((Ent.perm p).trans (Ent.append (Ent.refl _) ?_))
  have e2 := Ent.pack ((l.eraseIdx k).flatMap f) []
  rw [List.append_nil] at e2
  exact e2
theorem pk_close {α : Type} {f : α → List Atom} {l : List α} {k : Nat} (x : α) (h : k < l.length) : Ent (f x ++ [pkA f (l.eraseIdx k)]) [pkA f (l.set k x)] := by
  have h2 : (l.set k x)[k]? = some x := List.getElem?_set_self h
  have p : (f x ++ (l.eraseIdx k).flatMap f).Perm ((l.set k x).flatMap f) := by
    have := (perm_ix h2).flatMap_right f
    rw [List.eraseIdx_set_eq] at this
    simpa using this.symm
  have e1 := Ent.unpack ((l.eraseIdx k).flatMap f) []
  rw [List.append_nil] at e1
  have e2 := Ent.pack ((l.set k x).flatMap f) []
  rw [List.append_nil] at e2
  exact (Ent.append (Ent.refl _) e1).trans ((Ent.perm p).trans e2)
theorem set_same_ {α : Type} {l : List α} {k : Nat} {x : α} (h : l[k]? = some x) : l.set k x = l := by
  apply List.ext_getElem?
  intro i
  by_cases e : k = i
  · subst e
    rw [List.getElem?_set_self (List.getElem?_eq_some_iff.1 h).1, h]
  · rw [List.getElem?_set_ne e]
theorem pk_shut {α : Type} {f : α → List Atom} {l : List α} {k : Nat} {x : α} (h : l[k]? = some x) : Ent (f x ++ [pkA f (l.eraseIdx k)]) [pkA f l] := by
  have := pk_close (f := f) x (List.getElem?_eq_some_iff.1 h).1
  rw [set_same_ h] at this
  exact this
theorem pk_nil {α : Type} {f : α → List Atom} {L : List Atom} : Ent L (pkA f [] :: L) := fun h s => ⟨h, ⟨Hp.emp, h, rfl, s, Hp.emp_disj _, (Hp.emp_add _).symm⟩, Hp.le_refl h⟩
theorem pk_snoc {α : Type} {f : α → List Atom} {l : List α} {x : α} : Ent (f x ++ [pkA f l]) [pkA f (l ++ [x])] := by
  have e1 := Ent.unpack (l.flatMap f) []
  rw [List.append_nil] at e1
  have e2 := Ent.pack ((l ++ [x]).flatMap f) []
  rw [List.append_nil] at e2
  refine (Ent.append (Ent.refl _) e1).trans (Ent.trans (Ent.perm ?_) e2)
  rw [List.flatMap_append]
  simp only [List.flatMap_cons, List.flatMap_nil, List.append_nil]
  exact List.perm_append_comm
end
end Go.Proofs.YtebpodnbalfomaaGreatDoor.Sl
namespace Go.Proofs.YtebpodnbalfomaaGreatDoor.Sl
open Go Go.RowKit
set_option linter.unusedVariables false
set_option linter.unusedSimpArgs false
section
variable {P : Program} {β : Base} {cx : Cx} {rnd : Option (Nat × Loop)} {N : Nat} {env : Env} {L : List Atom} {K : Env → List Atom → Prop} {ops : Array Oper} {T : TT}
end
end Go.Proofs.YtebpodnbalfomaaGreatDoor.Sl

