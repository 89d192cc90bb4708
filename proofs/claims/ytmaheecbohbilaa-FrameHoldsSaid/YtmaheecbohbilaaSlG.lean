/-
  Slices: places in them; made, appended to.
-/
import Derived.Test.YtmaheecbohbilaaSlF
import Derived.Laws.AppendOwn
namespace Go.Proofs.Ytmaheecbohbilaa.Sl
open Go Go.RowKit
set_option linter.unusedVariables false
set_option linter.unusedSimpArgs false

section
variable {P : Program} {β : Base} {cx : Cx} {rnd : Option (Nat × Loop)} {N : Nat} {env : Env} {L : List Atom} {K : Env → List Atom → Prop} {ops : Array Oper} {T : TT}

/-- An operation that yields a value, whatever the memory. -/
theorem SQ.val' {s : Stp} {r : List Stp} {obs : Obs} {d : Nat} {v : Value} (hk : Nat.ble s.k 1 = true) (hw : wants ops env s.o = some true) (hd : s.o.dst = some d) (hlt : d < N)
    (hv : ∀ ρ : Operand → Value, (∀ x u, ev env x = some u → ρ x = u) → ∀ w, (execOp ρ s.o).run P w = .ok (.value v) w) (k : SQ P β rnd N T ops K r obs ((d, v) :: env) L) : SQ P β rnd N T ops K (s :: r) obs env L :=
  .val v hk hw (by simp [dstOk, hd, Nat.blt_eq, hlt]) hv (by rw [hd]; exact k)

/-! ### Places -/
/-- A slice's element's place, or an array's. -/
def idxE (T : TT) (N : Nat) (ops : Array Oper) (env : Env) (o : Oper) : Option (Nat × Nat × Nat × Nat × Int × Nat) :=
  match dstE N ops env o with
  | some d => match o.op with
    | .indexAddr t x y => match ev env y with
      | some (.int _ i) => match T.get t, ev env x with
        | some ti, some (.slice (some ⟨b, off, none⟩) len _) => match ti.desc with
          | .slice e => match T.get e with
            | some te => some (d, b, off, len, i, te.size)
            | none => none
          | _ => none
        | some ti, some (.pointer (some ⟨b, off, none⟩)) => match ti.desc with
          | .array n e => match T.get e with
            | some te => some (d, b, off, n, i, te.size)
            | none => none
          | _ => none
        | _, _ => none
      | _ => none
    | _ => none
  | none => none
theorem addr_add (b off n : Nat) : (⟨b, off, none⟩ : Addr).add n = ⟨b, off + n, none⟩ := by
  unfold Addr.add; split <;> simp_all
theorem SQ.idx (hT : TTok P T) {s : Stp} {r : List Stp} {obs : Obs} {d b off len sz : Nat} {i : Int} (hk : Nat.ble s.k 1 = true) (h : idxE T N ops env s.o = some (d, b, off, len, i, sz)) (j : Nat) (hj : i = (j : Int)) (hlt : j < len) {o' : Nat} (ho : off + j * sz = o')
    (k : SQ P β rnd N T ops K r obs ((d, .pointer (some ⟨b, o', none⟩)) :: env) L) : SQ P β rnd N T ops K (s :: r) obs env L := by
  unfold idxE at h
  split at h <;> try (cases h; done)
  rename_i d' hde
  obtain ⟨hw, hd, hdl⟩ := dstE_eq hde
  split at h <;> try (cases h; done)
  rename_i t x y hop
  split at h <;> try (cases h; done)
  rename_i kk i' hy
  subst ho
  split at h
  · rename_i ti b' off' len' cap' hti hx
    split at h <;> try (cases h; done)
    rename_i e hde2
    split at h <;> try (cases h; done)
    rename_i te hte
    simp only [Option.some.injEq, Prod.mk.injEq] at h
    obtain ⟨rfl, rfl, rfl, rfl, rfl, rfl⟩ := h
    refine SQ.val' hk hw hd hdl (fun ρ hρ w => ?_) k
    obtain ⟨si, ⟨dst, op, type, pos, after, guard⟩, se, sw⟩ := s
    simp only at hop
    subst hop
    have hu := (hT.get hti).1.1
    rw [hde2] at hu
    subst hj
    have h1 : (0 : Int) ≤ (j : Int) ∧ ((j : Int) < (len' : Int)) := by omega
    simp only [execOp, hρ _ _ hx, hρ _ _ hy]
    simp [Instr.indexAt, asIntOf, run_underlying hu, h1, (hT.get hte).run_sizeOf, addr_add, hlt]
  · rename_i ti b' off' hti hx
    split at h <;> try (cases h; done)
    rename_i n e hde2
    split at h <;> try (cases h; done)
    rename_i te hte
    simp only [Option.some.injEq, Prod.mk.injEq] at h
    obtain ⟨rfl, rfl, rfl, rfl, rfl, rfl⟩ := h
    refine SQ.val' hk hw hd hdl (fun ρ hρ w => ?_) k
    obtain ⟨si, ⟨dst, op, type, pos, after, guard⟩, se, sw⟩ := s
    simp only at hop
    subst hop
    have hu := (hT.get hti).1.1
    rw [hde2] at hu
    subst hj
    have h1 : (0 : Int) ≤ (j : Int) ∧ ((j : Int) < (n : Int)) := by omega
    simp only [execOp, hρ _ _ hx, hρ _ _ hy]
    simp [Instr.indexAt, asIntOf, run_underlying hu, h1, (hT.get hte).run_sizeOf, addr_add, hlt, Instr.sureAddr]
  · cases h
/-- An array's element, of a value. -/
def ixE (T : TT) (N : Nat) (ops : Array Oper) (env : Env) (o : Oper) : Option (Nat × List Value × Nat × Int × TI) :=
  match dstE N ops env o with
  | some d => match o.op with
    | .index t x y => match ev env y with
      | some (.int _ i) => match T.get t, ev env x with
        | some ti, some (.agg cs) => match ti.desc with
          | .array n e => match T.get e with
            | some te => some (d, cs.toList, n, i, te)
            | none => none
          | _ => none
        | _, _ => none
      | _ => none
    | _ => none
  | none => none
theorem SQ.ix (hT : TTok P T) {s : Stp} {r : List Stp} {obs : Obs} {d n : Nat} {cs : List Value} {i : Int} {te : TI} (hk : Nat.ble s.k 1 = true) (h : ixE T N ops env s.o = some (d, cs, n, i, te)) (j : Nat) (hj : i = (j : Int)) (hlt : j < n) {v : Value} (hv : rdv te cs (j * te.size) = some v)
    (k : SQ P β rnd N T ops K r obs ((d, v) :: env) L) : SQ P β rnd N T ops K (s :: r) obs env L := by
  unfold ixE at h
  split at h <;> try (cases h; done)
  rename_i d' hde
  obtain ⟨hw, hd, hdl⟩ := dstE_eq hde
  split at h <;> try (cases h; done)
  rename_i t x y hop
  split at h <;> try (cases h; done)
  rename_i kk i' hy
  split at h <;> try (cases h; done)
  rename_i ti cs' hti hx
  split at h <;> try (cases h; done)
  rename_i n' e hde2
  split at h <;> try (cases h; done)
  rename_i te' hte
  simp only [Option.some.injEq, Prod.mk.injEq] at h
  obtain ⟨rfl, rfl, rfl, rfl, rfl⟩ := h
  refine SQ.val' hk hw hd hdl (fun ρ hρ w => ?_) k
  obtain ⟨si, ⟨dst, op, type, pos, after, guard⟩, se, sw⟩ := s
  simp only at hop
  subst hop
  have hu := (hT.get hti).1.1
  rw [hde2] at hu
  subst hj
  have h1 : (0 : Int) ≤ (j : Int) ∧ ((j : Int) < (n' : Int)) := by omega
  have h2 := run_part_of (P := P) (hT.get hte) (cs := cs') (off := j * te'.size) hv w
  simp only [execOp, hρ _ _ hx, hρ _ _ hy]
  simp [Instr.index, asIntOf, run_underlying hu, h1, (hT.get hte).run_sizeOf, hlt, h2]

/-! ### A slice of the call's own -/
/-- The slice value v, of n elements of sz cells of type e each, owns its row: the cells cs, and room behind them. -/
def own (e sz : Nat) (v : Value) (n : Nat) (cs : List Value) : Atom := fun h =>
  cs.length = n * sz ∧ ((v = .slice none 0 0 ∧ n = 0 ∧ h = Hp.emp) ∨
    ∃ g cap cur, v = .slice (some ⟨g, 0, none⟩) n cap ∧ n ≤ cap ∧ (cur : List Value).length = cap * sz ∧ cur.take (n * sz) = cs ∧ h = Hp.one g (.cells cur.toArray e (0, 0)))
theorem own_nil (e sz : Nat) : Ent L (own e sz (.slice none 0 0) 0 [] :: L) := fun h s =>
  ⟨h, ⟨Hp.emp, h, ⟨by simp, .inl ⟨rfl, rfl, rfl⟩⟩, s, Hp.emp_disj _, (Hp.emp_add _).symm⟩, Hp.le_refl h⟩
theorem own_len {e sz n : Nat} {v : Value} {cs : List Value} {h : Hp} (o : own e sz v n cs h) : cs.length = n * sz := o.1
/-- Where a part of memory is read: a row's cells. -/
def Reads (β : Base) (w : World) (b off : Nat) (news : List Value) : Prop := ∀ j u, news[j]? = some u → w.cell? ((⟨b, off, none⟩ : Addr).add j) = some u
theorem reads_of {w : World} {H : List Atom} {q : Bool} {b off j : Nat} {cs news : List Value} (s : Sat β w (H ++ L)) (hL : L[j]? = some (pq β q b cs)) (hn : (cs.drop off).take news.length = news) : Reads β w b off news := by
  have e0 : (H ++ L)[H.length + j]? = some (pq β q b cs) := by rw [List.getElem?_append_right (by omega)]; simpa using hL
  obtain ⟨t, fz, e⟩ := s.cell_pq e0
  intro k u hk
  have hlt : k < news.length := (List.getElem?_eq_some_iff.1 hk).1
  rw [addr_add]
  rw [← hn, List.getElem?_take_of_lt hlt, List.getElem?_drop] at hk
  simp [World.cell?, e, hk]
theorem Sat.append {w : World} {R : List Atom} {t ty e : Nat} {i : TI} (ht : P.underlying t = some (.slice e)) (hi : TIok P e i) (hz : (vcells i.zero).length = i.size) {v : Value} {n : Nat} {cs : List Value} (s : Sat β w (own e i.size v n cs :: R))
    {b off m c : Nat} {news : List Value} (hl : news.length = m * i.size) (hr : Reads β w b off news) (h1 : ∀ u ∈ news, u.oneCell' = true) (h63 : n + m ≤ 4611686018427387904) (hby : (n + m) * i.bytes ≤ 140737488355328) :
    ∃ v' w', (Builtin.append_ #[t, t] ty #[v, .slice (some ⟨b, off, none⟩) m c]).run P w = .ok v' w' ∧ Sat β w' (own e i.size v' (n + m) (cs ++ news) :: R) := by
  obtain ⟨inf, hinf, hsz, hbt, hzz⟩ := hi.info
  have hzc : i.zero.cells.size = i.size := by rw [← Array.length_toList, vcells_eq]; exact hz
  obtain ⟨hb, h, ⟨h1', h2', ho, st, d, rfl⟩, hw⟩ := s
  obtain ⟨hlen, ho⟩ := ho
  have hlen2 : (cs ++ news).length = (n + m) * i.size := by rw [List.length_append, hlen, hl, Nat.add_mul]
  have rest : ∀ (w2 : World), w2.heap = w.heap → w2.os = w.os → w2.tape = w.tape → w2.output = w.output → Sat β w2 R := fun w2 e1 e2 e3 e4 => by
    have s0 : Sat β w R := ⟨hb, h2', st, fun k o e => hw k o (Hp.le_add_right d k o e)⟩
    exact s0.heap_eq e1 e2 e3 e4
  have grown : ∀ (old : Nat), Sat β (w.drew.alloc (.cells (cs.toArray ++ news.toArray ++ Builtin.zeroCells i.zero.cells (grownCap w (n + m) old e - (n + m))) e)) (own e i.size (.slice (some ⟨w.heap.size, 0, none⟩) (n + m) (grownCap w (n + m) old e)) (n + m) (cs ++ news) :: R) := by
    intro old
    have hge := grownCap_ge w (n + m) old e
    refine (rest w.drew rfl rfl rfl rfl).new _ ⟨hlen2, .inr ⟨w.heap.size, grownCap w (n + m) old e, (cs ++ news ++ (Builtin.zeroCells i.zero.cells (grownCap w (n + m) old e - (n + m))).toList), rfl, hge, ?_, ?_, ?_⟩⟩
    · rw [List.length_append, hlen2, Array.length_toList, size_zeroCells, hzc, ← Nat.add_mul]; congr 1; omega
    · rw [← hlen2]; exact List.take_left
    · congr 2
      apply Array.toList_inj.1
      simp
  rcases ho with ⟨rfl, rfl, rfl⟩ | ⟨g, cap, cur, rfl, hnc, hcl, htk, rfl⟩
  · have hx : cs = [] := List.eq_nil_of_length_eq_zero (by simpa using hlen)
    subst hx
    by_cases hm : m = 0
    · subst hm
      have hn : news = [] := List.eq_nil_of_length_eq_zero (by simpa using hl)
      subst hn
      refine ⟨.slice none 0 0, w, ?_, hb, _, ⟨Hp.emp, h2', ⟨by simp, .inl ⟨rfl, rfl, rfl⟩⟩, st, d, rfl⟩, hw⟩
      simp [Builtin.append_, run_underlying ht, sizeOf, Go.run_typeInfo w hinf, Builtin.lenOf, Builtin.firstCells, loadCells, loadCellsFrom]
    · have hr2 := run_append_nil (P := P) w t ty e inf i.zero ht hinf hzz ⟨b, off, none⟩ m c news (by rw [hsz]; exact hl) hr (by omega) (by omega) (by rw [hbt]; simp only [Nat.zero_add] at hby; omega)
      have hg := grown 0
      simp only [Nat.zero_add, List.nil_append, Array.empty_append] at hg ⊢
      exact ⟨_, _, hr2, hg⟩
  · have hgc := (hw g (.cells cur.toArray e (0, 0)) (by simp [Hp.add, Hp.one])).2
    by_cases hroom : n + m ≤ cap
    · have hfit : n * i.size + news.length ≤ cur.length := by rw [hl, hcl, ← Nat.add_mul]; exact Nat.mul_le_mul_right _ hroom
      have hr2 := run_append_room (P := P) w t ty e inf ht hinf g n cap cur.toArray hgc ⟨b, off, none⟩ m c news (by rw [hsz]; exact hl) hr h1 hroom (by rw [hsz]; simpa using hfit)
      refine ⟨_, _, hr2, ?_⟩
      have s0 : Sat β w ((fun h => h = Hp.one g (.cells cur.toArray e (0, 0))) :: R) := ⟨hb, _, ⟨_, h2', rfl, st, d, rfl⟩, hw⟩
      rw [hsz]
      refine s0.update (o' := .cells (cur.take (n * i.size) ++ news ++ cur.drop (n * i.size + news.length)).toArray e (0, 0)) ⟨hlen2, .inr ⟨g, cap, cur.take (n * i.size) ++ news ++ cur.drop (n * i.size + news.length), rfl, hroom, ?_, ?_, ?_⟩⟩ (fun k => ?_) (by simp) rfl rfl rfl
      · simp only [List.length_append, List.length_take, List.length_drop]; omega
      · rw [htk, ← hlen2]; exact List.take_left
      · rfl
      · by_cases hk : k = g
        · subst hk; rw [if_pos rfl]; exact setRow_heap w k _ _ e _ hgc
        · rw [if_neg hk]; exact setRow_other w g k _ hk
    · have hold : ∀ j u, cs[j]? = some u → w.cell? ((⟨g, 0, none⟩ : Addr).add j) = some u := fun j u hj => by
        have hlt : j < cs.length := (List.getElem?_eq_some_iff.1 hj).1
        rw [addr_add]
        rw [← htk, List.getElem?_take_of_lt (by rw [← hlen]; exact hlt)] at hj
        simp [World.cell?, hgc, hj]
      have hr2 := run_append_grow (P := P) w t ty e inf i.zero ht hinf hzz ⟨g, 0, none⟩ n cap cs (by rw [hsz]; exact hlen) hold ⟨b, off, none⟩ m c news (by rw [hsz]; exact hl) hr (by omega) (by omega) (growslice_fits (by omega) (by rw [hbt]; exact hby))
      exact ⟨_, _, hr2, grown cap⟩
def apE (T : TT) (N : Nat) (ops : Array Oper) (env : Env) (o : Oper) : Option (Nat × Nat × TI × Value × Nat × Nat × Nat) :=
  match dstE N ops env o with
  | some d => match o.op with
    | .call c => match c.callee, c.args.toList, c.argTypes.toList with
      | .builtin .append, [x, y], [t, t2] => match Nat.beq t t2 with
        | true => match T.get t with
          | some ti => match ti.desc with
            | .slice e => match T.get e, ev env x, ev env y with
              | some te, some v, some (.slice (some ⟨b, off, none⟩) m _) => some (d, e, te, v, b, off, m)
              | _, _, _ => none
            | _ => none
          | none => none
        | false => none
      | _, _, _ => none
    | _ => none
  | none => none
/-- 'append(x, y...)' where x owns its row, and y is a row that is at hand. -/
theorem SQ.append (hT : TTok P T) {s : Stp} {r : List Stp} {obs : Obs} {d e b off m : Nat} {te : TI} {v : Value} (he : s.k = 1) (h : apE T N ops env s.o = some (d, e, te, v, b, off, m)) (j1 : Nat) {n : Nat} {cs : List Value} (hL1 : L[j1]? = some (own e te.size v n cs))
    (j2 : Nat) {q : Bool} {cs2 : List Value} (hL2 : L[j2]? = some (pq β q b cs2)) (news : List Value) (hn : (cs2.drop off).take news.length = news) (hl : news.length = m * te.size) (hz : (vcells te.zero).length = te.size) (h1 : ∀ u ∈ news, u.oneCell' = true)
    (h63 : n + m ≤ 4611686018427387904) (hby : (n + m) * te.bytes ≤ 140737488355328)
    (k : ∀ v', watchOk β obs (own e te.size v' (n + m) (cs ++ news) :: L.eraseIdx j1) s.watch ∧ SQ P β rnd N T ops K r obs ((d, v') :: env) (own e te.size v' (n + m) (cs ++ news) :: L.eraseIdx j1)) : SQ P β rnd N T ops K (s :: r) obs env L := by
  unfold apE at h
  split at h <;> try (cases h; done)
  rename_i d' hde
  obtain ⟨hw, hd, hdl⟩ := dstE_eq hde
  split at h <;> try (cases h; done)
  rename_i c hop
  split at h <;> try (cases h; done)
  rename_i x y t t2 hc ha hat
  split at h <;> try (cases h; done)
  rename_i htt
  have htt := Nat.eq_of_beq_eq_true htt
  subst htt
  split at h <;> try (cases h; done)
  rename_i ti hti
  split at h <;> try (cases h; done)
  rename_i e' hde2
  split at h <;> try (cases h; done)
  rename_i te' v0 b0 off0 m0 c0 hte hx hy
  simp only [Option.some.injEq, Prod.mk.injEq] at h
  obtain ⟨rfl, rfl, rfl, rfl, rfl, rfl, rfl⟩ := h
  refine SQ.act he hw fun fm nn Qx a w st0 => ?_
  obtain ⟨hen, Ds, hds, st⟩ := st0
  have hu := (hT.get hti).1.1
  rw [hde2] at hu
  have hr : Reads β w b0 off0 news := reads_of st hL2 hn
  have s1 : Sat β w (own e' te'.size v0 n cs :: (hid Ds ⟨rnd, fm⟩ ++ L.eraseIdx j1)) := st.perm ((List.Perm.append_left _ (perm_at hL1)).trans List.perm_middle)
  obtain ⟨v', w', hrun, s2⟩ := s1.append (P := P) (ty := s.o.type) (c := c0) hu (hT.get hte) hz hl hr h1 h63 hby
  have e2 : (execOp a.eval s.o).run P w = .ok (.value v') w' := by
    obtain ⟨si, ⟨dst, op, type, pos, after, guard⟩, se, sw⟩ := s
    obtain ⟨callee, args, ats⟩ := c
    simp only at hop hc ha hat
    subst hop
    subst hc
    obtain rfl : args = #[x, y] := Array.toList_inj.1 (by simpa using ha)
    obtain rfl : ats = #[t, t] := Array.toList_inj.1 (by simpa using hat)
    simp only [execOp, resolve, invoke, builtin, Sem.run_bind, Sem.run_pure, Result.andThen]
    have e3 : (#[x, y] : Array Operand).map a.eval = #[v0, .slice (some ⟨b0, off0, none⟩) m0 c0] := by simp [hen.eval hx, hen.eval hy]
    rw [e3, hrun]
  rw [e2]
  refine ⟨_, _, ⟨by rw [hd]; exact hen.put hdl v', Ds, by rw [hd]; exact hds, s2.perm List.perm_middle.symm⟩, k v'⟩
end
end Go.Proofs.Ytmaheecbohbilaa.Sl
