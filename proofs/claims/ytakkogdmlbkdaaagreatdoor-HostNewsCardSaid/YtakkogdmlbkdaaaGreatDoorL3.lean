import Derived.Test.YtakkogdmlbkdaaaGreatDoorL2
import Derived.Laws.AppendOwn
import Derived.Laws.Slices
import Derived.Laws.StructEq
namespace Go.Proofs.YtakkogdmlbkdaaaGreatDoor.Sl
open Go Go.RowKit
set_option linter.unusedVariables false
set_option linter.unusedSimpArgs false

section
variable {P : Program} {β : Base} {cx : Cx} {N : Nat} {env : Env} {L : List Atom} {T : TT}

def argEnv : List Value → Nat → Env
 | [], _ => []
 | v :: r, k => (k, v) :: argEnv r (k + 1)
theorem look_argEnv : ∀ (args : List Value) (k t : Nat) (v : Value), look (argEnv args k) t = some v → k ≤ t ∧ args[t - k]? = some v
 | [], _, _, _, h => by simp [argEnv, look] at h
 | u :: r, k, t, v, h => by
  simp only [argEnv, look] at h
  cases hb : Nat.beq k t with
  | true =>
   rw [hb] at h; simp at h; subst h
   have := Nat.eq_of_beq_eq_true hb
   subst this; simp
  | false =>
   rw [hb] at h
   have := look_argEnv r (k + 1) t v h
   refine ⟨by omega, ?_⟩
   rw [show t - k = (t - (k + 1)) + 1 from by omega]
   simpa using this.2
theorem argEnv_ok {args : List Value} (hl : args.length ≤ N) : EnvOk N { tmps := args.toArray ++ Array.replicate (N - args.toArray.size) undef, defers := [] } (argEnv args 0) := by
 refine ⟨by simp; omega, fun t v h => ?_⟩
 have := look_argEnv args 0 t v h
 have h2 : args[t]? = some v := by simpa using this.2
 have hlt := (List.getElem?_eq_some_iff.1 h2).1
 rw [Array.getD_eq_getD_getElem?, Array.getElem?_append_left (by simpa using hlt)]
 simp [h2]
def ResOk (T : TT) (β : Base) (env : Env) (L : List Atom) : List ResultVar → List Value → Prop
 | [], [] => True
 | .tmp t :: rs, v :: vs => look env t = some v ∧ ResOk T β env L rs vs
 | .cell a ty :: rs, v :: vs => (∃ (b off : Nat) (i : TI) (cs : List Value) (j : Nat), look env a = some (.pointer (some ⟨b, off, none⟩)) ∧ L[j]? = some (pt b cs) ∧ T.get ty = some i ∧ rdv i cs off = some v) ∧ ResOk T β env L rs vs
 | _, _ => False
def packV : List Value → Value
 | [v] => v
 | vs => .tuple vs.toArray
def rdRes (tmps : Array Value) : ResultVar → Sem Value
 | .tmp t => pure (tmps.getD t undef)
 | .cell a t => do loadVar t (← asAddr (tmps.getD a undef))
theorem results_eq (fn : Func) (tmps : Array Value) : results fn tmps = (do
  let vs ← fn.results.mapM (rdRes tmps)
  pure (if h : vs.size = 1 then vs[0] else .tuple vs)) := by
 unfold results
 congr 1
theorem results_run (hT : TTok P T) {a : Act} {w : World} {H : List Atom} (he : EnvOk N a env) (st : Sat β w (H ++ L)) : ∀ {rs : List ResultVar} {vs : List Value}, ResOk T β env L rs vs →
  (rs.mapM (rdRes a.tmps) : Sem (List Value)).run P w = .ok vs w
 | [], [], _ => by simp
 | .tmp t :: rs, v :: vs, ⟨h1, h2⟩ => by
  simp only [List.mapM_cons, rdRes, Sem.run_bind, Sem.run_pure, Result.andThen, he.2 t v h1, results_run hT he st h2]
 | .cell ad ty :: rs, v :: vs, ⟨⟨b, off, i, cs, j, h1, hL, hi, hv⟩, h2⟩ => by
  have e0 : (H ++ L)[H.length + j]? = some (pt b cs) := by rw [List.getElem?_append_right (by omega)]; simpa using hL
  obtain ⟨_, t, hb⟩ := st.cell_pt e0
  have e1 := run_loadVar_of (hT.get hi) hb hv
  simp only [List.mapM_cons, rdRes, Sem.run_bind, Sem.run_pure, Result.andThen, he.2 ad _ h1, asAddr, e1, results_run hT he st h2]
 | [], _ :: _, h => h.elim
 | .tmp _ :: _, [], h => h.elim
 | .cell _ _ :: _, [], h => h.elim
theorem results_pack (hT : TTok P T) {a : Act} {w : World} {H : List Atom} (he : EnvOk N a env) (st : Sat β w (H ++ L)) {fn : Func} {vs : List Value} (h : ResOk T β env L fn.results.toList vs) :
  (results fn a.tmps).run P w = .ok (packV vs) w := by
 have e := results_run hT he st h
 rw [results_eq, Array.mapM_eq_mapM_toList]
 simp only [map_eq_pure_bind, Sem.run_bind, e, Result.andThen, Sem.run_pure]
 congr 1
 match vs with
 | [] => rfl
 | [v] => rfl
 | a :: b :: r => rw [dif_neg (by simp)]; rfl
theorem Ent.sel {is : List Nat} {L A F : List Atom} (h : Sl.sel is L (fun A F => some (A, F)) = some (A, F)) : Ent L A := by
 obtain ⟨A2, F2, hp, hk⟩ := sel_eq h
 simp only [Option.some.injEq, Prod.mk.injEq] at hk
 obtain ⟨rfl, rfl⟩ := hk
 exact (Ent.perm hp).trans (Ent.left _ _)
def fnPost (T : TT) (β : Base) (fn : Func) (R : Value → List Atom → Prop) : Post
 | .normal, env, L => ∃ vs A, ResOk T β env L fn.results.toList vs ∧ Ent L A ∧ R (packV vs) A
 | .ret, env, L => ∃ vs A, ResOk T β env L fn.results.toList vs ∧ Ent L A ∧ R (packV vs) A
 | _, _, _ => False
theorem leaves_marks {fn : Func} {n : Nat} {tmps : Array Value} {R : Ending → World → Prop} {F : List Atom} : ∀ (Ds : List Nat) (w : World), Sat β w (Ds.map dfA ++ (F ++ L)) →
  (∀ w', Sat β w' (F ++ L) → LeavesInM Fence.wide n P fn tmps R [] .returning w') → LeavesInM Fence.wide n P fn tmps R (Ds.map mark) .returning w
 | [], w, s, k => k w s
 | D :: Ds, w, s, k => by
  refine ⟨by simp, .inl ⟨D, w.putObj D (.deferred none), rfl, ?_, ?_⟩⟩
  ·obtain ⟨h, rfl, hw⟩ := s.here
   exact run_takeDeferred (hw D (.deferred (some [])) (by simp [Hp.one])).2
  ·refine leaves_marks Ds _ ?_ k
   have s2 : Sat β w ((fun h => h = Hp.one D (.deferred (some []))) :: (Ds.map dfA ++ (F ++ L))) := s
   have hlt : D < w.heap.size := by
    obtain ⟨h, rfl, hw⟩ := s.here
    exact (Array.getElem?_eq_some_iff.1 (hw D (.deferred (some [])) (by simp [Hp.one])).2).1
   exact (s2.update (w' := w.putObj D (.deferred none)) (o' := .deferred none) (A' := fun h => h = Hp.one D (.deferred none)) rfl (fun k => by
    by_cases hk : k = D
    ·subst hk; rw [if_pos rfl]; exact World.putObj_heap_same hlt
    ·rw [if_neg hk]; exact World.putObj_heap_other hk) (by simp [World.putObj]) rfl rfl rfl).ent (Ent.drop _ _)
theorem Tri.intro (hT : TTok P T) {g : FuncId} {fn : Func} {c : Code} {args : List Value} {A : List Atom} {R : Value → List Atom → Prop} (hf : P.funcs[g]? = some fn) (hn : (fn.name == "runtime.NumGoroutine") = false) (hb : fn.body = some c)
  (hN : fn.ntmps = N) (hl : Nat.ble args.length N = true) (h : ∀ F, CW P β ⟨none, F⟩ N c (argEnv args 0) A (fnPost T β fn R)) : Tri P β g args A R := by
 refine ⟨enters_of hf hn hb, fun F n w s => ?_⟩
 have hl' : args.length ≤ N := Nat.le_of_ble_eq_true hl
 refine callsIn_of_wp_marks hf hb trivial ?_ rfl
 rw [hN]
 refine wpIn_mono (h F n _ w ⟨argEnv_ok hl', [], rfl, by simpa [hid, rndA] using s⟩) ?_
 intro e a w' q
 have fin : (∃ env L, St β ⟨none, F⟩ N env L a w' ∧ ∃ vs A, ResOk T β env L fn.results.toList vs ∧ Ent L A ∧ R (packV vs) A) →
   LeavesInM Fence.wide n P fn a.tmps (fun e w' => ∃ v A', e = Ending.returned v ∧ Sat β w' (F ++ A') ∧ R v A') a.defers .returning w' := by
  rintro ⟨env, L, ⟨he, Ds, hds, st⟩, vs, A, hr, hE, hR⟩
  rw [hds]
  refine leaves_marks (F := F) (L := L) Ds w' (by simpa [hid, rndA, List.append_assoc] using st) fun w2 s2 => ?_
  exact ⟨_, results_pack hT he s2 hr, _, A, rfl, s2.ent (Ent.append (Ent.refl F) hE), hR⟩
 cases e with
 | normal => exact fin q
 | ret => exact fin q
 | panic _ => exact q.elim
 | outgrown => exact q.elim
 | exit _ => obtain ⟨_, _, _, q⟩ := q; exact q.elim
 | goto _ => obtain ⟨_, _, _, q⟩ := q; exact q.elim

def resT (env : Env) : List ResultVar → (List Value → Option (List Value)) → Option (List Value)
 | [], k => k []
 | .tmp t :: r, k => match look env t with
  | some v => resT env r fun vs => k (v :: vs)
  | none => none
 | .cell _ _ :: _, _ => none
theorem resT_eq {env : Env} : ∀ {rs : List ResultVar} {k : List Value → Option (List Value)} {r : List Value}, resT env rs k = some r → ∃ vs, ResOk T β env L rs vs ∧ k vs = some r
 | [], k, r, h => ⟨[], trivial, h⟩
 | .tmp t :: rs, k, r, h => by
  simp only [resT] at h
  cases e : look env t with
  | none => rw [e] at h; cases h
  | some v =>
   rw [e] at h
   obtain ⟨vs, h1, h2⟩ := resT_eq h
   exact ⟨v :: vs, ⟨e, h1⟩, h2⟩
 | .cell _ _ :: _, _, _, h => by simp [resT] at h
theorem fin_ret {fn : Func} {R : Value → List Atom → Prop} {vs : List Value} {A : List Atom} (hr : resT env fn.results.toList some = some vs) (hE : Ent L A) (hR : R (packV vs) A) : fnPost T β fn R .ret env L := by
 obtain ⟨us, h1, h2⟩ := resT_eq (T := T) (β := β) (L := L) hr
 cases h2
 exact ⟨_, A, h1, hE, hR⟩
theorem fin_normal {fn : Func} {R : Value → List Atom → Prop} {vs : List Value} {A : List Atom} (hr : resT env fn.results.toList some = some vs) (hE : Ent L A) (hR : R (packV vs) A) : fnPost T β fn R .normal env L := by
 obtain ⟨us, h1, h2⟩ := resT_eq (T := T) (β := β) (L := L) hr
 cases h2
 exact ⟨_, A, h1, hE, hR⟩
theorem fin_cells {fn : Func} {R : Value → List Atom → Prop} (vs : List Value) {A : List Atom} (hr : ResOk T β env L fn.results.toList vs) (hE : Ent L A) (hR : R (packV vs) A) : fnPost T β fn R .ret env L := ⟨vs, A, hr, hE, hR⟩
end
end Go.Proofs.YtakkogdmlbkdaaaGreatDoor.Sl
namespace Go.Proofs.YtakkogdmlbkdaaaGreatDoor.Sl
open Go Go.RowKit
set_option linter.unusedVariables false
set_option linter.unusedSimpArgs false

section
variable {P : Program} {β : Base} {cx : Cx} {rnd : Option (Nat × Loop)} {N : Nat} {env : Env} {L : List Atom} {K : Env → List Atom → Prop} {ops : Array Oper} {T : TT}

theorem SQ.val' {s : Stp} {r : List Stp} {obs : Obs} {d : Nat} {v : Value} (hk : Nat.ble s.k 1 = true) (hw : wants ops env s.o = some true) (hd : s.o.dst = some d) (hlt : d < N)
  (hv : ∀ ρ : Operand → Value, (∀ x u, ev env x = some u → ρ x = u) → ∀ w, (execOp ρ s.o).run P w = .ok (.value v) w) (k : SQ P β rnd N T ops K r obs ((d, v) :: env) L) : SQ P β rnd N T ops K (s :: r) obs env L :=
 .val v hk hw (by simp [dstOk, hd, Nat.blt_eq, hlt]) hv (by rw [hd]; exact k)

def idxE (T : TT) (N : Nat) (ops : Array Oper) (env : Env) (o : Oper) : Option (Nat × Nat × Nat × Nat × Int × Nat) :=
 match dstE N ops env o with
 | some d => match o.op with
  | .indexAddr t x y => match ev env y with
   | some (.int _ i) => match T.get t, ev env x with
    | some ti, some (.slice (some ⟨b, off, none⟩) len _) => match ti.desc with
     | .slice e => match T.get e with
      | some te => some (d, b, off, len, i, te.size)
      | none => none
     | _ => none
    | some ti, some (.pointer (some ⟨b, off, none⟩)) => match ti.desc with
     | .array n e => match T.get e with
      | some te => some (d, b, off, n, i, te.size)
      | none => none
     | _ => none
    | _, _ => none
   | _ => none
  | _ => none
 | none => none
theorem addr_add (b off n : Nat) : (⟨b, off, none⟩ : Addr).add n = ⟨b, off + n, none⟩ := by
 unfold Addr.add; split <;> simp_all
theorem SQ.idx (hT : TTok P T) {s : Stp} {r : List Stp} {obs : Obs} {d b off len sz : Nat} {i : Int} (hk : Nat.ble s.k 1 = true) (h : idxE T N ops env s.o = some (d, b, off, len, i, sz)) (j : Nat) (hj : i = (j : Int)) (hlt : j < len) {o' : Nat} (ho : off + j * sz = o')
  (k : SQ P β rnd N T ops K r obs ((d, .pointer (some ⟨b, o', none⟩)) :: env) L) : SQ P β rnd N T ops K (s :: r) obs env L := by
 unfold idxE at h
 split at h <;> try (cases h; done)
 rename_i d' hde
 obtain ⟨hw, hd, hdl⟩ := dstE_eq hde
 split at h <;> try (cases h; done)
 rename_i t x y hop
 split at h <;> try (cases h; done)
 rename_i kk i' hy
 subst ho
 split at h
 ·rename_i ti b' off' len' cap' hti hx
  split at h <;> try (cases h; done)
  rename_i e hde2
  split at h <;> try (cases h; done)
  rename_i te hte
  simp only [Option.some.injEq, Prod.mk.injEq] at h
  obtain ⟨rfl, rfl, rfl, rfl, rfl, rfl⟩ := h
  refine SQ.val' hk hw hd hdl (fun ρ hρ w => ?_) k
  obtain ⟨si, ⟨dst, op, type, pos, after, guard⟩, se, sw⟩ := s
  simp only at hop
  subst hop
  have hu := (hT.get hti).1.1
  rw [hde2] at hu
  subst hj
  have h1 : (0 : Int) ≤ (j : Int) ∧ ((j : Int) < (len' : Int)) := by omega
  simp only [execOp, hρ _ _ hx, hρ _ _ hy]
  simp [Instr.indexAt, asIntOf, run_underlying hu, h1, (hT.get hte).run_sizeOf, addr_add, hlt]
 ·rename_i ti b' off' hti hx
  split at h <;> try (cases h; done)
  rename_i n e hde2
  split at h <;> try (cases h; done)
  rename_i te hte
  simp only [Option.some.injEq, Prod.mk.injEq] at h
  obtain ⟨rfl, rfl, rfl, rfl, rfl, rfl⟩ := h
  refine SQ.val' hk hw hd hdl (fun ρ hρ w => ?_) k
  obtain ⟨si, ⟨dst, op, type, pos, after, guard⟩, se, sw⟩ := s
  simp only at hop
  subst hop
  have hu := (hT.get hti).1.1
  rw [hde2] at hu
  subst hj
  have h1 : (0 : Int) ≤ (j : Int) ∧ ((j : Int) < (n : Int)) := by omega
  simp only [execOp, hρ _ _ hx, hρ _ _ hy]
  simp [Instr.indexAt, asIntOf, run_underlying hu, h1, (hT.get hte).run_sizeOf, addr_add, hlt, Instr.sureAddr]
 ·cases h
def ixE (T : TT) (N : Nat) (ops : Array Oper) (env : Env) (o : Oper) : Option (Nat × List Value × Nat × Int × TI) :=
 match dstE N ops env o with
 | some d => match o.op with
  | .index t x y => match ev env y with
   | some (.int _ i) => match T.get t, ev env x with
    | some ti, some (.agg cs) => match ti.desc with
     | .array n e => match T.get e with
      | some te => some (d, cs.toList, n, i, te)
      | none => none
     | _ => none
    | _, _ => none
   | _ => none
  | _ => none
 | none => none
theorem SQ.ix (hT : TTok P T) {s : Stp} {r : List Stp} {obs : Obs} {d n : Nat} {cs : List Value} {i : Int} {te : TI} (hk : Nat.ble s.k 1 = true) (h : ixE T N ops env s.o = some (d, cs, n, i, te)) (j : Nat) (hj : i = (j : Int)) (hlt : j < n) {v : Value} (hv : rdv te cs (j * te.size) = some v)
  (k : SQ P β rnd N T ops K r obs ((d, v) :: env) L) : SQ P β rnd N T ops K (s :: r) obs env L := by
 unfold ixE at h
 split at h <;> try (cases h; done)
 rename_i d' hde
 obtain ⟨hw, hd, hdl⟩ := dstE_eq hde
 split at h <;> try (cases h; done)
 rename_i t x y hop
 split at h <;> try (cases h; done)
 rename_i kk i' hy
 split at h <;> try (cases h; done)
 rename_i ti cs' hti hx
 split at h <;> try (cases h; done)
 rename_i n' e hde2
 split at h <;> try (cases h; done)
 rename_i te' hte
 simp only [Option.some.injEq, Prod.mk.injEq] at h
 obtain ⟨rfl, rfl, rfl, rfl, rfl⟩ := h
 refine SQ.val' hk hw hd hdl (fun ρ hρ w => ?_) k
 obtain ⟨si, ⟨dst, op, type, pos, after, guard⟩, se, sw⟩ := s
 simp only at hop
 subst hop
 have hu := (hT.get hti).1.1
 rw [hde2] at hu
 subst hj
 have h1 : (0 : Int) ≤ (j : Int) ∧ ((j : Int) < (n' : Int)) := by omega
 have h2 := run_part_of (P := P) (hT.get hte) (cs := cs') (off := j * te'.size) hv w
 simp only [execOp, hρ _ _ hx, hρ _ _ hy]
 simp [Instr.index, asIntOf, run_underlying hu, h1, (hT.get hte).run_sizeOf, hlt, h2]

def own (e sz : Nat) (v : Value) (n : Nat) (cs : List Value) : Atom := fun h =>
 cs.length = n * sz ∧ ((v = .slice none 0 0 ∧ n = 0 ∧ h = Hp.emp) ∨
  ∃ g cap cur, v = .slice (some ⟨g, 0, none⟩) n cap ∧ n ≤ cap ∧ (cur : List Value).length = cap * sz ∧ cur.take (n * sz) = cs ∧ h = Hp.one g (.cells cur.toArray e (0, 0)))
theorem own_nil (e sz : Nat) : Ent L (own e sz (.slice none 0 0) 0 [] :: L) := fun h s =>
 ⟨h, ⟨Hp.emp, h, ⟨by simp, .inl ⟨rfl, rfl, rfl⟩⟩, s, Hp.emp_disj _, (Hp.emp_add _).symm⟩, Hp.le_refl h⟩
def Reads (β : Base) (w : World) (b off : Nat) (news : List Value) : Prop := ∀ j u, news[j]? = some u → w.cell? ((⟨b, off, none⟩ : Addr).add j) = some u
theorem reads_of {w : World} {H : List Atom} {q : Bool} {b off j : Nat} {cs news : List Value} (s : Sat β w (H ++ L)) (hL : L[j]? = some (pq β q b cs)) (hn : (cs.drop off).take news.length = news) : Reads β w b off news := by
 have e0 : (H ++ L)[H.length + j]? = some (pq β q b cs) := by rw [List.getElem?_append_right (by omega)]; simpa using hL
 obtain ⟨t, fz, e⟩ := s.cell_pq e0
 intro k u hk
 have hlt : k < news.length := (List.getElem?_eq_some_iff.1 hk).1
 rw [addr_add]
 rw [← hn, List.getElem?_take_of_lt hlt, List.getElem?_drop] at hk
 simp [World.cell?, e, hk]
theorem Sat.append {w : World} {R : List Atom} {t ty e : Nat} {i : TI} (ht : P.underlying t = some (.slice e)) (hi : TIok P e i) (hz : (vcells i.zero).length = i.size) {v : Value} {n : Nat} {cs : List Value} (s : Sat β w (own e i.size v n cs :: R))
  {b off m c : Nat} {news : List Value} (hl : news.length = m * i.size) (hr : Reads β w b off news) (h1 : ∀ u ∈ news, u.oneCell' = true) (h63 : n + m ≤ 4611686018427387904) (hby : (n + m) * i.bytes ≤ 140737488355328) :
  ∃ v' w', (Builtin.append_ #[t, t] ty #[v, .slice (some ⟨b, off, none⟩) m c]).run P w = .ok v' w' ∧ Sat β w' (own e i.size v' (n + m) (cs ++ news) :: R) := by
 obtain ⟨inf, hinf, hsz, hbt, hzz⟩ := hi.info
 have hzc : i.zero.cells.size = i.size := by rw [← Array.length_toList, vcells_eq]; exact hz
 obtain ⟨hb, h, ⟨h1', h2', ho, st, d, rfl⟩, hw⟩ := s
 obtain ⟨hlen, ho⟩ := ho
 have hlen2 : (cs ++ news).length = (n + m) * i.size := by rw [List.length_append, hlen, hl, Nat.add_mul]
 have rest : ∀ (w2 : World), w2.heap = w.heap → w2.os = w.os → w2.tape = w.tape → w2.output = w.output → w.drawn ≤ w2.drawn → Sat β w2 R := fun w2 e1 e2 e3 e4 e5 => by
  have s0 : Sat β w R := ⟨hb, h2', st, fun k o e => hw k o (Hp.le_add_right d k o e)⟩
  exact s0.heap_eq e1 e2 e3 e4 e5
 have grown : ∀ (old : Nat), Sat β (w.drew.alloc (.cells (cs.toArray ++ news.toArray ++ Builtin.zeroCells i.zero.cells (grownCap w (n + m) old e - (n + m))) e)) (own e i.size (.slice (some ⟨w.heap.size, 0, none⟩) (n + m) (grownCap w (n + m) old e)) (n + m) (cs ++ news) :: R) := by
  intro old
  have hge := grownCap_ge w (n + m) old e
  refine (rest w.drew rfl rfl rfl rfl (Nat.le_succ _)).new _ ⟨hlen2, .inr ⟨w.heap.size, grownCap w (n + m) old e, (cs ++ news ++ (Builtin.zeroCells i.zero.cells (grownCap w (n + m) old e - (n + m))).toList), rfl, hge, ?_, ?_, ?_⟩⟩
  ·rw [List.length_append, hlen2, Array.length_toList, size_zeroCells, hzc, ← Nat.add_mul]; congr 1; omega
  ·rw [← hlen2]; exact List.take_left
  ·congr 2
   apply Array.toList_inj.1
   simp
 rcases ho with ⟨rfl, rfl, rfl⟩ | ⟨g, cap, cur, rfl, hnc, hcl, htk, rfl⟩
 ·have hx : cs = [] := List.eq_nil_of_length_eq_zero (by simpa using hlen)
  subst hx
  by_cases hm : m = 0
  ·subst hm
   have hn : news = [] := List.eq_nil_of_length_eq_zero (by simpa using hl)
   subst hn
   refine ⟨.slice none 0 0, w, ?_, hb, _, ⟨Hp.emp, h2', ⟨by simp, .inl ⟨rfl, rfl, rfl⟩⟩, st, d, rfl⟩, hw⟩
   simp [Builtin.append_, run_underlying ht, sizeOf, Go.run_typeInfo w hinf, Builtin.lenOf, Builtin.firstCells, loadCells, loadCellsFrom]
  ·have hr2 := run_append_nil (P := P) w t ty e inf i.zero ht hinf hzz ⟨b, off, none⟩ m c news (by rw [hsz]; exact hl) hr (by omega) (by omega) (by rw [hbt]; simp only [Nat.zero_add] at hby; omega)
   have hg := grown 0
   simp only [Nat.zero_add, List.nil_append, Array.empty_append] at hg ⊢
   exact ⟨_, _, hr2, hg⟩
 ·have hgc := (hw g (.cells cur.toArray e (0, 0)) (by simp [Hp.add, Hp.one])).2
  by_cases hroom : n + m ≤ cap
  ·have hfit : n * i.size + news.length ≤ cur.length := by rw [hl, hcl, ← Nat.add_mul]; exact Nat.mul_le_mul_right _ hroom
   have hr2 := run_append_room (P := P) w t ty e inf ht hinf g n cap cur.toArray hgc ⟨b, off, none⟩ m c news (by rw [hsz]; exact hl) hr h1 hroom (by rw [hsz]; simpa using hfit)
   refine ⟨_, _, hr2, ?_⟩
   have s0 : Sat β w ((fun h => h = Hp.one g (.cells cur.toArray e (0, 0))) :: R) := ⟨hb, _, ⟨_, h2', rfl, st, d, rfl⟩, hw⟩
   rw [hsz]
   refine s0.update (o' := .cells (cur.take (n * i.size) ++ news ++ cur.drop (n * i.size + news.length)).toArray e (0, 0)) ⟨hlen2, .inr ⟨g, cap, cur.take (n * i.size) ++ news ++ cur.drop (n * i.size + news.length), rfl, hroom, ?_, ?_, ?_⟩⟩ (fun k => ?_) (by simp) rfl rfl rfl
   ·simp only [List.length_append, List.length_take, List.length_drop]; omega
   ·rw [htk, ← hlen2]; exact List.take_left
   ·rfl
   ·by_cases hk : k = g
    ·subst hk; rw [if_pos rfl]; exact setRow_heap w k _ _ e _ hgc
    ·rw [if_neg hk]; exact setRow_other w g k _ hk
  ·have hold : ∀ j u, cs[j]? = some u → w.cell? ((⟨g, 0, none⟩ : Addr).add j) = some u := fun j u hj => by
    have hlt : j < cs.length := (List.getElem?_eq_some_iff.1 hj).1
    rw [addr_add]
    rw [← htk, List.getElem?_take_of_lt (by rw [← hlen]; exact hlt)] at hj
    simp [World.cell?, hgc, hj]
   have hr2 := run_append_grow (P := P) w t ty e inf i.zero ht hinf hzz ⟨g, 0, none⟩ n cap cs (by rw [hsz]; exact hlen) hold ⟨b, off, none⟩ m c news (by rw [hsz]; exact hl) hr (by omega) (by omega) (growslice_fits (by omega) (by rw [hbt]; exact hby))
   exact ⟨_, _, hr2, grown cap⟩
def apE (T : TT) (N : Nat) (ops : Array Oper) (env : Env) (o : Oper) : Option (Nat × Nat × TI × Value × Nat × Nat × Nat) :=
 match dstE N ops env o with
 | some d => match o.op with
  | .call c => match c.callee, c.args.toList, c.argTypes.toList with
   | .builtin .append, [x, y], [t, t2] => match Nat.beq t t2 with
    | true => match T.get t with
     | some ti => match ti.desc with
      | .slice e => match T.get e, ev env x, ev env y with
       | some te, some v, some (.slice (some ⟨b, off, none⟩) m _) => some (d, e, te, v, b, off, m)
       | _, _, _ => none
      | _ => none
     | none => none
    | false => none
   | _, _, _ => none
  | _ => none
 | none => none
theorem SQ.appendR (hT : TTok P T) {s : Stp} {r : List Stp} {obs : Obs} {d e b off m : Nat} {te : TI} {v : Value} (he : s.k = 1) (h : apE T N ops env s.o = some (d, e, te, v, b, off, m)) (j1 : Nat) {n : Nat} {cs : List Value} (hL1 : L[j1]? = some (own e te.size v n cs))
  (news : List Value) (hR : ∀ H w, Sat β w (H ++ L) → Reads β w b off news) (hl : news.length = m * te.size) (hz : (vcells te.zero).length = te.size) (h1 : ∀ u ∈ news, u.oneCell' = true)
  (h63 : n + m ≤ 4611686018427387904) (hby : (n + m) * te.bytes ≤ 140737488355328)
  (k : ∀ v', watchOk β obs (own e te.size v' (n + m) (cs ++ news) :: L.eraseIdx j1) s.watch ∧ SQ P β rnd N T ops K r obs ((d, v') :: env) (own e te.size v' (n + m) (cs ++ news) :: L.eraseIdx j1)) : SQ P β rnd N T ops K (s :: r) obs env L := by
 unfold apE at h
 split at h <;> try (cases h; done)
 rename_i d' hde
 obtain ⟨hw, hd, hdl⟩ := dstE_eq hde
 split at h <;> try (cases h; done)
 rename_i c hop
 split at h <;> try (cases h; done)
 rename_i x y t t2 hc ha hat
 split at h <;> try (cases h; done)
 rename_i htt
 have htt := Nat.eq_of_beq_eq_true htt
 subst htt
 split at h <;> try (cases h; done)
 rename_i ti hti
 split at h <;> try (cases h; done)
 rename_i e' hde2
 split at h <;> try (cases h; done)
 rename_i te' v0 b0 off0 m0 c0 hte hx hy
 simp only [Option.some.injEq, Prod.mk.injEq] at h
 obtain ⟨rfl, rfl, rfl, rfl, rfl, rfl, rfl⟩ := h
 refine SQ.act he hw fun fm nn Qx a w st0 => ?_
 obtain ⟨hen, Ds, hds, st⟩ := st0
 have hu := (hT.get hti).1.1
 rw [hde2] at hu
 have hr : Reads β w b0 off0 news := hR _ w st
 have s1 : Sat β w (own e' te'.size v0 n cs :: (hid Ds ⟨rnd, fm⟩ ++ L.eraseIdx j1)) := st.perm ((List.Perm.append_left _ (perm_at hL1)).trans List.perm_middle)
 obtain ⟨v', w', hrun, s2⟩ := s1.append (P := P) (ty := s.o.type) (c := c0) hu (hT.get hte) hz hl hr h1 h63 hby
 have e2 : (execOp a.eval s.o).run P w = .ok (.value v') w' := by
  obtain ⟨si, ⟨dst, op, type, pos, after, guard⟩, se, sw⟩ := s
  obtain ⟨callee, args, ats⟩ := c
  simp only at hop hc ha hat
  subst hop
  subst hc
  obtain rfl : args = #[x, y] := Array.toList_inj.1 (by simpa using ha)
  obtain rfl : ats = #[t, t] := Array.toList_inj.1 (by simpa using hat)
  simp only [execOp, resolve, invoke, builtin, Sem.run_bind, Sem.run_pure, Result.andThen]
  have e3 : (#[x, y] : Array Operand).map a.eval = #[v0, .slice (some ⟨b0, off0, none⟩) m0 c0] := by simp [hen.eval hx, hen.eval hy]
  rw [e3, hrun]
 rw [e2]
 refine ⟨_, _, ⟨by rw [hd]; exact hen.put hdl v', Ds, by rw [hd]; exact hds, s2.perm List.perm_middle.symm⟩, k v'⟩
theorem SQ.append (hT : TTok P T) {s : Stp} {r : List Stp} {obs : Obs} {d e b off m : Nat} {te : TI} {v : Value} (he : s.k = 1) (h : apE T N ops env s.o = some (d, e, te, v, b, off, m)) (j1 : Nat) {n : Nat} {cs : List Value} (hL1 : L[j1]? = some (own e te.size v n cs))
  (j2 : Nat) {q : Bool} {cs2 : List Value} (hL2 : L[j2]? = some (pq β q b cs2)) (news : List Value) (hn : (cs2.drop off).take news.length = news) (hl : news.length = m * te.size) (hz : (vcells te.zero).length = te.size) (h1 : ∀ u ∈ news, u.oneCell' = true)
  (h63 : n + m ≤ 4611686018427387904) (hby : (n + m) * te.bytes ≤ 140737488355328)
  (k : ∀ v', watchOk β obs (own e te.size v' (n + m) (cs ++ news) :: L.eraseIdx j1) s.watch ∧ SQ P β rnd N T ops K r obs ((d, v') :: env) (own e te.size v' (n + m) (cs ++ news) :: L.eraseIdx j1)) : SQ P β rnd N T ops K (s :: r) obs env L :=
 SQ.appendR hT he h j1 hL1 news (fun H w st => reads_of st hL2 hn) hl hz h1 h63 hby k
end
end Go.Proofs.YtakkogdmlbkdaaaGreatDoor.Sl
namespace Go.Proofs.YtakkogdmlbkdaaaGreatDoor.Sl
open Go Go.RowKit
set_option linter.unusedVariables false
set_option linter.unusedSimpArgs false

section
variable {P : Program} {β : Base} {cx : Cx} {rnd : Option (Nat × Loop)} {N : Nat} {env : Env} {L : List Atom} {T : TT}

def packA (L : List Atom) : Atom := star L
theorem Ent.pack (L M : List Atom) : Ent (L ++ M) (packA L :: M) := fun h s => by
 obtain ⟨h1, h2, s1, s2, d, rfl⟩ := star_append.1 s
 exact ⟨_, ⟨h1, h2, s1, s2, d, rfl⟩, Hp.le_refl _⟩
theorem Ent.unpack (L M : List Atom) : Ent (packA L :: M) (L ++ M) := fun h s => by
 obtain ⟨h1, h2, s1, s2, d, rfl⟩ := s
 exact ⟨_, star_append.2 ⟨h1, h2, s1, s2, d, rfl⟩, Hp.le_refl _⟩

def Yld (P : Program) (β : Base) (l : Nat) (args : List Value) (A : List Atom) (R : Bool → List Atom → Prop) : Prop :=
 ∀ F n w, Sat β w (F ++ A) → YieldAt Fence.wide n P l args.toArray w fun e w' => ∃ b A', e = .returned (.bool b) ∧ Sat β w' (F ++ A') ∧ R b A'
theorem RoundIn.toFr (cx : Cx) {n l : Nat} {f : FuncId} {tmps : Array Value} {assign body : Code} {w : World} {R : Ending → World → Prop} (h : RoundIn Fence.wide n P l f tmps assign body w R) : RoundIn (Fr cx) n P l f tmps assign body w R := by
 unfold Fr
 cases cx.rnd with
 | none => exact h
 | some lr => exact h
def ylE (N : Nat) (ops : Array Oper) (env : Env) (o : Oper) : Option (Nat × Nat × List Value) :=
 match dstE N ops env o with
 | some d => match o.op with
  | .call c => match c.callee with
   | .value f => match ev env f with
    | some (.func (.yield l) first _) => match first.toList with
     | [] => evsK env c.args.toList fun vs => some (d, l, vs)
     | _ => none
    | _ => none
   | _ => none
  | _ => none
 | none => none
theorem SQ.yield {ops : Array Oper} {K : Env → List Atom → Prop} {s : Stp} {r : List Stp} {obs : Obs} {d l : Nat} {args : List Value} (hef : s.k = 1) (h : ylE N ops env s.o = some (d, l, args)) {A F : List Atom} {R : Bool → List Atom → Prop}
  (hY : Yld P β l args A R) (is : List Nat) (hs : sel is L (fun A F => some (A, F)) = some (A, F)) (k : ∀ b A', R b A' → watchOk β obs (A' ++ F) s.watch ∧ SQ P β rnd N T ops K r obs ((d, .bool b) :: env) (A' ++ F)) : SQ P β rnd N T ops K (s :: r) obs env L := by
 obtain ⟨A2, F2, hp, hk⟩ := sel_eq hs
 simp only [Option.some.injEq, Prod.mk.injEq] at hk
 obtain ⟨rfl, rfl⟩ := hk
 unfold ylE at h
 split at h <;> try (cases h; done)
 rename_i d' hde
 obtain ⟨hw, hd, hdl⟩ := dstE_eq hde
 split at h <;> try (cases h; done)
 rename_i c hop
 split at h <;> try (cases h; done)
 rename_i f hc
 split at h <;> try (cases h; done)
 rename_i l' first cap hev
 split at h <;> try (cases h; done)
 rename_i hfst
 obtain ⟨vs, h1, h2⟩ := evsK_eq h
 simp only [Option.some.injEq, Prod.mk.injEq] at h2
 obtain ⟨rfl, rfl, rfl⟩ := h2
 refine SQ.act hef hw fun fm n Qx a w st0 => ?_
 obtain ⟨hen, Ds, hds, st⟩ := st0
 have s2 : Sat β w ((hid Ds ⟨rnd, fm⟩ ++ F2) ++ A2) := st.perm (by
  rw [List.append_assoc]
  exact List.Perm.append_left _ (hp.trans List.perm_append_comm))
 obtain ⟨fn, tmps, assign, body, hrun, hround⟩ := hY (hid Ds ⟨rnd, fm⟩ ++ F2) (n - 1) w s2
 have e2 : (execOp a.eval s.o).run P w = .ok (.round l' fn tmps assign body) w := by
  obtain ⟨si, ⟨dst, op, type, pos, after, guard⟩, se, sw⟩ := s
  obtain ⟨callee, cargs, ats⟩ := c
  simp only at hop hc h1
  subst hop
  subst hc
  have e3 := evs_map (fun x v hx => hen.eval hx) h1
  have e4 : cargs.map a.eval = vs.toArray := Array.toList_inj.1 (by simpa using e3)
  have e5 : first = #[] := Array.toList_inj.1 (by simpa using hfst)
  simp only [execOp, resolve, e4, hen.eval hev, Deferred.ofValue, e5, Sem.run_bind, Sem.run_pure, Result.andThen, invoke, Array.empty_append]
  exact hrun
 rw [e2]
 refine ⟨fun h => (by rw [Fr_depth] at h; cases h), ?_⟩
 refine (RoundIn.toFr ⟨rnd, fm⟩ hround).mono ?_
 rintro e w' ⟨b, A', rfl, s3, hr⟩
 exact ⟨_, _, ⟨by rw [hd]; exact hen.put hdl _, Ds, by rw [hd]; exact hds, s3.perm (by
  rw [List.append_assoc]
  exact List.Perm.append_left _ List.perm_append_comm)⟩, k b A' hr⟩

def Iter (P : Program) (β : Base) (g : FuncId) (cap : List Value) (A : List Atom) {α : Type} (encs : α → List Value) (xs : List α) : Prop :=
 ∀ (l : Nat) (J Jx : List α → Atom),
  (∀ pre x, (pre ++ [x]) <+: xs → Yld P β l (encs x) (J pre :: A) fun b A' => (b = true ∧ A' = J (pre ++ [x]) :: A) ∨ (b = false ∧ A' = Jx (pre ++ [x]) :: A)) →
  Tri P β g (.func (.yield l) #[] #[] :: cap) (J [] :: A) fun _ L' => L' = J xs :: A ∨ ∃ pre, L' = Jx pre :: A

def bindps : List Tmp → List Value → Env → Env
 | p :: ps, v :: vs, env => bindps ps vs ((p, v) :: env)
 | _, _, env => env
theorem bindps_ok {ps : List Tmp} : ∀ {vs : List Value} {env : Env} {tmps : Array Value}, (∀ p ∈ ps, p < N) → EnvOk N { tmps, defers := [] } env →
  EnvOk N { tmps := (ps.zip vs).foldl (fun t (x : Tmp × Value) => t.setIfInBounds x.1 x.2) tmps, defers := [] } (bindps ps vs env) := by
 induction ps with
 | nil => intro vs env tmps _ h; simpa [bindps] using h
 | cons p ps ih =>
  intro vs env tmps hp h
  cases vs with
  | nil => simpa [bindps] using h
  | cons v vs =>
   simp only [List.zip_cons_cons, List.foldl_cons, bindps]
   exact ih (fun q hq => hp q (List.mem_cons_of_mem _ hq)) (h.put (hp p List.mem_cons_self) v)
theorem foldl_zip_array (ps : Array Tmp) (vs : List Value) (tmps : Array Value) :
  (ps.zip vs.toArray).foldl (fun t (x : Tmp × Value) => t.setIfInBounds x.1 x.2) tmps = (ps.toList.zip vs).foldl (fun t (x : Tmp × Value) => t.setIfInBounds x.1 x.2) tmps := by
 rw [← Array.foldl_toList]; simp

theorem Sat.loop {w : World} {l : Nat} {r : Loop} {M : List Atom} (s : Sat β w (lpA l r :: M)) : w.heap[l]? = some (.loop r) := by
 obtain ⟨h, rfl, hw⟩ := s.here
 exact (hw l (.loop r) (by simp [Hp.one])).2
theorem Sat.putLoop {w : World} {l : Nat} {r r' : Loop} {M : List Atom} (s : Sat β w (lpA l r :: M)) : Sat β (w.putObj l (.loop r')) (lpA l r' :: M) := by
 have hlt : l < w.heap.size := (Array.getElem?_eq_some_iff.1 s.loop).1
 have s2 : Sat β w ((fun h => h = Hp.one l (.loop r)) :: M) := s
 exact s2.update (o' := .loop r') rfl (fun k => by
  by_cases hk : k = l
  ·subst hk; rw [if_pos rfl]; exact World.putObj_heap_same hlt
  ·rw [if_neg hk]; exact World.putObj_heap_other hk) (by simp [World.putObj]) rfl rfl rfl

def rndQ (I : List Atom) (stop : Code → List Atom → Prop) (A : List Atom) : Post
 | .normal, _, L => Ent L (I ++ A)
 | .ret, _, L => ∃ M, stop .ret M ∧ Ent L (M ++ A)
 | .exit id, _, L => ∃ M, stop (.exit id) M ∧ Ent L (M ++ A)
 | .goto l, _, L => ∃ M, stop (.goto l) M ∧ Ent L (M ++ A)
 | _, _, _ => False
def recd (fn : FuncId) (tmps : Array Value) (ps : Array Tmp) (assign body : Code) (D : Nat) (st : LoopState) (pend : Option Code) : Loop :=
 { state := st, pending := pend, fn, tmps, params := ps, assign, body, defers := D }
theorem round_yld {α : Type} {encs : α → List Value} {I : List α → List Atom} {stop : Code → List Atom → Prop} {A X : List Atom} {l D : Nat} {fn : FuncId} {tmps : Array Value} {ps : Array Tmp} {assign body : Code} {pre : List α} {x : α}
  (he : EnvOk N { tmps, defers := [] } env) (hps : (encs x).length = ps.size) (hpN : ∀ p ∈ ps.toList, p < N)
  (h : ∀ fm rec1, CW P β ⟨some (l, rec1), fm⟩ N assign (bindps ps.toList (encs x) env) (I pre ++ A) (thn (fun env2 L2 => ∀ fm2 rec2, CW P β ⟨some (l, rec2), fm2⟩ N body env2 L2 (rndQ (I (pre ++ [x])) stop A)) (fun _ _ _ => False))) :
  Yld P β l (encs x) (packA (lpA l (recd fn tmps ps assign body D .ready none) :: (X ++ I pre)) :: A) fun b A' =>
   (b = true ∧ A' = packA (lpA l (recd fn tmps ps assign body D .ready none) :: (X ++ I (pre ++ [x]))) :: A) ∨
   (b = false ∧ A' = (fun h => ∃ c M, stop c M ∧ packA (lpA l (recd fn tmps ps assign body D .done (some c)) :: (X ++ M)) h) :: A) := by
 intro F n w s
 have s1 : Sat β w (lpA l (recd fn tmps ps assign body D .ready none) :: ((F ++ X) ++ (I pre ++ A))) := by
  have s0 := (s.perm List.perm_middle).ent (Ent.unpack _ _)
  refine s0.perm ?_
  simp only [List.cons_append, List.append_assoc]
  refine List.Perm.cons _ ?_
  -- X ++ (I pre ++ (F ++ A)) ~ F ++ (X ++ (I pre ++ A))
  have p1 : (X ++ (I pre ++ (F ++ A))).Perm (X ++ (F ++ (I pre ++ A))) := List.Perm.append_left X (List.perm_append_comm_assoc _ _ _)
  exact p1.trans (List.perm_append_comm_assoc _ _ _)
 have hy := run_yield (P := P) (args := (encs x).toArray) s1.loop (by simpa [recd] using hps)
 refine ⟨fn, _, assign, body, hy, roundIn_of_wpIn trivial ?_⟩
 have hst : St β ⟨some (l, recd fn tmps ps assign body D .ready none), F ++ X⟩ N (bindps ps.toList (encs x) env) (I pre ++ A)
   { tmps := (ps.zip (encs x).toArray).foldl (fun t (x : Tmp × Value) => t.setIfInBounds x.1 x.2) tmps, defers := [] } w := by
  refine ⟨?_, [], rfl, by simpa [hid, rndA] using s1⟩
  rw [foldl_zip_array]
  exact bindps_ok hpN he
 refine wpIn_mono (h _ _ n _ w hst) ?_
 intro e a1 w1 q
 cases e with
 | panic _ => exact q.elim
 | outgrown => exact q.elim
 | exit _ => obtain ⟨_, _, _, q⟩ := q; exact q.elim
 | goto _ => obtain ⟨_, _, _, q⟩ := q; exact q.elim
 | ret => obtain ⟨_, _, _, q⟩ := q; exact q.elim
 | normal =>
  obtain ⟨env2, L2, st2, hk⟩ := q
  obtain ⟨he2, Ds2, hds2, sb⟩ := st2
  have sb1 : Sat β w1 (lpA l (recd fn tmps ps assign body D .ready none) :: (Ds2.map dfA ++ ((F ++ X) ++ L2))) := sb.perm (by
   simp only [hid, rndA, List.append_assoc, List.cons_append, List.nil_append]
   exact List.perm_middle)
  have hb := run_beginRound (P := P) sb1.loop rfl
  have sb2 := sb1.putLoop (r' := recd fn tmps ps assign body D .busy none)
  refine ⟨_, hb, ?_⟩
  have st3 : St β ⟨some (l, recd fn tmps ps assign body D .busy none), F ++ X⟩ N env2 L2 a1 (w1.putObj l (.loop (recd fn tmps ps assign body D .busy none))) := ⟨he2, Ds2, hds2, sb2.perm (by
   simp only [hid, rndA, List.append_assoc, List.cons_append, List.nil_append]
   exact List.perm_middle.symm)⟩
  refine wpIn_mono (hk (F ++ X) (recd fn tmps ps assign body D .busy none) n a1 _ st3) ?_
  intro e3 a3 w3 q3
  have fin : ∀ (jump : Option Code) (env3 : Env) (L3 : List Atom), St β ⟨some (l, recd fn tmps ps assign body D .busy none), F ++ X⟩ N env3 L3 a3 w3 →
    ∃ w4, (Instr.endRound l jump).run P w3 = .ok (.bool jump.isNone) w4 ∧ Sat β w4 (lpA l (recd fn tmps ps assign body D (if jump.isNone then .ready else .done) jump) :: ((F ++ X) ++ L3)) := by
   intro jump env3 L3 st4
   obtain ⟨_, Ds4, _, s4⟩ := st4
   have s5 : Sat β w3 (lpA l (recd fn tmps ps assign body D .busy none) :: ((F ++ X) ++ L3)) := (s4.perm (by
    simp only [hid, rndA, List.append_assoc, List.cons_append, List.nil_append]
    exact List.perm_middle)).ent (Ent.cons _ (Ent.right _ _))
   exact ⟨_, run_endRound jump s5.loop, s5.putLoop⟩
  have out : ∀ (c : Code) (env3 : Env) (L3 : List Atom), St β ⟨some (l, recd fn tmps ps assign body D .busy none), F ++ X⟩ N env3 L3 a3 w3 → (∃ M, stop c M ∧ Ent L3 (M ++ A)) →
    ∃ v w', (Instr.endRound l (some c)).run P w3 = .ok v w' ∧ ∃ b A', Ending.returned v = .returned (.bool b) ∧ Sat β w' (F ++ A') ∧ ((b = true ∧ A' = packA (lpA l (recd fn tmps ps assign body D .ready none) :: (X ++ I (pre ++ [x]))) :: A) ∨
     (b = false ∧ A' = (fun h => ∃ c M, stop c M ∧ packA (lpA l (recd fn tmps ps assign body D .done (some c)) :: (X ++ M)) h) :: A)) := by
   rintro c env3 L3 st4 ⟨M, hM, hE⟩
   obtain ⟨w4, hrun, s6⟩ := fin (some c) env3 L3 st4
   refine ⟨_, w4, hrun, false, _, rfl, ?_, .inr ⟨rfl, rfl⟩⟩
   have s7 := s6.ent (Ent.cons _ (Ent.append (Ent.refl (F ++ X)) hE))
   have s8 : Sat β w4 ((lpA l (recd fn tmps ps assign body D .done (some c)) :: (X ++ M)) ++ (F ++ A)) := s7.perm (by
    simp only [List.cons_append, List.append_assoc, Option.isNone_some, Bool.false_eq_true, if_false]
    refine List.Perm.cons _ ?_
    exact (List.perm_append_comm_assoc F X (M ++ A)).trans (List.Perm.append_left X (List.perm_append_comm_assoc F M A)))
   have s9 := (s8.ent (Ent.pack _ _)).ent (Ent.head (M := [fun h => ∃ c M, stop c M ∧ packA (lpA l (recd fn tmps ps assign body D .done (some c)) :: (X ++ M)) h]) (fun h sh => by
    obtain ⟨h1, h2, p, e0, d, rfl⟩ := sh
    exact ⟨_, ⟨h1, h2, ⟨c, M, hM, p⟩, e0, d, rfl⟩, Hp.le_refl _⟩))
   exact s9.perm (by rw [List.singleton_append]; exact List.perm_middle.symm)
  cases e3 with
  | normal =>
   obtain ⟨env3, L3, st4, hE⟩ := q3
   obtain ⟨w4, hrun, s6⟩ := fin none env3 L3 st4
   refine ⟨_, w4, hrun, true, _, rfl, ?_, .inl ⟨rfl, rfl⟩⟩
   have s7 := s6.ent (Ent.cons _ (Ent.append (Ent.refl (F ++ X)) hE))
   have s8 : Sat β w4 ((lpA l (recd fn tmps ps assign body D .ready none) :: (X ++ I (pre ++ [x]))) ++ (F ++ A)) := s7.perm (by
    simp only [List.cons_append, List.append_assoc, Option.isNone_none, if_true]
    refine List.Perm.cons _ ?_
    exact (List.perm_append_comm_assoc F X _).trans (List.Perm.append_left X (List.perm_append_comm_assoc F _ A)))
   exact (s8.ent (Ent.pack _ _)).perm List.perm_middle.symm
  | ret => obtain ⟨env3, L3, st4, hE⟩ := q3; exact out .ret env3 L3 st4 hE
  | exit id => obtain ⟨env3, L3, st4, hE⟩ := q3; exact out (.exit id) env3 L3 st4 hE
  | goto t => obtain ⟨env3, L3, st4, hE⟩ := q3; exact out (.goto t) env3 L3 st4 hE
  | panic _ => exact q3.elim
  | outgrown => exact q3.elim

theorem CW.rangeFunc {Q : Post} {g : Operand} {ps : Array Tmp} {assign body : Code} {gf : Nat} {cap : Array Value} (hg : ev env g = some (.func (.func gf) #[] cap)) {A L0 : List Atom} {α : Type} {encs : α → List Value} {xs : List α}
  (hI : Iter P β gf cap.toList A encs xs) (is : List Nat) (hs : sel is L (fun A F => some (A, F)) = some (A, L0)) (I : List α → List Atom) (stop : Code → List Atom → Prop) (hL0 : Ent L0 (I [])) (hps : ∀ x, (encs x).length = ps.size) (hpN : ∀ p ∈ ps.toList, p < N)
  (hbody : ∀ pre x, (pre ++ [x]) <+: xs → ∀ l fm rec1, CW P β ⟨some (l, rec1), fm⟩ N assign (bindps ps.toList (encs x) env) (I pre ++ A) (thn (fun env2 L2 => ∀ fm2 rec2, CW P β ⟨some (l, rec2), fm2⟩ N body env2 L2 (rndQ (I (pre ++ [x])) stop A)) (fun _ _ _ => False)))
  (hdone : Q .normal env (I xs ++ A)) (hstop : ∀ c M, stop c M → CW P β cx N c env (M ++ A) Q) : CW P β cx N (.rangeFunc g ps assign body) env L Q := by
 obtain ⟨A2, F2, hp, hk⟩ := sel_eq hs
 simp only [Option.some.injEq, Prod.mk.injEq] at hk
 obtain ⟨rfl, rfl⟩ := hk
 intro n a w st
 obtain ⟨he, Ds, hds, s⟩ := st
 refine wpIn_rangeFunc fun fn hfn => ?_
 have heD : EnvOk N { tmps := a.tmps, defers := [] } env := he
 have hgv := he.eval hg
 -- the statement, its record and its block laid
 have main : ∀ (l D : Nat) (mk : List Deferred) (Ds2 : List Nat) (X : List Atom) (w1 : World), (Instr.enterLoop fn a.tmps ps assign body (Fr cx).round).run P w = .ok (l, mk) w1 → mk ++ a.defers = Ds2.map mark →
   (∀ M w', Sat β w' (hid Ds cx ++ (X ++ M)) → Sat β w' (hid Ds2 cx ++ M)) →
   Sat β w1 (lpA l (recd fn a.tmps ps assign body D .ready none) :: (X ++ (hid Ds cx ++ L))) →
   ∃ (l : Nat) (mark : List Deferred) (w₁ : World) (d : Deferred) (w₁' : World) (f : FuncId) (args : Array Value) (w₂ : World),
    (Instr.enterLoop fn a.tmps ps assign body (Fr cx).round).run P w = .ok (l, mark) w₁ ∧ (resolve a.eval (rangeCall g l) 0).run P w₁ = .ok d w₁' ∧
    (∀ f', Target.leads P w₁' d.target d.args = some f' → (Fr cx).fn f') ∧ (invoke d.target d.args).run P w₁' = .ok (.enter f args) w₂ ∧ ((Fr cx).depth.isSome = true → 1 ≤ n) ∧
    CallsIn (Fr cx) (n - 1) P f args w₂ (rangePost (Fr cx) n P l (up β cx N Q) { a with defers := mark ++ a.defers }) := by
  intro l D mk Ds2 X w1 henter hmk hX s1
  let J : List α → Atom := fun pre => packA (lpA l (recd fn a.tmps ps assign body D .ready none) :: (X ++ I pre))
  let Jx : List α → Atom := fun _ => fun h => ∃ c M, stop c M ∧ packA (lpA l (recd fn a.tmps ps assign body D .done (some c)) :: (X ++ M)) h
  have tri := hI l J Jx (fun pre x hpre => round_yld heD (hps x) hpN (hbody pre x hpre l))
  have e0 := tri.1 (#[.func (.yield l) #[] #[]] ++ cap) w1
  refine ⟨l, mk, w1, { target := .fn (.func gf) cap, args := #[.func (.yield l) #[] #[]] }, w1, gf, #[.func (.yield l) #[] #[]] ++ cap, w1, henter, ?_, fun f' _ => Fr_fn cx f', (by simp only [invoke]; exact e0), fun h => (by rw [Fr_depth] at h; cases h), ?_⟩
  ·have e1 : (#[.const (.func (.yield l) #[] #[])] : Array Operand).map a.eval = #[.func (.yield l) #[] #[]] := by simp [Act.eval]
   simp only [resolve, hgv, e1, Deferred.ofValue, Sem.run_pure, Array.empty_append]
  ·have s2 : Sat β w1 ((lpA l (recd fn a.tmps ps assign body D .ready none) :: (X ++ I [])) ++ (hid Ds cx ++ A2)) := by
    have s0 := s1.ent (Ent.cons _ (Ent.append (Ent.refl X) (Ent.append (Ent.refl (hid Ds cx)) ((Ent.perm hp).trans (Ent.append (Ent.refl A2) hL0)))))
    refine s0.perm ?_
    simp only [List.cons_append, List.append_assoc]
    refine List.Perm.cons _ (List.Perm.append_left X ?_)
    exact (List.Perm.append_left _ List.perm_append_comm).trans (List.perm_append_comm_assoc _ _ _)
   have s3 : Sat β w1 (hid Ds cx ++ (J [] :: A2)) := (s2.ent (Ent.pack _ _)).perm List.perm_middle.symm
   have hc := Fr_calls cx (tri.2 (hid Ds cx) (n - 1) w1 s3)
   have ea : (Value.func (.yield l) #[] #[] :: cap.toList).toArray = #[.func (.yield l) #[] #[]] ++ cap := Array.toList_inj.1 (by simp)
   rw [ea] at hc
   refine hc.mono ?_
   rintro e w3 ⟨v, L', rfl, s4, rfl | ⟨pre, rfl⟩⟩
   ·-- all have come
    have s5 := (s4.perm List.perm_middle).ent (Ent.unpack _ _)
    have s6 : Sat β w3 (lpA l (recd fn a.tmps ps assign body D .ready none) :: (hid Ds cx ++ (X ++ (I xs ++ A2)))) := s5.perm (by
     simp only [List.cons_append, List.append_assoc]
     refine List.Perm.cons _ ?_
     exact (List.Perm.append_left X (List.perm_append_comm_assoc _ _ _)).trans (List.perm_append_comm_assoc _ _ _))
    refine ⟨none, _, run_endLoop s6.loop (by simp [recd]), ?_⟩
    have s7 := (s6.putLoop (r' := { recd fn a.tmps ps assign body D .ready none with state := .exhausted })).ent (Ent.drop _ _)
    exact ⟨env, _, ⟨⟨he.1, he.2⟩, Ds2, hmk, hX _ _ s7⟩, hdone⟩
   ·-- a round has left
    have s5 : Sat β w3 (Jx pre :: (hid Ds cx ++ A2)) := s4.perm List.perm_middle
    obtain ⟨hb, h, ⟨h1, h2, ⟨c, M, hM, hpk⟩, st2, d, rfl⟩, hw⟩ := s5
    have s6 : Sat β w3 (packA (lpA l (recd fn a.tmps ps assign body D .done (some c)) :: (X ++ M)) :: (hid Ds cx ++ A2)) := ⟨hb, _, ⟨h1, h2, hpk, st2, d, rfl⟩, hw⟩
    have s7 := s6.ent (Ent.unpack _ _)
    have s8 : Sat β w3 (lpA l (recd fn a.tmps ps assign body D .done (some c)) :: (hid Ds cx ++ (X ++ (M ++ A2)))) := s7.perm (by
     simp only [List.cons_append, List.append_assoc]
     refine List.Perm.cons _ ?_
     exact (List.Perm.append_left X (List.perm_append_comm_assoc _ _ _)).trans (List.perm_append_comm_assoc _ _ _))
    refine ⟨some c, _, run_endLoop s8.loop (by simp [recd]), ?_⟩
    have s9 := (s8.putLoop (r' := { recd fn a.tmps ps assign body D .done (some c) with state := .exhausted })).ent (Ent.drop _ _)
    exact hstop c M hM n _ _ ⟨⟨he.1, he.2⟩, Ds2, hmk, hX _ _ s9⟩
 cases hrnd : cx.rnd with
 | none =>
  have hround : (Fr cx).round = none := by rw [Fr_round, hrnd]; rfl
  refine main (w.heap.size + 1) w.heap.size [mark w.heap.size] (w.heap.size :: Ds) [dfA w.heap.size] _ (by rw [hround]; exact run_enterLoop_outer fn a.tmps ps assign body) (by simp [hds]) (fun M w' hM => hM.perm ?_) ?_
  ·simp only [hid, List.map_cons, List.cons_append, List.nil_append, List.append_assoc]
   have := List.perm_middle (a := dfA w.heap.size) (l₁ := Ds.map dfA ++ (rndA cx.rnd ++ cx.fm)) (l₂ := M)
   simpa only [List.append_assoc] using this
  ·have t1 := s.new (.deferred (some [])) (A := dfA w.heap.size) rfl
   have t2 := t1.new (.loop (recd fn a.tmps ps assign body w.heap.size .ready none)) (A := lpA (w.alloc (.deferred (some []))).heap.size (recd fn a.tmps ps assign body w.heap.size .ready none)) rfl
   simp only [World.size_alloc] at t2
   exact t2
 | some lr =>
  obtain ⟨l0, r0⟩ := lr
  have hround : (Fr cx).round = some l0 := by rw [Fr_round, hrnd]; rfl
  have s0 : Sat β w (lpA l0 r0 :: (Ds.map dfA ++ (cx.fm ++ L))) := s.perm (by
   simp only [hid, hrnd, rndA, List.append_assoc, List.cons_append, List.nil_append]
   exact List.perm_middle)
  refine main w.heap.size r0.defers [] Ds [] _ (by rw [hround]; exact run_enterLoop_inner s0.loop fn a.tmps ps assign body) (by simp [hds]) (fun M w' hM => hM) ?_
  exact s.new (.loop (recd fn a.tmps ps assign body r0.defers .ready none)) (A := lpA w.heap.size (recd fn a.tmps ps assign body r0.defers .ready none)) rfl
end
end Go.Proofs.YtakkogdmlbkdaaaGreatDoor.Sl
namespace Go.Proofs.YtakkogdmlbkdaaaGreatDoor.Sl
open Go Go.RowKit
set_option linter.unusedVariables false
set_option linter.unusedSimpArgs false

section
variable {P : Program} {β : Base} {cx : Cx} {rnd : Option (Nat × Loop)} {N : Nat} {env : Env} {L : List Atom} {K : Env → List Atom → Prop} {ops : Array Oper} {T : TT}

def fillS {β : Type} (env : Env) (sz : Nat) : List (Nat × Operand) → List Value → (List Value → Option β) → Option β
 | [], cs, k => k cs
 | (i, x) :: r, cs, k => match ev env x with
  | some v => match Nat.beq (vcells v).length sz with
   | true => wrAt (i * sz) (vcells v) cs fun cs => fillS env sz r cs k
   | false => none
  | none => none
theorem fillS_eq {env : Env} {ρ : Operand → Value} (hρ : ∀ x v, ev env x = some v → ρ x = v) {sz : Nat} {β : Type} {k : List Value → Option β} {r : β} :
  ∀ {parts : List (Nat × Operand)} {cs : List Value}, fillS env sz parts cs k = some r → ∃ cs', Instr.fill (fun i => some (i * sz, sz)) cs.toArray (parts.map fun (i, x) => (i, ρ x)) = some cs'.toArray ∧ k cs' = some r
 | [], cs, h => ⟨cs, rfl, h⟩
 | (i, x) :: parts, cs, h => by
  simp only [fillS] at h
  cases e2 : ev env x with
  | none => rw [e2] at h; cases h
  | some v =>
   rw [e2] at h
   simp only at h
   split at h <;> try (cases h; done)
   rename_i e3
   have e4 := Nat.eq_of_beq_eq_true e3
   by_cases hle : i * sz ≤ cs.length
   ·rw [wrAt_eq _ _ _ _ hle] at h
    split at h
    ·rename_i h2
     obtain ⟨cs', h3, h4⟩ := fillS_eq hρ h
     refine ⟨cs', ?_, h4⟩
     simp only [List.map_cons, Instr.fill, hρ x v e2]
     have e5 : v.cells.size = sz := by rw [← Array.length_toList, vcells_eq]; exact e4
     have e6 : ¬ (v.cells.size ≠ sz || decide (i * sz + v.cells.size > cs.toArray.size)) = true := by simp; exact ⟨e5, by rw [e5]; rw [e4] at h2; exact h2⟩
     rw [if_neg e6]
     have e7 := fill_step (cells := cs.toArray) (off := i * sz) (v := v) (by simpa using h2)
     have e8 : v.cells.zipIdx.foldl (fun cs (x : Value × Nat) => cs.setIfInBounds (i * sz + x.2) x.1) cs.toArray = (cs.take (i * sz) ++ vcells v ++ cs.drop (i * sz + (vcells v).length)).toArray := Array.toList_inj.1 (by rw [e7])
     rw [← e8] at h3
     exact h3
    ·cases h
   ·rw [wrAt_len _ _ _ _ (by omega)] at h; cases h
def repz (zs : List Value) : Nat → List Value → List Value
 | 0, acc => acc
 | n + 1, acc => repz zs n (zs ++ acc)
theorem repz_eq (zs : List Value) : ∀ (n : Nat) (acc : List Value), repz zs n acc = (List.replicate n zs).flatten ++ acc
 | 0, acc => by simp [repz]
 | n + 1, acc => by
  rw [repz, repz_eq zs n, List.replicate_succ', List.flatten_append]; simp
theorem zeros_eq {zero : Array Value} {n sz : Nat} (hz : zero.size = sz) : (if n * sz = 0 then [] else ((Array.range (n * sz)).map (fun i => zero[i % zero.size]!)).toList) = (List.replicate n zero.toList).flatten := by
 by_cases h0 : n * sz = 0
 ·rw [if_pos h0]
  rcases Nat.mul_eq_zero.1 h0 with h | h
  ·simp [h]
  ·have : zero.toList = [] := List.eq_nil_of_length_eq_zero (by simp [hz, h])
   rw [this]; simp
 ·rw [if_neg h0]
  have hpos : 0 < sz := Nat.pos_of_ne_zero fun h => h0 (by simp [h])
  apply List.ext_getElem
  ·simp [hz]
  ·intro i h1 h2
   simp at h1
   have hm : i % sz < sz := Nat.mod_lt _ hpos
   simp only [Array.toList_map, Array.toList_range, List.getElem_map, List.getElem_range, hz]
   rw [getElem!_pos zero (i % sz) (by rw [hz]; exact hm)]
   have key : ∀ (n i : Nat) (h : i < ((List.replicate n zero.toList).flatten).length), ((List.replicate n zero.toList).flatten)[i] = zero.toList[i % sz]'(by simp [hz]; exact Nat.mod_lt _ hpos) := by
    intro n
    induction n with
    | zero => intro i h; simp at h
    | succ n ih =>
     intro i h
     simp only [List.replicate_succ, List.flatten_cons]
     by_cases hi : i < sz
     ·rw [List.getElem_append_left (by simp [hz]; exact hi)]
      congr 1
      exact (Nat.mod_eq_of_lt hi).symm
     ·rw [List.getElem_append_right (by simp [hz]; omega)]
      rw [ih]
      congr 1
      simp only [Array.length_toList, hz]
      exact (Nat.mod_eq_sub_mod (by omega)).symm
   rw [key n i h2]
   simp
def bsE (T : TT) (N : Nat) (ops : Array Oper) (env : Env) (o : Oper) : Option (Nat × Nat × List Value) :=
 match dstE N ops env o with
 | some d => match o.op with
  | .buildSlice t len parts => match T.get t with
   | some ti => match ti.desc with
    | .slice e => match T.get e with
     | some te => match Nat.ble (len * te.size) 16777216, Nat.beq (vcells te.zero).length te.size with
      | true, true => fillS env te.size parts.toList (repz (vcells te.zero) len []) fun cs => some (d, len, cs)
      | _, _ => none
     | none => none
    | _ => none
   | none => none
  | _ => none
 | none => none
theorem OW.built (hT : TTok P T) {o : Oper} {d len : Nat} {cs : List Value} (h : bsE T N ops env o = some (d, len, cs)) (k : ∀ b, K ((d, .slice (some ⟨b, 0, none⟩) len len) :: env) (pt b cs :: L)) :
  wants ops env o = some true ∧ (∀ c, o.op ≠ .defer c) ∧ OW P β cx N o env L K := by
 unfold bsE at h
 split at h <;> try (cases h; done)
 rename_i d' hde
 obtain ⟨hw, hd, hdl⟩ := dstE_eq hde
 split at h <;> try (cases h; done)
 rename_i t len' parts hop
 split at h <;> try (cases h; done)
 rename_i ti hti
 split at h <;> try (cases h; done)
 rename_i e hde2
 split at h <;> try (cases h; done)
 rename_i te hte
 split at h <;> try (cases h; done)
 rename_i hb1 hb2
 have hle := Nat.le_of_ble_eq_true hb1
 have hzl := Nat.eq_of_beq_eq_true hb2
 refine ⟨hw, by rw [hop]; simp, fun n Qx a w s => ?_⟩
 obtain ⟨hen, Ds, hds, st⟩ := s
 obtain ⟨cs', hf, hk⟩ := fillS_eq (fun x v hx => hen.eval hx) h
 simp only [Option.some.injEq, Prod.mk.injEq] at hk
 obtain ⟨rfl, rfl, rfl⟩ := hk
 have hu := (hT.get hti).1.1
 rw [hde2] at hu
 have e2 : (execOp a.eval o).run P w = .ok (.value (.slice (some ⟨w.heap.size, 0, none⟩) len' len')) (w.alloc (.cells cs'.toArray e)) := by
  obtain ⟨dst, op, type, pos, after, guard⟩ := o
  simp only at hop
  subst hop
  have hnot : ¬ (len' * te.size > 2 ^ 24) := by omega
  have hzs : te.zero.cells.size = te.size := by rw [← Array.length_toList, vcells_eq]; exact hzl
  have hz := zeros_eq (zero := te.zero.cells) (n := len') hzs
  rw [vcells_eq] at hz
  rw [repz_eq, List.append_nil, ← hz] at hf
  by_cases h0 : len' * te.size = 0
  ·have hrow : (Array.range (len' * te.size)).map (fun i => (#[] : Array Value)[i % (#[] : Array Value).size]!) = #[] := by rw [h0]; apply Array.eq_empty_of_size_eq_zero; simp
   have hf2 : Instr.fill (fun i => some (i * te.size, te.size)) #[] (parts.map fun (x : Nat × Operand) => (x.1, a.eval x.2)).toList = some cs'.toArray := by
    rw [if_pos h0] at hf; rw [← hf]; congr 1; simp
   simp only [execOp, Instr.buildSlice, Sem.run_bind, run_underlying hu, Result.andThen, (hT.get hte).run_sizeOf w, if_neg hnot, if_pos h0, Sem.run_pure, hrow, hf2, newRow, newObj, Sem.run, World.alloc_eq]
  ·have hf2 : Instr.fill (fun i => some (i * te.size, te.size)) ((Array.range (len' * te.size)).map (fun i => te.zero.cells[i % te.zero.cells.size]!)) (parts.map fun (x : Nat × Operand) => (x.1, a.eval x.2)).toList = some cs'.toArray := by
    rw [if_neg h0] at hf; rw [← hf]; congr 1; simp
   simp only [execOp, Instr.buildSlice, Sem.run_bind, run_underlying hu, Result.andThen, (hT.get hte).run_sizeOf w, if_neg hnot, if_neg h0, (hT.get hte).run_zeroValue w, Sem.run_pure, hf2, newRow, newObj, Sem.run, World.alloc_eq]
 rw [e2]
 exact ⟨_, _, ⟨by rw [hd]; exact hen.put hdl _, Ds, by rw [hd]; exact hds, st.alloc cs' e⟩, k w.heap.size⟩
theorem SQ.built (hT : TTok P T) {s : Stp} {r : List Stp} {obs : Obs} {d len : Nat} {cs : List Value} (he : s.k = 1) (h : bsE T N ops env s.o = some (d, len, cs))
  (k : ∀ b, watchOk β obs (pt b cs :: L) s.watch ∧ SQ P β rnd N T ops K r obs ((d, .slice (some ⟨b, 0, none⟩) len len) :: env) (pt b cs :: L)) : SQ P β rnd N T ops K (s :: r) obs env L := by
 exact SQ.act he (OW.built (P := P) (β := β) (cx := ⟨rnd, []⟩) (L := L) (K := fun env L => watchOk β obs L s.watch ∧ SQ P β rnd N T ops K r obs env L) hT h k).1 fun fm => (OW.built hT h k).2.2
end
end Go.Proofs.YtakkogdmlbkdaaaGreatDoor.Sl
namespace Go.Proofs.YtakkogdmlbkdaaaGreatDoor.Sl
open Go Go.RowKit
set_option linter.unusedVariables false
set_option linter.unusedSimpArgs false

section
variable {P : Program} {β : Base} {rnd : Option (Nat × Loop)} {N : Nat} {env : Env} {L : List Atom} {K : Env → List Atom → Prop} {ops : Array Oper} {T : TT}
def fieldEq (T : TT) (f : Field) (xs ys : List Value) : Option Bool :=
 match T.get f.type with
 | some i => match i.desc, nth xs f.offset, nth ys f.offset with
  | .bool, some (.bool a), some (.bool b) => some (a == b)
  | .int _, some (.int k a), some (.int j b) => bif kindEq k j then some (a == b) else none
  | .string, some (.string a), some (.string b) => some (a == b)
  | _, _, _ => none
 | none => none
theorem part1 {t : Nat} {i : TI} (hi : TIok P t i) (ha : aggD i.desc = false) {xs : List Value} {n : Nat} {v : Value} (h : nth xs n = some v) (w : World) : (part t xs.toArray n).run P w = .ok v w := by
 refine run_part_of hi ?_ w
 rw [nth_eq] at h
 simp only [rdv, ha, dropN_eq]
 rw [List.drop_eq_getElem_cons (List.getElem?_eq_some_iff.1 h).1]
 simp [(List.getElem?_eq_some_iff.1 h).2]
theorem fieldEq_run (hT : TTok P T) {f : Field} {xs ys : List Value} {r : Bool} (h : fieldEq T f xs ys = some r) (d : Nat) (w : World) :
  ∃ a b, (part f.type xs.toArray f.offset).run P w = .ok a w ∧ (part f.type ys.toArray f.offset).run P w = .ok b w ∧ (Op.equalIn (d + 1) f.type a b).run P w = .ok r w := by
 unfold fieldEq at h
 split at h
 ·rename_i i hi
  have hti := hT.get hi
  have hu := hti.1.1
  split at h
  ·rename_i a b hd hx hy
   rw [hd] at hu
   simp only [Option.some.injEq] at h
   subst h
   exact ⟨_, _, part1 hti (by rw [hd]; rfl) hx w, part1 hti (by rw [hd]; rfl) hy w, eq_bool hu d w⟩
  ·rename_i kk k a j b hd hx hy
   rw [hd] at hu
   cases hk : kindEq k j with
   | false => rw [hk] at h; cases h
   | true =>
    rw [hk] at h
    have := kindEq_eq hk
    subst this
    simp only [cond_true, Option.some.injEq] at h
    subst h
    exact ⟨_, _, part1 hti (by rw [hd]; rfl) hx w, part1 hti (by rw [hd]; rfl) hy w, by simp [Op.equalIn, run_underlying hu]⟩
  ·rename_i a b hd hx hy
   rw [hd] at hu
   simp only [Option.some.injEq] at h
   subst h
   exact ⟨_, _, part1 hti (by rw [hd]; rfl) hx w, part1 hti (by rw [hd]; rfl) hy w, by simp [Op.equalIn, run_underlying hu]⟩
  ·cases h
 ·cases h
def fieldsEq (T : TT) : List Field → List Value → List Value → Option Bool
 | [], _, _ => some true
 | f :: r, xs, ys => match fieldEq T f xs ys with
  | some a => match fieldsEq T r xs ys with
   | some b => some (a && b)
   | none => none
  | none => none
def eqsE (T : TT) (N : Nat) (ops : Array Oper) (env : Env) (o : Oper) : Option (Nat × Nat × Bool × Bool) :=
 match dstE N ops env o with
 | some d => match o.op with
  | .binOp op t x y _ => match T.get t, ev env x, ev env y with
   | some i, some (.agg xs), some (.agg ys) => match i.desc, op with
    | .struct fs, .eql => match fieldsEq T fs.toList xs.toList ys.toList with
     | some r => some (d, t, true, r)
     | none => none
    | .struct fs, .neq => match fieldsEq T fs.toList xs.toList ys.toList with
     | some r => some (d, t, false, r)
     | none => none
    | _, _ => none
   | _, _, _ => none
  | _ => none
 | none => none
def namesOk (T : TT) (t : Nat) : Bool := match T.get t with
 | some i => match i.desc with
  | .struct fs => fs.toList.all fun f => !(f.name == "_")
  | _ => false
 | none => false
def gdE (ops : Array Oper) (env : Env) (o : Oper) : Option (Nat × Bool) :=
 match o.guard with
 | some (j, _) => match ops[j]? with
  | some p => match p.dst with
   | some d => match look env d with
    | some (.bool b) => some (d, b)
    | _ => none
   | none => none
  | none => none
 | none => none
theorem gdE_eq {o : Oper} {d : Nat} {b : Bool} (h : gdE ops env o = some (d, b)) : look env d = some (.bool b) := by
 unfold gdE at h
 split at h <;> try (cases h; done)
 split at h <;> try (cases h; done)
 split at h <;> try (cases h; done)
 split at h <;> try (cases h; done)
 rename_i hl
 simp only [Option.some.injEq, Prod.mk.injEq] at h
 obtain ⟨rfl, rfl⟩ := h
 exact hl
theorem SQ.gsplit {s : Stp} {r : List Stp} {obs : Obs} {d : Nat} {b : Bool} (h : gdE ops env s.o = some (d, b)) (h1 : b = true → SQ P β rnd N T ops K (s :: r) obs ((d, .bool true) :: env) L) (h2 : b = false → SQ P β rnd N T ops K (s :: r) obs ((d, .bool false) :: env) L) : SQ P β rnd N T ops K (s :: r) obs env L := by
 have hl := gdE_eq h
 have key : ∀ t v, look ((d, .bool b) :: env) t = some v → look env t = some v := fun t v e => by
  simp only [look] at e
  cases hb : Nat.beq d t with
  | true =>
   rw [hb] at e
   have := Nat.eq_of_beq_eq_true hb
   subst this
   simp only [cond_true] at e
   rw [hl]; exact e
  | false => rw [hb] at e; exact e
 cases b with
 | true => exact .env_ _ key (h1 rfl)
 | false => exact .env_ _ key (h2 rfl)
theorem SQ.pure1 (hT : TTok P T) {s : Stp} {r : List Stp} {obs : Obs} {env' : Env} (h : runP T N ops [s] env false = some (env', [])) (k : SQ P β rnd N T ops K r obs env' L) : SQ P β rnd N T ops K (s :: r) obs env L := by
 unfold runP at h
 split at h
 ·cases h
 rename_i hk
 split at h
 ·rename_i hw
  split at h
  ·rename_i v hv
   split at h
   ·rename_i d hd
    split at h
    ·rename_i hb
     simp only [runP, Option.some.injEq, Prod.mk.injEq] at h
     obtain ⟨rfl, -⟩ := h
     exact SQ.value hT hk hw hv (by simp [dstOk, hd, hb]) (by rw [hd]; exact k)
    ·cases h
   ·rename_i hd
    simp only [runP, Option.some.injEq, Prod.mk.injEq] at h
    obtain ⟨rfl, -⟩ := h
    exact SQ.value hT hk hw hv (by simp [dstOk, hd]) (by rw [hd]; exact k)
  ·cases h
 ·rename_i hw
  split at h
  ·rename_i d hd
   split at h
   ·rename_i hb
    simp only [runP, Option.some.injEq, Prod.mk.injEq] at h
    obtain ⟨rfl, -⟩ := h
    exact SQ.passed hk hw (by simp [dstOk, hd, hb]) (by rw [hd]; exact k)
   ·cases h
  ·rename_i hd
   simp only [runP, Option.some.injEq, Prod.mk.injEq] at h
   obtain ⟨rfl, -⟩ := h
   exact SQ.passed hk hw (by simp [dstOk, hd]) (by rw [hd]; exact k)
 ·cases h
end
end Go.Proofs.YtakkogdmlbkdaaaGreatDoor.Sl

