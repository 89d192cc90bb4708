/-
  A function out of its body; a range over a function.
-/
import Derived.Test.YtmaheecbohbilaaSlE
namespace Go.Proofs.Ytmaheecbohbilaa.Sl
open Go Go.RowKit
set_option linter.unusedVariables false
set_option linter.unusedSimpArgs false

section
variable {P : Program} {β : Base} {cx : Cx} {N : Nat} {env : Env} {L : List Atom} {T : TT}

/-! ### A function out of its body -/
def argEnv : List Value → Nat → Env
  | [], _ => []
  | v :: r, k => (k, v) :: argEnv r (k + 1)
theorem look_argEnv : ∀ (args : List Value) (k t : Nat) (v : Value), look (argEnv args k) t = some v → k ≤ t ∧ args[t - k]? = some v
  | [], _, _, _, h => by simp [argEnv, look] at h
  | u :: r, k, t, v, h => by
    simp only [argEnv, look] at h
    cases hb : Nat.beq k t with
    | true =>
      rw [hb] at h; simp at h; subst h
      have := Nat.eq_of_beq_eq_true hb
      subst this; simp
    | false =>
      rw [hb] at h
      have := look_argEnv r (k + 1) t v h
      refine ⟨by omega, ?_⟩
      rw [show t - k = (t - (k + 1)) + 1 from by omega]
      simpa using this.2
theorem argEnv_ok {args : List Value} (hl : args.length ≤ N) : EnvOk N { tmps := args.toArray ++ Array.replicate (N - args.toArray.size) undef, defers := [] } (argEnv args 0) := by
  refine ⟨by simp; omega, fun t v h => ?_⟩
  have := look_argEnv args 0 t v h
  have h2 : args[t]? = some v := by simpa using this.2
  have hlt := (List.getElem?_eq_some_iff.1 h2).1
  rw [Array.getD_eq_getD_getElem?, Array.getElem?_append_left (by simpa using hlt)]
  simp [h2]
/-- What the result variables hold. -/
def ResOk (T : TT) (β : Base) (env : Env) (L : List Atom) : List ResultVar → List Value → Prop
  | [], [] => True
  | .tmp t :: rs, v :: vs => look env t = some v ∧ ResOk T β env L rs vs
  | .cell a ty :: rs, v :: vs => (∃ (b off : Nat) (i : TI) (cs : List Value) (j : Nat), look env a = some (.pointer (some ⟨b, off, none⟩)) ∧ L[j]? = some (pt b cs) ∧ T.get ty = some i ∧ rdv i cs off = some v) ∧ ResOk T β env L rs vs
  | _, _ => False
def packV : List Value → Value
  | [v] => v
  | vs => .tuple vs.toArray
def rdRes (tmps : Array Value) : ResultVar → Sem Value
  | .tmp t => pure (tmps.getD t undef)
  | .cell a t => do loadVar t (← asAddr (tmps.getD a undef))
theorem results_eq (fn : Func) (tmps : Array Value) : results fn tmps = (do
    let vs ← fn.results.mapM (rdRes tmps)
    pure (if h : vs.size = 1 then vs[0] else .tuple vs)) := by
  unfold results
  congr 1
theorem results_run (hT : TTok P T) {a : Act} {w : World} {H : List Atom} (he : EnvOk N a env) (st : Sat β w (H ++ L)) : ∀ {rs : List ResultVar} {vs : List Value}, ResOk T β env L rs vs →
    (rs.mapM (rdRes a.tmps) : Sem (List Value)).run P w = .ok vs w
  | [], [], _ => by simp
  | .tmp t :: rs, v :: vs, ⟨h1, h2⟩ => by
    simp only [List.mapM_cons, rdRes, Sem.run_bind, Sem.run_pure, Result.andThen, he.2 t v h1, results_run hT he st h2]
  | .cell ad ty :: rs, v :: vs, ⟨⟨b, off, i, cs, j, h1, hL, hi, hv⟩, h2⟩ => by
    have e0 : (H ++ L)[H.length + j]? = some (pt b cs) := by rw [List.getElem?_append_right (by omega)]; simpa using hL
    obtain ⟨_, t, hb⟩ := st.cell_pt e0
    have e1 := run_loadVar_of (hT.get hi) hb hv
    simp only [List.mapM_cons, rdRes, Sem.run_bind, Sem.run_pure, Result.andThen, he.2 ad _ h1, asAddr, e1, results_run hT he st h2]
  | [], _ :: _, h => h.elim
  | .tmp _ :: _, [], h => h.elim
  | .cell _ _ :: _, [], h => h.elim
theorem results_pack (hT : TTok P T) {a : Act} {w : World} {H : List Atom} (he : EnvOk N a env) (st : Sat β w (H ++ L)) {fn : Func} {vs : List Value} (h : ResOk T β env L fn.results.toList vs) :
    (results fn a.tmps).run P w = .ok (packV vs) w := by
  have e := results_run hT he st h
  rw [results_eq, Array.mapM_eq_mapM_toList]
  simp only [map_eq_pure_bind, Sem.run_bind, e, Result.andThen, Sem.run_pure]
  congr 1
  match vs with
  | [] => rfl
  | [v] => rfl
  | a :: b :: r => rw [dif_neg (by simp)]; rfl
theorem Ent.sel {is : List Nat} {L A F : List Atom} (h : Sl.sel is L (fun A F => some (A, F)) = some (A, F)) : Ent L A := by
  obtain ⟨A2, F2, hp, hk⟩ := sel_eq h
  simp only [Option.some.injEq, Prod.mk.injEq] at hk
  obtain ⟨rfl, rfl⟩ := hk
  exact (Ent.perm hp).trans (Ent.left _ _)
/-- What a function's body must come to. -/
def fnPost (T : TT) (β : Base) (fn : Func) (R : Value → List Atom → Prop) : Post
  | .normal, env, L => ∃ vs A, ResOk T β env L fn.results.toList vs ∧ Ent L A ∧ R (packV vs) A
  | .ret, env, L => ∃ vs A, ResOk T β env L fn.results.toList vs ∧ Ent L A ∧ R (packV vs) A
  | _, _, _ => False
theorem leaves_marks {fn : Func} {n : Nat} {tmps : Array Value} {R : Ending → World → Prop} {F : List Atom} : ∀ (Ds : List Nat) (w : World), Sat β w (Ds.map dfA ++ (F ++ L)) →
    (∀ w', Sat β w' (F ++ L) → LeavesInM Fence.wide n P fn tmps R [] .returning w') → LeavesInM Fence.wide n P fn tmps R (Ds.map mark) .returning w
  | [], w, s, k => k w s
  | D :: Ds, w, s, k => by
    refine ⟨by simp, .inl ⟨D, w.putObj D (.deferred none), rfl, ?_, ?_⟩⟩
    · obtain ⟨h, rfl, hw⟩ := s.here
      exact run_takeDeferred (hw D (.deferred (some [])) (by simp [Hp.one])).2
    · refine leaves_marks Ds _ ?_ k
      have s2 : Sat β w ((fun h => h = Hp.one D (.deferred (some []))) :: (Ds.map dfA ++ (F ++ L))) := s
      have hlt : D < w.heap.size := by
        obtain ⟨h, rfl, hw⟩ := s.here
        exact (Array.getElem?_eq_some_iff.1 (hw D (.deferred (some [])) (by simp [Hp.one])).2).1
      exact (s2.update (w' := w.putObj D (.deferred none)) (o' := .deferred none) (A' := fun h => h = Hp.one D (.deferred none)) rfl (fun k => by
        by_cases hk : k = D
        · subst hk; rw [if_pos rfl]; exact World.putObj_heap_same hlt
        · rw [if_neg hk]; exact World.putObj_heap_other hk) (by simp [World.putObj]) rfl rfl rfl).ent (Ent.drop _ _)
/-- **A FUNCTION's WORD OUT OF ITS BODY's.** -/
theorem Tri.intro (hT : TTok P T) {g : FuncId} {fn : Func} {c : Code} {args : List Value} {A : List Atom} {R : Value → List Atom → Prop} (hf : P.funcs[g]? = some fn) (hn : (fn.name == "runtime.NumGoroutine") = false) (hb : fn.body = some c)
    (hN : fn.ntmps = N) (hl : Nat.ble args.length N = true) (h : ∀ F, CW P β ⟨none, F⟩ N c (argEnv args 0) A (fnPost T β fn R)) : Tri P β g args A R := by
  refine ⟨enters_of hf hn hb, fun F n w s => ?_⟩
  have hl' : args.length ≤ N := Nat.le_of_ble_eq_true hl
  refine callsIn_of_wp_marks hf hb trivial ?_ rfl
  rw [hN]
  refine wpIn_mono (h F n _ w ⟨argEnv_ok hl', [], rfl, by simpa [hid, rndA] using s⟩) ?_
  intro e a w' q
  have fin : (∃ env L, St β ⟨none, F⟩ N env L a w' ∧ ∃ vs A, ResOk T β env L fn.results.toList vs ∧ Ent L A ∧ R (packV vs) A) →
      LeavesInM Fence.wide n P fn a.tmps (fun e w' => ∃ v A', e = Ending.returned v ∧ Sat β w' (F ++ A') ∧ R v A') a.defers .returning w' := by
    rintro ⟨env, L, ⟨he, Ds, hds, st⟩, vs, A, hr, hE, hR⟩
    rw [hds]
    refine leaves_marks (F := F) (L := L) Ds w' (by simpa [hid, rndA, List.append_assoc] using st) fun w2 s2 => ?_
    exact ⟨_, results_pack hT he s2 hr, _, A, rfl, s2.ent (Ent.append (Ent.refl F) hE), hR⟩
  cases e with
  | normal => exact fin q
  | ret => exact fin q
  | panic _ => exact q.elim
  | outgrown => exact q.elim
  | exit _ => obtain ⟨_, _, _, q⟩ := q; exact q.elim
  | goto _ => obtain ⟨_, _, _, q⟩ := q; exact q.elim

def resT (env : Env) : List ResultVar → (List Value → Option (List Value)) → Option (List Value)
  | [], k => k []
  | .tmp t :: r, k => match look env t with
    | some v => resT env r fun vs => k (v :: vs)
    | none => none
  | .cell _ _ :: _, _ => none
theorem resT_eq {env : Env} : ∀ {rs : List ResultVar} {k : List Value → Option (List Value)} {r : List Value}, resT env rs k = some r → ∃ vs, ResOk T β env L rs vs ∧ k vs = some r
  | [], k, r, h => ⟨[], trivial, h⟩
  | .tmp t :: rs, k, r, h => by
    simp only [resT] at h
    cases e : look env t with
    | none => rw [e] at h; cases h
    | some v =>
      rw [e] at h
      obtain ⟨vs, h1, h2⟩ := resT_eq h
      exact ⟨v :: vs, ⟨e, h1⟩, h2⟩
  | .cell _ _ :: _, _, _, h => by simp [resT] at h
/-- At a return: results in temporaries. -/
theorem fin_ret {fn : Func} {R : Value → List Atom → Prop} {vs : List Value} {A : List Atom} (hr : resT env fn.results.toList some = some vs) (hE : Ent L A) (hR : R (packV vs) A) : fnPost T β fn R .ret env L := by
  obtain ⟨us, h1, h2⟩ := resT_eq (T := T) (β := β) (L := L) hr
  cases h2
  exact ⟨_, A, h1, hE, hR⟩
theorem fin_normal {fn : Func} {R : Value → List Atom → Prop} {vs : List Value} {A : List Atom} (hr : resT env fn.results.toList some = some vs) (hE : Ent L A) (hR : R (packV vs) A) : fnPost T β fn R .normal env L := by
  obtain ⟨us, h1, h2⟩ := resT_eq (T := T) (β := β) (L := L) hr
  cases h2
  exact ⟨_, A, h1, hE, hR⟩
theorem fin_cells {fn : Func} {R : Value → List Atom → Prop} (vs : List Value) {A : List Atom} (hr : ResOk T β env L fn.results.toList vs) (hE : Ent L A) (hR : R (packV vs) A) : fnPost T β fn R .ret env L := ⟨vs, A, hr, hE, hR⟩
end
end Go.Proofs.Ytmaheecbohbilaa.Sl
