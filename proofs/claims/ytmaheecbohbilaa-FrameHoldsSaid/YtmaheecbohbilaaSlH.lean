/-
  A range over a function: iterators, and the loops that ask them.
-/
import Derived.Test.YtmaheecbohbilaaSlG
namespace Go.Proofs.Ytmaheecbohbilaa.Sl
open Go Go.RowKit
set_option linter.unusedVariables false
set_option linter.unusedSimpArgs false

section
variable {P : Program} {β : Base} {cx : Cx} {rnd : Option (Nat × Loop)} {N : Nat} {env : Env} {L : List Atom} {T : TT}

/-- Some atoms, as one. -/
def packA (L : List Atom) : Atom := star L
theorem Ent.pack (L M : List Atom) : Ent (L ++ M) (packA L :: M) := fun h s => by
  obtain ⟨h1, h2, s1, s2, d, rfl⟩ := star_append.1 s
  exact ⟨_, ⟨h1, h2, s1, s2, d, rfl⟩, Hp.le_refl _⟩
theorem Ent.unpack (L M : List Atom) : Ent (packA L :: M) (L ++ M) := fun h s => by
  obtain ⟨h1, h2, s1, s2, d, rfl⟩ := s
  exact ⟨_, star_append.2 ⟨h1, h2, s1, s2, d, rfl⟩, Hp.le_refl _⟩

/-- What one call of yield does: the round l. -/
def Yld (P : Program) (β : Base) (l : Nat) (args : List Value) (A : List Atom) (R : Bool → List Atom → Prop) : Prop :=
  ∀ F n w, Sat β w (F ++ A) → YieldAt Fence.wide n P l args.toArray w fun e w' => ∃ b A', e = .returned (.bool b) ∧ Sat β w' (F ++ A') ∧ R b A'
theorem Yld.ent {l : Nat} {args : List Value} {A B : List Atom} {R : Bool → List Atom → Prop} (e : Ent B A) (h : Yld P β l args A R) : Yld P β l args B R :=
  fun F n w s => h F n w (s.ent (Ent.append (Ent.refl F) e))
theorem RoundIn.toFr (cx : Cx) {n l : Nat} {f : FuncId} {tmps : Array Value} {assign body : Code} {w : World} {R : Ending → World → Prop} (h : RoundIn Fence.wide n P l f tmps assign body w R) : RoundIn (Fr cx) n P l f tmps assign body w R := by
  unfold Fr
  cases cx.rnd with
  | none => exact h
  | some lr => exact h
def ylE (N : Nat) (ops : Array Oper) (env : Env) (o : Oper) : Option (Nat × Nat × List Value) :=
  match dstE N ops env o with
  | some d => match o.op with
    | .call c => match c.callee with
      | .value f => match ev env f with
        | some (.func (.yield l) first _) => match first.toList with
          | [] => evsK env c.args.toList fun vs => some (d, l, vs)
          | _ => none
        | _ => none
      | _ => none
    | _ => none
  | none => none
theorem SQ.yield {ops : Array Oper} {K : Env → List Atom → Prop} {s : Stp} {r : List Stp} {obs : Obs} {d l : Nat} {args : List Value} (hef : s.k = 1) (h : ylE N ops env s.o = some (d, l, args)) {A F : List Atom} {R : Bool → List Atom → Prop}
    (hY : Yld P β l args A R) (is : List Nat) (hs : sel is L (fun A F => some (A, F)) = some (A, F)) (k : ∀ b A', R b A' → watchOk β obs (A' ++ F) s.watch ∧ SQ P β rnd N T ops K r obs ((d, .bool b) :: env) (A' ++ F)) : SQ P β rnd N T ops K (s :: r) obs env L := by
  obtain ⟨A2, F2, hp, hk⟩ := sel_eq hs
  simp only [Option.some.injEq, Prod.mk.injEq] at hk
  obtain ⟨rfl, rfl⟩ := hk
  unfold ylE at h
  split at h <;> try (cases h; done)
  rename_i d' hde
  obtain ⟨hw, hd, hdl⟩ := dstE_eq hde
  split at h <;> try (cases h; done)
  rename_i c hop
  split at h <;> try (cases h; done)
  rename_i f hc
  split at h <;> try (cases h; done)
  rename_i l' first cap hev
  split at h <;> try (cases h; done)
  rename_i hfst
  obtain ⟨vs, h1, h2⟩ := evsK_eq h
  simp only [Option.some.injEq, Prod.mk.injEq] at h2
  obtain ⟨rfl, rfl, rfl⟩ := h2
  refine SQ.act hef hw fun fm n Qx a w st0 => ?_
  obtain ⟨hen, Ds, hds, st⟩ := st0
  have s2 : Sat β w ((hid Ds ⟨rnd, fm⟩ ++ F2) ++ A2) := st.perm (by
    rw [List.append_assoc]
    exact List.Perm.append_left _ (hp.trans List.perm_append_comm))
  obtain ⟨fn, tmps, assign, body, hrun, hround⟩ := hY (hid Ds ⟨rnd, fm⟩ ++ F2) (n - 1) w s2
  have e2 : (execOp a.eval s.o).run P w = .ok (.round l' fn tmps assign body) w := by
    obtain ⟨si, ⟨dst, op, type, pos, after, guard⟩, se, sw⟩ := s
    obtain ⟨callee, cargs, ats⟩ := c
    simp only at hop hc h1
    subst hop
    subst hc
    have e3 := evs_map (fun x v hx => hen.eval hx) h1
    have e4 : cargs.map a.eval = vs.toArray := Array.toList_inj.1 (by simpa using e3)
    have e5 : first = #[] := Array.toList_inj.1 (by simpa using hfst)
    simp only [execOp, resolve, e4, hen.eval hev, Deferred.ofValue, e5, Sem.run_bind, Sem.run_pure, Result.andThen, invoke, Array.empty_append]
    exact hrun
  rw [e2]
  refine ⟨fun h => (by rw [Fr_depth] at h; cases h), ?_⟩
  refine (RoundIn.toFr ⟨rnd, fm⟩ hround).mono ?_
  rintro e w' ⟨b, A', rfl, s3, hr⟩
  exact ⟨_, _, ⟨by rw [hd]; exact hen.put hdl _, Ds, by rw [hd]; exact hds, s3.perm (by
    rw [List.append_assoc]
    exact List.Perm.append_left _ List.perm_append_comm)⟩, k b A' hr⟩

/-- **AN ITERATOR**: called with a yield it hands over the xs, one after the other, up to a round that says no more; what it needs (A) lies as it lay. -/
def Iter (P : Program) (β : Base) (g : FuncId) (cap : List Value) (A : List Atom) {α : Type} (encs : α → List Value) (xs : List α) : Prop :=
  ∀ (l : Nat) (J Jx : List α → Atom),
    (∀ pre x, (pre ++ [x]) <+: xs → Yld P β l (encs x) (J pre :: A) fun b A' => (b = true ∧ A' = J (pre ++ [x]) :: A) ∨ (b = false ∧ A' = Jx (pre ++ [x]) :: A)) →
    Tri P β g (.func (.yield l) #[] #[] :: cap) (J [] :: A) fun _ L' => L' = J xs :: A ∨ ∃ pre, L' = Jx pre :: A

def bindps : List Tmp → List Value → Env → Env
  | p :: ps, v :: vs, env => bindps ps vs ((p, v) :: env)
  | _, _, env => env
theorem bindps_ok {ps : List Tmp} : ∀ {vs : List Value} {env : Env} {tmps : Array Value}, (∀ p ∈ ps, p < N) → EnvOk N { tmps, defers := [] } env →
    EnvOk N { tmps := (ps.zip vs).foldl (fun t (x : Tmp × Value) => t.setIfInBounds x.1 x.2) tmps, defers := [] } (bindps ps vs env) := by
  induction ps with
  | nil => intro vs env tmps _ h; simpa [bindps] using h
  | cons p ps ih =>
    intro vs env tmps hp h
    cases vs with
    | nil => simpa [bindps] using h
    | cons v vs =>
      simp only [List.zip_cons_cons, List.foldl_cons, bindps]
      exact ih (fun q hq => hp q (List.mem_cons_of_mem _ hq)) (h.put (hp p List.mem_cons_self) v)
theorem foldl_zip_array (ps : Array Tmp) (vs : List Value) (tmps : Array Value) :
    (ps.zip vs.toArray).foldl (fun t (x : Tmp × Value) => t.setIfInBounds x.1 x.2) tmps = (ps.toList.zip vs).foldl (fun t (x : Tmp × Value) => t.setIfInBounds x.1 x.2) tmps := by
  rw [← Array.foldl_toList]; simp

theorem Sat.loop {w : World} {l : Nat} {r : Loop} {M : List Atom} (s : Sat β w (lpA l r :: M)) : w.heap[l]? = some (.loop r) := by
  obtain ⟨h, rfl, hw⟩ := s.here
  exact (hw l (.loop r) (by simp [Hp.one])).2
theorem Sat.putLoop {w : World} {l : Nat} {r r' : Loop} {M : List Atom} (s : Sat β w (lpA l r :: M)) : Sat β (w.putObj l (.loop r')) (lpA l r' :: M) := by
  have hlt : l < w.heap.size := (Array.getElem?_eq_some_iff.1 s.loop).1
  have s2 : Sat β w ((fun h => h = Hp.one l (.loop r)) :: M) := s
  exact s2.update (o' := .loop r') rfl (fun k => by
    by_cases hk : k = l
    · subst hk; rw [if_pos rfl]; exact World.putObj_heap_same hlt
    · rw [if_neg hk]; exact World.putObj_heap_other hk) (by simp [World.putObj]) rfl rfl rfl

/-- What a round's body comes to: on, or out. -/
def rndQ (I : List Atom) (stop : Code → List Atom → Prop) (A : List Atom) : Post
  | .normal, _, L => Ent L (I ++ A)
  | .ret, _, L => ∃ M, stop .ret M ∧ Ent L (M ++ A)
  | .exit id, _, L => ∃ M, stop (.exit id) M ∧ Ent L (M ++ A)
  | .goto l, _, L => ∃ M, stop (.goto l) M ∧ Ent L (M ++ A)
  | _, _, _ => False
def recd (fn : FuncId) (tmps : Array Value) (ps : Array Tmp) (assign body : Code) (D : Nat) (st : LoopState) (pend : Option Code) : Loop :=
  { state := st, pending := pend, fn, tmps, params := ps, assign, body, defers := D }
/-- One round. -/
theorem round_yld {α : Type} {encs : α → List Value} {I : List α → List Atom} {stop : Code → List Atom → Prop} {A X : List Atom} {l D : Nat} {fn : FuncId} {tmps : Array Value} {ps : Array Tmp} {assign body : Code} {pre : List α} {x : α}
    (he : EnvOk N { tmps, defers := [] } env) (hps : (encs x).length = ps.size) (hpN : ∀ p ∈ ps.toList, p < N)
    (h : ∀ fm rec1, CW P β ⟨some (l, rec1), fm⟩ N assign (bindps ps.toList (encs x) env) (I pre ++ A) (thn (fun env2 L2 => ∀ fm2 rec2, CW P β ⟨some (l, rec2), fm2⟩ N body env2 L2 (rndQ (I (pre ++ [x])) stop A)) (fun _ _ _ => False))) :
    Yld P β l (encs x) (packA (lpA l (recd fn tmps ps assign body D .ready none) :: (X ++ I pre)) :: A) fun b A' =>
      (b = true ∧ A' = packA (lpA l (recd fn tmps ps assign body D .ready none) :: (X ++ I (pre ++ [x]))) :: A) ∨
      (b = false ∧ A' = (fun h => ∃ c M, stop c M ∧ packA (lpA l (recd fn tmps ps assign body D .done (some c)) :: (X ++ M)) h) :: A) := by
  intro F n w s
  have s1 : Sat β w (lpA l (recd fn tmps ps assign body D .ready none) :: ((F ++ X) ++ (I pre ++ A))) := by
    have s0 := (s.perm List.perm_middle).ent (Ent.unpack _ _)
    refine s0.perm ?_
    simp only [List.cons_append, List.append_assoc]
    refine List.Perm.cons _ ?_
    -- X ++ (I pre ++ (F ++ A)) ~ F ++ (X ++ (I pre ++ A))
    have p1 : (X ++ (I pre ++ (F ++ A))).Perm (X ++ (F ++ (I pre ++ A))) := List.Perm.append_left X (List.perm_append_comm_assoc _ _ _)
    exact p1.trans (List.perm_append_comm_assoc _ _ _)
  have hy := run_yield (P := P) (args := (encs x).toArray) s1.loop (by simpa [recd] using hps)
  refine ⟨fn, _, assign, body, hy, roundIn_of_wpIn trivial ?_⟩
  have hst : St β ⟨some (l, recd fn tmps ps assign body D .ready none), F ++ X⟩ N (bindps ps.toList (encs x) env) (I pre ++ A)
      { tmps := (ps.zip (encs x).toArray).foldl (fun t (x : Tmp × Value) => t.setIfInBounds x.1 x.2) tmps, defers := [] } w := by
    refine ⟨?_, [], rfl, by simpa [hid, rndA] using s1⟩
    rw [foldl_zip_array]
    exact bindps_ok hpN he
  refine wpIn_mono (h _ _ n _ w hst) ?_
  intro e a1 w1 q
  cases e with
  | panic _ => exact q.elim
  | outgrown => exact q.elim
  | exit _ => obtain ⟨_, _, _, q⟩ := q; exact q.elim
  | goto _ => obtain ⟨_, _, _, q⟩ := q; exact q.elim
  | ret => obtain ⟨_, _, _, q⟩ := q; exact q.elim
  | normal =>
    obtain ⟨env2, L2, st2, hk⟩ := q
    obtain ⟨he2, Ds2, hds2, sb⟩ := st2
    have sb1 : Sat β w1 (lpA l (recd fn tmps ps assign body D .ready none) :: (Ds2.map dfA ++ ((F ++ X) ++ L2))) := sb.perm (by
      simp only [hid, rndA, List.append_assoc, List.cons_append, List.nil_append]
      exact List.perm_middle)
    have hb := run_beginRound (P := P) sb1.loop rfl
    have sb2 := sb1.putLoop (r' := recd fn tmps ps assign body D .busy none)
    refine ⟨_, hb, ?_⟩
    have st3 : St β ⟨some (l, recd fn tmps ps assign body D .busy none), F ++ X⟩ N env2 L2 a1 (w1.putObj l (.loop (recd fn tmps ps assign body D .busy none))) := ⟨he2, Ds2, hds2, sb2.perm (by
      simp only [hid, rndA, List.append_assoc, List.cons_append, List.nil_append]
      exact List.perm_middle.symm)⟩
    refine wpIn_mono (hk (F ++ X) (recd fn tmps ps assign body D .busy none) n a1 _ st3) ?_
    intro e3 a3 w3 q3
    have fin : ∀ (jump : Option Code) (env3 : Env) (L3 : List Atom), St β ⟨some (l, recd fn tmps ps assign body D .busy none), F ++ X⟩ N env3 L3 a3 w3 →
        ∃ w4, (Instr.endRound l jump).run P w3 = .ok (.bool jump.isNone) w4 ∧ Sat β w4 (lpA l (recd fn tmps ps assign body D (if jump.isNone then .ready else .done) jump) :: ((F ++ X) ++ L3)) := by
      intro jump env3 L3 st4
      obtain ⟨_, Ds4, _, s4⟩ := st4
      have s5 : Sat β w3 (lpA l (recd fn tmps ps assign body D .busy none) :: ((F ++ X) ++ L3)) := (s4.perm (by
        simp only [hid, rndA, List.append_assoc, List.cons_append, List.nil_append]
        exact List.perm_middle)).ent (Ent.cons _ (Ent.right _ _))
      exact ⟨_, run_endRound jump s5.loop, s5.putLoop⟩
    have out : ∀ (c : Code) (env3 : Env) (L3 : List Atom), St β ⟨some (l, recd fn tmps ps assign body D .busy none), F ++ X⟩ N env3 L3 a3 w3 → (∃ M, stop c M ∧ Ent L3 (M ++ A)) →
        ∃ v w', (Instr.endRound l (some c)).run P w3 = .ok v w' ∧ ∃ b A', Ending.returned v = .returned (.bool b) ∧ Sat β w' (F ++ A') ∧ ((b = true ∧ A' = packA (lpA l (recd fn tmps ps assign body D .ready none) :: (X ++ I (pre ++ [x]))) :: A) ∨
          (b = false ∧ A' = (fun h => ∃ c M, stop c M ∧ packA (lpA l (recd fn tmps ps assign body D .done (some c)) :: (X ++ M)) h) :: A)) := by
      rintro c env3 L3 st4 ⟨M, hM, hE⟩
      obtain ⟨w4, hrun, s6⟩ := fin (some c) env3 L3 st4
      refine ⟨_, w4, hrun, false, _, rfl, ?_, .inr ⟨rfl, rfl⟩⟩
      have s7 := s6.ent (Ent.cons _ (Ent.append (Ent.refl (F ++ X)) hE))
      have s8 : Sat β w4 ((lpA l (recd fn tmps ps assign body D .done (some c)) :: (X ++ M)) ++ (F ++ A)) := s7.perm (by
        simp only [List.cons_append, List.append_assoc, Option.isNone_some, Bool.false_eq_true, if_false]
        refine List.Perm.cons _ ?_
        exact (List.perm_append_comm_assoc F X (M ++ A)).trans (List.Perm.append_left X (List.perm_append_comm_assoc F M A)))
      have s9 := (s8.ent (Ent.pack _ _)).ent (Ent.head (M := [fun h => ∃ c M, stop c M ∧ packA (lpA l (recd fn tmps ps assign body D .done (some c)) :: (X ++ M)) h]) (fun h sh => by
        obtain ⟨h1, h2, p, e0, d, rfl⟩ := sh
        exact ⟨_, ⟨h1, h2, ⟨c, M, hM, p⟩, e0, d, rfl⟩, Hp.le_refl _⟩))
      exact s9.perm (by rw [List.singleton_append]; exact List.perm_middle.symm)
    cases e3 with
    | normal =>
      obtain ⟨env3, L3, st4, hE⟩ := q3
      obtain ⟨w4, hrun, s6⟩ := fin none env3 L3 st4
      refine ⟨_, w4, hrun, true, _, rfl, ?_, .inl ⟨rfl, rfl⟩⟩
      have s7 := s6.ent (Ent.cons _ (Ent.append (Ent.refl (F ++ X)) hE))
      have s8 : Sat β w4 ((lpA l (recd fn tmps ps assign body D .ready none) :: (X ++ I (pre ++ [x]))) ++ (F ++ A)) := s7.perm (by
        simp only [List.cons_append, List.append_assoc, Option.isNone_none, if_true]
        refine List.Perm.cons _ ?_
        exact (List.perm_append_comm_assoc F X _).trans (List.Perm.append_left X (List.perm_append_comm_assoc F _ A)))
      exact (s8.ent (Ent.pack _ _)).perm List.perm_middle.symm
    | ret => obtain ⟨env3, L3, st4, hE⟩ := q3; exact out .ret env3 L3 st4 hE
    | exit id => obtain ⟨env3, L3, st4, hE⟩ := q3; exact out (.exit id) env3 L3 st4 hE
    | goto t => obtain ⟨env3, L3, st4, hE⟩ := q3; exact out (.goto t) env3 L3 st4 hE
    | panic _ => exact q3.elim
    | outgrown => exact q3.elim

/-- **'for .. := range f { .. }'**, of an iterator: what holds between two rounds (I), and what a round that leaves leaves (stop). -/
theorem CW.rangeFunc {Q : Post} {g : Operand} {ps : Array Tmp} {assign body : Code} {gf : Nat} {cap : Array Value} (hg : ev env g = some (.func (.func gf) #[] cap)) {A L0 : List Atom} {α : Type} {encs : α → List Value} {xs : List α}
    (hI : Iter P β gf cap.toList A encs xs) (is : List Nat) (hs : sel is L (fun A F => some (A, F)) = some (A, L0)) (I : List α → List Atom) (stop : Code → List Atom → Prop) (hL0 : Ent L0 (I [])) (hps : ∀ x, (encs x).length = ps.size) (hpN : ∀ p ∈ ps.toList, p < N)
    (hbody : ∀ pre x, (pre ++ [x]) <+: xs → ∀ l fm rec1, CW P β ⟨some (l, rec1), fm⟩ N assign (bindps ps.toList (encs x) env) (I pre ++ A) (thn (fun env2 L2 => ∀ fm2 rec2, CW P β ⟨some (l, rec2), fm2⟩ N body env2 L2 (rndQ (I (pre ++ [x])) stop A)) (fun _ _ _ => False)))
    (hdone : Q .normal env (I xs ++ A)) (hstop : ∀ c M, stop c M → CW P β cx N c env (M ++ A) Q) : CW P β cx N (.rangeFunc g ps assign body) env L Q := by
  obtain ⟨A2, F2, hp, hk⟩ := sel_eq hs
  simp only [Option.some.injEq, Prod.mk.injEq] at hk
  obtain ⟨rfl, rfl⟩ := hk
  intro n a w st
  obtain ⟨he, Ds, hds, s⟩ := st
  refine wpIn_rangeFunc fun fn hfn => ?_
  have heD : EnvOk N { tmps := a.tmps, defers := [] } env := he
  have hgv := he.eval hg
  -- the statement, its record and its block laid
  have main : ∀ (l D : Nat) (mk : List Deferred) (Ds2 : List Nat) (X : List Atom) (w1 : World), (Instr.enterLoop fn a.tmps ps assign body (Fr cx).round).run P w = .ok (l, mk) w1 → mk ++ a.defers = Ds2.map mark →
      (∀ M w', Sat β w' (hid Ds cx ++ (X ++ M)) → Sat β w' (hid Ds2 cx ++ M)) →
      Sat β w1 (lpA l (recd fn a.tmps ps assign body D .ready none) :: (X ++ (hid Ds cx ++ L))) →
      ∃ (l : Nat) (mark : List Deferred) (w₁ : World) (d : Deferred) (w₁' : World) (f : FuncId) (args : Array Value) (w₂ : World),
        (Instr.enterLoop fn a.tmps ps assign body (Fr cx).round).run P w = .ok (l, mark) w₁ ∧ (resolve a.eval (rangeCall g l) 0).run P w₁ = .ok d w₁' ∧
        (∀ f', Target.leads P w₁' d.target d.args = some f' → (Fr cx).fn f') ∧ (invoke d.target d.args).run P w₁' = .ok (.enter f args) w₂ ∧ ((Fr cx).depth.isSome = true → 1 ≤ n) ∧
        CallsIn (Fr cx) (n - 1) P f args w₂ (rangePost (Fr cx) n P l (up β cx N Q) { a with defers := mark ++ a.defers }) := by
    intro l D mk Ds2 X w1 henter hmk hX s1
    let J : List α → Atom := fun pre => packA (lpA l (recd fn a.tmps ps assign body D .ready none) :: (X ++ I pre))
    let Jx : List α → Atom := fun _ => fun h => ∃ c M, stop c M ∧ packA (lpA l (recd fn a.tmps ps assign body D .done (some c)) :: (X ++ M)) h
    have tri := hI l J Jx (fun pre x hpre => round_yld heD (hps x) hpN (hbody pre x hpre l))
    have e0 := tri.1 (#[.func (.yield l) #[] #[]] ++ cap) w1
    refine ⟨l, mk, w1, { target := .fn (.func gf) cap, args := #[.func (.yield l) #[] #[]] }, w1, gf, #[.func (.yield l) #[] #[]] ++ cap, w1, henter, ?_, fun f' _ => Fr_fn cx f', (by simp only [invoke]; exact e0), fun h => (by rw [Fr_depth] at h; cases h), ?_⟩
    · have e1 : (#[.const (.func (.yield l) #[] #[])] : Array Operand).map a.eval = #[.func (.yield l) #[] #[]] := by simp [Act.eval]
      simp only [resolve, hgv, e1, Deferred.ofValue, Sem.run_pure, Array.empty_append]
    · have s2 : Sat β w1 ((lpA l (recd fn a.tmps ps assign body D .ready none) :: (X ++ I [])) ++ (hid Ds cx ++ A2)) := by
        have s0 := s1.ent (Ent.cons _ (Ent.append (Ent.refl X) (Ent.append (Ent.refl (hid Ds cx)) ((Ent.perm hp).trans (Ent.append (Ent.refl A2) hL0)))))
        refine s0.perm ?_
        simp only [List.cons_append, List.append_assoc]
        refine List.Perm.cons _ (List.Perm.append_left X ?_)
        exact (List.Perm.append_left _ List.perm_append_comm).trans (List.perm_append_comm_assoc _ _ _)
      have s3 : Sat β w1 (hid Ds cx ++ (J [] :: A2)) := (s2.ent (Ent.pack _ _)).perm List.perm_middle.symm
      have hc := Fr_calls cx (tri.2 (hid Ds cx) (n - 1) w1 s3)
      have ea : (Value.func (.yield l) #[] #[] :: cap.toList).toArray = #[.func (.yield l) #[] #[]] ++ cap := Array.toList_inj.1 (by simp)
      rw [ea] at hc
      refine hc.mono ?_
      rintro e w3 ⟨v, L', rfl, s4, rfl | ⟨pre, rfl⟩⟩
      · -- all have come
        have s5 := (s4.perm List.perm_middle).ent (Ent.unpack _ _)
        have s6 : Sat β w3 (lpA l (recd fn a.tmps ps assign body D .ready none) :: (hid Ds cx ++ (X ++ (I xs ++ A2)))) := s5.perm (by
          simp only [List.cons_append, List.append_assoc]
          refine List.Perm.cons _ ?_
          exact (List.Perm.append_left X (List.perm_append_comm_assoc _ _ _)).trans (List.perm_append_comm_assoc _ _ _))
        refine ⟨none, _, run_endLoop s6.loop (by simp [recd]), ?_⟩
        have s7 := (s6.putLoop (r' := { recd fn a.tmps ps assign body D .ready none with state := .exhausted })).ent (Ent.drop _ _)
        exact ⟨env, _, ⟨⟨he.1, he.2⟩, Ds2, hmk, hX _ _ s7⟩, hdone⟩
      · -- a round has left
        have s5 : Sat β w3 (Jx pre :: (hid Ds cx ++ A2)) := s4.perm List.perm_middle
        obtain ⟨hb, h, ⟨h1, h2, ⟨c, M, hM, hpk⟩, st2, d, rfl⟩, hw⟩ := s5
        have s6 : Sat β w3 (packA (lpA l (recd fn a.tmps ps assign body D .done (some c)) :: (X ++ M)) :: (hid Ds cx ++ A2)) := ⟨hb, _, ⟨h1, h2, hpk, st2, d, rfl⟩, hw⟩
        have s7 := s6.ent (Ent.unpack _ _)
        have s8 : Sat β w3 (lpA l (recd fn a.tmps ps assign body D .done (some c)) :: (hid Ds cx ++ (X ++ (M ++ A2)))) := s7.perm (by
          simp only [List.cons_append, List.append_assoc]
          refine List.Perm.cons _ ?_
          exact (List.Perm.append_left X (List.perm_append_comm_assoc _ _ _)).trans (List.perm_append_comm_assoc _ _ _))
        refine ⟨some c, _, run_endLoop s8.loop (by simp [recd]), ?_⟩
        have s9 := (s8.putLoop (r' := { recd fn a.tmps ps assign body D .done (some c) with state := .exhausted })).ent (Ent.drop _ _)
        exact hstop c M hM n _ _ ⟨⟨he.1, he.2⟩, Ds2, hmk, hX _ _ s9⟩
  cases hrnd : cx.rnd with
  | none =>
    have hround : (Fr cx).round = none := by rw [Fr_round, hrnd]; rfl
    refine main (w.heap.size + 1) w.heap.size [mark w.heap.size] (w.heap.size :: Ds) [dfA w.heap.size] _ (by rw [hround]; exact run_enterLoop_outer fn a.tmps ps assign body) (by simp [hds]) (fun M w' hM => hM.perm ?_) ?_
    · simp only [hid, List.map_cons, List.cons_append, List.nil_append, List.append_assoc]
      have := List.perm_middle (a := dfA w.heap.size) (l₁ := Ds.map dfA ++ (rndA cx.rnd ++ cx.fm)) (l₂ := M)
      simpa only [List.append_assoc] using this
    · have t1 := s.new (.deferred (some [])) (A := dfA w.heap.size) rfl
      have t2 := t1.new (.loop (recd fn a.tmps ps assign body w.heap.size .ready none)) (A := lpA (w.alloc (.deferred (some []))).heap.size (recd fn a.tmps ps assign body w.heap.size .ready none)) rfl
      simp only [World.size_alloc] at t2
      exact t2
  | some lr =>
    obtain ⟨l0, r0⟩ := lr
    have hround : (Fr cx).round = some l0 := by rw [Fr_round, hrnd]; rfl
    have s0 : Sat β w (lpA l0 r0 :: (Ds.map dfA ++ (cx.fm ++ L))) := s.perm (by
      simp only [hid, hrnd, rndA, List.append_assoc, List.cons_append, List.nil_append]
      exact List.perm_middle)
    refine main w.heap.size r0.defers [] Ds [] _ (by rw [hround]; exact run_enterLoop_inner s0.loop fn a.tmps ps assign body) (by simp [hds]) (fun M w' hM => hM) ?_
    exact s.new (.loop (recd fn a.tmps ps assign body r0.defers .ready none)) (A := lpA w.heap.size (recd fn a.tmps ps assign body r0.defers .ready none)) rfl
end
end Go.Proofs.Ytmaheecbohbilaa.Sl
