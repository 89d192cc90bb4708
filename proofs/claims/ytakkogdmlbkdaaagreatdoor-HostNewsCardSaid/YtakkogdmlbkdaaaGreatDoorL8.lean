import Derived.Test.YtakkogdmlbkdaaaGreatDoorL7
namespace Go.Proofs.YtakkogdmlbkdaaaGreatDoor.Sl
open Go Go.RowKit
set_option linter.unusedVariables false
set_option linter.unusedSimpArgs false
section
variable {P : Program} {β : Base} {cx : Cx} {rnd : Option (Nat × Loop)} {N : Nat} {env : Env} {L : List Atom} {T : TT}
def IterD (P : Program) (β : Base) (g : FuncId) (cap : List Value) {α : Type} (A : List α → List Atom) (encs : α → List Value) (xs : List α) : Prop :=
 ∀ (l : Nat) (J Jx : List α → Atom),
  (∀ pre x, (pre ++ [x]) <+: xs → Yld P β l (encs x) (J pre :: A pre) fun b A' => (b = true ∧ A' = J (pre ++ [x]) :: A (pre ++ [x])) ∨ (b = false ∧ A' = Jx (pre ++ [x]) :: A (pre ++ [x]))) →
  Tri P β g (.func (.yield l) #[] #[] :: cap) (J [] :: A []) fun _ L' => L' = J xs :: A xs ∨ ∃ pre, L' = Jx pre :: A pre
theorem round_yldD {α : Type} {encs : α → List Value} {I : List α → List Atom} {stop : Code → List Atom → Prop} {A A1 X : List Atom} {l D : Nat} {fn : FuncId} {tmps : Array Value} {ps : Array Tmp} {assign body : Code} {pre : List α} {x : α}
  (he : EnvOk N { tmps, defers := [] } env) (hps : (encs x).length = ps.size) (hpN : ∀ p ∈ ps.toList, p < N)
  (h : ∀ fm rec1, CW P β ⟨some (l, rec1), fm⟩ N assign (bindps ps.toList (encs x) env) (I pre ++ A) (thn (fun env2 L2 => ∀ fm2 rec2, CW P β ⟨some (l, rec2), fm2⟩ N body env2 L2 (rndQ (I (pre ++ [x])) stop A1)) (fun _ _ _ => False))) :
  Yld P β l (encs x) (packA (lpA l (recd fn tmps ps assign body D .ready none) :: (X ++ I pre)) :: A) fun b A' =>
   (b = true ∧ A' = packA (lpA l (recd fn tmps ps assign body D .ready none) :: (X ++ I (pre ++ [x]))) :: A1) ∨
   (b = false ∧ A' = (fun h => ∃ c M, stop c M ∧ packA (lpA l (recd fn tmps ps assign body D .done (some c)) :: (X ++ M)) h) :: A1) := by
 intro F n w s
 have s1 : Sat β w (lpA l (recd fn tmps ps assign body D .ready none) :: ((F ++ X) ++ (I pre ++ A))) := by
  have s0 := (s.perm List.perm_middle).ent (Ent.unpack _ _)
  refine s0.perm ?_
  simp only [List.cons_append, List.append_assoc]
  refine List.Perm.cons _ ?_
  -- X ++ (I pre ++ (F ++ A)) ~ F ++ (X ++ (I pre ++ A))
  have p1 : (X ++ (I pre ++ (F ++ A))).Perm (X ++ (F ++ (I pre ++ A))) := List.Perm.append_left X (List.perm_append_comm_assoc _ _ _)
  exact p1.trans (List.perm_append_comm_assoc _ _ _)
 have hy := run_yield (P := P) (args := (encs x).toArray) s1.loop (by simpa [recd] using hps)
 refine ⟨fn, _, assign, body, hy, roundIn_of_wpIn trivial ?_⟩
 have hst : St β ⟨some (l, recd fn tmps ps assign body D .ready none), F ++ X⟩ N (bindps ps.toList (encs x) env) (I pre ++ A)
   { tmps := (ps.zip (encs x).toArray).foldl (fun t (x : Tmp × Value) => t.setIfInBounds x.1 x.2) tmps, defers := [] } w := by
  refine ⟨?_, [], rfl, by simpa [hid, rndA] using s1⟩
  rw [foldl_zip_array]
  exact bindps_ok hpN he
 refine wpIn_mono (h _ _ n _ w hst) ?_
 intro e a1 w1 q
 cases e with
 | panic _ => exact q.elim
 | outgrown => exact q.elim
 | exit _ => obtain ⟨_, _, _, q⟩ := q; exact q.elim
 | goto _ => obtain ⟨_, _, _, q⟩ := q; exact q.elim
 | ret => obtain ⟨_, _, _, q⟩ := q; exact q.elim
 | normal =>
  obtain ⟨env2, L2, st2, hk⟩ := q
  obtain ⟨he2, Ds2, hds2, sb⟩ := st2
  have sb1 : Sat β w1 (lpA l (recd fn tmps ps assign body D .ready none) :: (Ds2.map dfA ++ ((F ++ X) ++ L2))) := sb.perm (by
   simp only [hid, rndA, List.append_assoc, List.cons_append, List.nil_append]
   exact List.perm_middle)
  have hb := run_beginRound (P := P) sb1.loop rfl
  have sb2 := sb1.putLoop (r' := recd fn tmps ps assign body D .busy none)
  refine ⟨_, hb, ?_⟩
  have st3 : St β ⟨some (l, recd fn tmps ps assign body D .busy none), F ++ X⟩ N env2 L2 a1 (w1.putObj l (.loop (recd fn tmps ps assign body D .busy none))) := ⟨he2, Ds2, hds2, sb2.perm (by
   simp only [hid, rndA, List.append_assoc, List.cons_append, List.nil_append]
   exact List.perm_middle.symm)⟩
  refine wpIn_mono (hk (F ++ X) (recd fn tmps ps assign body D .busy none) n a1 _ st3) ?_
  intro e3 a3 w3 q3
  have fin : ∀ (jump : Option Code) (env3 : Env) (L3 : List Atom), St β ⟨some (l, recd fn tmps ps assign body D .busy none), F ++ X⟩ N env3 L3 a3 w3 →
    ∃ w4, (Instr.endRound l jump).run P w3 = .ok (.bool jump.isNone) w4 ∧ Sat β w4 (lpA l (recd fn tmps ps assign body D (if jump.isNone then .ready else .done) jump) :: ((F ++ X) ++ L3)) := by
   intro jump env3 L3 st4
   obtain ⟨_, Ds4, _, s4⟩ := st4
   have s5 : Sat β w3 (lpA l (recd fn tmps ps assign body D .busy none) :: ((F ++ X) ++ L3)) := (s4.perm (by
    simp only [hid, rndA, List.append_assoc, List.cons_append, List.nil_append]
    exact List.perm_middle)).ent (Ent.cons _ (Ent.right _ _))
   exact ⟨_, run_endRound jump s5.loop, s5.putLoop⟩
  have out : ∀ (c : Code) (env3 : Env) (L3 : List Atom), St β ⟨some (l, recd fn tmps ps assign body D .busy none), F ++ X⟩ N env3 L3 a3 w3 → (∃ M, stop c M ∧ Ent L3 (M ++ A1)) →
    ∃ v w', (Instr.endRound l (some c)).run P w3 = .ok v w' ∧ ∃ b A1', Ending.returned v = .returned (.bool b) ∧ Sat β w' (F ++ A1') ∧ ((b = true ∧ A1' = packA (lpA l (recd fn tmps ps assign body D .ready none) :: (X ++ I (pre ++ [x]))) :: A1) ∨
     (b = false ∧ A1' = (fun h => ∃ c M, stop c M ∧ packA (lpA l (recd fn tmps ps assign body D .done (some c)) :: (X ++ M)) h) :: A1)) := by
   rintro c env3 L3 st4 ⟨M, hM, hE⟩
   obtain ⟨w4, hrun, s6⟩ := fin (some c) env3 L3 st4
   refine ⟨_, w4, hrun, false, _, rfl, ?_, .inr ⟨rfl, rfl⟩⟩
   have s7 := s6.ent (Ent.cons _ (Ent.append (Ent.refl (F ++ X)) hE))
   have s8 : Sat β w4 ((lpA l (recd fn tmps ps assign body D .done (some c)) :: (X ++ M)) ++ (F ++ A1)) := s7.perm (by
    simp only [List.cons_append, List.append_assoc, Option.isNone_some, Bool.false_eq_true, if_false]
    refine List.Perm.cons _ ?_
    exact (List.perm_append_comm_assoc F X (M ++ A1)).trans (List.Perm.append_left X (List.perm_append_comm_assoc F M A1)))
   have s9 := (s8.ent (Ent.pack _ _)).ent (Ent.head (M := [fun h => ∃ c M, stop c M ∧ packA (lpA l (recd fn tmps ps assign body D .done (some c)) :: (X ++ M)) h]) (fun h sh => by
    obtain ⟨h1, h2, p, e0, d, rfl⟩ := sh
    exact ⟨_, ⟨h1, h2, ⟨c, M, hM, p⟩, e0, d, rfl⟩, Hp.le_refl _⟩))
   exact s9.perm (by rw [List.singleton_append]; exact List.perm_middle.symm)
  cases e3 with
  | normal =>
   obtain ⟨env3, L3, st4, hE⟩ := q3
   obtain ⟨w4, hrun, s6⟩ := fin none env3 L3 st4
   refine ⟨_, w4, hrun, true, _, rfl, ?_, .inl ⟨rfl, rfl⟩⟩
   have s7 := s6.ent (Ent.cons _ (Ent.append (Ent.refl (F ++ X)) hE))
   have s8 : Sat β w4 ((lpA l (recd fn tmps ps assign body D .ready none) :: (X ++ I (pre ++ [x]))) ++ (F ++ A1)) := s7.perm (by
    simp only [List.cons_append, List.append_assoc, Option.isNone_none, if_true]
    refine List.Perm.cons _ ?_
    exact (List.perm_append_comm_assoc F X _).trans (List.Perm.append_left X (List.perm_append_comm_assoc F _ A1)))
   exact (s8.ent (Ent.pack _ _)).perm List.perm_middle.symm
  | ret => obtain ⟨env3, L3, st4, hE⟩ := q3; exact out .ret env3 L3 st4 hE
  | exit id => obtain ⟨env3, L3, st4, hE⟩ := q3; exact out (.exit id) env3 L3 st4 hE
  | goto t => obtain ⟨env3, L3, st4, hE⟩ := q3; exact out (.goto t) env3 L3 st4 hE
  | panic _ => exact q3.elim
  | outgrown => exact q3.elim


theorem CW.rangeFuncD {Q : Post} {g : Operand} {ps : Array Tmp} {assign body : Code} {gf : Nat} {cap : Array Value} (hg : ev env g = some (.func (.func gf) #[] cap)) {L0 : List Atom} {α : Type} {A : List α → List Atom} {encs : α → List Value} {xs : List α}
  (hI : IterD P β gf cap.toList A encs xs) (is : List Nat) (hs : sel is L (fun A F => some (A, F)) = some (A [], L0)) (I : List α → List Atom) (stop : Code → List Atom → Prop) (hL0 : Ent L0 (I [])) (hps : ∀ x, (encs x).length = ps.size) (hpN : ∀ p ∈ ps.toList, p < N)
  (hbody : ∀ pre x, (pre ++ [x]) <+: xs → ∀ l fm rec1, CW P β ⟨some (l, rec1), fm⟩ N assign (bindps ps.toList (encs x) env) (I pre ++ A pre) (thn (fun env2 L2 => ∀ fm2 rec2, CW P β ⟨some (l, rec2), fm2⟩ N body env2 L2 (rndQ (I (pre ++ [x])) stop (A (pre ++ [x])))) (fun _ _ _ => False)))
  (hdone : Q .normal env (I xs ++ A xs)) (hstop : ∀ pre c M, stop c M → CW P β cx N c env (M ++ A pre) Q) : CW P β cx N (.rangeFunc g ps assign body) env L Q := by
 obtain ⟨A2, F2, hp, hk⟩ := sel_eq hs
 simp only [Option.some.injEq, Prod.mk.injEq] at hk
 obtain ⟨rfl, rfl⟩ := hk
 intro n a w st
 obtain ⟨he, Ds, hds, s⟩ := st
 refine wpIn_rangeFunc fun fn hfn => ?_
 have heD : EnvOk N { tmps := a.tmps, defers := [] } env := he
 have hgv := he.eval hg
 -- the statement, its record and its block laid
 have main : ∀ (l D : Nat) (mk : List Deferred) (Ds2 : List Nat) (X : List Atom) (w1 : World), (Instr.enterLoop fn a.tmps ps assign body (Fr cx).round).run P w = .ok (l, mk) w1 → mk ++ a.defers = Ds2.map mark →
   (∀ M w', Sat β w' (hid Ds cx ++ (X ++ M)) → Sat β w' (hid Ds2 cx ++ M)) →
   Sat β w1 (lpA l (recd fn a.tmps ps assign body D .ready none) :: (X ++ (hid Ds cx ++ L))) →
   ∃ (l : Nat) (mark : List Deferred) (w₁ : World) (d : Deferred) (w₁' : World) (f : FuncId) (args : Array Value) (w₂ : World),
    (Instr.enterLoop fn a.tmps ps assign body (Fr cx).round).run P w = .ok (l, mark) w₁ ∧ (resolve a.eval (rangeCall g l) 0).run P w₁ = .ok d w₁' ∧
    (∀ f', Target.leads P w₁' d.target d.args = some f' → (Fr cx).fn f') ∧ (invoke d.target d.args).run P w₁' = .ok (.enter f args) w₂ ∧ ((Fr cx).depth.isSome = true → 1 ≤ n) ∧
    CallsIn (Fr cx) (n - 1) P f args w₂ (rangePost (Fr cx) n P l (up β cx N Q) { a with defers := mark ++ a.defers }) := by
  intro l D mk Ds2 X w1 henter hmk hX s1
  let J : List α → Atom := fun pre => packA (lpA l (recd fn a.tmps ps assign body D .ready none) :: (X ++ I pre))
  let Jx : List α → Atom := fun _ => fun h => ∃ c M, stop c M ∧ packA (lpA l (recd fn a.tmps ps assign body D .done (some c)) :: (X ++ M)) h
  have tri := hI l J Jx (fun pre x hpre => round_yldD heD (hps x) hpN (hbody pre x hpre l))
  have e0 := tri.1 (#[.func (.yield l) #[] #[]] ++ cap) w1
  refine ⟨l, mk, w1, { target := .fn (.func gf) cap, args := #[.func (.yield l) #[] #[]] }, w1, gf, #[.func (.yield l) #[] #[]] ++ cap, w1, henter, ?_, fun f' _ => Fr_fn cx f', (by simp only [invoke]; exact e0), fun h => (by rw [Fr_depth] at h; cases h), ?_⟩
  ·have e1 : (#[.const (.func (.yield l) #[] #[])] : Array Operand).map a.eval = #[.func (.yield l) #[] #[]] := by simp [Act.eval]
   simp only [resolve, hgv, e1, Deferred.ofValue, Sem.run_pure, Array.empty_append]
  ·have s2 : Sat β w1 ((lpA l (recd fn a.tmps ps assign body D .ready none) :: (X ++ I [])) ++ (hid Ds cx ++ (A []))) := by
    have s0 := s1.ent (Ent.cons _ (Ent.append (Ent.refl X) (Ent.append (Ent.refl (hid Ds cx)) ((Ent.perm hp).trans (Ent.append (Ent.refl (A [])) hL0)))))
    refine s0.perm ?_
    simp only [List.cons_append, List.append_assoc]
    refine List.Perm.cons _ (List.Perm.append_left X ?_)
    exact (List.Perm.append_left _ List.perm_append_comm).trans (List.perm_append_comm_assoc _ _ _)
   have s3 : Sat β w1 (hid Ds cx ++ (J [] :: (A []))) := (s2.ent (Ent.pack _ _)).perm List.perm_middle.symm
   have hc := Fr_calls cx (tri.2 (hid Ds cx) (n - 1) w1 s3)
   have ea : (Value.func (.yield l) #[] #[] :: cap.toList).toArray = #[.func (.yield l) #[] #[]] ++ cap := Array.toList_inj.1 (by simp)
   rw [ea] at hc
   refine hc.mono ?_
   rintro e w3 ⟨v, L', rfl, s4, rfl | ⟨pre, rfl⟩⟩
   ·-- all have come
    have s5 := (s4.perm List.perm_middle).ent (Ent.unpack _ _)
    have s6 : Sat β w3 (lpA l (recd fn a.tmps ps assign body D .ready none) :: (hid Ds cx ++ (X ++ (I xs ++ (A xs))))) := s5.perm (by
     simp only [List.cons_append, List.append_assoc]
     refine List.Perm.cons _ ?_
     exact (List.Perm.append_left X (List.perm_append_comm_assoc _ _ _)).trans (List.perm_append_comm_assoc _ _ _))
    refine ⟨none, _, run_endLoop s6.loop (by simp [recd]), ?_⟩
    have s7 := (s6.putLoop (r' := { recd fn a.tmps ps assign body D .ready none with state := .exhausted })).ent (Ent.drop _ _)
    exact ⟨env, _, ⟨⟨he.1, he.2⟩, Ds2, hmk, hX _ _ s7⟩, hdone⟩
   ·-- a round has left
    have s5 : Sat β w3 (Jx pre :: (hid Ds cx ++ (A pre))) := s4.perm List.perm_middle
    obtain ⟨hb, h, ⟨h1, h2, ⟨c, M, hM, hpk⟩, st2, d, rfl⟩, hw⟩ := s5
    have s6 : Sat β w3 (packA (lpA l (recd fn a.tmps ps assign body D .done (some c)) :: (X ++ M)) :: (hid Ds cx ++ (A pre))) := ⟨hb, _, ⟨h1, h2, hpk, st2, d, rfl⟩, hw⟩
    have s7 := s6.ent (Ent.unpack _ _)
    have s8 : Sat β w3 (lpA l (recd fn a.tmps ps assign body D .done (some c)) :: (hid Ds cx ++ (X ++ (M ++ (A pre))))) := s7.perm (by
     simp only [List.cons_append, List.append_assoc]
     refine List.Perm.cons _ ?_
     exact (List.Perm.append_left X (List.perm_append_comm_assoc _ _ _)).trans (List.perm_append_comm_assoc _ _ _))
    refine ⟨some c, _, run_endLoop s8.loop (by simp [recd]), ?_⟩
    have s9 := (s8.putLoop (r' := { recd fn a.tmps ps assign body D .done (some c) with state := .exhausted })).ent (Ent.drop _ _)
    exact hstop pre c M hM n _ _ ⟨⟨he.1, he.2⟩, Ds2, hmk, hX _ _ s9⟩
 cases hrnd : cx.rnd with
 | none =>
  have hround : (Fr cx).round = none := by rw [Fr_round, hrnd]; rfl
  refine main (w.heap.size + 1) w.heap.size [mark w.heap.size] (w.heap.size :: Ds) [dfA w.heap.size] _ (by rw [hround]; exact run_enterLoop_outer fn a.tmps ps assign body) (by simp [hds]) (fun M w' hM => hM.perm ?_) ?_
  ·simp only [hid, List.map_cons, List.cons_append, List.nil_append, List.append_assoc]
   have := List.perm_middle (a := dfA w.heap.size) (l₁ := Ds.map dfA ++ (rndA cx.rnd ++ cx.fm)) (l₂ := M)
   simpa only [List.append_assoc] using this
  ·have t1 := s.new (.deferred (some [])) (A := dfA w.heap.size) rfl
   have t2 := t1.new (.loop (recd fn a.tmps ps assign body w.heap.size .ready none)) (A := lpA (w.alloc (.deferred (some []))).heap.size (recd fn a.tmps ps assign body w.heap.size .ready none)) rfl
   simp only [World.size_alloc] at t2
   exact t2
 | some lr =>
  obtain ⟨l0, r0⟩ := lr
  have hround : (Fr cx).round = some l0 := by rw [Fr_round, hrnd]; rfl
  have s0 : Sat β w (lpA l0 r0 :: (Ds.map dfA ++ (cx.fm ++ L))) := s.perm (by
   simp only [hid, hrnd, rndA, List.append_assoc, List.cons_append, List.nil_append]
   exact List.perm_middle)
  refine main w.heap.size r0.defers [] Ds [] _ (by rw [hround]; exact run_enterLoop_inner s0.loop fn a.tmps ps assign body) (by simp [hds]) (fun M w' hM => hM) ?_
  exact s.new (.loop (recd fn a.tmps ps assign body r0.defers .ready none)) (A := lpA w.heap.size (recd fn a.tmps ps assign body r0.defers .ready none)) rfl
end
end Go.Proofs.YtakkogdmlbkdaaaGreatDoor.Sl

