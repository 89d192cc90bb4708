/-
  States of a frame, and what a piece of code makes of them.
-/
import Derived.Test.YtmaheecbohbilaaSlR
import Derived.Laws.CopyRow
import Derived.Shelf.Abstract
namespace Go.Proofs.Ytmaheecbohbilaa.Sl
open Go Go.RowKit
set_option linter.unusedVariables false
set_option linter.unusedSimpArgs false

/-! ### The state of an activation -/
/-- Within a round of a range over a function: the loop's record, and where it lies. -/
structure Cx where
  rnd : Option (Nat × Loop)
  fm : List Atom
def mark (D : Nat) : Deferred := { target := .collected D, args := #[] }
def rndA : Option (Nat × Loop) → List Atom
  | none => []
  | some (l, r) => [lpA l r]
/-- What is beside: the marks' blocks, the round's record, what the caller keeps. -/
def hid (Ds : List Nat) (cx : Cx) : List Atom := Ds.map dfA ++ (rndA cx.rnd ++ cx.fm)
def St (β : Base) (cx : Cx) (N : Nat) (env : Env) (L : List Atom) (a : Act) (w : World) : Prop :=
  EnvOk N a env ∧ ∃ Ds : List Nat, a.defers = Ds.map mark ∧ Sat β w (hid Ds cx ++ L)
def frR : Option (Nat × Loop) → Fence
  | none => Fence.wide
  | some (l, _) => Fence.wide.inRound l
def Fr (cx : Cx) : Fence := frR cx.rnd
theorem Fr_fn (cx : Cx) (f : FuncId) : (Fr cx).fn f := by unfold Fr; cases cx.rnd <;> trivial
theorem Fr_depth (cx : Cx) : (Fr cx).depth = none := by unfold Fr; cases cx.rnd <;> rfl
theorem Fr_round (cx : Cx) : (Fr cx).round = cx.rnd.map (·.1) := by unfold Fr; cases cx.rnd <;> rfl
abbrev Post := Exit → Env → List Atom → Prop
/-- A post-condition on states, as one on machines. -/
def up (β : Base) (cx : Cx) (N : Nat) (Q : Post) : Exit → Act → World → Prop
  | .panic _, _, _ => False
  | .outgrown, _, _ => False
  | e, a, w => ∃ env L, St β cx N env L a w ∧ Q e env L
def CW (P : Program) (β : Base) (cx : Cx) (N : Nat) (c : Code) (env : Env) (L : List Atom) (Q : Post) : Prop :=
  ∀ n a w, St β cx N env L a w → c.wpIn (Fr cx) n P (up β cx N Q) a w

section
variable {P : Program} {β : Base} {cx : Cx} {N : Nat} {env : Env} {L : List Atom} {Q : Post}

theorem St.conseq {env' : Env} {L' : List Atom} {a : Act} {w : World} (h : St β cx N env L a w) (hc : covers env env') (e : Ent L L') : St β cx N env' L' a w := by
  obtain ⟨h1, Ds, hd, s⟩ := h
  exact ⟨h1.covers hc, Ds, hd, s.ent (Ent.append (Ent.refl _) e)⟩
theorem covers_cons {env : Env} {t : Nat} {v : Value} : ∀ {env' : Env}, covers env env' → look env' t = none ∨ True → covers ((t, v) :: env) (env'.filter fun x => !Nat.beq x.1 t)
  | [], _, _ => trivial
  | (k, u) :: r, h, _ => by
    have ih := covers_cons (t := t) (v := v) (env' := r) h.2 (.inr trivial)
    simp only [List.filter_cons]
    cases hb : Nat.beq k t with
    | true => simpa using ih
    | false =>
      simp only [Bool.not_false, if_true]
      refine ⟨?_, ih⟩
      have hb2 : Nat.beq t k = false := by
        cases h2 : Nat.beq t k with
        | false => rfl
        | true => have := Nat.eq_of_beq_eq_true h2; subst this; simp at hb
      simp [look, hb2, h.1]
theorem CW.conseq {c : Code} {env' : Env} {L' : List Atom} (hc : covers env env') (e : Ent L L') (h : CW P β cx N c env' L' Q) : CW P β cx N c env L Q :=
  fun n a w s => h n a w (s.conseq hc e)
theorem CW.ent {c : Code} {L' : List Atom} (e : Ent L L') (h : CW P β cx N c env L' Q) : CW P β cx N c env L Q :=
  fun n a w ⟨h1, Ds, hd, s⟩ => h n a w ⟨h1, Ds, hd, s.ent (Ent.append (Ent.refl _) e)⟩
theorem CW.mono {c : Code} {Q' : Post} (h : CW P β cx N c env L Q) (hq : ∀ e env L, Q e env L → Q' e env L) : CW P β cx N c env L Q' :=
  fun n a w s => wpIn_mono (h n a w s) fun e a w q => by
    cases e with
    | panic _ => exact q
    | outgrown => exact q
    | normal => obtain ⟨env, L, st, q⟩ := q; exact ⟨env, L, st, hq _ _ _ q⟩
    | exit _ => obtain ⟨env, L, st, q⟩ := q; exact ⟨env, L, st, hq _ _ _ q⟩
    | goto _ => obtain ⟨env, L, st, q⟩ := q; exact ⟨env, L, st, hq _ _ _ q⟩
    | ret => obtain ⟨env, L, st, q⟩ := q; exact ⟨env, L, st, hq _ _ _ q⟩
/-- Opening what lies at the head. -/
theorem CW.open_ {c : Code} {α : Type} {f : α → List Atom} (h : ∀ x, CW P β cx N c env (f x ++ L) Q) : CW P β cx N c env (exA f :: L) Q :=
  fun n a w ⟨h1, Ds, hd, s⟩ => by
    have s1 := (s.perm (List.perm_middle)).exA
    obtain ⟨x, s1⟩ := s1
    exact h x n a w ⟨h1, Ds, hd, s1.perm (by simpa [List.append_assoc] using (List.perm_append_comm_assoc (f x) (hid Ds cx) L))⟩
theorem CW.pure_ {c : Code} {p : Prop} (h : p → CW P β cx N c env L Q) : CW P β cx N c env (pureA p :: L) Q :=
  fun n a w ⟨h1, Ds, hd, s⟩ => by
    obtain ⟨hp, s1⟩ := (s.perm (List.perm_middle)).pureA
    exact h hp n a w ⟨h1, Ds, hd, s1⟩

/-! ### Code -/
@[reducible] def thn (K : Env → List Atom → Prop) (Q : Post) (e : Exit) : Env → List Atom → Prop :=
  match e with
  | .normal => K
  | e => Q e
@[reducible] def inB (id : Nat) (Q : Post) (e : Exit) : Env → List Atom → Prop :=
  match e with
  | .exit id' => match Nat.beq id' id with
    | true => Q .normal
    | false => Q (.exit id')
  | e => Q e
theorem up_thn {K : Env → List Atom → Prop} {e : Exit} {a : Act} {w : World} {K' : Act → World → Prop} (h : up β cx N (thn K Q) e a w)
    (hk : ∀ env L, St β cx N env L a w → K env L → K' a w) : Exit.then K' (up β cx N Q) e a w := by
  cases e with
  | normal => obtain ⟨env, L, st, q⟩ := h; exact hk env L st q
  | panic _ => exact h
  | outgrown => exact h
  | exit _ => exact h
  | goto _ => exact h
  | ret => exact h
theorem CW.seq {x y : Code} (h : CW P β cx N x env L (thn (fun env L => CW P β cx N y env L Q) Q)) : CW P β cx N (.seq x y) env L Q :=
  fun n a w s => wpIn_seq (wpIn_mono (h n a w s) fun _ _ _ q => up_thn q fun env L st k => k n _ _ st)
theorem CW.skip (h : Q .normal env L) : CW P β cx N .skip env L Q := fun n a w s => wpIn_skip ⟨env, L, s, h⟩
theorem CW.label {l : Nat} (h : Q .normal env L) : CW P β cx N (.label l) env L Q := fun n a w s => wpIn_label ⟨env, L, s, h⟩
theorem CW.exit {id : Nat} (h : Q (.exit id) env L) : CW P β cx N (.exit id) env L Q := fun n a w s => wpIn_exit ⟨env, L, s, h⟩
theorem CW.goto {l : Nat} (h : Q (.goto l) env L) : CW P β cx N (.goto l) env L Q := fun n a w s => wpIn_goto ⟨env, L, s, h⟩
theorem CW.ret (h : Q .ret env L) : CW P β cx N .ret env L Q := fun n a w s => wpIn_ret ⟨env, L, s, h⟩
theorem CW.cond {c : Operand} {x y : Code} {t : Bool} (hc : ev env c = some (.bool t)) (h1 : t = true → CW P β cx N x env L Q) (h2 : t = false → CW P β cx N y env L Q) : CW P β cx N (.cond c x y) env L Q :=
  fun n a w s => wpIn_cond_split (s.1.eval hc) (fun e => h1 e n a w s) (fun e => h2 e n a w s)
theorem CW.cond_tt {c : Operand} {x y : Code} (hc : ev env c = some (.bool true)) (h1 : CW P β cx N x env L Q) : CW P β cx N (.cond c x y) env L Q :=
  fun n a w s => wpIn_cond_true (s.1.eval hc) (h1 n a w s)
theorem CW.cond_ff {c : Operand} {x y : Code} (hc : ev env c = some (.bool false)) (h1 : CW P β cx N y env L Q) : CW P β cx N (.cond c x y) env L Q :=
  fun n a w s => wpIn_cond_false (s.1.eval hc) (h1 n a w s)
theorem CW.block {id : Nat} {c : Code} (h : CW P β cx N c env L (inB id Q)) : CW P β cx N (.block id c) env L Q :=
  fun n a w s => wpIn_block (wpIn_mono (h n a w s) fun e a w q => by
    cases e with
    | exit id' =>
      obtain ⟨env, L, st, q⟩ := q
      simp only [Exit.inBlock]
      split <;> rename_i hid
      · subst hid
        simp only [inB, show Nat.beq id' id' = true from Nat.beq_refl id'] at q; exact ⟨env, L, st, q⟩
      · have hb : Nat.beq id' id = false := by
          cases h2 : Nat.beq id' id with
          | false => rfl
          | true => exact absurd (Nat.eq_of_beq_eq_true h2) hid
        simp only [inB, hb] at q; exact ⟨env, L, st, q⟩
    | normal => exact q
    | panic _ => exact q
    | outgrown => exact q
    | goto _ => exact q
    | ret => exact q)
theorem least {p : Nat → Prop} (h : ∃ k, p k) : ∃ k, p k ∧ ∀ j, p j → k ≤ j := by
  obtain ⟨k, hk⟩ := h
  induction k using Nat.strongRecOn with
  | _ k ih =>
    by_cases hx : ∃ j, j < k ∧ p j
    · obtain ⟨j, hj, hp⟩ := hx; exact ih j hj hp
    · exact ⟨k, hk, fun j hp => Nat.le_of_not_lt fun hlt => hx ⟨j, hlt, hp⟩⟩
/-- A loop, by what holds at its head: of some x, of which some number falls. -/
theorem CW.loop {c : Code} {α : Type} (ok : α → Prop) (E : α → Env) (A : α → List Atom) (μ : α → Nat) (x0 : α) (h0 : ok x0) (hc : covers env (E x0)) (hL : Ent L (A x0))
    (round : ∀ x, ok x → CW P β cx N c (E x) (A x) (thn (fun env' L' => ∃ x', ok x' ∧ μ x' < μ x ∧ covers env' (E x') ∧ Ent L' (A x')) Q)) : CW P β cx N (.loop c) env L Q := by
  intro n a w s
  have key : ∀ a w, (∃ x, ok x ∧ St β cx N (E x) (A x) a w) → ∃ k, (∃ x, μ x = k ∧ ok x ∧ St β cx N (E x) (A x) a w) ∧ ∀ j, (∃ x, μ x = j ∧ ok x ∧ St β cx N (E x) (A x) a w) → k ≤ j :=
    fun a w ⟨x, hx, st⟩ => least ⟨μ x, x, rfl, hx, st⟩
  open Classical in
  refine wpIn_loop (fun a w => ∃ x, ok x ∧ St β cx N (E x) (A x) a w) (fun a w => if h : ∃ x, ok x ∧ St β cx N (E x) (A x) a w then Classical.choose (key a w h) else 0) ⟨x0, h0, s.conseq hc hL⟩ ?_
  rintro a w hex
  obtain ⟨⟨x, hμ, hx, st⟩, hmin⟩ := Classical.choose_spec (key a w hex)
  refine wpIn_mono (round x hx n a w st) fun e a' w' q => up_thn q fun env' L' st' k => ?_
  obtain ⟨x', hx', hlt, hc', hL'⟩ := k
  have st2 := st'.conseq hc' hL'
  have hex' : ∃ x, ok x ∧ St β cx N (E x) (A x) a' w' := ⟨x', hx', st2⟩
  refine ⟨hex', ?_⟩
  simp only [dif_pos hex, dif_pos hex']
  have h1 := (Classical.choose_spec (key a' w' hex')).2 (μ x') ⟨x', rfl, hx', st2⟩
  omega

/-! ### Regions -/
/-- Is the operation carried out? -/
def wants (ops : Array Oper) (env : Env) (o : Oper) : Option Bool :=
  match o.guard with
  | none => some true
  | some (j, want) => match ops[j]? with
    | some p => match p.dst with
      | some d => match look env d with
        | some (.bool b) => some (b == want)
        | some (.tuple vs) => match vs.toList with
          | [] => some false
          | _ => none
        | _ => none
      | none => none
    | none => none
theorem wants_ok {ops : Array Oper} {o : Oper} {b : Bool} {a : Act} (h : wants ops env o = some b) (he : EnvOk N a env) : Region.wanted o (yielded ops a.tmps) = b := by
  unfold wants at h
  unfold Region.wanted
  split at h
  · rename_i hg; rw [hg]; simpa using h
  · rename_i j want hg
    rw [hg]
    split at h
    · rename_i p hp
      split at h
      · rename_i d hd
        split at h
        · rename_i c hc
          have e2 : a.tmps.getD d undef = .bool c := he.2 d _ hc
          have e3 : a.tmps[d]? = some (.bool c) := by
            rw [Array.getD_eq_getD_getElem?] at e2
            cases e4 : a.tmps[d]? with
            | none => rw [e4] at e2; simp [undef] at e2
            | some u => rw [e4] at e2; simp at e2; rw [e2]
          simp at h
          subst h
          simp [yielded, hp, hd, e3]
        · rename_i vs hc
          have e2 : a.tmps.getD d undef = .tuple vs := he.2 d _ hc
          split at h
          · simp at h
            subst h
            rw [Array.getD_eq_getD_getElem?] at e2
            cases e4 : a.tmps[d]? with
            | none => simp [yielded, hp, hd, e4]
            | some u => rw [e4] at e2; simp at e2; subst e2; simp [yielded, hp, hd, e4]
          · cases h
        · cases h
      · cases h
    · cases h
end
end Go.Proofs.Ytmaheecbohbilaa.Sl
