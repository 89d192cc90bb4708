/-
  Regions that draw their order: one order, planned ahead, stands for all.
-/
import Derived.Test.YtmaheecbohbilaaSlB
namespace Go.Proofs.Ytmaheecbohbilaa.Sl
open Go Go.RowKit
set_option linter.unusedVariables false
set_option linter.unusedSimpArgs false

section
variable {F : Fence} {n : Nat} {P : Program} {ops : Array Oper} {Q : Exit → Act → World → Prop}

/-- In every world that meets H the operation leaves v and does nothing else. -/
def YI (P : Program) (ops : Array Oper) (H : World → Prop) (o : Oper) (v : Value) (a : Act) : Prop :=
  (Region.wanted o (yielded ops a.tmps) = true ∧ ∀ w, H w → (execOp a.eval o).run P w = .ok (.value v) w) ∨ (Region.wanted o (yielded ops a.tmps) = false ∧ v = undef)
theorem YI.of_same {H : World → Prop} {o : Oper} {v : Value} {a a' : Act} (hy : YI P ops H o v a) (he : execOp a'.eval o = execOp a.eval o)
    (hw : Region.wanted o (yielded ops a'.tmps) = Region.wanted o (yielded ops a.tmps)) : YI P ops H o v a' := by
  unfold YI at *; rw [he, hw]; exact hy
def noSD (o : Oper) : Bool := match o.op with | .select .. => false | .defer _ => false | _ => true
theorem noSD_sel {o : Oper} (h : noSD o = true) : ∀ cs b, o.op ≠ .select cs b := by intro cs b e; simp [noSD, e] at h
theorem noSD_defer {o : Oper} (h : noSD o = true) : ∀ c, o.op ≠ .defer c := by intro c e; simp [noSD, e] at h
theorem YI.wpOpIn (hF : ∀ f, F.fn f) {H : World → Prop} {i : Nat} {o : Oper} {v : Value} {a : Act} (hi : ops[i]? = some o) (hs : noSD o = true) (hy : YI P ops H o v a)
    {K : Act → World → Prop} {w : World} (hH : H w) (h : K (a.put o.dst v) w) : wpOpIn F n P ops Q i K a w := by
  unfold Go.wpOpIn
  simp only [hi]
  rcases hy with ⟨hw, hv⟩ | ⟨hw, rfl⟩
  · simp only [hw, if_true, Oper.wpIn, Oper.semAt_eq _ _ _ (noSD_defer hs), hv w hH, Oper.uponIn]; exact ⟨fun f _ => hF f, h⟩
  · simp only [hw, Bool.false_eq_true, if_false]; exact ⟨fun f _ => hF f, h⟩
theorem wpOpIn_putY (hF : ∀ f, F.fn f) {H : World → Prop} {j : Nat} {oi oj : Oper} {v : Value} (hj : ops[j]? = some oj) (hap : oi.apart ops oj = true) (hsi : noSD oi = true) (hsj : noSD oj = true)
    (hQ : ∀ c a w, Q (.panic c) (a.put oi.dst v) w → Q (.panic c) a w) {K : Act → World → Prop} {a : Act} {w : World}
    (hy : YI P ops H oi v a) (h : wpOpIn F n P ops Q j K (a.put oi.dst v) w) :
    wpOpIn F n P ops Q j (fun a' w' => YI P ops H oi v a' ∧ K (a'.put oi.dst v) w') a w := by
  obtain ⟨h1, h2, h3⟩ := Oper.apart_spec hap
  have keep : ∀ (a : Act), YI P ops H oi v a → ∀ u, YI P ops H oi v (a.put oj.dst u) := fun a hy u =>
    hy.of_same (execOp_put oi (noSD_sel hsi) a oj.dst u h3) (wanted_put oi a oj.dst u h3)
  have keepD : ∀ d, YI P ops H oi v { a with defers := d :: a.defers } := fun d => hy.of_same rfl rfl
  unfold wpOpIn at *
  simp only [hj] at *
  rw [wanted_put oj a oi.dst v h1] at h
  split
  · rename_i hw
    simp only [hw, if_true] at h
    unfold Oper.wpIn at *
    refine ⟨fun f _ => hF f, ?_⟩
    have h := h.2
    rw [Oper.semAt_eq _ _ _ (noSD_defer hsj), execOp_put oj (noSD_sel hsj) a oi.dst v h1] at h
    rw [Oper.semAt_eq _ _ _ (noSD_defer hsj)]
    generalize (execOp a.eval oj).run P w = r at *
    cases r with
    | ok x w' =>
      cases x <;> simp only [Oper.uponIn] at h ⊢
      case value u => exact ⟨keep a hy u, by rw [← Act.put_comm a v u h2]; exact h⟩
      case skip => exact ⟨keep a hy _, by rw [← Act.put_comm a v undef h2]; exact h⟩
      case defer d =>
        refine ⟨keep _ (keepD d) _, ?_⟩
        rw [← Act.put_comm _ v undef h2, ← Act.put_defers]
        exact h
      case enter f args =>
        refine ⟨h.1, CallsIn.mono h.2 fun e w'' he => ?_⟩
        cases e with
        | returned u => exact ⟨keep a hy u, by rw [← Act.put_comm a v u h2]; exact he⟩
        | panicked c => exact hQ _ _ _ he
        | outgrown => exact he
      case row row args => exact ⟨h.1, RowsIn.mono h.2 fun u w'' he => ⟨keep a hy u, by rw [← Act.put_comm a v u h2]; exact he⟩⟩
      case round l f tmps assign body =>
        refine ⟨h.1, RoundIn.mono h.2 fun e w'' he => ?_⟩
        cases e with
        | returned u => exact ⟨keep a hy u, by rw [← Act.put_comm a v u h2]; exact he⟩
        | panicked c => exact hQ _ _ _ he
        | outgrown => exact he
    | halt x w' =>
      cases x <;> simp only [Oper.uponIn] at h ⊢
      case panic u => exact hQ _ _ _ h
  · rename_i hw
    simp only [hw] at h
    exact ⟨fun f _ => hF f, keep a hy _, by rw [← Act.put_comm a v undef h2]; exact h.2⟩

/-! ### Who waits for whom -/
inductive Reach (ops : Array Oper) (i : Nat) : Nat → Prop
  | one {k : Nat} {o : Oper} {e : Edge} : ops[k]? = some o → e ∈ o.after → Region.binds .any e = true → e.on = i → Reach ops i k
  | step {k : Nat} {o : Oper} {e : Edge} : ops[k]? = some o → e ∈ o.after → Region.binds .any e = true → Reach ops i e.on → Reach ops i k
def reachB (ops : Array Oper) (i : Nat) : Nat → Nat → Bool
  | 0, _ => false
  | fuel + 1, k => match ops[k]? with
    | some o => o.after.any fun e => Region.binds .any e && (e.on == i || reachB ops i fuel e.on)
    | none => false
theorem reachB_spec {i : Nat} : ∀ (fuel k : Nat), reachB ops i fuel k = true → Reach ops i k
  | 0, _, h => by simp [reachB] at h
  | fuel + 1, k, h => by
    unfold reachB at h
    cases ho : ops[k]? with
    | none => rw [ho] at h; simp at h
    | some o =>
      rw [ho] at h
      obtain ⟨e, he, h1⟩ := Array.any_eq_true'.1 h
      simp only [Bool.and_eq_true, Bool.or_eq_true, beq_iff_eq] at h1
      rcases h1.2 with h2 | h2
      · exact .one ho he h1.1 h2
      · exact .step ho he h1.1 (reachB_spec fuel e.on h2)
def Closed (ops : Array Oper) (listed : Array Bool) : Prop :=
  ∀ j oj, ops[j]? = some oj → listed.getD j false = true → ∀ e ∈ oj.after, Region.binds .any e = true → listed.getD e.on false = true
theorem Closed.set {listed : Array Bool} {i : Nat} (h : Closed ops listed) (hi : i ∈ Region.ready .any ops listed) : Closed ops (listed.setIfInBounds i true) := by
  obtain ⟨_, oi, hoi, hall⟩ := mem_ready.1 hi
  intro j oj hj hl e he hb
  by_cases hij : i = j
  · subst hij
    have : oj = oi := Option.some.inj (hj.symm.trans hoi)
    subst this
    exact getD_set_true (hall e he hb)
  · rw [getD_set_ne false hij] at hl
    exact getD_set_true (h j oj hj hl e he hb)
theorem Reach.listed {listed : Array Bool} {i k : Nat} (hc : Closed ops listed) (hr : Reach ops i k) : listed.getD k false = true → listed.getD i false = true := by
  induction hr with
  | one ho he hb e => exact fun hl => e ▸ hc _ _ ho hl _ he hb
  | step ho he hb _ ih => exact fun hl => ih (hc _ _ ho hl _ he hb)
theorem not_listed {listed : Array Bool} {i : Nat} (h : i ∈ Region.ready .any ops listed) : listed.getD i false = false := by
  obtain ⟨h0, _⟩ := mem_ready.1 h
  rcases Nat.lt_or_ge i listed.size with h' | h'
  · simp [h'] at h0 ⊢; exact h0
  · simp [Array.getElem?_eq_none h']
theorem Reach.not_ready {listed : Array Bool} {i k : Nat} (hc : Closed ops listed) (hr : Reach ops i k) (hi : listed.getD i false = false) : k ∉ Region.ready .any ops listed := by
  intro hk
  obtain ⟨_, o, ho, hall⟩ := mem_ready.1 hk
  cases hr with
  | one ho' he hb e =>
    rw [ho] at ho'; cases ho'
    have := hall _ he hb
    rw [e, hi] at this; cases this
  | step ho' he hb hr' =>
    rw [ho] at ho'; cases ho'
    have := hr'.listed hc (hall _ he hb)
    rw [hi] at this; cases this

/-! ### What a load that is taken ahead rests on -/
structure Ob where
  b : Nat
  off : Nat
  ti : TI
  v : Value
def Ob.holds (x : Ob) (w : World) : Prop := ∃ cs t fz, w.heap[x.b]? = some (.cells (List.toArray cs) t fz) ∧ rdv x.ti cs x.off = some x.v
abbrev Obs := List (Nat × Ob)
def lookO : Obs → Nat → Option Ob
  | [], _ => none
  | (k, v) :: e, t => bif Nat.beq k t then some v else lookO e t
theorem lookO_ne {i j : Nat} {x : Ob} {obs : Obs} (h : i ≠ j) : lookO ((i, x) :: obs) j = lookO obs j := by
  have : Nat.beq i j = false := by
    cases hb : Nat.beq i j with
    | false => rfl
    | true => exact absurd (Nat.eq_of_beq_eq_true hb) h
  simp [lookO, this]
theorem lookO_eq {i : Nat} {x : Ob} {obs : Obs} : lookO ((i, x) :: obs) i = some x := by simp [lookO]
/-- Nobody that acts and waits for it has come up. -/
def live (ops : Array Oper) (E : Nat → Bool) (i : Nat) (listed : Array Bool) : Prop := ∀ k, listed.getD k false = true → E k = true → ¬ Reach ops i k
def Inv (ops : Array Oper) (E : Nat → Bool) (obs : Obs) (listed : Array Bool) (w : World) : Prop := ∀ i x, lookO obs i = some x → live ops E i listed → x.holds w
def wpI (F : Fence) (n : Nat) (P : Program) (ops : Array Oper) (Q : Exit → Act → World → Prop) (E : Nat → Bool) (obs : Obs) : Nat → Array Bool → Act → World → Prop
  | 0, listed, a, w => Inv ops E obs listed w ∧ Region.ready .any ops listed = [] ∧ Q .normal a w
  | fuel + 1, listed, a, w => Inv ops E obs listed w ∧ (Region.ready .any ops listed = [] → Q .normal a w) ∧
    ∀ i ∈ Region.ready .any ops listed, wpOpIn F n P ops Q i (wpI F n P ops Q E obs fuel (listed.setIfInBounds i true)) a w
theorem wpI.inv {E : Nat → Bool} {obs : Obs} : ∀ {fuel : Nat} {listed : Array Bool} {a : Act} {w : World}, wpI F n P ops Q E obs fuel listed a w → Inv ops E obs listed w
  | 0, _, _, _, h => h.1
  | _ + 1, _, _, _, h => h.1
theorem wpAnyIn_of_wpI {E : Nat → Bool} {obs : Obs} : ∀ (fuel : Nat) (listed : Array Bool) (a : Act) (w : World), wpI F n P ops Q E obs fuel listed a w → wpAnyIn F n P .any ops Q fuel listed a w
  | 0, _, _, _, h => h.2
  | fuel + 1, _, _, _, h => ⟨h.2.1, fun i hi => wpOpIn_mono (fun a' w' h' => wpAnyIn_of_wpI fuel _ a' w' h') (h.2.2 i hi)⟩
theorem live_set {E : Nat → Bool} {i l : Nat} {listed : Array Bool} (hE : E i = false) : live ops E l (listed.setIfInBounds i true) ↔ live ops E l listed := by
  constructor
  · intro h k hk he
    refine h k ?_ he
    exact getD_set_true hk
  · intro h k hk he
    by_cases hik : i = k
    · subst hik; rw [hE] at he; cases he
    · rw [getD_set_ne false hik] at hk; exact h k hk he
theorem live_fresh {E : Nat → Bool} {i : Nat} {listed : Array Bool} (hc : Closed ops listed) (hi : listed.getD i false = false) : live ops E i listed := fun k hk _ hr => by
  have := hr.listed hc hk
  rw [hi] at this; cases this
/-- What rests on what: with one more, or as before. -/
def addO (i : Nat) (x : Option Ob) (obs : Obs) : Obs := match x with | some x => (i, x) :: obs | none => obs
def holdsO (x : Option Ob) (w : World) : Prop := match x with | some x => x.holds w | none => True
/-- **AN OPERATION MAY BE TAKEN AHEAD.** -/
theorem wpI_take (hF : ∀ f, F.fn f) {E : Nat → Bool} {i : Nat} {oi : Oper} {v : Value} {x : Option Ob} {obs : Obs} (hi : ops[i]? = some oi) (hsd : ∀ (j : Nat) (o : Oper), ops[j]? = some o → noSD o = true)
    (hQ : ∀ c a w, Q (.panic c) (a.put oi.dst v) w → Q (.panic c) a w) (hE : E i = false) (hob : lookO obs i = none) :
    ∀ (fuel : Nat) (listed : Array Bool) (a : Act) (w : World),
      (∀ j oj, ops[j]? = some oj → j ≠ i → listed.getD j true = false → (∀ e ∈ oj.after, Region.binds .any e = true → e.on ≠ i) → oi.apart ops oj = true) →
      Closed ops listed → i ∈ Region.ready .any ops listed → YI P ops (holdsO x) oi v a → holdsO x w →
      wpI F n P ops Q E (addO i x obs) fuel (listed.setIfInBounds i true) (a.put oi.dst v) w → wpI F n P ops Q E obs (fuel + 1) listed a w := by
  have hinv : ∀ (listed : Array Bool) (w : World), Inv ops E (addO i x obs) (listed.setIfInBounds i true) w → Inv ops E obs listed w := fun listed w hv l y hl hlv => by
    refine hv l y ?_ ((live_set hE).2 hlv)
    have hne : i ≠ l := fun e => by rw [← e, hob] at hl; cases hl
    cases x with
    | none => exact hl
    | some x => rw [addO, lookO_ne hne]; exact hl
  intro fuel
  induction fuel with
  | zero =>
    intro listed a w _ _ hr hy hH K
    refine ⟨hinv _ _ K.inv, fun h => (by rw [h] at hr; cases hr), fun j hj => ?_⟩
    by_cases hji : j = i
    · subst hji; exact hy.wpOpIn hF hi (hsd _ _ hi) hH ⟨fun l y hl hlv => hinv _ _ K.1 l y hl ((live_set hE).1 hlv), K.2⟩
    · have := ready_mono hj hji
      rw [K.2.1] at this
      cases this
  | succ fuel ih =>
    intro listed a w hfree hc hr hy hH K
    refine ⟨hinv _ _ K.inv, fun h => (by rw [h] at hr; cases hr), fun j hj => ?_⟩
    by_cases hji : j = i
    · subst hji
      refine hy.wpOpIn hF hi (hsd _ _ hi) hH ?_
      -- taken at its own place: what rested on it is not asked any more
      have weaken : ∀ (fuel : Nat) (listed : Array Bool) (a : Act) (w : World), wpI F n P ops Q E (addO j x obs) fuel listed a w → wpI F n P ops Q E obs fuel listed a w := by
        have hi2 : ∀ (listed : Array Bool) (w : World), Inv ops E (addO j x obs) listed w → Inv ops E obs listed w := fun listed w hv l y hl hlv => by
          refine hv l y ?_ hlv
          have hne : j ≠ l := fun e => by rw [← e, hob] at hl; cases hl
          cases x with
          | none => exact hl
          | some x => rw [addO, lookO_ne hne]; exact hl
        intro fuel
        induction fuel with
        | zero => exact fun listed a w h => ⟨hi2 _ _ h.1, h.2⟩
        | succ fuel ih2 => exact fun listed a w h => ⟨hi2 _ _ h.1, h.2.1, fun k hk => wpOpIn_mono (fun a' w' h' => ih2 _ _ _ h') (h.2.2 k hk)⟩
      exact weaken _ _ _ _ K
    · have h1 := K.2.2 j (ready_mono hj hji)
      obtain ⟨hjun, oj, hoj, hall⟩ := mem_ready.1 hj
      have hnot : ∀ e ∈ oj.after, Region.binds .any e = true → e.on ≠ i := fun e he hb heq => by
        have h1 := hall e he hb
        rw [heq, not_listed hr] at h1; cases h1
      have h2 := wpOpIn_putY (H := holdsO x) hF hoj (hfree j oj hoj hji hjun hnot) (hsd _ _ hi) (hsd _ _ hoj) hQ hy h1
      have hfree' : ∀ k ok, ops[k]? = some ok → k ≠ i → (listed.setIfInBounds j true).getD k true = false →
          (∀ e ∈ ok.after, Region.binds .any e = true → e.on ≠ i) → oi.apart ops ok = true := fun k ok hk hki hun hno => by
        refine hfree k ok hk hki ?_ hno
        by_cases hjk : j = k
        · subst hjk; exact hjun
        · rw [getD_set_ne true hjk] at hun; exact hun
      have hri : i ∈ Region.ready .any ops (listed.setIfInBounds j true) := ready_mono hr (Ne.symm hji)
      refine wpOpIn_mono (fun a' w' h3 => ?_) h2
      have K3 := h3.2
      rw [← Array.setIfInBounds_comm _ _ hji] at K3
      refine ih (listed.setIfInBounds j true) a' w' hfree' (hc.set hj) hri h3.1 ?_ K3
      -- what it rests on holds behind j
      cases x with
      | none => trivial
      | some x => exact K3.inv i x lookO_eq ((live_set hE).2 (live_fresh (hc.set hj) (not_listed hri)))
/-- **THE ONE THAT MAY COME UP.** -/
theorem wpI_only {E : Nat → Bool} {i : Nat} {obs : Obs} {fuel : Nat} {listed : Array Bool} {a : Act} {w : World} (hr : Region.ready .any ops listed = [i]) (hv : Inv ops E obs listed w)
    (h : wpOpIn F n P ops Q i (wpI F n P ops Q E obs fuel (listed.setIfInBounds i true)) a w) : wpI F n P ops Q E obs (fuel + 1) listed a w :=
  ⟨hv, fun h0 => (by rw [hr] at h0; cases h0), fun j hj => (by rw [hr] at hj; obtain rfl : j = i := (by simpa using hj); exact h)⟩
theorem wpI_done {E : Nat → Bool} {obs : Obs} {listed : Array Bool} {a : Act} {w : World} (hr : Region.ready .any ops listed = []) (hv : Inv ops E obs listed w) (h : Q .normal a w) : ∀ fuel, wpI F n P ops Q E obs fuel listed a w
  | 0 => ⟨hv, hr, h⟩
  | _ + 1 => ⟨hv, fun _ => h, by rw [hr]; simp⟩

/-! ### Steps, in the order of a plan -/
structure Stp where
  i : Nat
  o : Oper
  k : Nat
  watch : List Nat
/-- A plan: which operation; 0: it floats, 1: it acts, 2: it makes a variable, at whatever time; what is watched behind it. -/
abbrev Plan := List (Nat × Nat × List Nat)
def stps (ops : Array Oper) : Plan → List Stp
  | [] => []
  | (i, k, ws) :: r => match ops[i]? with
    | some o => ⟨i, o, k, ws⟩ :: stps ops r
    | none => []
def effs (p : Plan) (k : Nat) : Bool := p.any fun s => s.1 == k && s.2.1 == 1
def alls (p : Plan) (k : Nat) : Bool := p.any fun s => s.1 == k && s.2.1 == 2
theorem getD_true_of {l : Array Bool} {i : Nat} (h : l.getD i false = true) : l.getD i true = true := by
  rw [Array.getD_eq_getD_getElem?] at h ⊢
  cases e : l[i]? with
  | none => rfl
  | some b => rw [e] at h; exact h
/-- As if these had come up. -/
def markA (A : Nat → Bool) (l : Array Bool) : Array Bool := l.mapIdx fun j b => b || A j
theorem markA_getD {A : Nat → Bool} {l : Array Bool} {j : Nat} {d : Bool} (h : j < l.size) : (markA A l).getD j d = (l.getD j d || A j) := by
  simp [markA, Array.getD_eq_getD_getElem?, h]
theorem markA_size {A : Nat → Bool} {l : Array Bool} : (markA A l).size = l.size := by simp [markA]
def planOk (ops : Array Oper) (E A : Nat → Bool) : Plan → Array Bool → List Nat → Bool
  | [], listed, _ => Region.ready .any ops listed == []
  | (i, k, ws) :: r, listed, tk =>
    (match ops[i]? with
      | some o => (match k with
          | 0 => (Region.ready .any ops listed).contains i && !E i && !A i && Region.free .any ops listed i
          | 1 => (Region.ready .any ops listed).contains i && Region.ready .any ops (markA A listed) == [i] && !A i && (tk.all fun l => ws.contains l || (List.range ops.size).any fun k => (listed.setIfInBounds i true).getD k false && E k && reachB ops l ops.size k)
          | _ => (Region.ready .any ops listed).contains i && Region.ready .any ops (markA (fun j => A j && !(j == i)) listed) == [i] && A i) &&
          planOk ops E A r (listed.setIfInBounds i true) (match o.op with | .load _ _ => i :: tk | _ => tk)
      | none => false)
/-- The operations that make variables wait for nobody; who does not wait for them does not know them. -/
def allocOk (ops : Array Oper) (A : Nat → Bool) : Bool :=
  (List.range ops.size).all fun i => !A i || match ops[i]? with
    | some o => o.guard.isNone && (match o.op with | .alloc _ => true | _ => false) && (o.after.all fun e => !Region.binds .any e) && (List.range ops.size).all fun j => j == i || match ops[j]? with
        | some oj => oj.after.any (fun e => Region.binds .any e && e.on == i) || o.apart ops oj
        | none => true
    | none => false
theorem allocOk_spec {A : Nat → Bool} (h : allocOk ops A = true) {i : Nat} (hi : A i = true) {o : Oper} (ho : ops[i]? = some o) :
    o.guard = none ∧ (∃ t, o.op = .alloc t) ∧ (∀ e ∈ o.after, Region.binds .any e = false) ∧ ∀ j oj, ops[j]? = some oj → j ≠ i → (∀ e ∈ oj.after, Region.binds .any e = true → e.on ≠ i) → o.apart ops oj = true := by
  have hlt : i < ops.size := (Array.getElem?_eq_some_iff.1 ho).1
  have h1 := List.all_eq_true.1 h i (List.mem_range.2 hlt)
  simp only [hi, Bool.not_true, Bool.false_or, ho, Bool.and_eq_true, Option.isNone_iff_eq_none] at h1
  obtain ⟨⟨⟨h2, h3⟩, h3b⟩, h4⟩ := h1
  refine ⟨h2, ?_, fun e he => ?_, fun j oj hj hne hno => ?_⟩
  · split at h3
    · rename_i t ht; exact ⟨t, ht⟩
    · cases h3
  · have := Array.all_eq_true_iff_forall_mem.1 h3b e he; simpa using this
  · have hjl : j < ops.size := (Array.getElem?_eq_some_iff.1 hj).1
    have h5 := List.all_eq_true.1 h4 j (List.mem_range.2 hjl)
    simp only [hj, Bool.or_eq_true, beq_iff_eq] at h5
    rcases h5 with h5 | h5 | h5
    · exact absurd h5 hne
    · obtain ⟨e, he, h6⟩ := Array.any_eq_true'.1 h5
      simp only [Bool.and_eq_true, beq_iff_eq] at h6
      exact absurd h6.2 (hno e he h6.1)
    · exact h5
theorem alloc_ready {A : Nat → Bool} (h : allocOk ops A = true) {i : Nat} (hi : A i = true) {o : Oper} (ho : ops[i]? = some o) {l : Array Bool} (hl : l.getD i true = false) : i ∈ Region.ready .any ops l :=
  mem_ready.2 ⟨hl, o, ho, fun e he hb => by rw [(allocOk_spec h hi ho).2.2.1 e he] at hb; cases hb⟩
def isLd (o : Oper) : Bool := match o.op with | .load _ _ => true | _ => false
theorem Ob.alloc {x : Ob} {w : World} (h : x.holds w) (o : Obj) : x.holds (w.alloc o) := by
  obtain ⟨cs, t, fz, hb, hv⟩ := h
  exact ⟨cs, t, fz, by rw [Below.heap_alloc _ _ _ (Array.getElem?_eq_some_iff.1 hb).1]; exact hb, hv⟩
theorem Inv.more {E : Nat → Bool} {obs : Obs} {listed : Array Bool} {w : World} (h : Inv ops E obs listed w) (i : Nat) : Inv ops E obs (listed.setIfInBounds i true) w :=
  fun l x hl hlv => h l x hl fun k hk he => hlv k (getD_set_true hk) he
/-- All that may come up, each by itself. -/
theorem wpI_each {E : Nat → Bool} {obs : Obs} {fuel : Nat} {listed : Array Bool} {a : Act} {w : World} (hne : Region.ready .any ops listed ≠ []) (hv : Inv ops E obs listed w)
    (h : ∀ i ∈ Region.ready .any ops listed, wpOpIn F n P ops Q i (wpI F n P ops Q E obs fuel (listed.setIfInBounds i true)) a w) : wpI F n P ops Q E obs (fuel + 1) listed a w :=
  ⟨hv, fun h0 => absurd h0 hne, h⟩

/-! ### Variables that were made ahead of their time -/
abbrev Early := List (Nat × Nat)
def dstOf (ops : Array Oper) (i : Nat) : Option Tmp := (ops[i]?).bind (·.dst)
def putsE (ops : Array Oper) : Early → Act → Act
  | [], a => a
  | (i, b) :: r, a => (putsE ops r a).put (dstOf ops i) (.pointer (some ⟨b, 0, none⟩))
def lstE : Early → Array Bool → Array Bool
  | [], l => l
  | (i, _) :: r, l => (lstE r l).setIfInBounds i true
/-- None of them is known to this operation. -/
def farE (ops : Array Oper) (e : Early) (o : Oper) : Prop := ∀ x ∈ e, ∃ oi, ops[x.1]? = some oi ∧ oi.apart ops o = true
theorem farE.tail {x : Nat × Nat} {e : Early} {o : Oper} (h : farE ops (x :: e) o) : farE ops e o := fun y hy => h y (List.mem_cons_of_mem _ hy)
theorem putsE_exec {o : Oper} (hs : noSD o = true) : ∀ {e : Early} {a : Act}, farE ops e o → execOp (putsE ops e a).eval o = execOp a.eval o
  | [], a, _ => rfl
  | (i, b) :: r, a, h => by
    obtain ⟨oi, hi, hap⟩ := h (i, b) List.mem_cons_self
    obtain ⟨h1, h2, h3⟩ := Oper.apart_spec hap
    simp only [putsE]
    rw [execOp_put o (noSD_sel hs) _ _ _ (fun d hd => h1 d (by simpa [dstOf, hi] using hd))]
    exact putsE_exec hs h.tail
theorem putsE_wanted {o : Oper} : ∀ {e : Early} {a : Act}, farE ops e o → Region.wanted o (yielded ops (putsE ops e a).tmps) = Region.wanted o (yielded ops a.tmps)
  | [], a, _ => rfl
  | (i, b) :: r, a, h => by
    obtain ⟨oi, hi, hap⟩ := h (i, b) List.mem_cons_self
    obtain ⟨h1, h2, h3⟩ := Oper.apart_spec hap
    simp only [putsE]
    rw [wanted_put o _ _ _ (fun d hd => h1 d (by simpa [dstOf, hi] using hd))]
    exact putsE_wanted h.tail
theorem putsE_put {o : Oper} (u : Value) : ∀ {e : Early} {a : Act}, farE ops e o → (putsE ops e a).put o.dst u = putsE ops e (a.put o.dst u)
  | [], a, _ => rfl
  | (i, b) :: r, a, h => by
    obtain ⟨oi, hi, hap⟩ := h (i, b) List.mem_cons_self
    obtain ⟨h1, h2, h3⟩ := Oper.apart_spec hap
    simp only [putsE]
    rw [← putsE_put u h.tail]
    exact Act.put_comm _ _ _ (fun d hd => h2 d (by simpa [dstOf, hi] using hd))
theorem putsE_defers (d : Deferred) : ∀ {e : Early} {a : Act}, ({ putsE ops e a with defers := d :: (putsE ops e a).defers } : Act) = putsE ops e { a with defers := d :: a.defers }
  | [], a => rfl
  | (i, b) :: r, a => by
    simp only [putsE]
    rw [← putsE_defers d]
    exact Act.put_defers _ _ _ d
theorem YI.putsE {H : World → Prop} {o : Oper} {v : Value} {a : Act} {e : Early} (hs : noSD o = true) (h : farE ops e o) (hy : YI P ops H o v a) : YI P ops H o v (putsE ops e a) :=
  hy.of_same (putsE_exec hs h) (putsE_wanted h)
theorem uponIn_putsE {o : Oper} {e : Early} {a : Act} (h : farE ops e o) {K K' : Act → World → Prop} (hk : ∀ a w, K a w → K' (putsE ops e a) w) {r : Result Next} (hr : o.uponIn F n P a K (fun _ _ _ => False) r) : o.uponIn F n P (putsE ops e a) K' Q r := by
  cases r with
  | ok x w' =>
    cases x <;> simp only [Oper.uponIn] at hr ⊢
    case value v => rw [putsE_put v h]; exact hk _ _ hr
    case skip => rw [putsE_put undef h]; exact hk _ _ hr
    case defer d => rw [putsE_defers, putsE_put undef h]; exact hk _ _ hr
    case enter f args =>
      refine ⟨hr.1, hr.2.mono fun en w'' he => ?_⟩
      cases en with
      | returned v => simp only at he ⊢; rw [putsE_put v h]; exact hk _ _ he
      | panicked c => exact he.elim
      | outgrown => obtain ⟨_, _, he⟩ := he; exact he.elim
    case row row args => exact ⟨hr.1, hr.2.mono fun v w'' he => by rw [putsE_put v h]; exact hk _ _ he⟩
    case round l f tmps assign body =>
      refine ⟨hr.1, hr.2.mono fun en w'' he => ?_⟩
      cases en with
      | returned v => simp only at he ⊢; rw [putsE_put v h]; exact hk _ _ he
      | panicked c => exact he.elim
      | outgrown => obtain ⟨_, _, he⟩ := he; exact he.elim
  | halt x w' => cases x <;> simp only [Oper.uponIn] at hr
theorem lstE_mem {l : Array Bool} : ∀ {e : Early} {j : Nat}, (lstE e l).getD j true = false → l.getD j true = false ∧ ∀ x ∈ e, x.1 ≠ j
  | [], j, h => ⟨h, fun x hx => by cases hx⟩
  | (i, b) :: r, j, h => by
    simp only [lstE] at h
    by_cases hij : i = j
    · subst hij
      exfalso
      have : i < (lstE r l).size ∨ (lstE r l).size ≤ i := Nat.lt_or_ge _ _
      rcases this with h1 | h1
      · simp [h1] at h
      · simp [h1] at h
    · rw [getD_set_ne true hij] at h
      obtain ⟨h1, h2⟩ := lstE_mem h
      refine ⟨h1, fun x hx => ?_⟩
      rcases List.mem_cons.1 hx with rfl | hx
      · exact hij
      · exact h2 x hx
theorem lstE_false {l : Array Bool} {j : Nat} (h : l.getD j true = false) : ∀ {e : Early}, (∀ x ∈ e, x.1 ≠ j) → (lstE e l).getD j true = false
  | [], _ => h
  | (i, b) :: r, hn => by
    simp only [lstE]
    rw [getD_set_ne true (hn (i, b) List.mem_cons_self)]
    exact lstE_false h fun x hx => hn x (List.mem_cons_of_mem _ hx)
theorem lstE_true {l : Array Bool} {j : Nat} (h : l.getD j false = true) : ∀ {e : Early}, (lstE e l).getD j false = true
  | [] => h
  | (i, b) :: r => by simp only [lstE]; exact getD_set_true (lstE_true h)
theorem lstE_set {l : Array Bool} (j : Nat) : ∀ {e : Early}, (lstE e l).setIfInBounds j true = lstE e (l.setIfInBounds j true)
  | [] => rfl
  | (i, b) :: r => by
    simp only [lstE]
    rw [← lstE_set j]
    by_cases hij : i = j
    · subst hij; rfl
    · exact Array.setIfInBounds_comm _ _ hij
theorem lstE_size {l : Array Bool} : ∀ {e : Early}, (lstE e l).size = l.size
  | [] => rfl
  | (i, b) :: r => by simp [lstE, lstE_size]
theorem ready_lstE {l : Array Bool} {j : Nat} : ∀ {e : Early}, (∀ x ∈ e, x.1 ≠ j) → j ∈ Region.ready .any ops l → j ∈ Region.ready .any ops (lstE e l)
  | [], _, h => h
  | (i, b) :: r, hn, h => ready_mono (ready_lstE (fun x hx => hn x (List.mem_cons_of_mem _ hx)) h) (Ne.symm (hn (i, b) List.mem_cons_self))
theorem closed_lstE {A : Nat → Bool} (hA : allocOk ops A = true) {l : Array Bool} (hc : Closed ops l) : ∀ {e : Early}, (∀ x ∈ e, A x.1 = true ∧ l.getD x.1 true = false ∧ ∃ o, ops[x.1]? = some o) → (e.map (·.1)).Nodup → Closed ops (lstE e l)
  | [], _, _ => hc
  | (i, b) :: r, hn, hd => by
    simp only [List.map_cons, List.nodup_cons] at hd
    obtain ⟨h1, h2, o, ho⟩ := hn (i, b) List.mem_cons_self
    simp only [lstE]
    refine (closed_lstE hA hc (fun x hx => hn x (List.mem_cons_of_mem _ hx)) hd.2).set (alloc_ready hA h1 ho (lstE_false h2 fun x hx e => hd.1 ?_))
    exact List.mem_map.2 ⟨x, hx, e⟩
theorem lstE_true_of {l : Array Bool} {k : Nat} : ∀ {e : Early}, (lstE e l).getD k false = true → l.getD k false = true ∨ ∃ x ∈ e, x.1 = k
  | [], h => .inl h
  | (i, b) :: r, h => by
    by_cases hik : i = k
    · exact .inr ⟨(i, b), List.mem_cons_self, hik⟩
    · simp only [lstE] at h
      rw [getD_set_ne false hik] at h
      rcases lstE_true_of h with h | ⟨x, hx, e⟩
      · exact .inl h
      · exact .inr ⟨x, List.mem_cons_of_mem _ hx, e⟩
theorem ready_markA {A : Nat → Bool} {l : Array Bool} {e : Early} {j : Nat} (he : ∀ x ∈ e, A x.1 = true) (hj : j ∈ Region.ready .any ops (lstE e l)) (hA : A j = false) : j ∈ Region.ready .any ops (markA A l) := by
  obtain ⟨h1, o, ho, h2⟩ := mem_ready.1 hj
  obtain ⟨h3, _⟩ := lstE_mem h1
  have hlt : j < l.size := by
    rcases Nat.lt_or_ge j l.size with h | h
    · exact h
    · simp [Array.getD_eq_getD_getElem?, Array.getElem?_eq_none h] at h3
  refine mem_ready.2 ⟨by rw [markA_getD hlt, h3, hA]; rfl, o, ho, fun x hx hb => ?_⟩
  have h4 := h2 x hx hb
  have hlt2 : x.on < l.size := by
    rcases Nat.lt_or_ge x.on l.size with h | h
    · exact h
    · rw [← lstE_size (e := e)] at h
      simp [Array.getD_eq_getD_getElem?, Array.getElem?_eq_none h] at h4
  rw [markA_getD hlt2]
  rcases lstE_true_of h4 with h5 | ⟨y, hy, e5⟩
  · rw [h5]; rfl
  · rw [← e5, he y hy]; simp
/-- One that was made ahead is taken out. -/
theorem pull {A : Nat → Bool} (hA : allocOk ops A = true) {i b : Nat} {oi : Oper} (hi : ops[i]? = some oi) (hAi : A i = true) : ∀ {e : Early}, (i, b) ∈ e → (e.map (·.1)).Nodup → (∀ x ∈ e, A x.1 = true ∧ ∃ o, ops[x.1]? = some o) →
    ∃ e', e.Perm ((i, b) :: e') ∧ (∀ a, putsE ops e a = putsE ops e' (a.put oi.dst (.pointer (some ⟨b, 0, none⟩)))) ∧ ∀ l, lstE e l = lstE e' (l.setIfInBounds i true)
  | x :: r, hm, hd, hx => by
    simp only [List.map_cons, List.nodup_cons] at hd
    rcases List.mem_cons.1 hm with rfl | hm
    · refine ⟨r, List.Perm.refl _, fun a => ?_, fun l => ?_⟩
      · simp only [putsE, dstOf, hi, Option.bind_some]
        refine putsE_put _ fun y hy => ?_
        obtain ⟨h1, o, ho⟩ := hx y (List.mem_cons_of_mem _ hy)
        refine ⟨o, ho, (allocOk_spec hA h1 ho).2.2.2 i oi hi (fun e => hd.1 (List.mem_map.2 ⟨y, hy, e.symm⟩)) fun z hz hb => ?_⟩
        rw [(allocOk_spec hA hAi hi).2.2.1 z hz] at hb; cases hb
      · simp only [lstE]; exact lstE_set i
    · obtain ⟨e', hp, h1, h2⟩ := pull hA hi hAi hm hd.2 fun y hy => hx y (List.mem_cons_of_mem _ hy)
      refine ⟨x :: e', (List.Perm.cons x hp).trans (List.Perm.swap _ _ _), fun a => ?_, fun l => ?_⟩
      · simp only [putsE, h1 a]
      · simp only [lstE, h2 l]
/-- How many have not come up. -/
def cnt (l : Array Bool) : Nat := l.toList.count false
theorem cnt_set {l : Array Bool} {i : Nat} (h : l.getD i true = false) : cnt (l.setIfInBounds i true) + 1 = cnt l := by
  have hlt : i < l.size := by
    rcases Nat.lt_or_ge i l.size with h' | h'
    · exact h'
    · simp [Array.getElem?_eq_none h'] at h
  have hv : l.toList[i]'(by simpa using hlt) = false := by simpa [hlt] using h
  unfold cnt
  rw [Array.toList_setIfInBounds]
  have key : ∀ (l : List Bool) (i : Nat) (hi : i < l.length), l[i] = false → (l.set i true).count false + 1 = l.count false := by
    intro l
    induction l with
    | nil => intro i hi; simp at hi
    | cons x l ih =>
      intro i hi hx
      cases i with
      | zero => simp at hx; subst hx; simp
      | succ i => simp at hx hi; have := ih i hi hx; simp only [List.set_cons_succ, List.count_cons]; omega
  exact key l.toList i (by simpa using hlt) hv
end
end Go.Proofs.Ytmaheecbohbilaa.Sl
