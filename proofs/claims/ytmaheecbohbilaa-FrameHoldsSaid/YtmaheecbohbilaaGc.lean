import Derived.Test.YtmaheecbohbilaaGb
namespace Go.Proofs.Ytmaheecbohbilaa.Sl
open Go Go.RowKit Go.Proofs
set_option linter.unusedVariables false
set_option linter.unusedSimpArgs false
/-- Its group. -/
theorem upd_group {id r x : Int} {e : En} (he : okE e) (hx : r = 4 → x = 0 ∨ x = 1) : (updE id r x e).1.1.2.2.1 = if r = 4 then IntKind.i64.wrap x else e.1.2.2.1 := by
  have hg := written_range (id := id) he hx
  have hw : (writtenV id e.1 r x).2.2.1 = if r = 4 then IntKind.i64.wrap x else e.1.2.2.1 := by
    unfold writtenV
    repeat' split
    all_goals (first | rfl | (exfalso; omega))
  unfold updE
  split
  · rename_i h
    rw [← hw, h]
  · exact hw
theorem upd_prio {id x : Int} {e : En} (he : okE e) : (updE id 11 x e).1.1.2.2.2 = realV (IntKind.i64.wrap x) := by
  have hg := written_range (id := id) (r := 11) (x := x) he (fun h => by omega)
  have hw : (writtenV id e.1 11 x).2.2.2 = realV (IntKind.i64.wrap x) := rfl
  unfold updE
  split
  · rename_i h
    rw [← hw, h]
  · exact realV_real _
theorem field_prio {v : Nat} (hv : v < 2 ^ 32) {j : Nat} (hj : j < 4) : realV (IntKind.i64.wrap (fieldV v 11 4 j)) = ((v / 2 ^ (8 * j) &&& 248 : Nat) : Int) := by
  have e32 : (2 : Nat) ^ 32 = 4294967296 := rfl
  have e64 : (2 : Nat) ^ 64 = 18446744073709551616 := rfl
  rw [fieldV_nat (by omega) (n := 8) rfl (by omega) (by omega) (by omega) (by omega), Int.toNat_natCast]
  have h : v / 2 ^ (8 * j) % 2 ^ 8 < 256 := Nat.mod_lt _ (by decide)
  rw [wrap_id (by omega) (by omega), realV_of (Nat.lt_trans h (by decide))]
  congr 1
  apply Nat.eq_of_testBit_eq
  intro i
  rw [Nat.testBit_and, Nat.testBit_and, Nat.testBit_mod_two_pow]
  by_cases hi : i < 8
  · simp [hi]
  · have : (248 : Nat).testBit i = false := Nat.testBit_lt_two_pow (Nat.lt_of_lt_of_le (show 248 < 2 ^ 8 by decide) (Nat.pow_le_pow_right (by omega) (by omega)))
    simp [this]
/-- Groups are shown alike, where they are alike. -/
theorem rdK_groups {first : Int} {es es' : List En} {f c : Int} (h : ∀ id, (atE first es id).map (fun e => e.1.2.2.1) = (atE first es' id).map (fun e => e.1.2.2.1)) : ∀ m, rdK first es 4 f c m = rdK first es' 4 f c m
  | 0 => rfl
  | m + 1 => by
    have ih := rdK_groups (f := f) (c := c) h m
    have h2 := h (IntKind.i64.wrap (f + m))
    cases h3 : atE first es (IntKind.i64.wrap (f + m)) with
    | none =>
      rw [h3] at h2
      cases h4 : atE first es' (IntKind.i64.wrap (f + m)) with
      | none => rw [rdK_none h3, rdK_none h4, ih]
      | some e => rw [h4] at h2; cases h2
    | some e =>
      rw [h3] at h2
      cases h4 : atE first es' (IntKind.i64.wrap (f + m)) with
      | none => rw [h4] at h2; cases h2
      | some e' =>
        rw [h4] at h2
        simp only [Option.map_some, Option.some.injEq] at h2
        rw [rdK_some h3, rdK_some h4, ih]
        simp only [showsV, if_true, h2]
theorem groups_wrK {first : Int} {es : List En} {f v : Int} (hok : okL es) (hf : ∀ k : Nat, k < 4 → IntKind.i64.wrap (f + k) = f + k) (id : Int) : (atE first es id).map (fun e => e.1.2.2.1) = (atE first (wrK first es 11 f 4 v 4).1 id).map (fun e => e.1.2.2.1) := by
  cases h : atE first es id with
  | none =>
    have h2 := hasV_at first es id
    have h3 := hasV_at first (wrK first es 11 f 4 v 4).1 id
    rw [wrK_len, h2, h] at h3
    cases h4 : atE first (wrK first es 11 f 4 v 4).1 id with
    | none => rfl
    | some e => rw [h4] at h3; cases h3
  | some e =>
    obtain ⟨i, hi, he⟩ := atE_iff.1 h
    have := wrK_at (first := first) (r := 11) (c := 4) (v := v) hf 4 (Nat.le_refl _) i e he
    rw [atE_iff.2 ⟨i, hi, this⟩]
    simp only [Option.map_some]
    split
    · rw [upd_group (okL_at hok he) (fun h => by omega)]; rfl
    · rfl
theorem holds_prio {first : Int} {es : List En} {f : Int} {v : Nat} (hok : okL es) (hv : v < 2 ^ 32) (hf : ∀ k : Nat, k < 4 → IntKind.i64.wrap (f + k) = f + k) {k : Nat} (hk : k < 4) {e : En} (h : atE first (wrK first es 11 f 4 v 4).1 (f + k) = some e) : e.1.2.2.2 = ((v / 2 ^ (8 * k) &&& 248 : Nat) : Int) := by
  rw [atE_wrK hf hk] at h
  cases h2 : atE first es (f + k) with
  | none => rw [h2] at h; cases h
  | some e0 =>
    obtain ⟨i, hi, he⟩ := atE_iff.1 h2
    rw [h2] at h
    simp only [Option.map_some, Option.some.injEq] at h
    rw [← h, upd_prio (okL_at hok he), field_prio hv hk]
theorem holds_group {first : Int} {es : List En} {f : Int} {v : Nat} (hok : okL es) (hv : v < 2 ^ 32) (hf : ∀ k : Nat, k < 32 → IntKind.i64.wrap (f + k) = f + k) {k : Nat} (hk : k < 32) {e : En} (h : atE first (wrK first es 4 f 32 v 32).1 (f + k) = some e) : e.1.2.2.1 = ((v / 2 ^ k % 2 : Nat) : Int) := by
  have e32 : (2 : Nat) ^ 32 = 4294967296 := rfl
  have e64 : (2 : Nat) ^ 64 = 18446744073709551616 := rfl
  rw [atE_wrK hf hk] at h
  cases h2 : atE first es (f + k) with
  | none => rw [h2] at h; cases h
  | some e0 =>
    obtain ⟨i, hi, he⟩ := atE_iff.1 h2
    rw [h2] at h
    simp only [Option.map_some, Option.some.injEq] at h
    have hfd : fieldV v 4 32 k = ((v / 2 ^ k % 2 : Nat) : Int) := by
      rw [fieldV_nat (by omega) (n := 1) rfl (by omega) (by omega) (by omega) (by omega), Nat.one_mul, Int.toNat_natCast, Nat.pow_one]
    rw [← h, upd_group (okL_at hok he) (fun _ => by rw [hfd]; omega), if_pos rfl, hfd, wrap_id (by omega) (by omega)]
end Go.Proofs.Ytmaheecbohbilaa.Sl
