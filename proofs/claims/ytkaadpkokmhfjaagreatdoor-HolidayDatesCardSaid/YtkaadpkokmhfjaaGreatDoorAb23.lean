/-
  THE ENGINE, PART 23: more fuel does no harm; the evaluator without fuel, and its equations.
-/
import Derived.Test.YtkaadpkokmhfjaaGreatDoorAb22
namespace Go.Ab
variable {A : AProg} {R R' : Rec} {E : Env} {S S' : AS} {v : AV}

structure Le (R R' : Rec) : Prop where
  code : ∀ c E S r, R.code c E S = some r → R'.code c E S = some r
  call : ∀ k l S r, R.call k l S = some r → R'.call k l S = some r

theorem Le.refl : Le R R := ⟨fun _ _ _ _ h => h, fun _ _ _ _ h => h⟩
theorem Le.trans {R2 : Rec} (h : Le R R') (k : Le R' R2) : Le R R2 := ⟨fun _ _ _ _ x => k.code _ _ _ _ (h.code _ _ _ _ x), fun _ _ _ _ x => k.call _ _ _ _ (h.call _ _ _ _ x)⟩

theorem round_le (hR : Le R R') {l : Nat} {args : List AV} {r : AV × AS × Bool} (h : round R l args S = some r) : round R' l args S = some r := by
  unfold round at h ⊢
  split at h <;> try contradiction
  split at h
  · cases h
  rename_i hlen
  rw [if_neg hlen]
  split at h <;> try contradiction
  rename_i h1
  rw [hR.code _ _ _ _ h1]
  simp only
  split at h <;> try contradiction
  rename_i hl1
  split at h <;> try contradiction
  rename_i h2
  rw [hR.code _ _ _ _ h2]
  exact h

theorem callV_le (hR : Le R R') {f : AV} {args : List AV} {r : AV × AS × Bool} (h : callV A R f args S = some r) : callV A R' f args S = some r := by
  cases f with
  | fn k a b =>
    simp only [callV] at h ⊢
    cases hg : A.ext k with
    | some g => rw [hg] at h; exact h
    | none => rw [hg] at h; exact hR.call _ _ _ _ h
  | yl l => exact round_le hR h
  | _ => simp [callV] at h

theorem aoper_le (hR : Le R R') {q : Bool} {o : AO} {r : AV × AS} (h : aoper A R q E S o = some r) : aoper A R' q E S o = some r := by
  cases o with
  | call f args =>
    simp only [aoper] at h ⊢
    split at h <;> try contradiction
    rename_i hc
    rw [callV_le hR hc]
    exact h
  | invoke m x args =>
    simp only [aoper] at h ⊢
    split at h <;> try contradiction
    rename_i t u hx
    split at h <;> try contradiction
    rename_i k hk
    split at h <;> try contradiction
    rename_i hc
    rw [callV_le hR hc]
    exact h
  | _ => exact h

theorem aops_le (hR : Le R R') : ∀ {l : List AOp} {E : Env} {S : AS} {r : Env × AS}, aops A R l E S = some r → aops A R' l E S = some r
  | [], _, _, _, h => h
  | o :: l, E, S, r, h => by
    simp only [aops] at h ⊢
    split at h <;> try contradiction
    · rename_i hw
      split at h <;> try contradiction
      rename_i ho
      rw [aoper_le hR ho]
      exact aops_le hR h
    · rename_i hw
      exact aops_le hR h

theorem aopsT_le (hR : Le R R') : ∀ {l : List AOp} {E : Env} {S : AS} {r : List (Env × AS × AV) × Env × AS}, aopsT A R l E S = some r → aopsT A R' l E S = some r
  | [], _, _, _, h => h
  | o :: l, E, S, r, h => by
    simp only [aopsT] at h ⊢
    split at h <;> try contradiction
    · split at h <;> try contradiction
      rename_i ho
      rw [aoper_le hR ho]
      simp only
      split at h <;> try contradiction
      rename_i hr
      rw [aopsT_le hR hr]
      exact h
    · split at h <;> try contradiction
      rename_i hr
      rw [aopsT_le hR hr]
      exact h

theorem stepCode_le (hR : Le R R') {c : ACode} {r : AExit × Env × AS} (h : stepCode A R c E S = some r) : stepCode A R' c E S = some r := by
  cases c with
  | skip => exact h
  | ret => exact h
  | exit i => exact h
  | seq a b =>
    simp only [stepCode] at h ⊢
    split at h
    · rename_i h1; rw [hR.code _ _ _ _ h1]; exact hR.code _ _ _ _ h
    · rename_i h1
      rw [hR.code _ _ _ _ h]
      split
      · rename_i h2; simp only [Option.some.injEq] at h2; subst h2; exact absurd h (h1 _ _)
      · rfl
  | cond c a b =>
    simp only [stepCode] at h ⊢
    split at h <;> try contradiction
    rename_i t ht
    cases t <;> exact hR.code _ _ _ _ h
  | block i a =>
    simp only [stepCode] at h ⊢
    split at h
    · rename_i h1; rw [hR.code _ _ _ _ h1]; exact h
    · rename_i h1
      rw [hR.code _ _ _ _ h]
      split
      · rename_i h2; simp only [Option.some.injEq] at h2; subst h2; exact absurd h (h1 _ _ _)
      · rfl
  | scope a => exact hR.code _ _ _ _ h
  | loop live a =>
    simp only [stepCode] at h ⊢
    split at h
    · rename_i h1; rw [hR.code _ _ _ _ h1]; exact hR.code _ _ _ _ h
    · rename_i h1
      rw [hR.code _ _ _ _ h]
      split
      · rename_i h2; simp only [Option.some.injEq] at h2; subst h2; exact absurd h (h1 _ _)
      · rfl
  | region d keep chk ops =>
    simp only [stepCode] at h ⊢
    split at h
    · split at h <;> try contradiction
      rename_i h1
      rw [aops_le hR h1]
      exact h
    · split at h <;> try contradiction
      rename_i h1
      rw [aopsT_le hR h1]
      exact h
  | rangeFunc f ps a b =>
    simp only [stepCode] at h ⊢
    split at h <;> try contradiction
    split at h
    · cases h
    rename_i hext
    rw [if_neg hext]
    split at h <;> try contradiction
    rename_i h1
    rw [callV_le hR h1]
    exact h

theorem stepCall_le (hR : Le R R') {k : Nat} {args : List AV} {r : AV × AS × Bool} (h : stepCall A R k args S = some r) : stepCall A R' k args S = some r := by
  unfold stepCall at h ⊢
  split at h
  · cases h
  rename_i f hf
  split at h
  case isFalse => cases h
  rename_i hl
  rw [if_pos hl]
  split at h
  · rename_i h1; rw [hR.code _ _ _ _ h1]; exact h
  · rename_i h1; rw [hR.code _ _ _ _ h1]; exact h
  · cases h

theorem stepR_le (h : Le R R') : Le (stepR A R) (stepR A R') := ⟨fun _ _ _ _ x => stepCode_le h x, fun _ _ _ _ x => stepCall_le h x⟩
theorem evN_succ (n : Nat) : evN A (n + 1) = stepR A (evN A n) := rfl
theorem evN_le1 : ∀ n, Le (evN A n) (evN A (n + 1))
  | 0 => ⟨fun _ _ _ _ h => (by cases h), fun _ _ _ _ h => (by cases h)⟩
  | n + 1 => stepR_le (evN_le1 n)
theorem evN_le {n m : Nat} (h : n ≤ m) : Le (evN A n) (evN A m) := by
  induction h with
  | refl => exact .refl
  | step _ ih => exact ih.trans (evN_le1 _)

open Classical in
/-- The evaluator without fuel. -/
noncomputable def evW (A : AProg) : Rec where
  code c E S := if h : ∃ r n, (evN A n).code c E S = some r then some h.choose else none
  call k l S := if h : ∃ r n, (evN A n).call k l S = some r then some h.choose else none

open Classical in
theorem evW_code_of {n : Nat} {c : ACode} {r : AExit × Env × AS} (h : (evN A n).code c E S = some r) : (evW A).code c E S = some r := by
  have hex : ∃ r n, (evN A n).code c E S = some r := ⟨r, n, h⟩
  show (if h : ∃ r n, (evN A n).code c E S = some r then some h.choose else none) = some r
  rw [dif_pos hex]
  obtain ⟨m, hm⟩ := hex.choose_spec
  have h1 := (evN_le (A := A) (Nat.le_max_left n m)).code _ _ _ _ h
  have h2 := (evN_le (A := A) (Nat.le_max_right n m)).code _ _ _ _ hm
  rw [h1] at h2
  exact h2.symm
open Classical in
theorem evW_call_of {n : Nat} {k : Nat} {l : List AV} {r : AV × AS × Bool} (h : (evN A n).call k l S = some r) : (evW A).call k l S = some r := by
  have hex : ∃ r n, (evN A n).call k l S = some r := ⟨r, n, h⟩
  show (if h : ∃ r n, (evN A n).call k l S = some r then some h.choose else none) = some r
  rw [dif_pos hex]
  obtain ⟨m, hm⟩ := hex.choose_spec
  have h1 := (evN_le (A := A) (Nat.le_max_left n m)).call _ _ _ _ h
  have h2 := (evN_le (A := A) (Nat.le_max_right n m)).call _ _ _ _ hm
  rw [h1] at h2
  exact h2.symm
open Classical in
theorem of_evW_code {c : ACode} {r : AExit × Env × AS} (h : (evW A).code c E S = some r) : ∃ n, (evN A n).code c E S = some r := by
  change (if h : ∃ r n, (evN A n).code c E S = some r then some h.choose else none) = some r at h
  split at h
  · rename_i hex
    injection h with h
    obtain ⟨m, hm⟩ := hex.choose_spec
    rw [h] at hm
    exact ⟨m, hm⟩
  · cases h
open Classical in
theorem of_evW_call {k : Nat} {l : List AV} {r : AV × AS × Bool} (h : (evW A).call k l S = some r) : ∃ n, (evN A n).call k l S = some r := by
  change (if h : ∃ r n, (evN A n).call k l S = some r then some h.choose else none) = some r at h
  split at h
  · rename_i hex
    injection h with h
    obtain ⟨m, hm⟩ := hex.choose_spec
    rw [h] at hm
    exact ⟨m, hm⟩
  · cases h

/-! From the evaluator without fuel to one with enough of it -/
theorem callV_fin {f : AV} {args : List AV} {r : AV × AS × Bool} (h : callV A (evW A) f args S = some r) : ∃ n, callV A (evN A n) f args S = some r := by
  cases f with
  | fn k a b =>
    simp only [callV] at h ⊢
    cases hg : A.ext k with
    | some g => rw [hg] at h; exact ⟨0, h⟩
    | none => rw [hg] at h; exact of_evW_call h
  | yl l =>
    simp only [callV] at h ⊢
    unfold round at h
    split at h <;> try contradiction
    rename_i hl
    split at h
    · cases h
    rename_i hlen
    split at h <;> try contradiction
    rename_i E1 S1 h1
    split at h <;> try contradiction
    rename_i hl1
    split at h <;> try contradiction
    rename_i h2
    obtain ⟨n, hn⟩ := of_evW_code h1
    obtain ⟨m, hm⟩ := of_evW_code h2
    refine ⟨max n m, ?_⟩
    unfold round
    rw [hl]
    simp only
    rw [if_neg hlen, (evN_le (Nat.le_max_left n m)).code _ _ _ _ hn]
    simp only [hl1]
    rw [(evN_le (Nat.le_max_right n m)).code _ _ _ _ hm]
    exact h
  | _ => simp [callV] at h

theorem aoper_fin {q : Bool} {o : AO} {r : AV × AS} (h : aoper A (evW A) q E S o = some r) : ∃ n, aoper A (evN A n) q E S o = some r := by
  cases o with
  | call f args =>
    simp only [aoper] at h ⊢
    split at h <;> try contradiction
    rename_i hc
    obtain ⟨n, hn⟩ := callV_fin hc
    exact ⟨n, by rw [hn]; exact h⟩
  | invoke m x args =>
    simp only [aoper] at h ⊢
    split at h <;> try contradiction
    rename_i t u hx
    split at h <;> try contradiction
    rename_i k hk
    split at h <;> try contradiction
    rename_i hc
    obtain ⟨n, hn⟩ := callV_fin hc
    exact ⟨n, by rw [hn]; exact h⟩
  | _ => exact ⟨0, h⟩

theorem aops_fin : ∀ {l : List AOp} {E : Env} {S : AS} {r : Env × AS}, aops A (evW A) l E S = some r → ∃ n, aops A (evN A n) l E S = some r
  | [], _, _, _, h => ⟨0, h⟩
  | o :: l, E, S, r, h => by
    simp only [aops] at h
    split at h <;> try contradiction
    · rename_i hw
      split at h <;> try contradiction
      rename_i ho
      obtain ⟨n, hn⟩ := aoper_fin ho
      obtain ⟨m, hm⟩ := aops_fin h
      refine ⟨max n m, ?_⟩
      simp only [aops, hw, aoper_le (evN_le (Nat.le_max_left n m)) hn]
      exact aops_le (evN_le (Nat.le_max_right n m)) hm
    · rename_i hw
      obtain ⟨m, hm⟩ := aops_fin h
      exact ⟨m, by simp only [aops, hw]; exact hm⟩

theorem aopsT_fin : ∀ {l : List AOp} {E : Env} {S : AS} {r : List (Env × AS × AV) × Env × AS}, aopsT A (evW A) l E S = some r → ∃ n, aopsT A (evN A n) l E S = some r
  | [], _, _, _, h => ⟨0, h⟩
  | o :: l, E, S, r, h => by
    simp only [aopsT] at h
    split at h <;> try contradiction
    · rename_i hw
      split at h <;> try contradiction
      rename_i ho
      split at h <;> try contradiction
      rename_i hr
      obtain ⟨n, hn⟩ := aoper_fin ho
      obtain ⟨m, hm⟩ := aopsT_fin hr
      refine ⟨max n m, ?_⟩
      simp only [aopsT, hw, aoper_le (evN_le (Nat.le_max_left n m)) hn, aopsT_le (evN_le (Nat.le_max_right n m)) hm]
      exact h
    · rename_i hw
      split at h <;> try contradiction
      rename_i hr
      obtain ⟨m, hm⟩ := aopsT_fin hr
      exact ⟨m, by simp only [aopsT, hw, hm]; exact h⟩

theorem stepCode_fin {c : ACode} {r : AExit × Env × AS} (h : stepCode A (evW A) c E S = some r) : ∃ n, stepCode A (evN A n) c E S = some r := by
  cases c with
  | skip => exact ⟨0, h⟩
  | ret => exact ⟨0, h⟩
  | exit i => exact ⟨0, h⟩
  | seq a b =>
    simp only [stepCode] at h ⊢
    split at h
    · rename_i h1
      obtain ⟨n, hn⟩ := of_evW_code h1
      obtain ⟨m, hm⟩ := of_evW_code h
      exact ⟨max n m, by rw [(evN_le (Nat.le_max_left n m)).code _ _ _ _ hn]; exact (evN_le (Nat.le_max_right n m)).code _ _ _ _ hm⟩
    · rename_i h1
      obtain ⟨n, hn⟩ := of_evW_code h
      refine ⟨n, ?_⟩
      rw [hn]
      split
      · rename_i h2; simp only [Option.some.injEq] at h2; subst h2; exact absurd h (h1 _ _)
      · rfl
  | cond c a b =>
    simp only [stepCode] at h ⊢
    split at h <;> try contradiction
    rename_i t ht
    cases t <;> exact of_evW_code h
  | block i a =>
    simp only [stepCode] at h ⊢
    split at h
    · rename_i h1
      obtain ⟨n, hn⟩ := of_evW_code h1
      exact ⟨n, by rw [hn]; exact h⟩
    · rename_i h1
      obtain ⟨n, hn⟩ := of_evW_code h
      refine ⟨n, ?_⟩
      rw [hn]
      split
      · rename_i h2; simp only [Option.some.injEq] at h2; subst h2; exact absurd h (h1 _ _ _)
      · rfl
  | scope a => exact of_evW_code h
  | loop live a =>
    simp only [stepCode] at h ⊢
    split at h
    · rename_i h1
      obtain ⟨n, hn⟩ := of_evW_code h1
      obtain ⟨m, hm⟩ := of_evW_code h
      exact ⟨max n m, by rw [(evN_le (Nat.le_max_left n m)).code _ _ _ _ hn]; exact (evN_le (Nat.le_max_right n m)).code _ _ _ _ hm⟩
    · rename_i h1
      obtain ⟨n, hn⟩ := of_evW_code h
      refine ⟨n, ?_⟩
      rw [hn]
      split
      · rename_i h2; simp only [Option.some.injEq] at h2; subst h2; exact absurd h (h1 _ _)
      · rfl
  | region d keep chk ops =>
    simp only [stepCode] at h ⊢
    split at h
    · split at h <;> try contradiction
      rename_i h1
      obtain ⟨n, hn⟩ := aops_fin h1
      exact ⟨n, by rw [hn]; exact h⟩
    · split at h <;> try contradiction
      rename_i h1
      obtain ⟨n, hn⟩ := aopsT_fin h1
      exact ⟨n, by rw [hn]; exact h⟩
  | rangeFunc f ps a b =>
    simp only [stepCode] at h ⊢
    split at h <;> try contradiction
    split at h
    · cases h
    rename_i hext
    split at h <;> try contradiction
    rename_i h1
    obtain ⟨n, hn⟩ := callV_fin h1
    exact ⟨n, by rw [if_neg hext, hn]; exact h⟩

theorem stepCall_fin {k : Nat} {args : List AV} {r : AV × AS × Bool} (h : stepCall A (evW A) k args S = some r) : ∃ n, stepCall A (evN A n) k args S = some r := by
  unfold stepCall at h
  split at h
  · cases h
  rename_i f hf
  split at h
  case isFalse => cases h
  rename_i hl
  split at h
  · rename_i h1
    obtain ⟨n, hn⟩ := of_evW_code h1
    exact ⟨n, by simp only [stepCall, hf, if_pos hl, hn]; exact h⟩
  · rename_i h1
    obtain ⟨n, hn⟩ := of_evW_code h1
    exact ⟨n, by simp only [stepCall, hf, if_pos hl, hn]; exact h⟩
  · cases h

/-- The equations. -/
theorem evW_code (c : ACode) (E : Env) (S : AS) : (evW A).code c E S = stepCode A (evW A) c E S := by
  have up : ∀ n, Le (evN A n) (evW A) := fun n => ⟨fun _ _ _ _ h => evW_code_of h, fun _ _ _ _ h => evW_call_of h⟩
  cases h : stepCode A (evW A) c E S with
  | some r =>
    obtain ⟨n, hn⟩ := stepCode_fin h
    exact evW_code_of (n := n + 1) hn
  | none =>
    cases h2 : (evW A).code c E S with
    | none => rfl
    | some r =>
      obtain ⟨n, hn⟩ := of_evW_code h2
      cases n with
      | zero => cases hn
      | succ n => rw [stepCode_le (up n) hn] at h; cases h
theorem evW_call (k : Nat) (l : List AV) (S : AS) : (evW A).call k l S = stepCall A (evW A) k l S := by
  have up : ∀ n, Le (evN A n) (evW A) := fun n => ⟨fun _ _ _ _ h => evW_code_of h, fun _ _ _ _ h => evW_call_of h⟩
  cases h : stepCall A (evW A) k l S with
  | some r =>
    obtain ⟨n, hn⟩ := stepCall_fin h
    exact evW_call_of (n := n + 1) hn
  | none =>
    cases h2 : (evW A).call k l S with
    | none => rfl
    | some r =>
      obtain ⟨n, hn⟩ := of_evW_call h2
      cases n with
      | zero => cases hn
      | succ n => rw [stepCall_le (up n) hn] at h; cases h
end Go.Ab
