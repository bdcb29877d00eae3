/-
  HolidayValid, part 1: the program's set-up for the evaluator; the example of the chapter (awake) by the kernel.
-/
import Derived.Test.YtkaadpkokmhfjaaGreatDoorAbG
import Derived.KernelRfl
namespace Go.Proofs.YtkaadpkokmhfjaaGreatDoor
open Go Go.Ab

def extT (n : Nat) : Option (List AV → AS → Option (AV × AS × Bool)) := cond (Nat.beq n 193) (some cntByteE) (cond (Nat.beq n 209) (some idxByteE) none)
def A0 : AProg := { fn := fnT, ext := extT, glob := fun _ => none, meth := methT }

theorem extT_cases {n : Nat} {g : List AV → AS → Option (AV × AS × Bool)} (h : extT n = some g) : (n = 193 ∧ g = cntByteE) ∨ (n = 209 ∧ g = idxByteE) := by
  unfold extT at h
  cases h1 : Nat.beq n 193 with
  | true =>
    rw [h1] at h
    exact .inl ⟨Nat.eq_of_beq_eq_true h1, (Option.some.inj h).symm⟩
  | false =>
    rw [h1] at h
    cases h2 : Nat.beq n 209 with
    | true =>
      rw [h2] at h
      exact .inr ⟨Nat.eq_of_beq_eq_true h2, (Option.some.inj h).symm⟩
    | false => rw [h2] at h; cases h

theorem args2 {K : Nat → Option Obj} {ρ : Nat → Ab.Loc} {s : List UInt8} {c : Int} {us : Array Value} (h : VRels K ρ [.str s, .int .u8 c] us.toList) : ∃ b, us = #[.string b, .int .u8 c] ∧ b.data.toList = s := by
  obtain ⟨u, v, rfl, h1, h2⟩ := h.two_inv
  obtain ⟨b, rfl, hb⟩ := h1.str_inv
  rw [h2.int_inv]
  exact ⟨b, rfl, hb⟩

theorem setup0 : Setup Tryz.prog A0 where
  fn := fn_ok
  ext := by
    intro k g hg K ρ S w args us v S' qt hGG hS hr hbb h
    rcases extT_cases hg with ⟨rfl, rfl⟩ | ⟨rfl, rfl⟩
    · unfold cntByteE at h
      split at h <;> try contradiction
      rename_i s c
      simp only [Option.some.injEq, Prod.mk.injEq] at h
      obtain ⟨rfl, rfl, _⟩ := h
      obtain ⟨b, rfl, rfl⟩ := args2 hr
      refine .inr ⟨_, w, ?_, out_value hS (.int (n := (Lib.countByte b.data.toList c.toNat.toUInt8 : Nat))) trivial⟩
      rw [run_callFunc_extern Tryz.func193 (by kernel_rfl) (by kernel_rfl) (by kernel_rfl) (e := Extern.BytealgCount.count) (by kernel_rfl), Lib.run_countString]
      rfl
    · unfold idxByteE at h
      split at h <;> try contradiction
      rename_i s c
      simp only [Option.some.injEq, Prod.mk.injEq] at h
      obtain ⟨rfl, rfl, _⟩ := h
      obtain ⟨b, rfl, rfl⟩ := args2 hr
      refine .inr ⟨_, w, ?_, out_value hS (.int (n := Lib.indexByte b.data.toList c.toNat.toUInt8)) trivial⟩
      rw [run_callFunc_extern Tryz.func209 (by kernel_rfl) (by kernel_rfl) (by kernel_rfl) (e := Extern.BytealgIndexByte.indexByte) (by kernel_rfl), Lib.run_indexByteString]
      rfl
  quiet := by
    intro k g args S v S' hg h
    rcases extT_cases hg with ⟨rfl, rfl⟩ | ⟨rfl, rfl⟩
    · unfold cntByteE at h
      split at h <;> try contradiction
      simp only [Option.some.injEq, Prod.mk.injEq] at h
      exact h.2.1.symm
    · unfold idxByteE at h
      split at h <;> try contradiction
      simp only [Option.some.injEq, Prod.mk.injEq] at h
      exact h.2.1.symm
  meth := fun t m k h => by simp [A0, methT, methOf] at h
  mixed := by kernel_rfl

theorem awake_ev : (evN A0 20000).call 13 [] ⟨[], 0, 0, 0⟩ = some (.bool true, ⟨[], 0, 0, 0⟩, true) := by kernel_rfl
end Go.Proofs.YtkaadpkokmhfjaaGreatDoor
