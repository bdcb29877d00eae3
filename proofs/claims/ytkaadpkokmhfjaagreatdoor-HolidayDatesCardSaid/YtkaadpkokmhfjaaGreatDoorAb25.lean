/-
  THE ENGINE, PART 25: contracts put together: what was shown from the empty state serves in every state; rows of the library without a body; tables of functions.
-/
import Derived.Test.YtkaadpkokmhfjaaGreatDoorAb24
import Derived.Lib.Bytealg
namespace Go.Ab
variable {P : Program} {A : AProg} {K : Nat → Option Obj} {ρ : Nat → Loc} {S : AS} {w : World}

/-- What the evaluator says of a call from the empty state, of arguments and with a result without names, holds in every state. -/
theorem ext_of_ev (hs : Setup P A) {k : Nat} {args : List AV} {us : Array Value} {v : AV} {qt : Bool} (h : (evW A).call k args ⟨[], 0, 0, 0⟩ = some (v, ⟨[], 0, 0, 0⟩, qt)) (hn : noNames args = true) (hv : noName v = true)
    (hG : GRel K A.glob) (hS : Sim P K ρ S w) (hr : VRels K ρ args us.toList) : CallOk P k K ρ S w us v S := by
  obtain ⟨n, hn'⟩ := of_evW_call h
  have hS0 : Sim P K ρ ⟨[], 0, 0, 0⟩ w := ⟨fun b hb => absurd rfl hb, fun b _ hb => absurd rfl hb, hS.kept, rfl⟩
  obtain ⟨h1, h2⟩ := (evN_ok hs n).call k args us _ w K ρ v _ qt hG hS0 hr (vbs_of_noNames _ hn) hn'
  refine ⟨h1, CallsIn.mono h2 fun e w' he => ?_⟩
  cases e with
  | returned u =>
    obtain ⟨K', ρ', g1, g2, g3, g4⟩ := he
    have hsame : ∀ c, c < w.heap.size → w'.heap[c]? = w.heap[c]? := fun c hc => g4.frame c hc (fun b hb => absurd rfl hb)
    have hnew : ∀ c o, K' c = some o → K c = some o ∨ w.heap.size ≤ c := fun c o hc => by
      rcases g4.newK c o hc with h | h | ⟨b0, hb0, _⟩
      · exact .inl h
      · exact .inr h
      · exact absurd rfl hb0
    have hlt : ∀ b, look S.heap b ≠ .dead → (ρ b).blk < w.heap.size := fun b hb => by
      obtain ⟨o, ho, _⟩ := hS.live b hb
      exact (Array.getElem?_eq_some_iff.1 ho).1
    refine ⟨K', ρ, noName_any hv g1 ρ, vb_of_noName _ hv, ⟨fun b hb => ?_, hS.inj, g3.kept, hS.ok⟩, ?_⟩
    · obtain ⟨o, ho, hB, hK⟩ := hS.live b hb
      refine ⟨o, by rw [hsame _ (hlt b hb)]; exact ho, hB.mono g4.cellsK (fun _ _ => rfl) (Nat.le_refl _), ?_⟩
      cases hk : K' (ρ b).blk with
      | none => rfl
      | some o' =>
        rcases hnew _ _ hk with h | h
        · rw [hK] at h; cases h
        · have := hlt b hb; omega
    · have := Ext.refl (K := K) (ρ := ρ) (S := S) (w := w)
      exact { this with
        keeps := g4.keeps
        size := g4.size
        frame := fun c hc _ => hsame c hc
        newK := fun c o hc => (hnew c o hc).imp id .inl
        rest := g4.rest }
  | _ => exact he.elim

/-! Tables of functions -/
theorem leafF {n k : Nat} {a f : AFun} (h : cond (Nat.beq n k) (some a) none = some f) (ok : funOk P k a) : funOk P n f := by
  cases hb : Nat.beq n k with
  | false => rw [hb] at h; cases h
  | true =>
    rw [hb] at h
    have := Nat.eq_of_beq_eq_true hb
    subst this
    injection h with h
    subst h
    exact ok
theorem nodeF {b : Bool} {x y : Option AFun} {f : AFun} {Q : Prop} (h : cond b x y = some f) (hx : x = some f → Q) (hy : y = some f → Q) : Q := by
  cases b with
  | true => exact hx h
  | false => exact hy h

/-! Rows of the library -/
def idxByteE : List AV → AS → Option (AV × AS × Bool)
  | [.str s, .int .u8 c], S => some (.int .i64 (Lib.indexByte s c.toNat.toUInt8), S, true)
  | _, _ => none
def cntByteE : List AV → AS → Option (AV × AS × Bool)
  | [.str s, .int .u8 c], S => some (.int .i64 (Lib.countByte s c.toNat.toUInt8 : Nat), S, true)
  | _, _ => none

theorem out_value (hS : Sim P K ρ S w) {v : AV} {u : Value} (h : VRel K ρ v u) (hb : vb S.next v) : Out P K ρ S w v S u w := ⟨K, ρ, h, hb, hS, .refl⟩
end Go.Ab
