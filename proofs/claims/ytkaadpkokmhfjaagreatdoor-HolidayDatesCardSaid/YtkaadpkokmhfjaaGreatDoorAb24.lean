/-
  THE ENGINE, PART 24: from what the evaluator says of a law to what its row asks.
-/
import Derived.Test.YtkaadpkokmhfjaaGreatDoorAb23
import Derived.ProofKit
import Derived.OpenShut
import Derived.Deep.DeepHandedRow
namespace Go.Ab
open Go.ChangeShapes Go.WideShapes Go.ChangeAt Go.RowKit
variable {P : Program} {A : AProg} {H : Type} {enc : TypeId × Value → H} {W W' : World}

theorem Below.trodAll' (hl : laidOutB P = true) (hb : Below W.heap.size W W') : ∀ {ts : List TypeId} {vs : List Value} {ds : List (DataW H)} {ps : List MemPlace},
    (∀ t ∈ ts, P.readableRec t = true ∧ t < P.types.size) → DataW.TrodAll enc P W 0 (fun _ => true) true ts vs ds ps → (∀ x ∈ ps, x.block < W.heap.size) →
    DataW.TrodAll enc P W' 0 (fun b => decide (b < W.heap.size)) true ts vs ds ps
  | [], [], [], _, _, h, _ => h
  | [], _ :: _, _, _, _, h, _ => h.elim
  | [], [], _ :: _, _, _, h, _ => h.elim
  | _ :: _, [], _, _, _, h, _ => h.elim
  | _ :: _, _ :: _, [], _, _, h, _ => h.elim
  | t :: ts, v :: vs, d :: ds, ps, ht, h, hlt => by
    obtain ⟨p, q, h1, h2, rfl⟩ := h
    have := ht t (List.mem_cons_self ..)
    exact ⟨p, q, Below.trod hl this.1 this.2 h1 hb (fun x hx => hlt x (List.mem_append_left _ hx)),
      Below.trodAll' hl hb (fun u hu => ht u (List.mem_cons_of_mem _ hu)) h2 (fun x hx => hlt x (List.mem_append_right _ hx)), rfl⟩

/-- What the row of a law asks of a call that answers true and leaves all old memory alone. -/
theorem law_post {f : Func} {s : ChangeSpec} {args : Array Value} {ds gs : List (DataW H)} {before : List MemPlace} {tb : TypeId} (hl : laidOutB P = true)
    (hts : ∀ t ∈ f.params.toList, P.readableRec t = true ∧ t < P.types.size) (hv : s.vars = []) (hres : f.resultTypes = #[tb]) (hb : P.underlying tb = some .bool)
    (hW : DataW.Whole enc P f.params.toList s.vars false W args.toList ds gs before) (hfn : s.fn H (ds ++ gs) = { results := [.lit (.bool true)], args := ds, vars := [] })
    (hB : Below W.heap.size W W') : s.post enc P f false true false false W args (.bool true) W' := by
  have hlt := hW.lt
  have hW' := hW
  obtain ⟨p, q, h1, h2, h3, h4, h5⟩ := hW
  rw [hv] at h2
  have hq : q = [] ∧ gs = [] := by
    cases gs with
    | nil => exact ⟨h2, rfl⟩
    | cons g gs => exact h2.elim
  obtain ⟨rfl, rfl⟩ := hq
  simp only [List.append_nil] at h3
  subst h3
  refine ⟨ds, [], before, [], before, [], hW', ?_, ?_, ?_, ?_, fun h => by cases h⟩
  · rw [hfn, hres]
    exact trodAll_mk1 (shut_bool hb true)
  · rw [hfn]
    exact Below.trodAll' hl hB hts h1 hlt
  · rw [hfn, hv]
    exact rfl
  · refine ⟨hB.os, hB.output, fun i hi => ?_⟩
    rw [hB.block i hi]
    cases W.heap[i]? with
    | none => rfl
    | some o => cases o <;> first | rfl | exact ⟨rfl, rfl, rfl, fun _ _ => rfl⟩ | exact .inr ⟨rfl, rfl⟩

/-- A cell as the evaluator has it, where it is a number, a text or a bool. -/
def absCell : Value → AV
  | .bool b => .bool b
  | .int k n => .int k n
  | .string s => .str s.data.toList
  | _ => .bad
theorem absCell_rel {K : Nat → Option Obj} {ρ : Nat → Loc} (v : Value) : VRel K ρ (absCell v) v := by
  cases v <;> first | exact .bool | exact .int | exact .str rfl | exact .bad
theorem absCells_rel {K : Nat → Option Obj} {ρ : Nat → Loc} (vs : List Value) : VRels K ρ (vs.map absCell) vs := by
  refine ⟨by simp, fun i a v ha hv => ?_⟩
  rw [List.getElem?_map, hv] at ha
  simp only [Option.map_some, Option.some.injEq] at ha
  rw [← ha]
  exact absCell_rel v
theorem absCell_vb (n : Nat) (v : Value) : vb n (absCell v) := by cases v <;> trivial

/-- The whole heap, as it stands, is memory that the evaluator never writes. -/
def heapK (W : World) : Nat → Option Obj := fun c => W.heap[c]?

theorem law_calls (hs : Setup P A) {k : Nat} {args : List AV} {us : Array Value} {qt : Bool} (hG : GRel (heapK W) A.glob) (hr : VRels (heapK W) (fun _ => ⟨0, 0, 0⟩) args us.toList) (hb : vbs 0 args)
    (h : (evW A).call k args ⟨[], 0, 0, 0⟩ = some (.bool true, ⟨[], 0, 0, 0⟩, qt)) : Calls P k us W fun e W' => e = .returned (.bool true) ∧ Below W.heap.size W W' := by
  obtain ⟨n, hn⟩ := of_evW_call h
  refine (calls_of_ev hs hG (fun c o hc => hc) hr hb hn).2.mono fun e W' he => ?_
  obtain ⟨u, K', rfl, h1, _, _, h4, h5, h6, h7, h8⟩ := he
  exact ⟨by rw [h1.bool_inv], ⟨h7, h6, h8, h4, h5⟩⟩
end Go.Ab
