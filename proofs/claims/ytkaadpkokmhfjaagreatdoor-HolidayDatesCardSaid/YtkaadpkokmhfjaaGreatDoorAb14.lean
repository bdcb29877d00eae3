/-
  THE ENGINE, PART 14: built-in functions.
-/
import Derived.Test.YtkaadpkokmhfjaaGreatDoorAb13
namespace Go.Ab
variable {P : Program} {K K' : Nat → Option Obj} {ρ ρ' : Nat → Loc} {S S' : AS} {w w' : World} {G : Nat → Option (List AV)} {E : Env} {a : Act} {o : Oper} {ao : AO} {v : AV}

/-- A block is given up. -/
theorem sim_kill (hS : Sim P K ρ S w) {b : Nat} (hb : look S.heap b ≠ .dead) : Sim P K ρ (S.write b .dead false) w ∧ Ext K ρ S w K ρ (S.write b .dead false) w := by
  obtain ⟨o, ho, _, _⟩ := hS.live b hb
  exact sim_write hS hb .dead false o ho (fun _ _ => rfl) rfl ⟨rfl, rfl, rfl⟩ trivial (fun _ _ _ => trivial)

/-- A block is given up, and its memory gets a new name. -/
theorem sim_take (hS : Sim P K ρ S w) {b : Nat} (hb : look S.heap b ≠ .dead) {c' : List AV} {L : Loc} (hL : L.blk = (ρ b).blk) {obj : Obj}
    (hw : w'.heap[(ρ b).blk]? = some obj) (hne : ∀ c, c ≠ (ρ b).blk → w'.heap[c]? = w.heap[c]?) (hsz : w'.heap.size = w.heap.size) (hr : rest w w')
    (hB : BRel P K (upR ρ S.next L) (S.next + 1) L (.cells c') obj) :
    Sim P K (upR ρ S.next L) ((S.write b .dead false).alloc (.cells c')) w' ∧ Ext K ρ S w K (upR ρ S.next L) ((S.write b .dead false).alloc (.cells c')) w' := by
  have hlt := hS.lt hb
  have hl : ∀ x, look ((S.write b .dead false).alloc (.cells c')).heap x = if S.next = x then .cells c' else if x = b then .dead else look S.heap x := by
    intro x
    show (if S.next = x then _ else look (upd S.heap b .dead) x) = _
    split
    · rfl
    · by_cases h : x = b
      · subst h; rw [if_pos rfl]; exact look_upd_same hS.ok hlt
      · rw [if_neg h]; exact look_upd_ne h
  have old : ∀ x, look ((S.write b .dead false).alloc (.cells c')).heap x ≠ .dead → x ≠ S.next → look S.heap x ≠ .dead ∧ x ≠ b := by
    intro x hx hn
    rw [hl, if_neg (fun e => hn e.symm)] at hx
    by_cases h : x = b
    · subst h; rw [if_pos rfl] at hx; exact absurd rfl hx
    · rw [if_neg h] at hx; exact ⟨hx, h⟩
  refine ⟨⟨?_, ?_, ?_, ?_⟩, ?_⟩
  · intro x hx
    by_cases h : x = S.next
    · subst h
      rw [upR_same, hl, if_pos rfl]
      obtain ⟨_, _, _, hk⟩ := hS.live b hb
      exact ⟨obj, by rw [hL]; exact hw, hB, by rw [hL]; exact hk⟩
    · obtain ⟨h1, h2⟩ := old x hx h
      have hxl := hS.lt h1
      rw [upR_lt _ _ hxl, hl, if_neg (fun e => h e.symm), if_neg h2]
      obtain ⟨o, ho, h3, h4⟩ := hS.live x h1
      refine ⟨o, ?_, h3.mono (fun _ _ _ _ h => h) (fun c hc => upR_lt _ _ hc) (Nat.le_succ _), h4⟩
      rw [hne _ fun e => h2 (hS.inj x b h1 hb e)]; exact ho
  · intro x y hx hy he
    by_cases h : x = S.next
    · by_cases h' : y = S.next
      · omega
      · obtain ⟨h1, h2⟩ := old y hy h'
        subst h
        rw [upR_same, upR_lt _ _ (hS.lt h1), hL] at he
        exact absurd (hS.inj b y hb h1 he).symm h2
    · obtain ⟨h1, h2⟩ := old x hx h
      by_cases h' : y = S.next
      · subst h'
        rw [upR_same, upR_lt _ _ (hS.lt h1), hL] at he
        exact absurd (hS.inj x b h1 hb he) h2
      · obtain ⟨h3, h4⟩ := old y hy h'
        rw [upR_lt _ _ (hS.lt h1), upR_lt _ _ (hS.lt h3)] at he
        exact hS.inj x y h1 h3 he
  · intro c o hc
    rw [hne c fun e => ?_]
    · exact hS.kept c o hc
    · obtain ⟨_, _, _, hk⟩ := hS.live b hb
      rw [← e, hc] at hk; cases hk
  · exact ⟨rfl, heapOk_upd hS.ok⟩
  · exact {
      names := fun x hx => upR_lt _ _ hx
      keeps := fun _ _ h => h
      next := Nat.le_succ _
      size := by rw [hsz]; exact Nat.le_refl _
      frame := fun c _ hc => hne c fun e => hc b hb e.symm
      dies := fun x hx hlv => (old x hlv (by omega)).1
      newLoc := fun x hx hlv => by
        by_cases h : x = S.next
        · subst h; rw [upR_same]; exact .inr ⟨b, hb, hL⟩
        · exact absurd (hS.lt (old x hlv h).1) (by omega)
      newK := fun _ _ h => .inl h
      rest := hr
      wm := Nat.min_le_left _ _
      unch := fun x hx hw' => by
        have : ((S.write b .dead false).alloc (.cells c')).wm = min S.wm b := rfl
        rw [hl, if_neg (by omega), if_neg (by omega)]
      nm := Nat.le_refl _
      nmb := fun x n hx _ hv => by
        rw [hl, if_neg (by omega)]
        split
        · trivial
        · exact hv }

theorem zeroCells_size (z : Array Value) (n : Nat) : (Builtin.zeroCells z n).size = n * z.size := by simp [Builtin.zeroCells]

/-- The run of append where there is room. -/
theorem run_append_in {t0 t1 ty e : TypeId} {i : TypeInfo} (hu : P.underlying t0 = some (.slice e)) (hu1 : (∃ e', P.underlying t1 = some (.slice e')) ∨ P.underlying t1 = some .string) (hi : P.info? e = some i)
    {base : Option Addr} {sLen sCap n : Nat} {x : Value} {new : Array Value} (hlen : (Builtin.lenOf x).run P w = .ok n w) (hnew : (Builtin.firstCells i.size n x).run P w = .ok new w) (hle : sLen + n ≤ sCap) :
    (Builtin.append_ #[t0, t1] ty #[.slice base sLen sCap, x]).run P w = match base with
      | some a => ((storeCells (a.add (sLen * i.size)) new.toList).run P w).andThen fun _ w' => .ok (.slice base (sLen + n) sCap) w'
      | none => .ok (.slice base (sLen + n) sCap) w := by
  rcases hu1 with ⟨e', hk⟩ | hk <;> cases base <;> simp [Builtin.append_, run_underlying hu, run_underlying hk, Go.sizeOf, typeInfo, hi, hlen, hle, hnew]

/-- The run of append where there is no room. -/
theorem run_append_out {t0 t1 ty e : TypeId} {i : TypeInfo} {z : Value} (hu : P.underlying t0 = some (.slice e)) (hu1 : (∃ e', P.underlying t1 = some (.slice e')) ∨ P.underlying t1 = some .string) (hi : P.info? e = some i) (hz : i.zero = some z)
    {base : Option Addr} {sLen sCap n : Nat} {x : Value} {old new : Array Value} (hlen : (Builtin.lenOf x).run P w = .ok n w) (hnew : (Builtin.firstCells i.size n x).run P w.drew = .ok new w.drew)
    (hold : (Builtin.firstCells i.size sLen (.slice base sLen sCap)).run P w.drew = .ok old w.drew) (hlt : sCap < sLen + n) (hb : (sLen + n) * i.bytes ≤ 1099511627776) (hn : sLen + n ≤ 1099511627776) :
    (Builtin.append_ #[t0, t1] ty #[.slice base sLen sCap, x]).run P w =
      .ok (.slice (some ⟨w.heap.size, 0, none⟩) (sLen + n) (grownCap w (sLen + n) sCap e)) (w.drew.alloc (.cells (old ++ new ++ Builtin.zeroCells z.cells (grownCap w (sLen + n) sCap e - (sLen + n))) e)) := by
  have hn' : ¬ (sLen + n ≤ sCap) := by omega
  have h63' : ¬ (9223372036854775807 < ((sLen : Int) + (n : Int))) := by omega
  have hfit := growslice_fits (need := sLen + n) (old := sCap) (bytes := i.bytes) (by omega) (by omega)
  have h48' : ¬ (281474976710656 < Builtin.nextslicecap (sLen + n) sCap * i.bytes) := by omega
  rcases hu1 with ⟨e', hk⟩ | hk <;>
    simp [Builtin.append_, run_underlying hu, run_underlying hk, Go.sizeOf, typeInfo, zeroValue, hi, hz, hlen, hn', h63', h48', Question.forced, hnew, hold, newRow, grownCap]

end Go.Ab
