/-
  A list of one rule, as the evaluator runs it.
-/
import Derived.Test.YtkaadpkokmhfjaaGreatDoorKvA
import Derived.Test.YtkaadpkokmhfjaaGreatDoorHvE
namespace Go.Proofs.YtkaadpkokmhfjaaGreatDoor
open Go Go.Ab
set_option maxRecDepth 100000

theorem validZ (S : AS) (s : List UInt8) (k mo d wd n off fr to ob : Int) :
    (evW A0).call 14 [.agg [.str s, .int .i64 k, .int .i64 mo, .int .i64 d, .int .i64 wd, .int .i64 n, .int .i64 off, .int .i64 fr, .int .i64 to, .int .i64 ob]] S = some (.bool (decide (baseP s fr to ob ∧ kindP k mo d wd n off)), S, true) := validZ_ev S s k mo d wd n off fr to ob

theorem all1_ev (S : AS) (b : Nat) (s : List UInt8) (k mo d wd n off fr to ob : Int) (hl : Ab.look S.heap b = .cells [.str s, .int .i64 k, .int .i64 mo, .int .i64 d, .int .i64 wd, .int .i64 n, .int .i64 off, .int .i64 fr, .int .i64 to, .int .i64 ob]) :
    (evW A0).call 49 [.sl b 0 1 1 10] S = some (.bool (decide (baseP s fr to ob ∧ kindP k mo d wd n off)), S, true) := by
  have h155 : ∀ S : AS, Ab.look S.heap b = .cells [.str s, .int .i64 k, .int .i64 mo, .int .i64 d, .int .i64 wd, .int .i64 n, .int .i64 off, .int .i64 fr, .int .i64 to, .int .i64 ob] →
      (evW A0).call 155 [.sl b 0 1 1 10, .fn 97 [] []] S = some (.int .i64 (if baseP s fr to ob ∧ kindP k mo d wd n off then -1 else 0), S, true) := by
    intro S hl
    have h97 : ∀ S : AS, (evW A0).call 97 [.agg [.str s, .int .i64 k, .int .i64 mo, .int .i64 d, .int .i64 wd, .int .i64 n, .int .i64 off, .int .i64 fr, .int .i64 to, .int .i64 ob]] S = some (.bool (!decide (baseP s fr to ob ∧ kindP k mo d wd n off)), S, true) := by
      intro S
      rw [run_call (f := af97) rfl (Nat.le_of_ble_eq_true rfl)]
      simp +contextual -dsimp -implicitDefEqProofs [af97, validZ]
    rw [run_call (f := af155) rfl (Nat.le_of_ble_eq_true rfl)]
    by_cases hv : baseP s fr to ob ∧ kindP k mo d wd n off
    · simp +contextual -dsimp -implicitDefEqProofs [af155, m_loop (c := af155L0) rfl, hl, h97, idxA, hv]
    · simp +contextual -dsimp -implicitDefEqProofs [af155, m_loop (c := af155L0) rfl, hl, h97, idxA, hv]
  have h96 : ∀ S : AS, Ab.look S.heap b = .cells [.str s, .int .i64 k, .int .i64 mo, .int .i64 d, .int .i64 wd, .int .i64 n, .int .i64 off, .int .i64 fr, .int .i64 to, .int .i64 ob] →
      (evW A0).call 96 [.sl b 0 1 1 10, .fn 97 [] []] S = some (.bool (!decide (baseP s fr to ob ∧ kindP k mo d wd n off)), S, true) := by
    intro S hl
    rw [run_call (f := af96) rfl (Nat.le_of_ble_eq_true rfl)]
    by_cases hv : baseP s fr to ob ∧ kindP k mo d wd n off <;> simp +contextual -dsimp -implicitDefEqProofs [af96, hl, h155, hv]
  rw [run_call (f := af49) rfl (Nat.le_of_ble_eq_true rfl)]
  simp +contextual -dsimp -implicitDefEqProofs [af49, hl, h96]

/-- Sorting one element. -/
theorem sort1_ev (S : AS) (b : Nat) : (evW A0).call 64 [.sl b 0 1 1 2, .fn 65 [] []] S = some (.tup [], S, true) := by
  rw [run_call (f := af64) rfl (Nat.le_of_ble_eq_true rfl)]
  have h188 : ∀ S : AS, (evW A0).call 188 [.int .u64 1] S = some (.int .i64 1, S, true) := by
    intro S
    rw [run_call (f := af188) rfl (Nat.le_of_ble_eq_true rfl)]
    simp +contextual -dsimp -implicitDefEqProofs [af188]
  have h123 : ∀ S : AS, (evW A0).call 123 [.int .u64 1] S = some (.int .i64 1, S, true) := by
    intro S
    rw [run_call (f := af123) rfl (Nat.le_of_ble_eq_true rfl)]
    simp +contextual -dsimp -implicitDefEqProofs [af123, h188]
  have h179 : ∀ S : AS, (evW A0).call 179 [.sl b 0 1 1 2, .int .i64 0, .int .i64 1, .fn 65 [] []] S = some (.tup [], S, true) := by
    intro S
    rw [run_call (f := af179) rfl (Nat.le_of_ble_eq_true rfl)]
    simp +contextual -dsimp -implicitDefEqProofs [af179, m_loop (c := af179L1) rfl]
  have h122 : ∀ S : AS, (evW A0).call 122 [.sl b 0 1 1 2, .int .i64 0, .int .i64 1, .int .i64 1, .fn 65 [] []] S = some (.tup [], S, true) := by
    intro S
    rw [run_call (f := af122) rfl (Nat.le_of_ble_eq_true rfl)]
    simp +contextual -dsimp -implicitDefEqProofs [af122, m_loop (c := af122L0) rfl, h179]
  simp +contextual -dsimp -implicitDefEqProofs [af64, h123, h122]
theorem sort0_ev (S : AS) : (evW A0).call 64 [.nilSl, .fn 65 [] []] S = some (.tup [], S, true) := by
  rw [run_call (f := af64) rfl (Nat.le_of_ble_eq_true rfl)]
  have h188 : ∀ S : AS, (evW A0).call 188 [.int .u64 0] S = some (.int .i64 0, S, true) := by
    intro S
    rw [run_call (f := af188) rfl (Nat.le_of_ble_eq_true rfl)]
    simp +contextual -dsimp -implicitDefEqProofs [af188]
  have h123 : ∀ S : AS, (evW A0).call 123 [.int .u64 0] S = some (.int .i64 0, S, true) := by
    intro S
    rw [run_call (f := af123) rfl (Nat.le_of_ble_eq_true rfl)]
    simp +contextual -dsimp -implicitDefEqProofs [af123, h188]
  have h179 : ∀ S : AS, (evW A0).call 179 [.nilSl, .int .i64 0, .int .i64 0, .fn 65 [] []] S = some (.tup [], S, true) := by
    intro S
    rw [run_call (f := af179) rfl (Nat.le_of_ble_eq_true rfl)]
    simp +contextual -dsimp -implicitDefEqProofs [af179, m_loop (c := af179L1) rfl]
  have h122 : ∀ S : AS, (evW A0).call 122 [.nilSl, .int .i64 0, .int .i64 0, .int .i64 0, .fn 65 [] []] S = some (.tup [], S, true) := by
    intro S
    rw [run_call (f := af122) rfl (Nat.le_of_ble_eq_true rfl)]
    simp +contextual -dsimp -implicitDefEqProofs [af122, m_loop (c := af122L0) rfl, h179]
  simp +contextual -dsimp -implicitDefEqProofs [af64, h123, h122]
theorem comp1_ev (S : AS) (b : Nat) (hb : b < S.next) : (evW A0).call 66 [.sl b 0 1 1 2] S = some (.sl b 0 1 1 2, { S with wm := min S.wm S.next, nm := min S.nm S.next }, false) := by
  rw [run_call (f := af66) rfl (Nat.le_of_ble_eq_true rfl)]
  simp +contextual -dsimp -implicitDefEqProofs [af66, hb]
theorem comp0_ev (S : AS) : (evW A0).call 66 [.nilSl] S = some (.nilSl, S, true) := by
  rw [run_call (f := af66) rfl (Nat.le_of_ble_eq_true rfl)]
  simp +contextual -dsimp -implicitDefEqProofs [af66]
theorem obs_ev (S : AS) (d : Int) (hd : -10000000 ≤ d ∧ d ≤ 10000000) : (evW A0).call 99 [.int .i64 d, .int .i64 1] S = some (.int .i64 d, S, true) := by
  rw [run_call (f := af99) rfl (Nat.le_of_ble_eq_true rfl)]
  simp +contextual -dsimp -implicitDefEqProofs [af99]
/-- The days that a finder gives: none, or one. -/
def one1 : Option Int → AV
  | none => .nilSl
  | some d => .lst [.int .i64 d] 1
def oneD : Option Int → AV
  | none => .nilSl
  | some d => .lst [.int .i64 d, .int .i64 0] 1
theorem find_ev (S : AS) : (evW A0).call 98 [] S = some (.map S.next, ⟨(S.next, .map [(.int .i64 1, .fn 156 [] []), (.int .i64 2, .fn 158 [] []), (.int .i64 3, .fn 160 [] []), (.int .i64 4, .fn 161 [] []), (.int .i64 5, .fn 163 [] [])]) :: S.heap, S.next + 1, min S.wm S.next, min S.nm S.next⟩, false) := by
  rw [run_call (f := af98) rfl (Nat.le_of_ble_eq_true rfl)]
  simp +contextual -dsimp -implicitDefEqProofs [af98, setA, eqS, AV.known]
theorem year1_ev (S : AS) (b : Nat) (s : List UInt8) (k mo d wd n off fr to y : Int) (kf : Nat) (hk : k = 1 ∧ kf = 156 ∨ k = 3 ∧ kf = 160)
    (hb : b < S.next) (hl : Ab.look S.heap b = .cells [.str s, .int .i64 k, .int .i64 mo, .int .i64 d, .int .i64 wd, .int .i64 n, .int .i64 off, .int .i64 fr, .int .i64 to, .int .i64 1])
    (ds : Option Int) (hr : ∀ x, ds = some x → -719162 ≤ x ∧ x < 2932897)
    (hf : ¬ y < fr → ¬ to < y → ∀ S : AS, (evW A0).call kf [.agg [.str s, .int .i64 k, .int .i64 mo, .int .i64 d, .int .i64 wd, .int .i64 n, .int .i64 off, .int .i64 fr, .int .i64 to, .int .i64 1], .int .i64 y] S = some (one1 ds, S, true)) :
    (evW A0).call 50 [.sl b 0 1 1 10, .int .i64 y] S = some (oneD (if y < fr ∨ to < y then none else ds), S, true) := by
  rw [run_call (f := af50) rfl (Nat.le_of_ble_eq_true rfl)]
  have n0 : ¬ S.next = b := by omega
  have n1 : ¬ S.next + 1 = b := by omega
  have n2 : ¬ S.next + 1 + 1 = b := by omega
  by_cases c1 : y < fr
  · simp +contextual -dsimp -implicitDefEqProofs [af50, m_loop (c := af50L1) rfl, find_ev, hl, n0, n1, n2, c1, sort0_ev, comp0_ev, oneD]
  by_cases c2 : to < y
  · simp +contextual -dsimp -implicitDefEqProofs [af50, m_loop (c := af50L1) rfl, find_ev, hl, n0, n1, n2, c1, c2, sort0_ev, comp0_ev, oneD]
  have hf := hf c1 c2
  cases ds with
  | none =>
    rcases hk with ⟨rfl, rfl⟩ | ⟨rfl, rfl⟩
    · simp +contextual -dsimp -implicitDefEqProofs [af50, m_loop (c := af50L1) rfl, m_loop (c := af50L0) rfl, find_ev, hl, n0, n1, n2, c1, c2, sort0_ev, comp0_ev, oneD, one1, findA, eqS, ofOk, hf]
    · simp +contextual -dsimp -implicitDefEqProofs [af50, m_loop (c := af50L1) rfl, m_loop (c := af50L0) rfl, find_ev, hl, n0, n1, n2, c1, c2, sort0_ev, comp0_ev, oneD, one1, findA, eqS, ofOk, hf]
  | some x =>
    obtain ⟨x1, x2⟩ := hr x rfl
    have ho := fun S => obs_ev S x (by omega)
    rcases hk with ⟨rfl, rfl⟩ | ⟨rfl, rfl⟩
    · simp +contextual -dsimp -implicitDefEqProofs [af50, m_loop (c := af50L1) rfl, m_loop (c := af50L0) rfl, find_ev, hl, n0, n1, n2, c1, c2, sort1_ev, comp1_ev, oneD, one1, findA, eqS, ofOk, hf, ho, x1, x2, aappend, lenA, cellsOfSl, maxStr]
    · simp +contextual -dsimp -implicitDefEqProofs [af50, m_loop (c := af50L1) rfl, m_loop (c := af50L0) rfl, find_ev, hl, n0, n1, n2, c1, c2, sort1_ev, comp1_ev, oneD, one1, findA, eqS, ofOk, hf, ho, x1, x2, aappend, lenA, cellsOfSl, maxStr]

/-- Year, for a list of one rule. -/
theorem Year1_ev (S : AS) (b : Nat) (s : List UInt8) (k mo d wd n off fr to y : Int) (kf : Nat) (hk : k = 1 ∧ kf = 156 ∨ k = 3 ∧ kf = 160)
    (hb : b < S.next) (hl : Ab.look S.heap b = .cells [.str s, .int .i64 k, .int .i64 mo, .int .i64 d, .int .i64 wd, .int .i64 n, .int .i64 off, .int .i64 fr, .int .i64 to, .int .i64 1])
    (ds : Option Int) (hr : ∀ x, ds = some x → -719162 ≤ x ∧ x < 2932897) (hv : baseP s fr to 1 ∧ kindP k mo d wd n off) (hy : 1 ≤ y ∧ y ≤ 9999)
    (hf : ¬ y < fr → ¬ to < y → ∀ S : AS, (evW A0).call kf [.agg [.str s, .int .i64 k, .int .i64 mo, .int .i64 d, .int .i64 wd, .int .i64 n, .int .i64 off, .int .i64 fr, .int .i64 to, .int .i64 1], .int .i64 y] S = some (one1 ds, S, true)) :
    (evW A0).call 17 [.sl b 0 1 1 10, .int .i64 y] S = some (.tup [oneD (if y < fr ∨ to < y then none else ds), .int .i64 0], S, true) := by
  have hA := all1_ev { S with wm := S.next, nm := S.next } b s k mo d wd n off fr to 1 hl
  have hY := year1_ev { S with wm := S.next, nm := S.next } b s k mo d wd n off fr to y kf hk hb hl ds hr hf
  rw [run_call (f := af17) rfl (Nat.le_of_ble_eq_true rfl)]
  have c1 : ¬ y < 1 := by omega
  have c2 : ¬ 9999 < y := by omega
  generalize hx : (if y < fr ∨ to < y then none else ds) = xs at *
  cases xs with
  | none => simp +contextual -dsimp -implicitDefEqProofs [af17, hA, hY, hv, c1, c2, oneD]
  | some x => simp +contextual -dsimp -implicitDefEqProofs [af17, hA, hY, hv, c1, c2, oneD]
theorem YearBad_ev (S : AS) (b : Nat) (s : List UInt8) (k mo d wd n off fr to y : Int)
    (hl : Ab.look S.heap b = .cells [.str s, .int .i64 k, .int .i64 mo, .int .i64 d, .int .i64 wd, .int .i64 n, .int .i64 off, .int .i64 fr, .int .i64 to, .int .i64 1])
    (hv : ¬ (baseP s fr to 1 ∧ kindP k mo d wd n off) ∨ ¬ (1 ≤ y ∧ y ≤ 9999)) :
    (evW A0).call 17 [.sl b 0 1 1 10, .int .i64 y] S = some (.tup [.nilSl, .int .i64 (if baseP s fr to 1 ∧ kindP k mo d wd n off then 2 else 1)], S, true) := by
  have hA := all1_ev { S with wm := S.next, nm := S.next } b s k mo d wd n off fr to 1 hl
  rw [run_call (f := af17) rfl (Nat.le_of_ble_eq_true rfl)]
  by_cases h : baseP s fr to 1 ∧ kindP k mo d wd n off
  · have hy : ¬ (1 ≤ y ∧ y ≤ 9999) := hv.resolve_left (fun f => f h)
    rcases (show y < 1 ∨ 9999 < y by omega) with c | c
    · simp +contextual -dsimp -implicitDefEqProofs [af17, hA, h, c]
    · have c1 : ¬ y < 1 := by omega
      simp +contextual -dsimp -implicitDefEqProofs [af17, hA, h, c, c1]
  · simp +contextual -dsimp -implicitDefEqProofs [af17, hA, h]
/-- The finder of fixed dates. -/
theorem fixed_ev (S : AS) (s : List UInt8) (k mo d wd n off fr to ob y : Int) : (evW A0).call 156 [.agg [.str s, .int .i64 k, .int .i64 mo, .int .i64 d, .int .i64 wd, .int .i64 n, .int .i64 off, .int .i64 fr, .int .i64 to, .int .i64 ob], .int .i64 y] S =
    some (one1 (if 1 ≤ d ∧ d ≤ lenG y mo then some (cnt y mo d) else none), S, true) := by
  have h0 : ∀ (S : AS) (x : Int), (evW A0).call 157 [.int .i64 x, .int .i64 0] S = some (.lst [.int .i64 x] 1, S, true) := by
    intro S x
    rw [run_call (f := af157) rfl (Nat.le_of_ble_eq_true rfl)]
    simp +contextual -dsimp -implicitDefEqProofs [af157]
  have h1 : ∀ (S : AS) (x : Int), (evW A0).call 157 [.int .i64 x, .int .i64 1] S = some (.nilSl, S, true) := by
    intro S x
    rw [run_call (f := af157) rfl (Nat.le_of_ble_eq_true rfl)]
    simp +contextual -dsimp -implicitDefEqProofs [af157]
  rw [run_call (f := af156) rfl (Nat.le_of_ble_eq_true rfl)]
  by_cases h : 1 ≤ d ∧ d ≤ lenG y mo
  · simp +contextual -dsimp -implicitDefEqProofs [af156, h, h0, one1]
  · simp +contextual -dsimp -implicitDefEqProofs [af156, h, h1, one1]
theorem efind_ev (S : AS) (s : List UInt8) (k mo d wd n off fr to ob y e : Int) (hd : ∀ S, (evW A0).call 55 [.int .i64 y] S = some (.tup [.int .i64 e, .int .i64 0], S, true)) (hr : -10000000 ≤ e + off ∧ e + off ≤ 10000000) : (evW A0).call 160 [.agg [.str s, .int .i64 k, .int .i64 mo, .int .i64 d, .int .i64 wd, .int .i64 n, .int .i64 off, .int .i64 fr, .int .i64 to, .int .i64 ob], .int .i64 y] S =
    some (one1 (some (e + off)), S, true) := by
  have h0 : ∀ (S : AS) (x : Int), (evW A0).call 157 [.int .i64 x, .int .i64 0] S = some (.lst [.int .i64 x] 1, S, true) := by
    intro S x
    rw [run_call (f := af157) rfl (Nat.le_of_ble_eq_true rfl)]
    simp +contextual -dsimp -implicitDefEqProofs [af157]
  have w : wrapI .i64 (e + off) = e + off := wrapI_id (by omega) (by omega)
  rw [run_call (f := af160) rfl (Nat.le_of_ble_eq_true rfl)]
  simp +contextual -dsimp -implicitDefEqProofs [af160, hd, h0, one1, w]
end Go.Proofs.YtkaadpkokmhfjaaGreatDoor
