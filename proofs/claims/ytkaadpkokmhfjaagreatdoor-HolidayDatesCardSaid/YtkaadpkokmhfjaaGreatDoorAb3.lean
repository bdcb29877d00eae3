/-
  THE ENGINE, PART 3: what it means that the evaluator's state speaks of a world; small laws.
-/
import Derived.Test.YtkaadpkokmhfjaaGreatDoorAb2
import Derived.WalkKit
namespace Go.Ab

structure Loc where
  blk : Nat
  off : Nat
  size : Nat

/-- A value of the evaluator's, and the model's: names are blocks by ρ; K: memory that is never written again. -/
inductive VRel (K : Nat → Option Obj) : (Nat → Loc) → AV → Value → Prop
  | bool {ρ b} : VRel K ρ (.bool b) (.bool b)
  | int {ρ k n} : VRel K ρ (.int k n) (.int k n)
  | str {ρ s l} (h : s.data.toList = l) : VRel K ρ (.str l) (.string s)
  | ptr {ρ b off o} (h : o = (ρ b).off + off) : VRel K ρ (.ptr b off) (.pointer (some ⟨(ρ b).blk, o, none⟩))
  | cptr {ρ} {cells : List AV} {c o : Nat} {cs : Array Value} {e fr} (hk : K c = some (.cells cs e fr)) (hn : noNames cells = true) (hl : o + cells.length ≤ cs.size)
      (h : ∀ (i : Nat) (a : AV) (v : Value), cells[i]? = some a → cs[o + i]? = some v → ∀ ρ', VRel K ρ' a v) : VRel K ρ (.cptr cells) (.pointer (some ⟨c, o, none⟩))
  | gptr {ρ g off} : VRel K ρ (.gptr g off) (.pointer (some ⟨g, off, none⟩))
  | nilPtr {ρ} : VRel K ρ .nilPtr (.pointer none)
  | sl {ρ b off len cap sz o cap'} (hc : cap ≤ cap') (hl : len ≤ cap') (ho : o = (ρ b).off + off ∨ cap' = 0) (hz : 0 < sz)
      (hs : (ρ b).off + off + cap' * sz ≤ (ρ b).size) : VRel K ρ (.sl b off len cap sz) (.slice (some ⟨(ρ b).blk, o, none⟩) len cap')
  | sl0 {ρ a} : VRel K ρ .sl0 (.slice (some a) 0 0)
  | nilSl {ρ} : VRel K ρ .nilSl (.slice none 0 0)
  | lst0 {ρ a len cap} (hl : len ≤ cap) : VRel K ρ (.lst [] len) (.slice (some a) len cap)
  | lst {ρ} {cells : List AV} {len cap c o : Nat} {cs : Array Value} {e fr} (hc : len ≤ cap) (hk : K c = some (.cells cs e fr)) (hn : noNames cells = true) (hl : o + cells.length ≤ cs.size)
      (h : ∀ (i : Nat) (a : AV) (v : Value), cells[i]? = some a → cs[o + i]? = some v → ∀ ρ', VRel K ρ' a v) : VRel K ρ (.lst cells len) (.slice (some ⟨c, o, none⟩) len cap)
  | map {ρ b} : VRel K ρ (.map b) (.map (some (ρ b).blk))
  | nilMap {ρ} : VRel K ρ .nilMap (.map none)
  | fn {ρ f} {a b : List AV} {a' b' : Array Value} (ha : a.length = a'.size) (hb : b.length = b'.size) (h1 : ∀ (i : Nat) (x : AV) (v : Value), a[i]? = some x → a'[i]? = some v → VRel K ρ x v)
      (h2 : ∀ (i : Nat) (x : AV) (v : Value), b[i]? = some x → b'[i]? = some v → VRel K ρ x v) : VRel K ρ (.fn f a b) (.func (.func f) a' b')
  | yl {ρ l} : VRel K ρ (.yl l) (.func (.yield (ρ l).blk) #[] #[])
  | nilFn {ρ} : VRel K ρ .nilFn .nilFunc
  | iface {ρ t v v'} (h : VRel K ρ v v') : VRel K ρ (.iface t v) (.iface t v')
  | nilIface {ρ} : VRel K ρ .nilIface .nilIface
  | agg {ρ} {cs : List AV} {cs' : Array Value} (hl : cs.length = cs'.size) (h : ∀ (i : Nat) (x : AV) (v : Value), cs[i]? = some x → cs'[i]? = some v → VRel K ρ x v) : VRel K ρ (.agg cs) (.agg cs')
  | tup {ρ} {cs : List AV} {cs' : Array Value} (hl : cs.length = cs'.size) (h : ∀ (i : Nat) (x : AV) (v : Value), cs[i]? = some x → cs'[i]? = some v → VRel K ρ x v) : VRel K ρ (.tup cs) (.tuple cs')
  | bad {ρ v} : VRel K ρ .bad v

/-- Lists of values. -/
def VRels (K : Nat → Option Obj) (ρ : Nat → Loc) (as : List AV) (vs : List Value) : Prop :=
  as.length = vs.length ∧ ∀ (i : Nat) (a : AV) (v : Value), as[i]? = some a → vs[i]? = some v → VRel K ρ a v

mutual
/-- All names are below n. -/
def vb (n : Nat) : AV → Prop
  | .ptr b _ | .sl b _ _ _ _ | .map b | .yl b => b < n
  | .fn _ a b => vbs n a ∧ vbs n b
  | .iface _ v => vb n v
  | .agg cs => vbs n cs
  | .tup vs => vbs n vs
  | _ => True
def vbs (n : Nat) : List AV → Prop
  | [] => True
  | v :: r => vb n v ∧ vbs n r
end

theorem vbs_iff {n : Nat} {l : List AV} : vbs n l ↔ ∀ v ∈ l, vb n v := by
  induction l with
  | nil => simp [vbs]
  | cons a r ih => simp [vbs, ih]

theorem noNames_iff {l : List AV} : noNames l = true ↔ ∀ v ∈ l, noName v = true := by
  induction l with
  | nil => simp [noNames]
  | cons a r ih => simp [noNames, ih]

theorem allCells_iff {l : List AV} : allCells l = true ↔ ∀ v ∈ l, v.isCell = true := by
  induction l with
  | nil => simp [allCells]
  | cons a r ih => simp [allCells, ih]

mutual
theorem vb_mono {n m : Nat} (h : n ≤ m) : ∀ (v : AV), vb n v → vb m v
  | .ptr _ _, hv | .sl _ _ _ _ _, hv | .map _, hv | .yl _, hv => by simp only [vb] at *; omega
  | .fn _ a b, hv => by simp only [vb] at *; exact ⟨vbs_mono h a hv.1, vbs_mono h b hv.2⟩
  | .iface _ v, hv => by simp only [vb] at *; exact vb_mono h v hv
  | .agg cs, hv => by simp only [vb] at *; exact vbs_mono h cs hv
  | .tup vs, hv => by simp only [vb] at *; exact vbs_mono h vs hv
  | .bool _, _ | .int _ _, _ | .str _, _ | .cptr _, _ | .gptr _ _, _ | .nilPtr, _ | .sl0, _ | .nilSl, _ | .lst _ _, _ | .nilMap, _ | .nilFn, _ | .nilIface, _ | .bad, _ => by simp [vb]
theorem vbs_mono {n m : Nat} (h : n ≤ m) : ∀ (l : List AV), vbs n l → vbs m l
  | [], _ => by simp [vbs]
  | v :: r, hv => by simp only [vbs] at *; exact ⟨vb_mono h v hv.1, vbs_mono h r hv.2⟩
end

mutual
theorem vb_of_noName {n : Nat} : ∀ (v : AV), noName v = true → vb n v
  | .ptr _ _, hv | .sl _ _ _ _ _, hv | .map _, hv | .yl _, hv => by simp [noName] at hv
  | .fn _ a b, hv => by simp only [noName, Bool.and_eq_true] at hv; simp only [vb]; exact ⟨vbs_of_noNames a hv.1, vbs_of_noNames b hv.2⟩
  | .iface _ v, hv => by simp only [noName] at hv; simp only [vb]; exact vb_of_noName v hv
  | .agg cs, hv => by simp only [noName] at hv; simp only [vb]; exact vbs_of_noNames cs hv
  | .tup vs, hv => by simp only [noName] at hv; simp only [vb]; exact vbs_of_noNames vs hv
  | .bool _, _ | .int _ _, _ | .str _, _ | .cptr _, _ | .gptr _ _, _ | .nilPtr, _ | .sl0, _ | .nilSl, _ | .lst _ _, _ | .nilMap, _ | .nilFn, _ | .nilIface, _ | .bad, _ => by simp [vb]
theorem vbs_of_noNames {n : Nat} : ∀ (l : List AV), noNames l = true → vbs n l
  | [], _ => by simp [vbs]
  | v :: r, hv => by simp only [noNames, Bool.and_eq_true] at hv; simp only [vbs]; exact ⟨vb_of_noName v hv.1, vbs_of_noNames r hv.2⟩
end

section
variable {K K' : Nat → Option Obj} {ρ ρ' : Nat → Loc}

theorem VRel.mono (hK : ∀ c cs e fr, K c = some (.cells cs e fr) → K' c = some (.cells cs e fr)) {a : AV} {v : Value} (h : VRel K ρ a v) : VRel K' ρ a v := by
  induction h with
  | bool => exact .bool
  | int => exact .int
  | str h => exact .str h
  | ptr h => exact .ptr h
  | cptr hk hn hl _ ih => exact .cptr (hK _ _ _ _ hk) hn hl fun i a v h1 h2 ρ' => ih i a v h1 h2 ρ'
  | gptr => exact .gptr
  | nilPtr => exact .nilPtr
  | sl hc hl ho hz hs => exact .sl hc hl ho hz hs
  | sl0 => exact .sl0
  | nilSl => exact .nilSl
  | lst0 hl => exact .lst0 hl
  | lst hc hk hn hl _ ih => exact .lst hc (hK _ _ _ _ hk) hn hl fun i a v h1 h2 ρ' => ih i a v h1 h2 ρ'
  | map => exact .map
  | nilMap => exact .nilMap
  | fn ha hb _ _ h1 h2 => exact .fn ha hb h1 h2
  | yl => exact .yl
  | nilFn => exact .nilFn
  | iface _ ih => exact .iface ih
  | nilIface => exact .nilIface
  | agg hl _ ih => exact .agg hl ih
  | tup hl _ ih => exact .tup hl ih
  | bad => exact .bad

theorem mem_of_getElem?' {α : Type} {l : List α} {i : Nat} {x : α} (h : l[i]? = some x) : x ∈ l := List.mem_of_getElem? h

theorem VRel.congr {n : Nat} {a : AV} {v : Value} (h : VRel K ρ a v) : vb n a → (∀ b, b < n → ρ' b = ρ b) → VRel K ρ' a v := by
  induction h with
  | bool => intros; exact .bool
  | int => intros; exact .int
  | str h => intros; exact .str h
  | @ptr ρ b off o h => intro hb hρ; simp only [vb] at hb; rw [← hρ b hb] at h ⊢; exact .ptr h
  | cptr hk hn hl h _ => intros; exact .cptr hk hn hl h
  | gptr => intros; exact .gptr
  | nilPtr => intros; exact .nilPtr
  | @sl ρ b off len cap sz o cap' hc hl ho hz hs => intro hb hρ; simp only [vb] at hb; rw [← hρ b hb] at ho hs ⊢; exact .sl hc hl ho hz hs
  | sl0 => intros; exact .sl0
  | nilSl => intros; exact .nilSl
  | lst0 hl => intros; exact .lst0 hl
  | lst hc hk hn hl h _ => intros; exact .lst hc hk hn hl h
  | @map ρ b => intro hb hρ; simp only [vb] at hb; rw [← hρ b hb]; exact .map
  | nilMap => intros; exact .nilMap
  | fn ha hb _ _ h1 h2 =>
    intro hn hρ
    simp only [vb] at hn
    exact .fn ha hb (fun i x v hx hv => h1 i x v hx hv (vbs_iff.1 hn.1 x (mem_of_getElem?' hx)) hρ) (fun i x v hx hv => h2 i x v hx hv (vbs_iff.1 hn.2 x (mem_of_getElem?' hx)) hρ)
  | @yl ρ b => intro hb hρ; simp only [vb] at hb; rw [← hρ b hb]; exact .yl
  | nilFn => intros; exact .nilFn
  | iface _ ih => intro hb hρ; simp only [vb] at hb; exact .iface (ih hb hρ)
  | nilIface => intros; exact .nilIface
  | agg hl _ ih => intro hb hρ; simp only [vb] at hb; exact .agg hl fun i x v hx hv => ih i x v hx hv (vbs_iff.1 hb x (mem_of_getElem?' hx)) hρ
  | tup hl _ ih => intro hb hρ; simp only [vb] at hb; exact .tup hl fun i x v hx hv => ih i x v hx hv (vbs_iff.1 hb x (mem_of_getElem?' hx)) hρ
  | bad => intros; exact .bad

theorem VRels.mono (hK : ∀ c cs e fr, K c = some (.cells cs e fr) → K' c = some (.cells cs e fr)) {a : List AV} {v : List Value} (h : VRels K ρ a v) : VRels K' ρ a v :=
  ⟨h.1, fun i x y hx hy => (h.2 i x y hx hy).mono hK⟩
theorem VRels.congr {n : Nat} {a : List AV} {v : List Value} (h : VRels K ρ a v) (hb : vbs n a) (hρ : ∀ b, b < n → ρ' b = ρ b) : VRels K ρ' a v :=
  ⟨h.1, fun i x y hx hy => (h.2 i x y hx hy).congr (vbs_iff.1 hb x (mem_of_getElem?' hx)) hρ⟩
theorem VRels.nil : VRels K ρ [] [] := ⟨rfl, fun i x y hx => by simp at hx⟩
theorem VRels.cons {a : AV} {v : Value} {as : List AV} {vs : List Value} (h : VRel K ρ a v) (hs : VRels K ρ as vs) : VRels K ρ (a :: as) (v :: vs) := by
  refine ⟨by simp [hs.1], fun i x y hx hy => ?_⟩
  cases i with
  | zero => simp at hx hy; subst hx; subst hy; exact h
  | succ i => simp at hx hy; exact hs.2 i x y hx hy
theorem VRels.head {a : AV} {v : Value} {as : List AV} {vs : List Value} (h : VRels K ρ (a :: as) (v :: vs)) : VRel K ρ a v := h.2 0 a v rfl rfl
theorem VRels.tail {a : AV} {v : Value} {as : List AV} {vs : List Value} (h : VRels K ρ (a :: as) (v :: vs)) : VRels K ρ as vs :=
  ⟨by have := h.1; simp at this; exact this, fun i x y hx hy => h.2 (i + 1) x y (by simpa using hx) (by simpa using hy)⟩
theorem VRels.nil_inv {vs : List Value} (h : VRels K ρ [] vs) : vs = [] := List.length_eq_zero_iff.1 h.1.symm
theorem VRels.cons_inv {a : AV} {as : List AV} {vs : List Value} (h : VRels K ρ (a :: as) vs) : ∃ v r, vs = v :: r ∧ VRel K ρ a v ∧ VRels K ρ as r := by
  cases vs with
  | nil => have := h.1; simp at this
  | cons v r => exact ⟨v, r, rfl, h.head, h.tail⟩
theorem VRels.append {as bs : List AV} {us vs : List Value} (h : VRels K ρ as us) (k : VRels K ρ bs vs) : VRels K ρ (as ++ bs) (us ++ vs) := by
  refine ⟨by simp [h.1, k.1], fun i x y hx hy => ?_⟩
  by_cases hi : i < as.length
  · rw [List.getElem?_append_left hi] at hx; rw [List.getElem?_append_left (h.1 ▸ hi)] at hy; exact h.2 i x y hx hy
  · rw [List.getElem?_append_right (by omega)] at hx; rw [List.getElem?_append_right (by rw [← h.1]; omega), ← h.1] at hy; exact k.2 _ x y hx hy
theorem VRels.take {as : List AV} {vs : List Value} (h : VRels K ρ as vs) (n : Nat) : VRels K ρ (as.take n) (vs.take n) := by
  refine ⟨by simp [h.1], fun i x y hx hy => ?_⟩
  rw [List.getElem?_take] at hx hy
  split at hx <;> simp_all
  exact h.2 i x y hx hy
theorem VRels.drop {as : List AV} {vs : List Value} (h : VRels K ρ as vs) (n : Nat) : VRels K ρ (as.drop n) (vs.drop n) := by
  refine ⟨by simp [h.1], fun i x y hx hy => ?_⟩
  rw [List.getElem?_drop] at hx hy
  exact h.2 _ x y hx hy
theorem VRels.get {as : List AV} {vs : List Value} (h : VRels K ρ as vs) {i : Nat} {a : AV} (ha : as[i]? = some a) : ∃ v, vs[i]? = some v ∧ VRel K ρ a v := by
  have hi : i < as.length := by
    rcases Nat.lt_or_ge i as.length with h' | h'
    · exact h'
    · rw [List.getElem?_eq_none h'] at ha; cases ha
  have : i < vs.length := h.1 ▸ hi
  exact ⟨vs[i], List.getElem?_eq_getElem this, h.2 i a _ ha (List.getElem?_eq_getElem this)⟩

theorem VRels.agg {as : List AV} {vs : Array Value} (h : VRels K ρ as vs.toList) : VRel K ρ (.agg as) (.agg vs) :=
  .agg (by simpa using h.1) fun i x v hx hv => h.2 i x v hx (by simpa using hv)
theorem VRels.tup {as : List AV} {vs : Array Value} (h : VRels K ρ as vs.toList) : VRel K ρ (.tup as) (.tuple vs) :=
  .tup (by simpa using h.1) fun i x v hx hv => h.2 i x v hx (by simpa using hv)
theorem VRel.agg_inv {as : List AV} {v : Value} (h : VRel K ρ (.agg as) v) : ∃ vs, v = .agg vs ∧ VRels K ρ as vs.toList := by
  cases h with
  | agg hl h => exact ⟨_, rfl, by simpa using hl, fun i x v hx hv => h i x v hx (by simpa using hv)⟩
theorem VRel.tup_inv {as : List AV} {v : Value} (h : VRel K ρ (.tup as) v) : ∃ vs, v = .tuple vs ∧ VRels K ρ as vs.toList := by
  cases h with
  | tup hl h => exact ⟨_, rfl, by simpa using hl, fun i x v hx hv => h i x v hx (by simpa using hv)⟩
end

/-! Names and blocks -/
theorem look_upd {h : AHeap} {b c : Nat} {o : AB} : look (upd h b o) c = if c = b then (if h.any (·.1 == b) then o else .dead) else look h c := by
  induction h with
  | nil => simp [upd, look]
  | cons x r ih =>
    obtain ⟨k, p⟩ := x
    simp only [upd]
    by_cases hk : k = b
    · subst hk
      by_cases hc : c = k
      · subst hc; simp [look]
      · simp [look, hc, Ne.symm hc]
    · simp only [if_neg hk, look]
      by_cases hc : c = b
      · subst hc
        have : (k == c) = false := by simp [hk]
        simp only [if_neg hk, ih, if_true, List.any_cons, this, Bool.false_or]
      · simp only [if_neg hc, ih]

/-- The names of a heap: n-1, .., 0. -/
def heapOk : AHeap → Nat → Prop
  | [], n => n = 0
  | (k, _) :: r, n => n = k + 1 ∧ heapOk r k

theorem heapOk_look {h : AHeap} {n b : Nat} (hk : heapOk h n) (hb : n ≤ b) : look h b = .dead := by
  induction h generalizing n with
  | nil => rfl
  | cons x r ih =>
    obtain ⟨k, p⟩ := x
    obtain ⟨rfl, hr⟩ := hk
    simp only [look]
    rw [if_neg (by omega)]
    exact ih hr (by omega)
theorem heapOk_any {h : AHeap} {n b : Nat} (hk : heapOk h n) (hb : b < n) : h.any (·.1 == b) = true := by
  induction h generalizing n with
  | nil => simp only [heapOk] at hk; omega
  | cons x r ih =>
    obtain ⟨k, p⟩ := x
    obtain ⟨rfl, hr⟩ := hk
    simp only [List.any_cons]
    by_cases h : b = k
    · simp [h]
    · rw [ih hr (by omega)]; simp
theorem look_upd_same {h : AHeap} {n b : Nat} {o : AB} (hk : heapOk h n) (hb : b < n) : look (upd h b o) b = o := by
  rw [look_upd, if_pos rfl, heapOk_any hk hb]; rfl
theorem look_upd_ne {h : AHeap} {b c : Nat} {o : AB} (hc : c ≠ b) : look (upd h b o) c = look h c := by rw [look_upd, if_neg hc]
theorem heapOk_upd {h : AHeap} {n b : Nat} {o : AB} (hk : heapOk h n) : heapOk (upd h b o) n := by
  induction h generalizing n with
  | nil => exact hk
  | cons x r ih =>
    obtain ⟨k, p⟩ := x
    simp only [upd]
    split
    · exact hk
    · exact ⟨hk.1, ih hk.2⟩
theorem heapOk_drop {h : AHeap} {n d : Nat} (hk : heapOk h n) (hd : d ≤ n) : heapOk (h.drop d) (n - d) := by
  induction d generalizing h n with
  | zero => simpa using hk
  | succ d ih =>
    cases h with
    | nil => simp only [heapOk] at hk; omega
    | cons x r =>
      obtain ⟨k, p⟩ := x
      obtain ⟨rfl, hr⟩ := hk
      have := ih hr (by omega)
      simpa [Nat.add_sub_add_right] using this
theorem look_drop {h : AHeap} {n d b : Nat} (hk : heapOk h n) (hd : d ≤ n) (hb : b < n - d) : look (h.drop d) b = look h b := by
  induction d generalizing h n with
  | zero => simp
  | succ d ih =>
    cases h with
    | nil => rfl
    | cons x r =>
      obtain ⟨k, p⟩ := x
      obtain ⟨rfl, hr⟩ := hk
      simp only [List.drop_succ_cons, look]
      rw [if_neg (by omega)]
      exact ih hr (by omega) (by omega)

/-! Blocks -/
def exitCode : AExit → Option Code
  | .normal => none
  | .ret => some .ret
  | .exit id => some (.exit id)

def ERel (K : Nat → Option Obj) (ρ : Nat → Loc) (n : Nat) (E : Env) (tmps : Array Value) : Prop :=
  ∀ t, VRel K ρ (E.get t) (tmps.getD t undef) ∧ vb n (E.get t)

/-- A block of the evaluator's, and the model's. -/
def BRel (P : Program) (K : Nat → Option Obj) (ρ : Nat → Loc) (n : Nat) (L : Loc) : AB → Obj → Prop
  | .cells c, .cells c' _ fr => c'.size = L.size ∧ L.off + c.length ≤ c'.size ∧ (∀ i, i < c'.size → ¬ (fr.1 ≤ i ∧ i < fr.2)) ∧
      VRels K ρ c ((c'.toList.drop L.off).take c.length) ∧ vbs n c
  | .map es, .map es' _ => es.length = es'.size ∧ ∀ (i : Nat) (p : AV × AV) (e : MapEntry), es[i]? = some p → es'[i]? = some e →
      VRel K ρ p.1 e.key ∧ VRel K ρ p.2 e.val ∧ vb n p.1 ∧ vb n p.2
  | .loop E ps a b st pend, .loop l => ERel K ρ n E l.tmps ∧ ps = l.params.toList ∧ st = l.state ∧ exitCode pend = l.pending ∧
      lowerCode P l.tmps.size l.assign a = some a ∧ lowerCode P l.tmps.size l.body b = some b ∧ (∀ p ∈ ps, p < l.tmps.size) ∧ noRF a = true ∧ noRF b = true
  | .dead, _ => True
  | _, _ => False

structure Sim (P : Program) (K : Nat → Option Obj) (ρ : Nat → Loc) (S : AS) (w : World) : Prop where
  live : ∀ b, look S.heap b ≠ .dead → ∃ o, w.heap[(ρ b).blk]? = some o ∧ BRel P K ρ S.next (ρ b) (look S.heap b) o ∧ K (ρ b).blk = none
  inj : ∀ b b', look S.heap b ≠ .dead → look S.heap b' ≠ .dead → (ρ b).blk = (ρ b').blk → b = b'
  kept : ∀ c o, K c = some o → w.heap[c]? = some o
  ok : heapOk S.heap S.next

theorem Sim.lt {P : Program} {K : Nat → Option Obj} {ρ : Nat → Loc} {S : AS} {w : World} (h : Sim P K ρ S w) {b : Nat} (hb : look S.heap b ≠ .dead) : b < S.next := by
  rcases Nat.lt_or_ge b S.next with h' | h'
  · exact h'
  · exact absurd (heapOk_look h.ok h') hb

/-- All names in a block are below n. -/
def bb (n : Nat) : AB → Prop
  | .cells c => vbs n c
  | .map es => ∀ p ∈ es, vb n p.1 ∧ vb n p.2
  | .loop E _ _ _ _ _ => ∀ t, vb n (E.get t)
  | .dead => True

/-- From one state and world to a later one. -/
structure Ext (K : Nat → Option Obj) (ρ : Nat → Loc) (S : AS) (w : World) (K' : Nat → Option Obj) (ρ' : Nat → Loc) (S' : AS) (w' : World) : Prop where
  names : ∀ b, b < S.next → ρ' b = ρ b
  keeps : ∀ c o, K c = some o → K' c = some o
  next : S.next ≤ S'.next
  size : w.heap.size ≤ w'.heap.size
  frame : ∀ c, c < w.heap.size → (∀ b, look S.heap b ≠ .dead → (ρ b).blk ≠ c) → w'.heap[c]? = w.heap[c]?
  dies : ∀ b, b < S.next → look S'.heap b ≠ .dead → look S.heap b ≠ .dead
  newLoc : ∀ b, S.next ≤ b → look S'.heap b ≠ .dead → w.heap.size ≤ (ρ' b).blk ∨ ∃ b0, look S.heap b0 ≠ .dead ∧ (ρ' b).blk = (ρ b0).blk
  newK : ∀ c o, K' c = some o → K c = some o ∨ w.heap.size ≤ c ∨ ∃ b0, look S.heap b0 ≠ .dead ∧ c = (ρ b0).blk
  rest : w'.tape = w.tape ∧ w'.os = w.os ∧ w'.output = w.output
  wm : S'.wm ≤ S.wm
  unch : ∀ b, b < S.next → b < S'.wm → look S'.heap b = look S.heap b
  nm : S'.nm ≤ S.nm
  nmb : ∀ b n, b < S.next → b < S'.nm → bb n (look S.heap b) → bb n (look S'.heap b)

theorem Ext.refl {K : Nat → Option Obj} {ρ : Nat → Loc} {S : AS} {w : World} : Ext K ρ S w K ρ S w :=
  ⟨fun _ _ => rfl, fun _ _ h => h, Nat.le_refl _, Nat.le_refl _, fun _ _ _ => rfl, fun _ _ h => h, fun b _ h => .inr ⟨b, h, rfl⟩, fun _ _ h => .inl h, ⟨rfl, rfl, rfl⟩, Nat.le_refl _, fun _ _ _ => rfl, Nat.le_refl _, fun _ _ _ _ h => h⟩

theorem Ext.trans {K K1 K2 : Nat → Option Obj} {ρ ρ1 ρ2 : Nat → Loc} {S S1 S2 : AS} {w w1 w2 : World} (h : Ext K ρ S w K1 ρ1 S1 w1) (k : Ext K1 ρ1 S1 w1 K2 ρ2 S2 w2) : Ext K ρ S w K2 ρ2 S2 w2 where
  names b hb := (k.names b (Nat.lt_of_lt_of_le hb h.next)).trans (h.names b hb)
  keeps c o hc := k.keeps c o (h.keeps c o hc)
  next := Nat.le_trans h.next k.next
  size := Nat.le_trans h.size k.size
  frame c hc hb := by
    rw [k.frame c (Nat.lt_of_lt_of_le hc h.size) ?_, h.frame c hc hb]
    intro b hl e
    by_cases hbn : b < S.next
    · exact hb b (h.dies b hbn hl) (by rw [← h.names b hbn]; exact e)
    · rcases h.newLoc b (by omega) hl with h1 | ⟨b0, h2, h3⟩
      · omega
      · exact hb b0 h2 (h3.symm.trans e)
  dies b hb hl := h.dies b hb (k.dies b (Nat.lt_of_lt_of_le hb h.next) hl)
  newLoc b hb hl := by
    have step : ∀ b1, look S1.heap b1 ≠ .dead → w.heap.size ≤ (ρ1 b1).blk ∨ ∃ b0, look S.heap b0 ≠ .dead ∧ (ρ1 b1).blk = (ρ b0).blk := by
      intro b1 hl1
      by_cases hb1 : b1 < S.next
      · exact .inr ⟨b1, h.dies b1 hb1 hl1, by rw [h.names b1 hb1]⟩
      · exact h.newLoc b1 (by omega) hl1
    by_cases hb1 : b < S1.next
    · rw [k.names b hb1]
      exact step b (k.dies b hb1 hl)
    · rcases k.newLoc b (by omega) hl with h1 | ⟨b1, h2, h3⟩
      · exact .inl (Nat.le_trans h.size h1)
      · rw [h3]; exact step b1 h2
  newK c o hc := by
    rcases k.newK c o hc with h1 | h1 | ⟨b1, h2, rfl⟩
    · exact h.newK c o h1
    · exact .inr (.inl (Nat.le_trans h.size h1))
    · by_cases hb1 : b1 < S.next
      · exact .inr (.inr ⟨b1, h.dies b1 hb1 h2, by rw [h.names b1 hb1]⟩)
      · rcases h.newLoc b1 (by omega) h2 with h4 | ⟨b0, h5, h6⟩
        · exact .inr (.inl h4)
        · exact .inr (.inr ⟨b0, h5, h6⟩)
  rest := ⟨k.rest.1.trans h.rest.1, k.rest.2.1.trans h.rest.2.1, k.rest.2.2.trans h.rest.2.2⟩
  wm := Nat.le_trans k.wm h.wm
  unch b hb hw := (k.unch b (Nat.lt_of_lt_of_le hb h.next) hw).trans (h.unch b hb (Nat.lt_of_lt_of_le hw k.wm))
  nm := Nat.le_trans k.nm h.nm
  nmb b n hb hn hv := k.nmb b n (Nat.lt_of_lt_of_le hb h.next) hn (h.nmb b n hb (Nat.lt_of_lt_of_le hn k.nm) hv)

theorem Ext.cellsK {K : Nat → Option Obj} {ρ : Nat → Loc} {S : AS} {w : World} {K' : Nat → Option Obj} {ρ' : Nat → Loc} {S' : AS} {w' : World} (h : Ext K ρ S w K' ρ' S' w') :
    ∀ c cs e fr, K c = some (.cells cs e fr) → K' c = some (.cells cs e fr) := fun c _ _ _ hc => h.keeps c _ hc

/-- A value is carried from one state to a later one. -/
theorem Ext.val {K : Nat → Option Obj} {ρ : Nat → Loc} {S : AS} {w : World} {K' : Nat → Option Obj} {ρ' : Nat → Loc} {S' : AS} {w' : World} (h : Ext K ρ S w K' ρ' S' w')
    {a : AV} {v : Value} (hv : VRel K ρ a v) (hb : vb S.next a) : VRel K' ρ' a v ∧ vb S'.next a :=
  ⟨(hv.mono h.cellsK).congr hb h.names, vb_mono h.next a hb⟩
theorem Ext.vals {K : Nat → Option Obj} {ρ : Nat → Loc} {S : AS} {w : World} {K' : Nat → Option Obj} {ρ' : Nat → Loc} {S' : AS} {w' : World} (h : Ext K ρ S w K' ρ' S' w')
    {a : List AV} {v : List Value} (hv : VRels K ρ a v) (hb : vbs S.next a) : VRels K' ρ' a v ∧ vbs S'.next a :=
  ⟨(hv.mono h.cellsK).congr hb h.names, vbs_mono h.next a hb⟩
theorem Ext.env {K : Nat → Option Obj} {ρ : Nat → Loc} {S : AS} {w : World} {K' : Nat → Option Obj} {ρ' : Nat → Loc} {S' : AS} {w' : World} (h : Ext K ρ S w K' ρ' S' w')
    {E : Env} {tmps : Array Value} (hE : ERel K ρ S.next E tmps) : ERel K' ρ' S'.next E tmps := fun t => h.val (hE t).1 (hE t).2

end Go.Ab
