/-
An abstract machine over the kit's wp calculus, part 1: abstract states and what they say of a world.
Values bear abstract block numbers; a row is a list of cells. Mine; no text of the kit stands in it.
-/
import Derived.WalkKit
import Derived.Deep.AppendSrc
import Derived.Deep.MidRow
import Derived.WalkLawsBesides
set_option linter.unusedVariables false
set_option linter.unusedSimpArgs false
namespace Go.Am
open Go Go.RowKit

/-! ### keyed lists -/
def get {α : Type} : List (Nat × α) → Nat → Option α
  | [], _ => none
  | (j, v) :: r, k => if j = k then some v else get r k
def put {α : Type} : List (Nat × α) → Nat → α → List (Nat × α)
  | [], k, v => [(k, v)]
  | (j, u) :: r, k, v => if j = k then (k, v) :: r else (j, u) :: put r k v
def del {α : Type} : List (Nat × α) → Nat → List (Nat × α)
  | [], _ => []
  | (j, u) :: r, k => if j = k then del r k else (j, u) :: del r k
def puts {α : Type} (l : List (Nat × α)) : List (Nat × α) → List (Nat × α)
  | [] => l
  | (k, v) :: r => puts (put l k v) r

theorem get_put {α : Type} (l : List (Nat × α)) (k i : Nat) (v : α) : get (put l k v) i = if k = i then some v else get l i := by
  induction l with
  | nil => simp [put, get]
  | cons p r ih =>
    obtain ⟨j, u⟩ := p
    simp only [put]
    by_cases h : j = k
    · subst h; simp only [if_true, get]; split <;> simp_all
    · simp only [if_neg h, get, ih]
      by_cases h2 : j = i
      · subst h2; have h3 : ¬ k = j := fun e => h e.symm
        simp [h3]
      · simp [h2]
theorem get_del {α : Type} (l : List (Nat × α)) (k i : Nat) : get (del l k) i = if k = i then none else get l i := by
  induction l with
  | nil => simp [del, get]
  | cons p r ih =>
    obtain ⟨j, u⟩ := p
    simp only [del]
    by_cases h : j = k
    · subst h; simp only [if_true, ih, get]; split <;> simp_all
    · simp only [if_neg h, get, ih]
      by_cases h2 : j = i
      · subst h2; have h3 : ¬ k = j := fun e => h e.symm
        simp [h3]
      · simp [h2]
/-- what the last of a list says of a key; else what was there -/
def lastOf {α : Type} : List (Nat × α) → Nat → Option α → Option α
  | [], _, d => d
  | (k, v) :: r, i, d => lastOf r i (if k = i then some v else d)
theorem get_puts {α : Type} (u : List (Nat × α)) : ∀ (l : List (Nat × α)) (i : Nat), get (puts l u) i = lastOf u i (get l i) := by
  induction u with
  | nil => intro l i; rfl
  | cons p r ih => intro l i; obtain ⟨k, v⟩ := p; simp only [puts, lastOf, ih, get_put]

/-! ### values -/
def scalar : Value → Bool
  | .bool _ | .int _ _ | .float _ _ | .string _ | .nilFunc | .nilIface => true
  | .pointer none => true
  | .slice none 0 0 => true
  | _ => false
def flatAgg : Value → Bool
  | .agg cs => cs.toList.all scalar
  | _ => false
def flat : Value → Bool
  | .agg cs => cs.toList.all scalar
  | .tuple cs => cs.toList.all fun v => scalar v || flatAgg v
  | .func _ first captured => first.isEmpty && captured.isEmpty
  | v => scalar v

/-- where a block lies: its first cell, the cells of an element, all of its cells -/
structure Loc where
  at_ : Addr
  esz : Nat
  tot : Nat

/-- an abstract block: what is known of its cells; 2: it is the call's own and may be written, 1: it may be read, 0: it is gone; which blocks may share its memory -/
structure Blk where
  cells : List Value
  st : Nat
  par : List Nat
  esz : Nat

inductive VRel (μ : Nat → Option Loc) : Value → Value → Prop
  | flat (v : Value) (h : flat v = true) : VRel μ v v
  | ptr (i o : Nat) (L : Loc) (h : μ i = some L) : VRel μ (.pointer (some ⟨i, o, none⟩)) (.pointer (some (L.at_.add o)))
  | sl (i o n c : Nat) (L : Loc) (a : Addr) (c' : Nat) (h : μ i = some L) (hc : n ≤ c') (hx : c = n → c' = n) (hcn : c = n ∨ c = n + 1 ∨ c = n + 2) (ht : o + c' * L.esz ≤ L.tot) (ha : (0 < n ∨ o = 0) → a = L.at_.add o) :
      VRel μ (.slice (some ⟨i, o, none⟩) n c) (.slice (some a) n c')
  | slnil (i o : Nat) : VRel μ (.slice (some ⟨i, o, none⟩) 0 1) (.slice none 0 0)
  | func (fn : Fn) (cs cs' : List Value) (hl : cs.length = cs'.length) (h : ∀ (i : Nat) (v v' : Value), cs[i]? = some v → cs'[i]? = some v' → VRel μ v v') : VRel μ (.func fn #[] cs.toArray) (.func fn #[] cs'.toArray)
  | agg (cs cs' : List Value) (hl : cs.length = cs'.length) (h : ∀ (i : Nat) (v v' : Value), cs[i]? = some v → cs'[i]? = some v' → VRel μ v v') : VRel μ (.agg cs.toArray) (.agg cs'.toArray)
  | tuple (cs cs' : List Value) (hl : cs.length = cs'.length) (h : ∀ (i : Nat) (v v' : Value), cs[i]? = some v → cs'[i]? = some v' → VRel μ v v') : VRel μ (.tuple cs.toArray) (.tuple cs'.toArray)

/-- lists of values, one by one -/
def VRels (μ : Nat → Option Loc) (cs cs' : List Value) : Prop := cs.length = cs'.length ∧ ∀ (i : Nat) (v v' : Value), cs[i]? = some v → cs'[i]? = some v' → VRel μ v v'

def Ext (μ μ' : Nat → Option Loc) : Prop := ∀ i L, μ i = some L → μ' i = some L
theorem Ext.refl (μ : Nat → Option Loc) : Ext μ μ := fun _ _ h => h
theorem Ext.trans {a b c : Nat → Option Loc} (h : Ext a b) (k : Ext b c) : Ext a c := fun i L e => k i L (h i L e)

theorem VRel.mono {μ μ' : Nat → Option Loc} (hm : Ext μ μ') {v v' : Value} (h : VRel μ v v') : VRel μ' v v' := by
  induction h with
  | flat v h => exact .flat v h
  | ptr i o L h => exact .ptr i o L (hm _ _ h)
  | sl i o n c L a c' h hc hx hcn ht ha => exact .sl i o n c L a c' (hm _ _ h) hc hx hcn ht ha
  | slnil i o => exact .slnil i o
  | func fn cs cs' hl h ih => exact .func fn cs cs' hl ih
  | agg cs cs' hl h ih => exact .agg cs cs' hl ih
  | tuple cs cs' hl h ih => exact .tuple cs cs' hl ih
theorem VRels.mono {μ μ' : Nat → Option Loc} (hm : Ext μ μ') {v v' : List Value} (h : VRels μ v v') : VRels μ' v v' := ⟨h.1, fun i a b ha hb => (h.2 i a b ha hb).mono hm⟩

theorem VRels.nil (μ : Nat → Option Loc) : VRels μ [] [] := ⟨rfl, fun i v v' h => by simp at h⟩
theorem VRels.cons {μ : Nat → Option Loc} {v v' : Value} {vs vs' : List Value} (h : VRel μ v v') (hs : VRels μ vs vs') : VRels μ (v :: vs) (v' :: vs') := by
  refine ⟨by simp [hs.1], fun i a b ha hb => ?_⟩
  cases i with
  | zero => simp at ha hb; subst ha; subst hb; exact h
  | succ i => simp at ha hb; exact hs.2 i a b ha hb
theorem VRels.of_cons {μ : Nat → Option Loc} {v : Value} {vs vs' : List Value} (h : VRels μ (v :: vs) vs') : ∃ v' r, vs' = v' :: r ∧ VRel μ v v' ∧ VRels μ vs r := by
  obtain ⟨hl, hv⟩ := h
  cases vs' with
  | nil => simp at hl
  | cons v' r => exact ⟨v', r, rfl, hv 0 v v' rfl rfl, by simpa using hl, fun i a b ha hb => hv (i + 1) a b (by simpa using ha) (by simpa using hb)⟩
theorem VRels.of_nil {μ : Nat → Option Loc} {vs' : List Value} (h : VRels μ [] vs') : vs' = [] := List.eq_nil_of_length_eq_zero h.1.symm
theorem VRels.append {μ : Nat → Option Loc} {a a' b b' : List Value} (h : VRels μ a a') (k : VRels μ b b') : VRels μ (a ++ b) (a' ++ b') := by
  refine ⟨by simp [h.1, k.1], fun i v v' hv hv' => ?_⟩
  rcases Nat.lt_or_ge i a.length with hi | hi
  · rw [List.getElem?_append_left hi] at hv
    rw [List.getElem?_append_left (by rw [← h.1]; exact hi)] at hv'
    exact h.2 i v v' hv hv'
  · rw [List.getElem?_append_right hi] at hv
    rw [List.getElem?_append_right (by rw [← h.1]; exact hi), ← h.1] at hv'
    exact k.2 _ v v' hv hv'
theorem VRels.get {μ : Nat → Option Loc} {a a' : List Value} (h : VRels μ a a') {i : Nat} {v : Value} (hv : a[i]? = some v) : ∃ v', a'[i]? = some v' ∧ VRel μ v v' := by
  have hi : i < a.length := (List.getElem?_eq_some_iff.1 hv).1
  have hi' : i < a'.length := by rw [← h.1]; exact hi
  exact ⟨a'[i], List.getElem?_eq_getElem hi', h.2 i v _ hv (List.getElem?_eq_getElem hi')⟩
theorem VRels.flatL {μ : Nat → Option Loc} {a : List Value} (h : ∀ v ∈ a, flat v = true) : VRels μ a a :=
  ⟨rfl, fun i v v' hv hv' => by rw [hv] at hv'; injection hv' with e; subst e; exact .flat v (h v (List.mem_of_getElem? hv))⟩

/-! #### what a value that is told looks like -/
theorem VRel.int {μ : Nat → Option Loc} {k : IntKind} {n : Int} {v' : Value} (h : VRel μ (.int k n) v') : v' = .int k n := by cases h; rfl
theorem VRel.bool {μ : Nat → Option Loc} {b : Bool} {v' : Value} (h : VRel μ (.bool b) v') : v' = .bool b := by cases h; rfl
theorem VRel.string {μ : Nat → Option Loc} {s : ByteArray} {v' : Value} (h : VRel μ (.string s) v') : v' = .string s := by cases h; rfl
theorem VRel.scal {μ : Nat → Option Loc} {v v' : Value} (hf : scalar v = true) (h : VRel μ v v') : v' = v := by
  cases h with
  | flat => rfl
  | ptr => simp [scalar] at hf
  | sl => simp [scalar] at hf
  | slnil => simp [scalar] at hf
  | func => simp [scalar] at hf
  | agg => simp [scalar] at hf
  | tuple => simp [scalar] at hf
theorem eq_of_rels {μ : Nat → Option Loc} {cs cs' : List Value} (hl : cs.length = cs'.length) (hs : ∀ v ∈ cs, ∀ v', VRel μ v v' → v' = v) (h : ∀ (i : Nat) (v v' : Value), cs[i]? = some v → cs'[i]? = some v' → VRel μ v v') : cs' = cs := by
  apply List.ext_getElem hl.symm
  intro i h1 h2
  exact hs _ (List.getElem_mem h2) _ (h i _ _ (List.getElem?_eq_getElem h2) (List.getElem?_eq_getElem h1))
theorem VRel.flatEq {μ : Nat → Option Loc} {v v' : Value} (hf : Am.flat v = true) (h : VRel μ v v') : v' = v := by
  cases h with
  | flat => rfl
  | ptr => simp [Am.flat, scalar] at hf
  | sl => simp [Am.flat, scalar] at hf
  | slnil => simp [Am.flat, scalar] at hf
  | func fn cs cs' hl h =>
    simp [Am.flat] at hf
    subst hf
    have : cs' = [] := by simpa using hl.symm
    subst this; rfl
  | agg cs cs' hl h =>
    simp only [Am.flat, List.all_eq_true] at hf
    rw [eq_of_rels hl (fun v hv v' hr => hr.scal (hf v hv)) h]
  | tuple cs cs' hl h =>
    simp only [Am.flat, List.all_eq_true, Bool.or_eq_true] at hf
    rw [eq_of_rels hl (fun v hv v' hr => ?_) h]
    rcases hf v hv with hs | hs
    · exact hr.scal hs
    · cases hr with
      | agg ds ds' hl h =>
        simp only [flatAgg, List.all_eq_true] at hs
        rw [eq_of_rels hl (fun v hv v' hr => hr.scal (hs v hv)) h]
      | flat => rfl
      | _ => simp [flatAgg] at hs
theorem VRel.pointer {μ : Nat → Option Loc} {i o : Nat} {v' : Value} (h : VRel μ (.pointer (some ⟨i, o, none⟩)) v') : ∃ L, μ i = some L ∧ v' = .pointer (some (L.at_.add o)) := by
  cases h with
  | flat _ h => simp [Am.flat, scalar] at h
  | ptr _ _ L h => exact ⟨L, h, rfl⟩
theorem VRel.aggOf {μ : Nat → Option Loc} {cs : Array Value} {v' : Value} (h : VRel μ (.agg cs) v') : ∃ cs', v' = .agg cs' ∧ VRels μ cs.toList cs'.toList := by
  cases h with
  | flat _ h =>
    refine ⟨cs, rfl, VRels.flatL fun v hv => ?_⟩
    simp only [Am.flat, List.all_eq_true] at h
    have := h v hv
    cases v <;> simp_all [scalar, Am.flat]
  | agg cs cs' hl h => exact ⟨cs'.toArray, rfl, hl, h⟩
theorem VRel.tupleOf {μ : Nat → Option Loc} {cs : Array Value} {v' : Value} (h : VRel μ (.tuple cs) v') : ∃ cs', v' = .tuple cs' ∧ VRels μ cs.toList cs'.toList := by
  cases h with
  | flat _ h =>
    refine ⟨cs, rfl, VRels.flatL fun v hv => ?_⟩
    simp only [Am.flat, List.all_eq_true, Bool.or_eq_true] at h
    rcases h v hv with hs | hs
    · cases v <;> simp_all [scalar, Am.flat]
    · cases v <;> simp_all [flatAgg, Am.flat]
  | tuple cs cs' hl h => exact ⟨cs'.toArray, rfl, hl, h⟩
theorem VRel.mkAgg {μ : Nat → Option Loc} {cs cs' : List Value} (h : VRels μ cs cs') : VRel μ (.agg cs.toArray) (.agg cs'.toArray) := .agg cs cs' h.1 h.2
theorem VRel.mkTuple {μ : Nat → Option Loc} {cs cs' : List Value} (h : VRels μ cs cs') : VRel μ (.tuple cs.toArray) (.tuple cs'.toArray) := .tuple cs cs' h.1 h.2

/-- one cell's value -/
def cell1 : Value → Bool
  | .agg _ | .tuple _ => false
  | _ => true
theorem VRel.cell1 {μ : Nat → Option Loc} {v v' : Value} (h : VRel μ v v') : Am.cell1 v = true → v'.oneCell' = true := by
  intro hc
  cases h <;> simp_all [Am.cell1, Value.oneCell'] <;> (try (cases v <;> simp_all [Am.cell1, Value.oneCell']))
/-- a value's cells -/
def cellsOf : Value → List Value
  | .agg cs => cs.toList
  | v => [v]
theorem VRel.cells {μ : Nat → Option Loc} {v v' : Value} (h : VRel μ v v') : VRels μ (cellsOf v) v'.cells.toList := by
  by_cases ha : ∃ cs, v = .agg cs
  · obtain ⟨cs, rfl⟩ := ha
    obtain ⟨cs', rfl, hv⟩ := h.aggOf
    exact hv
  · have e1 : cellsOf v = [v] := by cases v <;> simp_all [cellsOf]
    have e2 : v'.cells.toList = [v'] := by
      cases h <;> simp_all [Value.cells] <;> (try (cases v <;> simp_all [Value.cells]))
    rw [e1, e2]
    exact .cons h (.nil _)

/-! ### heaps -/
abbrev Heap := List (Nat × Blk)

structure HRel (B : Nat) (μ : Nat → Option Loc) (H : Heap) (w : World) : Prop where
  read : ∀ i b, get H i = some b → 1 ≤ b.st → ∀ j v, b.cells[j]? = some v → ∃ L v', μ i = some L ∧ w.cell? (L.at_.add j) = some v' ∧ VRel μ v v' ∧ cell1 v = true
  esz : ∀ i b L, get H i = some b → 1 ≤ b.st → μ i = some L → L.esz = b.esz
  own : ∀ i b, get H i = some b → b.st = 2 → (μ i = none ∧ b.cells = []) ∨ ∃ L k c e, μ i = some L ∧ L.at_ = ⟨k, 0, none⟩ ∧ B ≤ k ∧ w.heap[k]? = some (.cells c e (0, 0)) ∧ c.size = L.tot ∧ b.cells.length ≤ L.tot
  apart : ∀ i b j b' L L', get H i = some b → get H j = some b' → b.st = 2 → 1 ≤ b'.st → (b'.st = 2 ∨ b'.cells ≠ []) → μ i = some L → μ j = some L' → L.at_.block = L'.at_.block → j = i ∨ (b'.st = 1 ∧ j ∈ b.par ∧ L' = L ∧ b'.cells.length ≤ b.cells.length)

/-- no more is said -/
def HLe (H H' : Heap) : Prop := ∀ i b, get H i = some b → 1 ≤ b.st → ∃ b', get H' i = some b' ∧ b'.cells = b.cells ∧ b'.par = b.par ∧ b'.esz = b.esz ∧ b.st ≤ b'.st
theorem HLe.refl (H : Heap) : HLe H H := fun i b h _ => ⟨b, h, rfl, rfl, rfl, Nat.le_refl _⟩
theorem HLe.trans {a b c : Heap} (h : HLe a b) (k : HLe b c) : HLe a c := fun i x hx h1 => by
  obtain ⟨y, hy, e1, e2, e3, e4⟩ := h i x hx h1
  obtain ⟨z, hz, f1, f2, f3, f4⟩ := k i y hy (by omega)
  exact ⟨z, hz, f1.trans e1, f2.trans e2, f3.trans e3, by omega⟩
theorem HRel.le {B : Nat} {μ : Nat → Option Loc} {H H' : Heap} {w : World} (h : HRel B μ H' w) (hs : ∀ i b, get H' i = some b → b.st ≤ 2) (hl : HLe H H') : HRel B μ H w := by
  refine ⟨fun i b hb h1 j v hv => ?_, fun i b L hb h1 hm => ?_, fun i b hb h2 => ?_, fun i b j b' L L' hb hb' h2 h1 hne hi hj hk => ?_⟩
  · obtain ⟨b', hb', e1, e2, e3, e4⟩ := hl i b hb h1
    exact h.read i b' hb' (by omega) j v (by rw [e1]; exact hv)
  · obtain ⟨b', hb', e1, e2, e3, e4⟩ := hl i b hb h1
    rw [← e3]
    exact h.esz i b' L hb' (by omega) hm
  · obtain ⟨b', hb', e1, e2, e3, e4⟩ := hl i b hb (by omega)
    have := hs i b' hb'
    rw [← e1]
    exact h.own i b' hb' (by omega)
  · obtain ⟨c, hc, e1, e2, e3, e4⟩ := hl i b hb (by omega)
    obtain ⟨c', hc', f1, f2, f3, f4⟩ := hl j b' hb' h1
    have s1 := hs i c hc
    have s2 := hs j c' hc'
    rcases h.apart i c j c' L L' hc hc' (by omega) (by omega) (by rcases hne with hne | hne; exact .inl (by omega); exact .inr (by rw [f1]; exact hne)) hi hj hk with q | ⟨q1, q2, q3, q4⟩
    · exact .inl q
    · exact .inr ⟨by omega, by rw [← e2]; exact q2, q3, by rw [← e1, ← f1]; exact q4⟩
end Go.Am
