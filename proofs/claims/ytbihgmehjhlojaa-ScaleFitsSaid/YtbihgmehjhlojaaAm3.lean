/-
An abstract machine over the kit's wp calculus, part 3: the operations on memory.
-/
import Derived.Test.YtbihgmehjhlojaaAm2
import Derived.Deep.Upon
set_option linter.unusedVariables false
set_option linter.unusedSimpArgs false
namespace Go.Am
open Go Go.RowKit

/-! ### how a heap's reading goes on -/
def setLoc (μ : Nat → Option Loc) (i : Nat) (L : Loc) : Nat → Option Loc := fun k => if k = i then some L else μ k
theorem setLoc_ext {μ : Nat → Option Loc} {i : Nat} (h : μ i = none) (L : Loc) : Ext μ (setLoc μ i L) := fun k M hk => by
  unfold setLoc
  by_cases e : k = i
  · subst e; rw [h] at hk; cases hk
  · rw [if_neg e]; exact hk
theorem setLoc_same (μ : Nat → Option Loc) (i : Nat) (L : Loc) : setLoc μ i L i = some L := by simp [setLoc]
theorem setLoc_other {μ : Nat → Option Loc} {i k : Nat} (L : Loc) (h : k ≠ i) : setLoc μ i L k = μ k := by simp [setLoc, h]

theorem block_lt {w : World} {a : Addr} {v : Value} (h : w.cell? a = some v) : a.block < w.heap.size := World.block_lt_of_cell? w a h
theorem add_block (a : Addr) (n : Nat) : (a.add n).block = a.block := by unfold Addr.add; split <;> rfl
theorem add_lit (k j : Nat) : (⟨k, 0, none⟩ : Addr).add j = ⟨k, j, none⟩ := by unfold Addr.add; split <;> simp_all

/-- the world as it goes on below what is told: every block that is told reads as it did -/
theorem HRel.world {B : Nat} {μ : Nat → Option Loc} {H : Heap} {w w' : World} (h : HRel B μ H w) (hb : ∀ k, k < w.heap.size → w'.heap[k]? = w.heap[k]?) : HRel B μ H w' := by
  refine ⟨fun i b hi h1 j v hv => ?_, h.esz, fun i b hi h2 => ?_, h.apart⟩
  · obtain ⟨L, v', hL, hc, hr, h1⟩ := h.read i b hi h1 j v hv
    refine ⟨L, v', hL, ?_, hr, h1⟩
    have hlt := block_lt hc
    rw [World.cell?_of_block (w := w) (hb _ hlt)]; exact hc
  · rcases h.own i b hi h2 with q | ⟨L, k, c, e, q1, q2, q3, q4, q5⟩
    · exact .inl q
    · refine .inr ⟨L, k, c, e, q1, q2, q3, ?_, q5⟩
      rw [hb k (Array.getElem?_eq_some_iff.1 q4).1]; exact q4
theorem HRel.mono {B B' : Nat} (hB : B' ≤ B) {μ : Nat → Option Loc} {H : Heap} {w : World} (h : HRel B μ H w) : HRel B' μ H w :=
  ⟨h.read, h.esz, fun i b hi h2 => by
    rcases h.own i b hi h2 with q | ⟨L, k, c, e, q1, q2, q3, q4, q5⟩
    · exact .inl q
    · exact .inr ⟨L, k, c, e, q1, q2, by omega, q4, q5⟩, h.apart⟩
theorem HRel.drew {B : Nat} {μ : Nat → Option Loc} {H : Heap} {w : World} (h : HRel B μ H w) : HRel B μ H w.drew := h.world fun _ _ => rfl

/-- a new block of the call's own -/
theorem HRel.alloc {B : Nat} {μ : Nat → Option Loc} {H : Heap} {w : World} (h : HRel B μ H w) (hB : B ≤ w.heap.size) {i : Nat} (hi : μ i = none) (c : Array Value) (e : TypeId) (cs : List Value) (esz : Nat)
    (hlen : cs.length ≤ c.size) (hv : ∀ (j : Nat) (v : Value), cs[j]? = some v → cell1 v = true ∧ ∃ v', c[j]? = some v' ∧ VRel μ v v') (par : List Nat) :
    HRel B (setLoc μ i ⟨⟨w.heap.size, 0, none⟩, esz, c.size⟩) (put H i { cells := cs, st := 2, par := par, esz := esz }) (w.alloc (.cells c e)) := by
  have hx := setLoc_ext hi ⟨⟨w.heap.size, 0, none⟩, esz, c.size⟩
  have old : ∀ k, k < w.heap.size → (w.alloc (.cells c e)).heap[k]? = w.heap[k]? := fun k hk => Below.heap_alloc w _ k hk
  have h' := h.world old
  have G : ∀ j b, get (put H i { cells := cs, st := 2, par := par, esz := esz }) j = some b → (j = i ∧ b = { cells := cs, st := 2, par := par, esz := esz }) ∨ (j ≠ i ∧ get H j = some b) := by
    intro j b hj
    rw [get_put] at hj
    by_cases e : i = j
    · rw [if_pos e] at hj; injection hj with hj; exact .inl ⟨e.symm, hj.symm⟩
    · rw [if_neg e] at hj; exact .inr ⟨fun q => e q.symm, hj⟩
  refine ⟨fun j b hj h1 m v hm => ?_, fun j b L hj h1 hL => ?_, fun j b hj h2 => ?_, fun j b j' b' L L' hj hj' h2 h1 hne hL hL' hk => ?_⟩
  · rcases G j b hj with ⟨rfl, rfl⟩ | ⟨hne, hj⟩
    · obtain ⟨h1, v', hc, hr⟩ := hv m v hm
      exact ⟨_, v', setLoc_same _ _ _, by rw [add_lit, World.cell?_alloc_new]; exact hc, hr.mono hx, h1⟩
    · obtain ⟨L, v', hL, hc, hr, h1⟩ := h'.read j b hj h1 m v hm
      exact ⟨L, v', hx _ _ hL, hc, hr.mono hx, h1⟩
  · rcases G j b hj with ⟨rfl, rfl⟩ | ⟨hne, hj⟩
    · rw [setLoc_same] at hL; injection hL with hL; subst hL; rfl
    · rw [setLoc_other _ hne] at hL; exact h.esz j b L hj h1 hL
  · rcases G j b hj with ⟨rfl, rfl⟩ | ⟨hne, hj⟩
    · exact .inr ⟨_, w.heap.size, c, e, setLoc_same _ _ _, rfl, hB, by show (w.heap.push _)[w.heap.size]? = _; simp, rfl, hlen⟩
    · rcases h'.own j b hj h2 with ⟨q1, q2⟩ | ⟨L, k, c', e', q1, q2⟩
      · exact .inl ⟨by rw [setLoc_other _ hne]; exact q1, q2⟩
      · exact .inr ⟨L, k, c', e', hx _ _ q1, q2⟩
  · have far : ∀ (j : Nat) (b : Blk) (L : Loc), get H j = some b → 1 ≤ b.st → (b.st = 2 ∨ b.cells ≠ []) → μ j = some L → L.at_.block < w.heap.size := by
      intro j b L hj h1 hne hL
      rcases hne with hne | hne
      · rcases h.own j b hj hne with ⟨q1, _⟩ | ⟨L', k, c', e', q1, q2, q3, q4, _⟩
        · rw [q1] at hL; cases hL
        · rw [q1] at hL; injection hL with hL; subst hL; rw [q2]; exact (Array.getElem?_eq_some_iff.1 q4).1
      · cases hc : b.cells with
        | nil => exact absurd hc hne
        | cons v r =>
          obtain ⟨L', v', q1, q2, _⟩ := h.read j b hj h1 0 v (by rw [hc]; rfl)
          rw [q1] at hL; injection hL with hL; subst hL
          have := block_lt q2; rwa [add_block] at this
    rcases G j b hj with ⟨rfl, rfl⟩ | ⟨hnj, hj⟩
    · rw [setLoc_same] at hL; injection hL with hL; subst hL
      rcases G j' b' hj' with ⟨rfl, rfl⟩ | ⟨hnj', hj'⟩
      · exact .inl rfl
      · rw [setLoc_other _ hnj'] at hL'
        have := far j' b' L' hj' h1 hne hL'
        simp only at hk; omega
    · rw [setLoc_other _ hnj] at hL
      have f1 := far j b L hj (by omega) (.inl h2) hL
      rcases G j' b' hj' with ⟨rfl, rfl⟩ | ⟨hnj', hj'⟩
      · rw [setLoc_same] at hL'; injection hL' with hL'; subst hL'
        simp only at hk; omega
      · rw [setLoc_other _ hnj'] at hL'
        exact h.apart j b j' b' L L' hj hj' h2 h1 hne hL hL' hk

theorem below_setCells {B : Nat} {a : World} {k : Nat} (hk : B ≤ k) : ∀ (vs : List Value) (o : Nat) (w : World), Kept B a w → Kept B a (w.setCells k o vs)
  | [], _, _, h => h
  | v :: r, o, w, h => below_setCells hk r (o + 1) _ (h.setCell (p := ⟨k, o, none⟩) hk v)
theorem heap_setCells_ne {k : Nat} : ∀ (vs : List Value) (o : Nat) (w : World) (j : Nat), j ≠ k → (w.setCells k o vs).heap[j]? = w.heap[j]?
  | [], _, _, _, _ => rfl
  | v :: r, o, w, j, h => (heap_setCells_ne r (o + 1) _ j h).trans (Below.heap_setCell w ⟨k, o, none⟩ v j h)
theorem heap_setCells_at {k : Nat} {e : TypeId} : ∀ (vs : List Value) (o : Nat) (w : World) (c : Array Value), w.heap[k]? = some (.cells c e (0, 0)) → ∃ c', (w.setCells k o vs).heap[k]? = some (.cells c' e (0, 0)) ∧ c'.size = c.size
  | [], _, _, c, h => ⟨c, h, rfl⟩
  | v :: r, o, w, c, h => by
    have h1 : (w.setCell ⟨k, o, none⟩ v).heap[k]? = some (.cells (c.setIfInBounds o v) e (0, 0)) := by
      simp [World.setCell, Array.getElem?_modify, h]
    obtain ⟨c', h2, h3⟩ := heap_setCells_at r (o + 1) _ _ h1
    exact ⟨c', h2, by simpa using h3⟩
theorem size_setCells (k : Nat) : ∀ (vs : List Value) (o : Nat) (w : World), (w.setCells k o vs).heap.size = w.heap.size
  | [], _, _ => rfl
  | v :: r, o, w => (size_setCells k r (o + 1) _).trans (World.size_setCell ..)

def gone : Blk := ⟨[], 0, [], 0⟩
theorem lastOf_gone (p : List Nat) : ∀ (j : Nat) (d : Option Blk), lastOf (p.map fun x => (x, gone)) j d = if j ∈ p then some gone else d := by
  induction p with
  | nil => intro j d; rfl
  | cons a r ih =>
    intro j d
    simp only [List.map_cons, lastOf, ih, List.mem_cons]
    by_cases h1 : j ∈ r
    · simp [h1]
    · by_cases h2 : a = j
      · subst h2; simp
      · have h3 : ¬ j = a := fun e => h2 e.symm
        simp [h1, h2, h3]
def updStore (i : Nat) (b : Blk) (cs : List Value) : Heap := (i, { b with cells := cs }) :: b.par.map fun x => (x, gone)
theorem get_updStore {H : Heap} {i : Nat} {b : Blk} {cs : List Value} {j : Nat} {x : Blk} (h : get (puts H (updStore i b cs)) j = some x) :
    x = gone ∨ (j = i ∧ x = { b with cells := cs }) ∨ (j ≠ i ∧ j ∉ b.par ∧ get H j = some x) := by
  rw [get_puts] at h
  unfold updStore at h
  simp only [lastOf, lastOf_gone] at h
  split at h
  · injection h with h; exact .inl h.symm
  · rename_i hn
    split at h
    · rename_i e; injection h with h; exact .inr (.inl ⟨e.symm, h.symm⟩)
    · rename_i e; exact .inr (.inr ⟨fun q => e q.symm, hn, h⟩)

def splice (cs vs : List Value) (o : Nat) : List Value := cs.take o ++ vs ++ cs.drop (o + vs.length)
theorem splice_length {cs vs : List Value} {o : Nat} (h : o + vs.length ≤ cs.length) : (splice cs vs o).length = cs.length := by
  simp [splice]; omega
theorem splice_get {cs vs : List Value} {o : Nat} (h : o + vs.length ≤ cs.length) (m : Nat) : (splice cs vs o)[m]? = if m < o then cs[m]? else if m < o + vs.length then vs[m - o]? else cs[m]? := by
  unfold splice
  by_cases h1 : m < o
  · rw [if_pos h1, List.append_assoc, List.getElem?_append_left (by simp; omega), List.getElem?_take, if_pos h1]
  · rw [if_neg h1]
    by_cases h2 : m < o + vs.length
    · rw [if_pos h2, List.getElem?_append_left (by simp; omega), List.getElem?_append_right (by simp; omega)]
      congr 1; simp; omega
    · rw [if_neg h2, List.getElem?_append_right (by simp; omega), List.getElem?_drop]
      congr 1; simp; omega

/-- a store into a block of the call's own -/
theorem HRel.store {B : Nat} {μ : Nat → Option Loc} {H : Heap} {w : World} (h : HRel B μ H w) {i : Nat} {b : Blk} (hb : get H i = some b) (h2 : b.st = 2) {L : Loc} (hL : μ i = some L) {k : Nat} (hk : L.at_ = ⟨k, 0, none⟩)
    (o : Nat) (vs vs' : List Value) (hvs : VRels μ vs vs') (h1 : ∀ v ∈ vs, cell1 v = true) (hle : o + vs.length ≤ b.cells.length) :
    HRel B μ (puts H (updStore i b (splice b.cells vs o))) (w.setCells k o vs') := by
  have hown : ∃ c e, B ≤ k ∧ w.heap[k]? = some (.cells c e (0, 0)) ∧ c.size = L.tot ∧ b.cells.length ≤ L.tot := by
    rcases h.own i b hb h2 with ⟨q, _⟩ | ⟨L', k', c, e, q1, q2, q3, q4, q5⟩
    · rw [q] at hL; cases hL
    · rw [q1] at hL; injection hL with hL; subst hL
      rw [hk] at q2; injection q2 with q2; subst q2
      exact ⟨c, e, q3, q4, q5⟩
  obtain ⟨c, e, hBk, hheap, hct, hbl⟩ := hown
  have hl' : vs'.length = vs.length := hvs.1.symm
  have there : ∀ j, j < vs'.length → (w.cell? ⟨k, o + j, none⟩).isSome = true := by
    intro j hj
    have : o + j < c.size := by omega
    simp [World.cell?, hheap, this]
  have other : ∀ (j : Nat) (x : Blk) (L' : Loc), get H j = some x → 1 ≤ x.st → (x.st = 2 ∨ x.cells ≠ []) → j ≠ i → j ∉ b.par → μ j = some L' → L'.at_.block ≠ k := by
    intro j x L' hj hx hne hji hjp hL' he
    rcases h.apart i b j x L L' hb hj h2 hx hne hL hL' (by rw [hk]; exact he.symm) with q | ⟨_, q, _⟩
    · exact hji q
    · exact hjp q
  refine ⟨fun j x hj hx m v hm => ?_, fun j x L' hj hx hL' => ?_, fun j x hj hx => ?_, fun j x j' x' L1 L2 hj hj' hx hx' hne hL1 hL2 he => ?_⟩
  · rcases get_updStore hj with rfl | ⟨rfl, rfl⟩ | ⟨hji, hjp, hj⟩
    · simp [gone] at hx
    · have hm' : (splice b.cells vs o)[m]? = some v := hm
      rw [splice_get hle] at hm'
      by_cases c1 : m < o
      · rw [if_pos c1] at hm'
        obtain ⟨L', v', q1, q2, q3, q4⟩ := h.read j b hb (by omega) m v hm'
        rw [hL] at q1; injection q1 with q1; subst q1
        refine ⟨L, v', hL, ?_, q3, q4⟩
        rw [hk, add_lit] at q2 ⊢
        rw [World.cell?_setCells_out]; exact q2
        intro _ _; simp only; omega
      · rw [if_neg c1] at hm'
        by_cases c2 : m < o + vs.length
        · rw [if_pos c2] at hm'
          obtain ⟨v', q1, q2⟩ := hvs.get hm'
          refine ⟨L, v', hL, ?_, q2, h1 v (List.mem_of_getElem? hm')⟩
          rw [hk, add_lit]
          have := World.cell?_setCells_in k vs' o w there (m - o) (by omega)
          have e1 : o + (m - o) = m := by omega
          rw [e1] at this
          rw [this]
          rw [List.getElem?_eq_getElem (by omega)] at q1
          exact q1
        · rw [if_neg c2] at hm'
          obtain ⟨L', v', q1, q2, q3, q4⟩ := h.read j b hb (by omega) m v hm'
          rw [hL] at q1; injection q1 with q1; subst q1
          refine ⟨L, v', hL, ?_, q3, q4⟩
          rw [hk, add_lit] at q2 ⊢
          rw [World.cell?_setCells_out]; exact q2
          intro _ _; simp only; omega
    · obtain ⟨L', v', q1, q2, q3, q4⟩ := h.read j x hj hx m v hm
      refine ⟨L', v', q1, ?_, q3, q4⟩
      have : L'.at_.block ≠ k := other j x L' hj hx (.inr (by intro e; rw [e] at hm; simp at hm)) hji hjp q1
      rw [World.cell?_of_block (w := w) (heap_setCells_ne vs' o w _ (by rw [add_block]; exact this))]; exact q2
  · rcases get_updStore hj with rfl | ⟨rfl, rfl⟩ | ⟨hji, hjp, hj⟩
    · simp [gone] at hx
    · exact h.esz j b L' hb (by omega) hL'
    · exact h.esz j x L' hj hx hL'
  · rcases get_updStore hj with rfl | ⟨rfl, rfl⟩ | ⟨hji, hjp, hj⟩
    · simp [gone] at hx
    · obtain ⟨c', q1, q2⟩ := heap_setCells_at vs' o w c hheap
      exact .inr ⟨L, k, c', e, hL, hk, hBk, q1, by omega, by rw [splice_length hle]; exact hbl⟩
    · rcases h.own j x hj hx with q | ⟨L', k', c', e', q1, q2, q3, q4, q5⟩
      · exact .inl q
      · refine .inr ⟨L', k', c', e', q1, q2, q3, ?_, q5⟩
        have := other j x L' hj (by omega) (.inl hx) hji hjp q1
        rw [q2] at this
        rw [heap_setCells_ne vs' o w k' this]; exact q4
  · have G : ∀ (j : Nat) (x : Blk), get (puts H (updStore i b (splice b.cells vs o))) j = some x → 1 ≤ x.st → ∃ y, get H j = some y ∧ y.st = x.st ∧ y.par = x.par ∧ y.cells.length = x.cells.length := by
      intro j x hj hx
      rcases get_updStore hj with rfl | ⟨rfl, rfl⟩ | ⟨hji, hjp, hj⟩
      · simp [gone] at hx
      · exact ⟨b, hb, rfl, rfl, (splice_length hle).symm⟩
      · exact ⟨x, hj, rfl, rfl, rfl⟩
    obtain ⟨y, g1, g2, g3, g4⟩ := G j x hj (by omega)
    obtain ⟨y', f1, f2, f3, f4⟩ := G j' x' hj' hx'
    have hne' : y'.st = 2 ∨ y'.cells ≠ [] := by
      rcases hne with q | q
      · exact .inl (by omega)
      · refine .inr fun e => q ?_
        rw [e] at f4; exact List.eq_nil_of_length_eq_zero f4.symm
    rcases h.apart j y j' y' L1 L2 g1 f1 (by omega) (by omega) hne' hL1 hL2 he with q | ⟨q1, q2, q3, q4⟩
    · exact .inl q
    · exact .inr ⟨by omega, by rw [← g3]; exact q2, q3, by omega⟩

/-- what is appended within a block of the call's own -/
def updApp (i j : Nat) (b : Blk) (vs : List Value) : Heap := [(i, { b with st := 1 }), (j, { cells := b.cells ++ vs, st := 2, par := i :: b.par, esz := b.esz })]
theorem get_updApp {H : Heap} {i j : Nat} {b : Blk} {vs : List Value} {m : Nat} {x : Blk} (hij : i ≠ j) (h : get (puts H (updApp i j b vs)) m = some x) :
    (m = j ∧ x = { cells := b.cells ++ vs, st := 2, par := i :: b.par, esz := b.esz }) ∨ (m = i ∧ x = { b with st := 1 }) ∨ (m ≠ i ∧ m ≠ j ∧ get H m = some x) := by
  rw [get_puts] at h
  simp only [updApp, lastOf] at h
  by_cases e : j = m
  · rw [if_pos e] at h; injection h with h; exact .inl ⟨e.symm, h.symm⟩
  · rw [if_neg e] at h
    by_cases e' : i = m
    · rw [if_pos e'] at h; injection h with h; exact .inr (.inl ⟨e'.symm, h.symm⟩)
    · rw [if_neg e'] at h; exact .inr (.inr ⟨fun q => e' q.symm, fun q => e q.symm, h⟩)
theorem HRel.extend {B : Nat} {μ : Nat → Option Loc} {H : Heap} {w : World} (h : HRel B μ H w) {i j : Nat} {b : Blk} (hb : get H i = some b) (h2 : b.st = 2) (hj : μ j = none) {L : Loc} (hL : μ i = some L) {k : Nat} (hk : L.at_ = ⟨k, 0, none⟩)
    (vs vs' : List Value) (hvs : VRels μ vs vs') (h1 : ∀ v ∈ vs, cell1 v = true) (hle : b.cells.length + vs.length ≤ L.tot) :
    HRel B (setLoc μ j L) (puts H (updApp i j b vs)) (w.setCells k b.cells.length vs') := by
  have hx := setLoc_ext hj L
  have hij : i ≠ j := by rintro rfl; rw [hj] at hL; cases hL
  have hown : ∃ c e, B ≤ k ∧ w.heap[k]? = some (.cells c e (0, 0)) ∧ c.size = L.tot := by
    rcases h.own i b hb h2 with ⟨q, _⟩ | ⟨L', k', c, e, q1, q2, q3, q4, q5, q6⟩
    · rw [q] at hL; cases hL
    · rw [q1] at hL; injection hL with hL; subst hL
      rw [hk] at q2; injection q2 with q2; subst q2
      exact ⟨c, e, q3, q4, q5⟩
  obtain ⟨c, e, hBk, hheap, hct⟩ := hown
  have hl' : vs'.length = vs.length := hvs.1.symm
  have there : ∀ m, m < vs'.length → (w.cell? ⟨k, b.cells.length + m, none⟩).isSome = true := by
    intro m hm
    have : b.cells.length + m < c.size := by omega
    simp [World.cell?, hheap, this]
  -- an old cell that is told lies elsewhere, or ahead of what is written
  have stays : ∀ (m : Nat) (x : Blk), get H m = some x → 1 ≤ x.st → ∀ (q : Nat) (v : Value), x.cells[q]? = some v → ∃ L' v', μ m = some L' ∧ (w.setCells k b.cells.length vs').cell? (L'.at_.add q) = some v' ∧ VRel μ v v' ∧ cell1 v = true := by
    intro m x hm hx1 q v hq
    obtain ⟨L', v', r1, r2, r3, r4⟩ := h.read m x hm hx1 q v hq
    refine ⟨L', v', r1, ?_, r3, r4⟩
    by_cases hbl : L'.at_.block = k
    · have hlen : L' = L ∧ x.cells.length ≤ b.cells.length := by
        by_cases hmi : m = i
        · subst hmi; rw [hb] at hm; injection hm with hm; subst hm; rw [hL] at r1; injection r1 with r1; exact ⟨r1.symm, Nat.le_refl _⟩
        · rcases h.apart i b m x L L' hb hm h2 hx1 (.inr (by intro e; rw [e] at hq; simp at hq)) hL r1 (by rw [hk]; exact hbl.symm) with g | ⟨_, _, g3, g4⟩
          · exact absurd g hmi
          · exact ⟨g3, g4⟩
      obtain ⟨rfl, hlen⟩ := hlen
      have hqlt : q < x.cells.length := (List.getElem?_eq_some_iff.1 hq).1
      rw [hk, add_lit] at r2 ⊢
      rw [World.cell?_setCells_out]; exact r2
      intro _ _; simp only; omega
    · rw [World.cell?_of_block (w := w) (heap_setCells_ne vs' _ w _ (by rw [add_block]; exact hbl))]; exact r2
  refine ⟨fun m x hm hx1 q v hq => ?_, fun m x L' hm hx1 hL' => ?_, fun m x hm hx2 => ?_, fun m x m' x' L1 L2 hm hm' hx2 hx1 hne hL1 hL2 he => ?_⟩
  · rcases get_updApp hij hm with ⟨rfl, rfl⟩ | ⟨rfl, rfl⟩ | ⟨n1, n2, hm⟩
    · simp only at hq
      rcases Nat.lt_or_ge q b.cells.length with c1 | c1
      · rw [List.getElem?_append_left c1] at hq
        obtain ⟨L', v', r1, r2, r3, r4⟩ := stays i b hb (by omega) q v hq
        rw [hL] at r1; injection r1 with r1; subst r1
        exact ⟨L, v', setLoc_same _ _ _, r2, r3.mono hx, r4⟩
      · rw [List.getElem?_append_right c1] at hq
        obtain ⟨v', r1, r2⟩ := hvs.get hq
        refine ⟨L, v', setLoc_same _ _ _, ?_, r2.mono hx, h1 v (List.mem_of_getElem? hq)⟩
        rw [hk, add_lit]
        have hlt : q - b.cells.length < vs'.length := (List.getElem?_eq_some_iff.1 r1).1
        have := World.cell?_setCells_in k vs' b.cells.length w there (q - b.cells.length) hlt
        have e1 : b.cells.length + (q - b.cells.length) = q := by omega
        rw [e1] at this
        rw [this, ← r1, List.getElem?_eq_getElem hlt]
    · obtain ⟨L', v', r1, r2, r3, r4⟩ := stays m b hb (by omega) q v hq
      exact ⟨L', v', hx _ _ r1, r2, r3.mono hx, r4⟩
    · obtain ⟨L', v', r1, r2, r3, r4⟩ := stays m x hm hx1 q v hq
      exact ⟨L', v', hx _ _ r1, r2, r3.mono hx, r4⟩
  · rcases get_updApp hij hm with ⟨rfl, rfl⟩ | ⟨rfl, rfl⟩ | ⟨n1, n2, hm⟩
    · rw [setLoc_same] at hL'; injection hL' with hL'; subst hL'; exact h.esz i b L hb (by omega) hL
    · rw [setLoc_other _ hij] at hL'; exact h.esz m b L' hb (by omega) hL'
    · rw [setLoc_other _ n2] at hL'; exact h.esz m x L' hm hx1 hL'
  · rcases get_updApp hij hm with ⟨rfl, rfl⟩ | ⟨rfl, rfl⟩ | ⟨n1, n2, hm⟩
    · obtain ⟨c', q1, q2⟩ := heap_setCells_at vs' b.cells.length w c hheap
      exact .inr ⟨L, k, c', e, setLoc_same _ _ _, hk, hBk, q1, by omega, by simp only [List.length_append]; omega⟩
    · simp at hx2
    · rcases h.own m x hm hx2 with ⟨q1, q2⟩ | ⟨L', k', c', e', q1, q2, q3, q4, q5⟩
      · exact .inl ⟨by rw [setLoc_other _ n2]; exact q1, q2⟩
      · refine .inr ⟨L', k', c', e', hx _ _ q1, q2, q3, ?_, q5⟩
        have : k' ≠ k := by
          rintro rfl
          rcases h.apart i b m x L L' hb hm h2 (by omega) (.inl hx2) hL q1 (by rw [hk, q2]) with g | ⟨g, _⟩
          · exact n1 g
          · omega
        rw [heap_setCells_ne vs' _ w k' this]; exact q4
  · -- whose memory is it?
    have own1 : ∀ (m : Nat) (x : Blk) (L' : Loc), get H m = some x → 1 ≤ x.st → (x.st = 2 ∨ x.cells ≠ []) → μ m = some L' → L'.at_.block = k → m = i ∨ (x.st = 1 ∧ m ∈ b.par ∧ L' = L ∧ x.cells.length ≤ b.cells.length) := by
      intro m x L' hm hx1 hne hL' he
      exact h.apart i b m x L L' hb hm h2 hx1 hne hL hL' (by rw [hk]; exact he.symm)
    rcases get_updApp hij hm with ⟨rfl, rfl⟩ | ⟨rfl, rfl⟩ | ⟨n1, n2, hm2⟩
    · rw [setLoc_same] at hL1; injection hL1 with hL1; subst hL1
      rcases get_updApp hij hm' with ⟨rfl, rfl⟩ | ⟨rfl, rfl⟩ | ⟨p1, p2, hm'⟩
      · exact .inl rfl
      · rw [setLoc_other _ hij] at hL2; rw [hL] at hL2; injection hL2 with hL2
        exact .inr ⟨rfl, by simp, hL2.symm, by simp⟩
      · rw [setLoc_other _ p2] at hL2
        rcases own1 m' x' L2 hm' hx1 hne hL2 (by rw [← he, hk]) with g | ⟨g1, g2, g3, g4⟩
        · exact absurd g p1
        · exact .inr ⟨g1, by simp [g2], g3, by simp only [List.length_append]; omega⟩
    · simp at hx2
    · rw [setLoc_other _ n2] at hL1
      rcases get_updApp hij hm' with ⟨rfl, rfl⟩ | ⟨rfl, rfl⟩ | ⟨p1, p2, hm3⟩
      · rw [setLoc_same] at hL2; injection hL2 with hL2; subst hL2
        rcases own1 m x L1 hm2 (by omega) (.inl hx2) hL1 (by rw [he, hk]) with g | ⟨g, _⟩
        · exact absurd g n1
        · omega
      · rw [setLoc_other _ hij] at hL2; rw [hL] at hL2; injection hL2 with hL2; subst hL2
        rcases own1 m x L1 hm2 (by omega) (.inl hx2) hL1 (by rw [he, hk]) with g | ⟨g, _⟩
        · exact absurd g n1
        · omega
      · rw [setLoc_other _ p2] at hL2
        exact h.apart m x m' x' L1 L2 hm2 hm3 hx2 hx1 hne hL1 hL2 he
end Go.Am
