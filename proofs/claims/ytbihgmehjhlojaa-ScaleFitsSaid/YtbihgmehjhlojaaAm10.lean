/-
An abstract machine over the kit's wp calculus, part 10: calls.
-/
import Derived.Test.YtbihgmehjhlojaaAm9
set_option linter.unusedVariables false
set_option linter.unusedSimpArgs false
namespace Go.Am
open Go Go.RowKit

/-- function g, its text -/
structure Has (P : Program) (g : FuncId) (fn : Func) (c : Code) : Prop where
  hfn : P.funcs[g]? = some fn
  hbody : fn.body = some c
  hname : (fn.name == "runtime.NumGoroutine") = false

theorem run_callFunc {P : Program} {g : FuncId} {fn : Func} {c : Code} (h : Has P g fn c) (args : Array Value) (w : World) : (callFunc g args).run P w = .ok (.enter g args) w := by
  have hn : ¬ (fn.body.isNone = true) := by rw [h.hbody]; simp
  have hname : ¬ ((fn.name == "runtime.NumGoroutine") = true) := by rw [h.hname]; simp
  unfold callFunc
  simp only [Sem.run_bind, run_program, Result.andThen_ok, h.hfn]
  rw [Sem.run_ite, if_neg hname, Sem.run_ite, if_neg hn]
  rfl
theorem run_call {P : Program} {o : Oper} {fo : Operand} {aos : Array Operand} {ats : Array TypeId} (ho : o.op = .call { callee := .value fo, args := aos, argTypes := ats }) {a : Act} {g : FuncId} {caps : Array Value} (hf : a.eval fo = .func (.func g) #[] caps)
    {fn : Func} {c : Code} (hg : Has P g fn c) (w : World) : (execOp a.eval o).run P w = .ok (.enter g (aos.map a.eval ++ caps)) w := by
  simp only [execOp, ho, resolve, Sem.run_bind, hf, Deferred.ofValue, Sem.run_pure, Result.andThen_ok, invoke, Array.empty_append, run_callFunc hg]

/-- a heap of a contract in the caller's numbers -/
def HMapN (nl : Nat → Bool) (ρ : Nat → Nat) (n0 : Nat) (H0 hp : Heap) : Prop :=
  ∀ i b, get H0 i = some b → i < n0 ∧ b.st ≤ 1 ∧ (1 ≤ b.st → (nl i = true ∧ b.cells = []) ∨ (nl i = false ∧ ∃ b', get hp (ρ i) = some b' ∧ 1 ≤ b'.st ∧ b'.esz = b.esz ∧ b.cells.length = b'.cells.length ∧ ∀ (j : Nat) (v : Value), b.cells[j]? = some v → cell1 v = true ∧ ∃ u, b'.cells[j]? = some u ∧ ∀ μ c, VRel μ u c → VRel (fun i => if i < n0 ∧ nl i = false then μ (ρ i) else none) v c))
def HMap (ρ : Nat → Nat) (n0 : Nat) (H0 hp : Heap) : Prop :=
  ∀ i b, get H0 i = some b → i < n0 ∧ b.st ≤ 1 ∧ (1 ≤ b.st → b.cells.all (shp1 n0) = true ∧ ∃ b', get hp (ρ i) = some b' ∧ 1 ≤ b'.st ∧ b'.cells = b.cells.map (ren1 ρ) ∧ b'.esz = b.esz)
def newIds (ρ : Nat → Nat) (n0 lo : Nat) : Nat → Nat := fun i => if i < n0 then ρ i else lo + (i - n0)
def renBlk (ρ : Nat → Nat) (b : Blk) : Blk := { cells := b.cells.map (ren1 ρ), st := b.st, par := [], esz := b.esz }
def renHeap (ρ : Nat → Nat) (H : Heap) : Heap := H.map fun p => (ρ p.1, renBlk ρ p.2)
/-- what is made: new numbers, each once -/
def NewOK (n0 k : Nat) (new : Heap) : Prop := new.all (fun p => decide (n0 ≤ p.1 ∧ p.1 < n0 + k) && p.2.cells.all (shp1 (n0 + k)) && decide (p.2.st = 2) && p.2.par.isEmpty) = true ∧ (new.map (·.1)).Nodup

theorem get_mem {α : Type} {l : List (Nat × α)} {i : Nat} {v : α} (h : get l i = some v) : (i, v) ∈ l := by
  induction l with
  | nil => simp [get] at h
  | cons p r ih =>
    obtain ⟨j, u⟩ := p
    simp only [get] at h
    split at h
    · rename_i e; injection h with h; subst h; subst e; simp
    · exact List.mem_cons_of_mem _ (ih h)
theorem get_of_mem {α : Type} {l : List (Nat × α)} (hn : (l.map (·.1)).Nodup) {i : Nat} {v : α} (h : (i, v) ∈ l) : get l i = some v := by
  induction l with
  | nil => simp at h
  | cons p r ih =>
    obtain ⟨j, u⟩ := p
    simp only [List.map_cons, List.nodup_cons] at hn
    simp only [get]
    rcases List.mem_cons.1 h with e | h
    · injection e with e1 e2; subst e1; subst e2; simp
    · have : j ≠ i := by rintro rfl; exact hn.1 (List.mem_map.2 ⟨_, h, rfl⟩)
      rw [if_neg this]; exact ih hn.2 h
theorem lastOf_mem {l : Heap} : ∀ {i : Nat} {d : Option Blk} {v : Blk}, lastOf l i d = some v → (i, v) ∈ l ∨ d = some v := by
  induction l with
  | nil => intro i d v h; exact .inr h
  | cons p r ih =>
    intro i d v h
    obtain ⟨k, u⟩ := p
    simp only [lastOf] at h
    rcases ih h with g | g
    · exact .inl (List.mem_cons_of_mem _ g)
    · split at g
      · rename_i e; injection g with g; subst g; subst e; exact .inl (by simp)
      · exact .inr g
theorem lastOf_none {l : Heap} : ∀ {i : Nat} {d : Option Blk}, (∀ v, (i, v) ∉ l) → lastOf l i d = d := by
  induction l with
  | nil => intro i d h; rfl
  | cons p r ih =>
    intro i d h
    obtain ⟨k, u⟩ := p
    simp only [lastOf]
    rw [ih fun v hv => h v (List.mem_cons_of_mem _ hv)]
    rw [if_neg]
    rintro rfl
    exact h u (by simp)

/-- A CALL BY WHAT IS KNOWN OF THE FUNCTION; some of its rows may be nil here. -/
theorem call_gen {P : Program} {g : FuncId} {args0 : List Value} {H0 : Heap} {n0 : Nat} {v0 : Value} {new0 : Heap} (hF : FnOK P g args0 H0 n0 v0 new0) {fn : Func} {c : Code} (hg : Has P g fn c)
    {o : Oper} {fo : Operand} {aos : Array Operand} {ats : Array TypeId} (ho : o.op = .call { callee := .value fo, args := aos, argTypes := ats }) {ts : List (Nat × Value)} {hp : Heap} {caps : Array Value} (hf : ev ts fo = some (.func (.func g) #[] caps))
    {vs : List Value} (ha : aos.toList.mapM (ev ts) = some vs) (nl : Nat → Bool) (ρ : Nat → Nat) (hargs : ∀ μ c, VRels μ (vs ++ caps.toList) c → VRels (fun i => if i < n0 ∧ nl i = false then μ (ρ i) else none) args0 c) (hH : HMapN nl ρ n0 H0 hp) (lo k : Nat)
    (hv0 : shp (n0 + k) v0 = true) (hnew : NewOK n0 k new0) :
    OpOK P o ts hp lo (lo + k) { val := some (ren (newIds ρ n0 lo) v0), upd := renHeap (newIds ρ n0 lo) new0 } := by
  intro B w0 μ F ts' hp' nt a w next Q htl hhl hr hF' hd hk
  have hfr := ev_ok hr.t (ev_le htl hf)
  obtain ⟨caps', ef, _, hcaps⟩ := hfr.funcOf
  have hvs := mapM_ev hr.t (mapM_ev_le htl ha)
  -- the callee's reading
  let μ0 : Nat → Option Loc := fun i => if i < n0 ∧ nl i = false then μ (ρ i) else none
  have hm0 : ∀ i L, μ0 i = some L → i < n0 ∧ μ (ρ i) = some L := fun i L hL => by
    simp only [μ0] at hL
    split at hL
    · rename_i hc; exact ⟨hc.1, hL⟩
    · cases hL
  have hall : VRels μ0 args0 (aos.toList.map a.eval ++ caps'.toList) := hargs μ _ (hvs.append hcaps)
  have hH0 : HRel w.heap.size μ0 H0 w := by
    refine ⟨fun i b hi h1 j v hj => ?_, fun i b L hi h1 hL => ?_, fun i b hi h2 => ?_, fun i b j b' L L' hi hj h2 => ?_⟩
    · obtain ⟨hin, _, hx⟩ := hH i b hi
      rcases hx h1 with ⟨_, hemp⟩ | ⟨hnl, b', g1, g2, g3, g4, g5⟩
      · rw [hemp] at hj; simp at hj
      · obtain ⟨hc1, u, hu, hrel⟩ := g5 j v hj
        obtain ⟨L, v', q1, q2, q3, q4⟩ := hr.h.get1 hhl g1 g2 hu
        exact ⟨L, v', by simp only [μ0]; rw [if_pos ⟨hin, hnl⟩]; exact q1, q2, hrel μ v' q3, hc1⟩
    · obtain ⟨hin, _, hx⟩ := hH i b hi
      obtain ⟨_, hL'⟩ := hm0 i L hL
      rcases hx h1 with ⟨hnl, _⟩ | ⟨hnl, b', g1, g2, g3, g4, g5⟩
      · simp only [μ0] at hL; rw [if_neg (by rw [hnl]; simp)] at hL; cases hL
      · obtain ⟨b2, f1, f2, f3, f4, f5⟩ := hhl (ρ i) b' g1 g2
        rw [hr.h.esz (ρ i) b2 L f1 (by omega) hL', f4, g3]
    · have := (hH i b hi).2.1; omega
    · have := (hH i b hi).2.1; omega
  have hcall := hF μ0 w _ hall hH0 fun i hi => by simp only [μ0]; rw [if_neg (fun q => by have := q.1; omega)]
  have eargs : (aos.toList.map a.eval ++ caps'.toList).toArray = aos.map a.eval ++ caps' := by apply Array.ext'; simp
  rw [eargs] at hcall
  unfold Oper.wp
  rw [run_call ho ef hg w, Oper.upon_enter]
  refine hcall.mono ?_
  rintro e w' ⟨μ1, v', rfl, hx1, hv', hHn, hbel⟩
  -- the caller's reading behind the call
  let μ2 : Nat → Option Loc := fun j => if lo ≤ j ∧ j < lo + k then μ1 (n0 + (j - lo)) else μ j
  have hfree : ∀ j, lo ≤ j → j < lo + k → μ j = none := fun j h1 h2 => hr.free j (hF' j h1 h2)
  have hext : Ext μ μ2 := fun j L hL => by
    simp only [μ2]
    by_cases hc : lo ≤ j ∧ j < lo + k
    · rw [hfree j hc.1 hc.2] at hL; cases hL
    · rw [if_neg hc]; exact hL
  have hm2 : ∀ i, i < n0 + k → ∀ L, μ1 i = some L → μ2 (newIds ρ n0 lo i) = some L := fun i hi L hL => by
    simp only [newIds]
    by_cases hc : i < n0
    · rw [if_pos hc]
      rw [hx1 i hc] at hL
      exact hext _ _ (hm0 i L hL).2
    · rw [if_neg hc]
      simp only [μ2]
      rw [if_pos (by omega)]
      have : n0 + (lo + (i - n0) - lo) = i := by omega
      rw [this]; exact hL
  have nw : ∀ i b, (i, b) ∈ new0 → n0 ≤ i ∧ i < n0 + k ∧ (∀ v ∈ b.cells, shp1 (n0 + k) v = true) ∧ b.st = 2 ∧ b.par = [] := fun i b hm => by
    have := List.all_eq_true.1 hnew.1 _ hm
    simp only [Bool.and_eq_true, decide_eq_true_eq, List.all_eq_true, List.isEmpty_iff] at this
    exact ⟨this.1.1.1.1, this.1.1.1.2, this.1.1.2, this.1.2, this.2⟩
  -- a block that is told behind the call: an old one, or a new one
  have G : ∀ j x, get (puts hp' (renHeap (newIds ρ n0 lo) new0)) j = some x → (∃ i b, get new0 i = some b ∧ n0 ≤ i ∧ i < n0 + k ∧ j = lo + (i - n0) ∧ x = renBlk (newIds ρ n0 lo) b ∧ (∀ v ∈ b.cells, shp1 (n0 + k) v = true) ∧ b.st = 2 ∧ b.par = []) ∨ get hp' j = some x := by
    intro j x hx
    rw [get_puts] at hx
    rcases lastOf_mem hx with hm | hm
    · obtain ⟨⟨i, b⟩, hm1, hm2⟩ := List.mem_map.1 hm
      injection hm2 with e1 e2
      obtain ⟨p1, p2, p3, p4, p5⟩ := nw i b hm1
      refine .inl ⟨i, b, get_of_mem hnew.2 hm1, p1, p2, ?_, e2.symm, p3, p4, p5⟩
      rw [← e1]; simp only [newIds]; rw [if_neg (by omega)]
    · exact .inr hm
  have hold : HRel B μ hp' w' := hr.h.world hbel.block
  have hsize : w.heap.size ≤ w'.heap.size := hbel.size
  -- old blocks lie below the call's
  have far : ∀ (j : Nat) (b : Blk) (L : Loc), get hp' j = some b → 1 ≤ b.st → (b.st = 2 ∨ b.cells ≠ []) → μ j = some L → L.at_.block < w.heap.size := by
    intro j b L hj h1 hne hL
    rcases hne with hne | hne
    · rcases hr.h.own j b hj hne with ⟨q1, _⟩ | ⟨L', k', c', e', q1, q2, q3, q4, _⟩
      · rw [q1] at hL; cases hL
      · rw [q1] at hL; injection hL with hL; subst hL; rw [q2]; exact (Array.getElem?_eq_some_iff.1 q4).1
    · cases hc : b.cells with
      | nil => exact absurd hc hne
      | cons v r =>
        obtain ⟨L', v', q1, q2, _⟩ := hr.h.read j b hj h1 0 v (by rw [hc]; rfl)
        rw [q1] at hL; injection hL with hL; subst hL
        have := block_lt q2; rwa [add_block] at this
  have fresh : ∀ (j : Nat) (x : Blk), get hp' j = some x → ∀ L, μ2 j = some L → (lo ≤ j ∧ j < lo + k → False) → μ j = some L := fun j x _ L hL hn => by
    simp only [μ2] at hL; rw [if_neg (fun q => hn q)] at hL; exact hL
  have n1 : ∀ i, n0 ≤ i → i < n0 + k → μ2 (lo + (i - n0)) = μ1 i := fun i h1 h2 => by
    simp only [μ2]; rw [if_pos (by omega)]; congr 1; omega
  have hnone : ∀ j x, lo ≤ j → j < lo + k → get hp' j = some x → x.st = 0 := fun j x h1 h2 hx => hr.dom j x (hF' j h1 h2) hx
  have old2 : ∀ j x L, get hp' j = some x → 1 ≤ x.st → μ2 j = some L → μ j = some L := fun j x L hj h1 hL => fresh j x hj L hL fun q => by
    have := hnone j x q.1 q.2 hj; omega
  have hHeap : HRel B μ2 (puts hp' (renHeap (newIds ρ n0 lo) new0)) w' := by
    refine ⟨fun j x hj h1 m v hm => ?_, fun j x L hj h1 hL => ?_, fun j x hj h2 => ?_, fun j x j' x' L L' hj hj' h2 h1 hne hL hL' hkk => ?_⟩
    · rcases G j x hj with ⟨i, b, g1, g2, g3, rfl, rfl, g4, g5, g6⟩ | hj
      · simp only [renBlk, List.getElem?_map] at hm
        obtain ⟨u, hu, rfl⟩ := Option.map_eq_some_iff.1 hm
        obtain ⟨L, v2, q1, q2, q3, q4⟩ := hHn.read i b g1 h1 m u hu
        have hs := g4 u (List.mem_of_getElem? hu)
        refine ⟨L, v2, by rw [n1 i g2 g3]; exact q1, q2, ren1_to hm2 hs q3, ?_⟩
        rcases shp1_cases hs with ⟨fn, cs, rfl, _⟩ | ⟨h0, e⟩
        · rfl
        · rw [e]
          rcases shp0_cases h0 with ⟨i, o, rfl, _⟩ | ⟨i, o, k, q, rfl, _⟩ | hsc
          · rfl
          · rfl
          · rw [ren0_scal hsc]; exact scalar_cell1 hsc
      · obtain ⟨L, v2, q1, q2, q3, q4⟩ := hold.read j x hj h1 m v hm
        exact ⟨L, v2, hext _ _ q1, q2, q3.mono hext, q4⟩
    · rcases G j x hj with ⟨i, b, g1, g2, g3, rfl, rfl, g4, g5, g6⟩ | hj
      · rw [n1 i g2 g3] at hL; exact hHn.esz i b L g1 h1 hL
      · exact hr.h.esz j x L hj h1 (old2 j x L hj h1 hL)
    · rcases G j x hj with ⟨i, b, g1, g2, g3, rfl, rfl, g4, g5, g6⟩ | hj
      · rcases hHn.own i b g1 h2 with ⟨q1, q2⟩ | ⟨L, kk, cc, ee, q1, q2, q3, q4, q5, q6⟩
        · exact .inl ⟨by rw [n1 i g2 g3]; exact q1, by simp [renBlk, q2]⟩
        · exact .inr ⟨L, kk, cc, ee, by rw [n1 i g2 g3]; exact q1, q2, Nat.le_trans hr.size q3, q4, q5, by simpa [renBlk] using q6⟩
      · rcases hold.own j x hj h2 with ⟨q1, q2⟩ | ⟨L, kk, cc, ee, q1, q2⟩
        · refine .inl ⟨?_, q2⟩
          simp only [μ2]
          by_cases hc : lo ≤ j ∧ j < lo + k
          · have := hnone j x hc.1 hc.2 hj; omega
          · rw [if_neg hc]; exact q1
        · exact .inr ⟨L, kk, cc, ee, hext _ _ q1, q2⟩
    · -- a new block of the call's own lies behind all that there was
      have newAt : ∀ i b M, get new0 i = some b → 1 ≤ b.st → b.st = 2 → μ1 i = some M → w.heap.size ≤ M.at_.block := by
        intro i b M g1 g2 g3 g4
        rcases hHn.own i b g1 g3 with ⟨q1, _⟩ | ⟨L, kk, cc, ee, q1, q2, q3, q4⟩
        · rw [q1] at g4; cases g4
        · rw [q1] at g4; injection g4 with g4; subst g4; rw [q2]; exact q3
      rcases G j x hj with ⟨i, b, g1, g2, g3, rfl, rfl, g4, g5, g6⟩ | hj2
      · rw [n1 i g2 g3] at hL
        have a1 := newAt i b L g1 (by simp only [renBlk] at h2; omega) h2 hL
        rcases G j' x' hj' with ⟨i', b', g1', g2', g3', rfl, rfl, g4', g5', g6'⟩ | hj2'
        · rw [n1 i' g2' g3'] at hL'
          rcases hHn.apart i b i' b' L L' g1 g1' h2 h1 (by simpa [renBlk] using hne) hL hL' hkk with q | ⟨_, q, _⟩
          · exact .inl (by rw [q])
          · rw [g6] at q; simp at q
        · have := far j' x' L' hj2' h1 hne (old2 j' x' L' hj2' h1 hL')
          omega
      · have hLo := old2 j x L hj2 (by omega) hL
        have a1 := far j x L hj2 (by omega) (.inl h2) hLo
        rcases G j' x' hj' with ⟨i', b', g1', g2', g3', rfl, rfl, g4', g5', g6'⟩ | hj2'
        · rw [n1 i' g2' g3'] at hL'
          have := newAt i' b' L' g1' (by omega) g5' hL'; omega
        · exact hr.h.apart j x j' x' L L' hj2 hj2' h2 h1 hne hLo (old2 j' x' L' hj2' h1 hL') hkk
  refine hk μ2 _ w' hext (fun i hi => by simp only [μ2]; rw [if_neg hi]) ⟨(hr.t.mono hext).put o.dst hd _ v' (fun x hx => by injection hx with hx; subst hx; exact ren_to hm2 hv0 hv'), hHeap, ?_, Nat.le_trans hr.size hsize, fun i hi => ?_, fun j x hj => ?_, fun j x hi hj => ?_⟩
  · exact hr.below.trans ⟨hbel.mono hr.size, (Kept.of_below hbel).o⟩
  · simp only [μ2]; rw [if_neg hi.2]; exact hr.free i hi.1
  · rcases G j x hj with ⟨i, b, _, _, _, _, rfl, _, h2, _⟩ | hj
    · show b.st ≤ 2; omega
    · exact hr.st j x hj
  · rcases G j x hj with ⟨i, b, _, h1, h2, rfl, _⟩ | hj
    · exact absurd ⟨by omega, by omega⟩ hi.2
    · exact hr.dom j x hi.1 hj
/-- A CALL BY WHAT IS KNOWN OF THE FUNCTION. -/
theorem call_pure {P : Program} {g : FuncId} {args0 : List Value} {H0 : Heap} {n0 : Nat} {v0 : Value} {new0 : Heap} (hF : FnOK P g args0 H0 n0 v0 new0) {fn : Func} {c : Code} (hg : Has P g fn c)
    {o : Oper} {fo : Operand} {aos : Array Operand} {ats : Array TypeId} (ho : o.op = .call { callee := .value fo, args := aos, argTypes := ats }) {ts : List (Nat × Value)} {hp : Heap} {caps : Array Value} (hf : ev ts fo = some (.func (.func g) #[] caps))
    {vs : List Value} (ha : aos.toList.mapM (ev ts) = some vs) (ρ : Nat → Nat) (hargs : vs ++ caps.toList = args0.map (ren ρ)) (hsh : args0.all (shp n0) = true) (hH : HMap ρ n0 H0 hp) (lo k : Nat)
    (hv0 : shp (n0 + k) v0 = true) (hnew : NewOK n0 k new0) :
    OpOK P o ts hp lo (lo + k) { val := some (ren (newIds ρ n0 lo) v0), upd := renHeap (newIds ρ n0 lo) new0 } := by
  have hm : ∀ (μ : Nat → Option Loc) (i : Nat), i < n0 → ∀ L, μ (ρ i) = some L → (fun i => if i < n0 ∧ (fun _ : Nat => false) i = false then μ (ρ i) else none) i = some L := fun μ i hi L hL => by simp only; rw [if_pos ⟨hi, trivial⟩]; exact hL
  refine call_gen hF hg ho hf ha (fun _ => false) ρ (fun μ c hc => ?_) (fun i b hi => ?_) lo k hv0 hnew
  · rw [hargs] at hc
    exact rel_map (fun v hv c hc => ren_of (hm μ) (List.all_eq_true.1 hsh v hv) hc) hc
  · obtain ⟨hin, h2, hx⟩ := hH i b hi
    refine ⟨hin, h2, fun h1 => .inr ⟨rfl, ?_⟩⟩
    obtain ⟨hs, b', g1, g2, g3, g4⟩ := hx h1
    refine ⟨b', g1, g2, g4, by rw [g3]; simp, fun j v hj => ?_⟩
    have hv := List.all_eq_true.1 hs v (List.mem_of_getElem? hj)
    refine ⟨?_, ren1 ρ v, by rw [g3]; simp [hj], fun μ c hc => ren1_of (hm μ) hv hc⟩
    rcases shp1_cases hv with ⟨fn, cs, rfl, _⟩ | ⟨h0, e⟩
    · rfl
    · rcases shp0_cases h0 with ⟨i, o, rfl, _⟩ | ⟨i, o, k, q, rfl, _⟩ | hsc
      · rfl
      · rfl
      · exact scalar_cell1 hsc
end Go.Am
