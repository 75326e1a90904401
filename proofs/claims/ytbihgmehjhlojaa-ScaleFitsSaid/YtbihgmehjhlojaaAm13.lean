/-
An abstract machine over the kit's wp calculus, part 13: what a call comes to, in the caller's own numbers.
-/
import Derived.Test.YtbihgmehjhlojaaAm12
set_option linter.unusedVariables false
set_option linter.unusedSimpArgs false
namespace Go.Am
open Go Go.RowKit

/-- less is told; of what may share memory only what is told counts -/
def Sub (H H' : Heap) : Prop := ∀ i b, get H i = some b → 1 ≤ b.st → ∃ b', get H' i = some b' ∧ b'.cells = b.cells ∧ b'.esz = b.esz ∧ b.st ≤ b'.st ∧ ∀ j, j ∈ b'.par → j ∈ b.par ∨ ∀ x, get H j = some x → x.st = 0
theorem HRel.sub {B : Nat} {μ : Nat → Option Loc} {H H' : Heap} {w : World} (h : HRel B μ H' w) (hs : ∀ i b, get H' i = some b → b.st ≤ 2) (hl : Sub H H') : HRel B μ H w := by
  refine ⟨fun i b hb h1 j v hv => ?_, fun i b L hb h1 hm => ?_, fun i b hb h2 => ?_, fun i b j b' L L' hb hb' h2 h1 hne hi hj hk => ?_⟩
  · obtain ⟨b', hb', e1, e3, e4, e2⟩ := hl i b hb h1
    exact h.read i b' hb' (by omega) j v (by rw [e1]; exact hv)
  · obtain ⟨b', hb', e1, e3, e4, e2⟩ := hl i b hb h1
    rw [← e3]
    exact h.esz i b' L hb' (by omega) hm
  · obtain ⟨b', hb', e1, e3, e4, e2⟩ := hl i b hb (by omega)
    have := hs i b' hb'
    rw [← e1]
    exact h.own i b' hb' (by omega)
  · obtain ⟨c, hc, e1, e3, e4, e2⟩ := hl i b hb (by omega)
    obtain ⟨c', hc', f1, f3, f4, f2⟩ := hl j b' hb' h1
    have s1 := hs i c hc
    have s2 := hs j c' hc'
    rcases h.apart i c j c' L L' hc hc' (by omega) (by omega) (by rcases hne with hne | hne; exact .inl (by omega); exact .inr (by rw [f1]; exact hne)) hi hj hk with q | ⟨q1, q2, q3, q4⟩
    · exact .inl q
    · rcases e2 j q2 with g | g
      · exact .inr ⟨by omega, g, q3, by rw [← e1, ← f1]; exact q4⟩
      · have := g b' hb'; omega
theorem FnOK.of_trS {P : Program} {g : FuncId} {fn : Func} {c : Code} {args : List Value} {H : Heap} {nI : Nat} {v : Value} {new : Heap} (hf : P.funcs[g]? = some fn) (hb : fn.body = some c) (hn : args.length ≤ fn.ntmps) (hst : ∀ i b, get H i = some b → b.st ≤ 1 ∧ i < nI)
    (h : Tr P none ⟨fn.ntmps, []⟩ nI c { ts := argTs 0 args, hp := H, nx := nI } fun ex s => (ex = .ret ∨ ex = .normal) ∧ resOf P fn.results.toList s = some v ∧ Sub new s.hp) : FnOK P g args H nI v new := by
  intro μ w cargs hargs hH hfree
  refine calls_of_wp hf hb ((wpIn_wide (n := 0)).1 (h 0 w.heap.size w μ _ w _ ⟨⟨rfl, ?_, fun t x hx => ?_⟩, hH, Kept.refl _ _, Nat.le_refl _, fun i hi => hfree i hi, fun i b hb => by have := (hst i b hb).1; omega, fun i b hi hb => by have := (hst i b hb).2; have : nI ≤ i := hi; omega⟩ fun ex s μ' a' w' hK hx hr => ?_))
  · have := hargs.1; simp; omega
  · obtain ⟨_, h2⟩ := get_argTs args 0 t x hx
    obtain ⟨v', h3, h4⟩ := hargs.get h2
    refine ⟨v', ?_, h4⟩
    rw [Array.getElem?_append_left (by simpa using (List.getElem?_eq_some_iff.1 h3).1)]
    simpa using h3
  · obtain ⟨hex, hres, hle⟩ := hK
    obtain ⟨v', h1, h2⟩ := res_ok hr hres
    rcases hex with rfl | rfl
    · exact ⟨hr.t.defers, v', h1, μ', v', rfl, hx, h2, hr.h.sub hr.st hle, hr.below.b⟩
    · exact ⟨hr.t.defers, v', h1, μ', v', rfl, hx, h2, hr.h.sub hr.st hle, hr.below.b⟩

theorem ren0_id {ρ : Nat → Nat} (h : ∀ i, ρ i = i) (v : Value) : ren0 ρ v = v := by
  unfold ren0
  split
  · rw [h]
  · rw [h]
  · rfl
theorem ren1_id {ρ : Nat → Nat} (h : ∀ i, ρ i = i) (v : Value) : ren1 ρ v = v := by
  unfold ren1
  split
  · rename_i fn cs
    have : cs.toList.map (ren0 ρ) = cs.toList := by
      rw [show ren0 ρ = id from funext (ren0_id h)]; simp
    rw [this]
  · exact ren0_id h _
theorem ren2_id {ρ : Nat → Nat} (h : ∀ i, ρ i = i) (v : Value) : ren2 ρ v = v := by
  unfold ren2
  split
  · rename_i cs
    have : cs.toList.map (ren1 ρ) = cs.toList := by
      rw [show ren1 ρ = id from funext (ren1_id h)]; simp
    rw [this]
  · exact ren1_id h _
theorem ren_id {ρ : Nat → Nat} (h : ∀ i, ρ i = i) (v : Value) : ren ρ v = v := by
  unfold ren
  split
  · rename_i cs
    have : cs.toList.map (ren2 ρ) = cs.toList := by
      rw [show ren2 ρ = id from funext (ren2_id h)]; simp
    rw [this]
  · exact ren2_id h _

/-- a heap that is handed on: its blocks are read alone -/
def HIn (nx : Nat) (H hp : Heap) : Prop := ∀ i b, get H i = some b → i < nx ∧ b.st = 1 ∧ b.cells.all (shp1 nx) = true ∧ ∃ b', get hp i = some b' ∧ 1 ≤ b'.st ∧ b'.cells = b.cells ∧ b'.esz = b.esz
/-- whatever call of g it is -/
def CallSem (P : Program) (g : FuncId) (args : List Value) (H : Heap) (nx nx' : Nat) (v : Value) (new : Heap) : Prop :=
  ∀ (o : Oper) (fo : Operand) (aos : Array Operand) (ats : Array TypeId) (ts : List (Nat × Value)) (hp : Heap) (caps : Array Value) (vs : List Value), o.op = .call { callee := .value fo, args := aos, argTypes := ats } → ev ts fo = some (.func (.func g) #[] caps) →
    aos.toList.mapM (ev ts) = some vs → vs ++ caps.toList = args → HIn nx H hp → args.all (shp nx) = true → OpOK P o ts hp nx nx' { val := some v, upd := new }
theorem callSem_of_fn {P : Program} {g : FuncId} {args : List Value} {H : Heap} {nx nx' : Nat} {v : Value} {new : Heap} (hF : FnOK P g args H nx v new) {fn : Func} {c : Code} (hg : Has P g fn c) (hn : nx ≤ nx') (hv : shp nx' v = true) (hnew : NewOK nx (nx' - nx) new) : CallSem P g args H nx nx' v new := by
  intro o fo aos ats ts hp caps vs ho hf ha hargs hH hsh
  have e : nx + (nx' - nx) = nx' := by omega
  have := call_pure hF hg ho hf ha id (by rw [hargs, show ren id = id from funext (ren_id fun _ => rfl)]; simp) hsh (H0 := H) (hp := hp) (fun i b hi => by
    obtain ⟨h1, h2, h3, b', h4, h5, h6, h7⟩ := hH i b hi
    refine ⟨h1, by omega, fun _ => ⟨h3, b', h4, h5, ?_, h7⟩⟩
    rw [h6, show ren1 id = id from funext (ren1_id fun _ => rfl)]; simp) nx (nx' - nx) (by rw [e]; exact hv) hnew
  have hid : ∀ i, newIds id nx nx i = i := fun i => by simp only [newIds]; exact (by split; exact rfl; omega)
  rw [e, ren_id hid] at this
  have hnh : renHeap (newIds id nx nx) new = new := by
    unfold renHeap
    have : ∀ p ∈ new, (newIds id nx nx p.1, renBlk (newIds id nx nx) p.2) = p := fun p hp => by
      have hq := List.all_eq_true.1 hnew.1 p hp
      simp only [Bool.and_eq_true, List.isEmpty_iff] at hq
      obtain ⟨i, b⟩ := p
      rw [hid]
      unfold renBlk
      rw [show ren1 (newIds id nx nx) = id from funext (ren1_id hid)]
      obtain ⟨cells, st, par, esz⟩ := b
      simp only at hq
      simp [hq.2]
    rw [List.map_congr_left this]; simp
  rw [hnh] at this
  exact this

/-- a function of the library that the model gives, of plain values -/
theorem callSem_of_ext {P : Program} {g : FuncId} {args : List Value} {H : Heap} {nx : Nat} {v : Value} (hrun : ∀ w, (callFunc g args.toArray).run P w = .ok (.value v) w) (hfa : args.all flat = true) (hv : flat v = true) : CallSem P g args H nx nx v [] := by
  intro o fo aos ats ts hp caps vs ho hf ha hargs hH hsh
  refine OpOK.pure fun μ B H' ts' nt a w htl _ _ hT _ => ⟨v, ?_, .flat v hv⟩
  have hfr := ev_ok hT (ev_le htl hf)
  obtain ⟨caps', ef, _, hcaps⟩ := hfr.funcOf
  have hvs := mapM_ev hT (mapM_ev_le htl ha)
  have hall := hvs.append hcaps
  rw [hargs] at hall
  have heq : ∀ {l l' : List Value}, VRels μ l l' → l.all flat = true → l' = l := by
    intro l
    induction l with
    | nil => intro l' h _; exact h.of_nil
    | cons x r ih =>
      intro l' h hx
      obtain ⟨x', r', rfl, h1, h2⟩ := h.of_cons
      simp only [List.all_cons, Bool.and_eq_true] at hx
      rw [h1.flatEq hx.1, ih h2 hx.2]
  have e := heq hall hfa
  have e2 : aos.map a.eval ++ caps' = args.toArray := by rw [← e]; apply Array.ext'; simp
  simp only [execOp, ho, resolve, Sem.run_bind, ef, Deferred.ofValue, Sem.run_pure, Result.andThen_ok, invoke, Array.empty_append, e2]
  exact hrun w
end Go.Am
