/-
An abstract machine over the kit's wp calculus, part 17: code on states that are not closed. Where the run would have to know more, it is told an answer, with its proof.
-/
import Derived.Test.YtbihgmehjhlojaaAm15
set_option linter.unusedVariables false
set_option linter.unusedSimpArgs false
namespace Go.Am
open Go Go.RowKit

/-- what the run found, to be held against what an answer speaks of -/
inductive Cl
  | v (x : Value)
  | l (x : List Value)
  | n (x : Nat)
  | p (x : Op)
  | c (x : Code)

/-- whatever call of g it is, in a heap that holds this -/
def CallAt (P : Program) (g : FuncId) (args : List Value) (H : Heap) (nx nx' : Nat) (v : Value) (new : Heap) : Prop :=
  ∀ (o : Oper) (fo : Operand) (aos : Array Operand) (ats : Array TypeId) (ts : List (Nat × Value)) (hp : Heap) (caps : Array Value) (vs : List Value), o.op = .call { callee := .value fo, args := aos, argTypes := ats } → ev ts fo = some (.func (.func g) #[] caps) →
    aos.toList.mapM (ev ts) = some vs → vs ++ caps.toList = args → HLe H hp → OpOK P o ts hp nx nx' { val := some v, upd := new }

/-! ### other numbers, fewer things -/
def rho (ρ : List (Nat × Nat)) (i : Nat) : Nat := (get ρ i).getD i
def renL (ρ : List (Nat × Nat)) (v : Value) : Value :=
  match ρ with
  | [] => v
  | ρ => ren (rho ρ) v
/-- a state's values and cells bear numbers below its nx, and cells none that is changed -/
structure Clean (ρ : List (Nat × Nat)) (σ : AS) : Prop where
  t : ∀ p ∈ σ.ts, shp σ.nx p.2 = true
  h : ∀ p ∈ σ.hp, p.1 < σ.nx ∧ ∀ v ∈ p.2.cells, shp1 σ.nx v = true ∧ ren1 (rho ρ) v = v
def fitT (ρ : List (Nat × Nat)) (ts : List (Nat × Value)) : List (Nat × Value) → Option (List (Cl × Cl))
  | [] => some []
  | (t, v) :: r =>
    match get ts t with
    | some w => match fitT ρ ts r with
      | some cs => some ((.v w, .v (renL ρ v)) :: cs)
      | none => none
    | none => none
def fitH (ρ : List (Nat × Nat)) (hp all : Heap) : Heap → Option (List (Cl × Cl))
  | [] => some []
  | (i, b) :: r =>
    match get hp (rho ρ i) with
    | some b' =>
      if b.st ≤ b'.st && b'.esz == b.esz && all.all (fun q => !b'.par.contains (rho ρ q.1) || b.par.contains q.1) then
        match fitH ρ hp all r with
        | some cs => some ((.l b'.cells, .l b.cells) :: cs)
        | none => none
      else none
    | none => none
def noDup : List Nat → Bool
  | [] => true
  | i :: r => !r.contains i && noDup r
theorem noDup_ok : ∀ {l : List Nat}, noDup l = true → l.Nodup
  | [], _ => List.nodup_nil
  | i :: r, h => by
    simp only [noDup, Bool.and_eq_true] at h
    exact List.nodup_cons.2 ⟨by simpa using h.1, noDup_ok h.2⟩
/-- does a state fit what is told of it? what remains to be held one against the other -/
def fit (ρ : List (Nat × Nat)) (nI : Nat) (σ σ0 : AS) : Option (List (Cl × Cl)) :=
  if decide (nI ≤ σ0.nx) && decide (σ0.nx ≤ σ.nx) && ρ.all (fun p => decide (nI ≤ p.1)) && noDup (σ0.hp.map fun p => rho ρ p.1) && noDup (σ0.hp.map (·.1)) then
    match fitT ρ σ.ts σ0.ts with
    | some a => match fitH ρ σ.hp σ0.hp σ0.hp with
      | some b => some (a ++ b)
      | none => none
    | none => none
  else none
theorem fitT_ok {ρ : List (Nat × Nat)} {ts : List (Nat × Value)} : ∀ {l : List (Nat × Value)} {cs : List (Cl × Cl)}, fitT ρ ts l = some cs → (∀ p ∈ cs, p.1 = p.2) → ∀ p ∈ l, get ts p.1 = some (renL ρ p.2)
  | [], cs, h, hc, p, hp => by simp at hp
  | (t, v) :: r, cs, h, hc, p, hp => by
    simp only [fitT] at h
    split at h
    · rename_i w hw
      split at h
      · rename_i c2 h2
        injection h with h; subst h
        rcases List.mem_cons.1 hp with rfl | hp
        · have := hc _ (List.mem_cons_self ..)
          injection this with this
          simp only; rw [hw, this]
        · exact fitT_ok h2 (fun q hq => hc q (List.mem_cons_of_mem _ hq)) p hp
      · cases h
    · cases h
theorem fitH_ok {ρ : List (Nat × Nat)} {hp all : Heap} : ∀ {l : Heap} {cs : List (Cl × Cl)}, fitH ρ hp all l = some cs → (∀ p ∈ cs, p.1 = p.2) → ∀ p ∈ l, ∃ b', get hp (rho ρ p.1) = some b' ∧ b'.cells = p.2.cells ∧ b'.esz = p.2.esz ∧ p.2.st ≤ b'.st ∧ ∀ q ∈ all, rho ρ q.1 ∈ b'.par → q.1 ∈ p.2.par
  | [], cs, h, hc, p, hp => by simp at hp
  | (i, b) :: r, cs, h, hc, p, hp' => by
    simp only [fitH] at h
    split at h
    · rename_i b' hb
      split at h
      · rename_i hcond
        simp only [Bool.and_eq_true, decide_eq_true_eq, beq_iff_eq, List.all_eq_true, Bool.or_eq_true, Bool.not_eq_true', List.contains_eq_mem] at hcond
        split at h
        · rename_i c2 h2
          injection h with h; subst h
          rcases List.mem_cons.1 hp' with rfl | hp'
          · have := hc _ (List.mem_cons_self ..)
            injection this with this
            refine ⟨b', hb, this, hcond.1.2, hcond.1.1, fun q hq hm => ?_⟩
            rcases hcond.2 q hq with g | g
            · simp at g; exact absurd hm g
            · simpa using g
          · exact fitH_ok h2 (fun q hq => hc q (List.mem_cons_of_mem _ hq)) p hp'
        · cases h
      · cases h
    · cases h
theorem Imp.fit {ρ : List (Nat × Nat)} {nI : Nat} {nt : NT} {σ σ0 : AS} {cs : List (Cl × Cl)} (h : fit ρ nI σ σ0 = some cs) (hc : ∀ p ∈ cs, p.1 = p.2) (hcl : (ρ = [] ∧ σ0.nx = σ.nx) ∨ Clean ρ σ0) : Imp nI nt σ σ0 := by
  unfold Am.fit at h
  split at h
  · rename_i hcond
    simp only [Bool.and_eq_true, decide_eq_true_eq, List.all_eq_true] at hcond
    obtain ⟨⟨⟨⟨c1, c2⟩, c3⟩, c4⟩, c5⟩ := hcond
    split at h
    · rename_i ca ha
      split at h
      · rename_i cb hb
        injection h with h; subst h
        have hT := fitT_ok ha fun p hp => hc p (List.mem_append.2 (.inl hp))
        have hH := fitH_ok hb fun p hp => hc p (List.mem_append.2 (.inr hp))
        have n4 := noDup_ok c4
        have n5 := noDup_ok c5
        have rinj : ∀ p ∈ σ0.hp, ∀ q ∈ σ0.hp, rho ρ p.1 = rho ρ q.1 → p.1 = q.1 := by
          intro p hp q hq he
          obtain ⟨i, hi, rfl⟩ := List.mem_iff_getElem.1 hp
          obtain ⟨j, hj, rfl⟩ := List.mem_iff_getElem.1 hq
          have := (List.nodup_iff_pairwise_ne.1 n4)
          have e : i = j := by
            have := List.getElem_inj (xs := σ0.hp.map fun p => rho ρ p.1) (i := i) (j := j) (h₀ := by simpa using hi) (h₁ := by simpa using hj) n4
            exact this.1 (by simpa using he)
          subst e; rfl
        intro B w0 μ a w hr
        have low : ∀ i, i < nI → rho ρ i = i := by
          intro i hi
          unfold rho
          cases hg : get ρ i with
          | none => rfl
          | some j => have := c3 _ (get_mem hg); simp only at this; omega
        rcases hcl with ⟨rfl, hnx⟩ | hcl
        · -- nothing is renamed
          have e0 : ∀ i, rho [] i = i := fun i => rfl
          refine ⟨μ, ExtI.refl _ _, ⟨hr.t.defers, hr.t.size, fun t v hv => ?_⟩, hr.h.sub hr.st fun i b hi h1 => ?_, hr.below, hr.size, fun i hi => hr.free i (by have : σ0.nx ≤ i := hi; show σ.nx ≤ i; omega), fun i b hi => ?_, fun i b hi hb => ?_⟩
          · exact hr.t.val t v (hT _ (get_mem hv))
          · obtain ⟨b', g1, g2, g3, g4, g5⟩ := hH _ (get_mem hi)
            simp only [e0] at g1 g5
            refine ⟨b', g1, g2, g3, g4, fun j hj => ?_⟩
            by_cases hm : ∃ x, get σ0.hp j = some x
            · obtain ⟨x, hx⟩ := hm
              exact .inl (g5 _ (get_mem hx) hj)
            · exact .inr fun x hx => absurd ⟨x, hx⟩ hm
          · obtain ⟨b', g1, g2, g3, g4, g5⟩ := hH _ (get_mem hi)
            have := hr.st _ b' g1; simp only at g4; omega
          · obtain ⟨b', g1, g2, g3, g4, g5⟩ := hH _ (get_mem hb)
            simp only [e0] at g1
            have : b'.st = 0 := hr.dom i b' (by have : σ0.nx ≤ i := hi; show σ.nx ≤ i; omega) g1
            simp only at g4; omega
        · -- other numbers
          let μ' : Nat → Option Loc := fun i => if i < σ0.nx then μ (rho ρ i) else none
          have hm : ∀ i, i < σ0.nx → ∀ L, μ (rho ρ i) = some L → μ' i = some L := fun i hi L hL => by simp only [μ']; rw [if_pos hi]; exact hL
          have hm' : ∀ i L, μ' i = some L → i < σ0.nx ∧ μ (rho ρ i) = some L := fun i L hL => by
            simp only [μ'] at hL
            split at hL
            · rename_i hi; exact ⟨hi, hL⟩
            · cases hL
          have cellrel : ∀ p ∈ σ0.hp, ∀ v ∈ p.2.cells, ∀ c, VRel μ v c → VRel μ' v c := fun p hp v hv c hvc => by
            obtain ⟨h1, h2⟩ := hcl.h p hp
            obtain ⟨h3, h4⟩ := h2 v hv
            exact ren1_of hm h3 (by rw [h4]; exact hvc)
          refine ⟨μ', fun i hi => by simp only [μ']; rw [if_pos (by omega), low i hi], ⟨hr.t.defers, hr.t.size, fun t v hv => ?_⟩, ?_, hr.below, hr.size, fun i hi => by simp only [μ']; rw [if_neg (by have : σ0.nx ≤ i := hi; omega)], fun i b hi => ?_, fun i b hi hb => ?_⟩
          · obtain ⟨v', g1, g2⟩ := hr.t.val t _ (hT _ (get_mem hv))
            refine ⟨v', g1, ?_⟩
            have hs := hcl.t _ (get_mem hv)
            unfold renL at g2
            split at g2
            · exact ren_of (ρ := rho []) hm hs (by rw [ren_id (ρ := rho []) (fun i => rfl)]; exact g2)
            · exact ren_of hm hs g2
          · have key : ∀ i b, get σ0.hp i = some b → ∃ b', get σ.hp (rho ρ i) = some b' ∧ b'.cells = b.cells ∧ b'.esz = b.esz ∧ b.st ≤ b'.st ∧ ∀ q ∈ σ0.hp, rho ρ q.1 ∈ b'.par → q.1 ∈ b.par := fun i b hi => hH _ (get_mem hi)
            refine ⟨fun i b hi h1 j v hj => ?_, fun i b L hi h1 hL => ?_, fun i b hi h2 => ?_, fun i b j b2 L L2 hi hj h2 h1 hne hL hL2 hk => ?_⟩
            · obtain ⟨b', g1, g2, g3, g4, g5⟩ := key i b hi
              obtain ⟨L, v', q1, q2, q3, q4⟩ := hr.h.read _ b' g1 (by omega) j v (by rw [g2]; exact hj)
              exact ⟨L, v', hm i (hcl.h _ (get_mem hi)).1 L q1, q2, cellrel _ (get_mem hi) v (List.mem_of_getElem? hj) v' q3, q4⟩
            · obtain ⟨b', g1, g2, g3, g4, g5⟩ := key i b hi
              rw [← g3]
              exact hr.h.esz _ b' L g1 (by omega) (hm' i L hL).2
            · obtain ⟨b', g1, g2, g3, g4, g5⟩ := key i b hi
              have hst := hr.st _ b' g1
              rcases hr.h.own _ b' g1 (by omega) with ⟨q1, q2⟩ | ⟨L, k, c, e, q1, q2⟩
              · refine .inl ⟨?_, by rw [← g2]; exact q2⟩
                simp only [μ']; rw [if_pos (hcl.h _ (get_mem hi)).1]; exact q1
              · exact .inr ⟨L, k, c, e, hm i (hcl.h _ (get_mem hi)).1 L q1, by rw [← g2]; exact q2⟩
            · obtain ⟨b', g1, g2, g3, g4, g5⟩ := key i b hi
              obtain ⟨d', f1, f2, f3, f4, f5⟩ := key j b2 hj
              have s1 := hr.st _ b' g1
              have s2 := hr.st _ d' f1
              rcases hr.h.apart _ b' _ d' L L2 g1 f1 (by omega) (by omega) (by rcases hne with hne | hne; exact .inl (by omega); exact .inr (by rw [f2]; exact hne)) (hm' i L hL).2 (hm' j L2 hL2).2 hk with q | ⟨q1, q2, q3, q4⟩
              · exact .inl (rinj _ (get_mem hj) _ (get_mem hi) q)
              · exact .inr ⟨by omega, g5 _ (get_mem hj) q2, q3, by rw [← g2, ← f2]; exact q4⟩
          · obtain ⟨b', g1, g2, g3, g4, g5⟩ := hH _ (get_mem hi)
            have := hr.st _ b' g1; simp only at g4; omega
          · have := (hcl.h _ (get_mem hb)).1
            have : σ0.nx ≤ i := hi
            simp only at *; omega
      · cases h
    · cases h
  · cases h
/-- nothing is renamed -/
theorem Imp.fit_id {nI : Nat} {nt : NT} {σ σ0 : AS} {cs : List (Cl × Cl)} (h : Am.fit [] nI σ σ0 = some cs) (hc : ∀ p ∈ cs, p.1 = p.2) (hnx : σ0.nx = σ.nx) (B : Nat) (w0 : World) (μ : Nat → Option Loc) (a : Act) (w : World) (hr : RelS B w0 μ nt σ a w) : True ∧ RelS B w0 μ nt σ0 a w := by
  unfold Am.fit at h
  split at h
  · rename_i hcond
    split at h
    · rename_i ca ha
      split at h
      · rename_i cb hb
        injection h with h; subst h
        have hT := fitT_ok ha fun p hp => hc p (List.mem_append.2 (.inl hp))
        have hH := fitH_ok hb fun p hp => hc p (List.mem_append.2 (.inr hp))
        have e0 : ∀ i, rho [] i = i := fun i => rfl
        refine ⟨trivial, ⟨hr.t.defers, hr.t.size, fun t v hv => hr.t.val t v (hT _ (get_mem hv))⟩, hr.h.sub hr.st fun i b hi h1 => ?_, hr.below, hr.size, fun i hi => hr.free i (by have : σ0.nx ≤ i := hi; show σ.nx ≤ i; omega), fun i b hi => ?_, fun i b hi hb => ?_⟩
        · obtain ⟨b', g1, g2, g3, g4, g5⟩ := hH _ (get_mem hi)
          simp only [e0] at g1 g5
          refine ⟨b', g1, g2, g3, g4, fun j hj => ?_⟩
          by_cases hm : ∃ x, get σ0.hp j = some x
          · obtain ⟨x, hx⟩ := hm
            exact .inl (g5 _ (get_mem hx) hj)
          · exact .inr fun x hx => absurd ⟨x, hx⟩ hm
        · obtain ⟨b', g1, g2, g3, g4, g5⟩ := hH _ (get_mem hi)
          have := hr.st _ b' g1; simp only at g4; omega
        · obtain ⟨b', g1, g2, g3, g4, g5⟩ := hH _ (get_mem hb)
          simp only [e0] at g1
          have : b'.st = 0 := hr.dom i b' (by have : σ0.nx ≤ i := hi; show σ.nx ≤ i; omega) g1
          simp only at g4; omega
      · cases h
    · cases h
  · cases h
end Go.Am
