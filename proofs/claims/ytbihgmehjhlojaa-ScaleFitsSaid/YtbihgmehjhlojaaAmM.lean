/-
An abstract machine over the kit's wp calculus, part M: a state held against another one. Which block is which is found by the way; a slice that is nil may be a row of nothing; of a capacity no more is told than must be.
-/
import Derived.Test.YtbihgmehjhlojaaAm17
set_option linter.unusedVariables false
set_option linter.unusedSimpArgs false
namespace Go.Am
open Go Go.RowKit

/-- a reading in other numbers -/
def mu0 (nl : Nat → Bool) (ρ : Nat → Nat) (n0 : Nat) (μ : Nat → Option Loc) : Nat → Option Loc := fun i => if i < n0 ∧ nl i = false then μ (ρ i) else none
/-- a value here is one there -/
def AR (nl : Nat → Bool) (ρ : Nat → Nat) (n0 : Nat) (v v0 : Value) : Prop := ∀ μ c, VRel μ v c → VRel (mu0 nl ρ n0 μ) v0 c
def ARs (nl : Nat → Bool) (ρ : Nat → Nat) (n0 : Nat) (vs vs0 : List Value) : Prop := ∀ μ c, VRels μ vs c → VRels (mu0 nl ρ n0 μ) vs0 c
section
variable {nl : Nat → Bool} {ρ : Nat → Nat} {n0 : Nat}
theorem ARs.nil : ARs nl ρ n0 [] [] := fun μ c h => by have := h.of_nil; subst this; exact .nil _
theorem ARs.cons {v v0 : Value} {vs vs0 : List Value} (h : AR nl ρ n0 v v0) (hs : ARs nl ρ n0 vs vs0) : ARs nl ρ n0 (v :: vs) (v0 :: vs0) := fun μ c hc => by
  obtain ⟨c0, cr, rfl, h1, h2⟩ := hc.of_cons
  exact .cons (h μ c0 h1) (hs μ cr h2)
theorem AR.flat {v : Value} (h : Am.flat v = true) : AR nl ρ n0 v v := fun μ c hc => by rw [hc.flatEq h]; exact .flat v h
theorem AR.slice {i j o n c : Nat} (hi : i < n0) (hn : nl i = false) (hr : ρ i = j) : AR nl ρ n0 (.slice (some ⟨j, o, none⟩) n c) (.slice (some ⟨i, o, none⟩) n (n + 1)) := fun μ v hv => by
  cases hv with
  | flat _ h => simp [Am.flat, scalar] at h
  | sl _ _ _ _ L a c' hL hcc hx hcn ht ha =>
    have hm : mu0 nl ρ n0 μ i = some L := by unfold mu0; rw [if_pos ⟨hi, hn⟩, hr]; exact hL
    exact .sl i o n _ L a c' hm hcc (fun q => by omega) (.inr (.inl rfl)) ht ha
  | slnil => exact .slnil i o
theorem AR.nilslice {i o : Nat} : AR nl ρ n0 (.slice none 0 0) (.slice (some ⟨i, o, none⟩) 0 1) := fun μ v hv => by rw [hv.scal rfl]; exact .slnil i o
theorem AR.ptr {i j o : Nat} (hi : i < n0) (hn : nl i = false) (hr : ρ i = j) : AR nl ρ n0 (.pointer (some ⟨j, o, none⟩)) (.pointer (some ⟨i, o, none⟩)) := fun μ v hv => by
  obtain ⟨L, hL, rfl⟩ := hv.pointer
  exact .ptr i o L (by unfold mu0; rw [if_pos ⟨hi, hn⟩, hr]; exact hL)
theorem AR.agg {cs cs0 : List Value} (h : ARs nl ρ n0 cs cs0) : AR nl ρ n0 (.agg ⟨cs⟩) (.agg ⟨cs0⟩) := fun μ v hv => by
  obtain ⟨b, rfl, hb⟩ := hv.aggOf
  have := VRel.mkAgg (h μ b.toList hb)
  simpa using this
theorem AR.tuple {cs cs0 : List Value} (h : ARs nl ρ n0 cs cs0) : AR nl ρ n0 (.tuple ⟨cs⟩) (.tuple ⟨cs0⟩) := fun μ v hv => by
  obtain ⟨b, rfl, hb⟩ := hv.tupleOf
  have := VRel.mkTuple (h μ b.toList hb)
  simpa using this
theorem AR.func {fn : Fn} {cs cs0 : List Value} (h : ARs nl ρ n0 cs cs0) : AR nl ρ n0 (.func fn #[] ⟨cs⟩) (.func fn #[] ⟨cs0⟩) := fun μ v hv => by
  obtain ⟨b, rfl, _, hb⟩ := hv.funcOf
  have h2 := h μ b.toList hb
  have := VRel.func fn cs0 b.toList h2.1 h2.2
  simpa using this
end

/-! ### matching -/
abbrev Prs := List (Nat × Option Nat)
abbrev Cls := List (Cl × Cl)
def mV0 (v v0 : Value) : Option (Prs × Cls) :=
  match v0 with
  | .slice (some ⟨i, o, none⟩) n c =>
    match v with
    | .slice (some ⟨j, o', none⟩) n' _ => some ([(i, some j)], [(.n o', .n o), (.n n', .n n), (.n (n + 1), .n c)])
    | .slice none 0 0 => some ([(i, none)], [(.n 0, .n n), (.n 1, .n c)])
    | _ => none
  | .pointer (some ⟨i, o, none⟩) =>
    match v with
    | .pointer (some ⟨j, o', none⟩) => some ([(i, some j)], [(.n o', .n o)])
    | _ => none
  | v0 => if flat v0 then some ([], [(.v v, .v v0)]) else none
def mL (m : Value → Value → Option (Prs × Cls)) : List Value → List Value → Option (Prs × Cls)
  | [], [] => some ([], [])
  | v :: r, v0 :: r0 =>
    match m v v0 with
    | some (p, c) => (match mL m r r0 with | some (p2, c2) => some (p ++ p2, c ++ c2) | none => none)
    | none => none
  | _, _ => none
def mV1 (v v0 : Value) : Option (Prs × Cls) :=
  match v0 with
  | .func fn0 ⟨[]⟩ ⟨cs0⟩ =>
    match v with
    | .func fn ⟨[]⟩ ⟨cs⟩ => (match mL mV0 cs cs0 with | some (p, c) => some (p, (.v (.func fn #[] #[]), .v (.func fn0 #[] #[])) :: c) | none => none)
    | _ => none
  | v0 => mV0 v v0
def mV2 (v v0 : Value) : Option (Prs × Cls) :=
  match v0 with
  | .agg ⟨cs0⟩ =>
    match v with
    | .agg ⟨cs⟩ => mL mV1 cs cs0
    | _ => none
  | v0 => mV1 v v0
def mV3 (v v0 : Value) : Option (Prs × Cls) :=
  match v0 with
  | .tuple ⟨cs0⟩ =>
    match v with
    | .tuple ⟨cs⟩ => mL mV2 cs cs0
    | _ => none
  | v0 => mV2 v v0

/-- what is found of a block, of all that was found -/
def nlOf (pr : Prs) (i : Nat) : Bool := match get pr i with | some none => true | _ => false
def rhoOf (pr : Prs) (i : Nat) : Nat := match get pr i with | some (some j) => j | _ => i
/-- all that was found is found again -/
def PIn (pr : Prs) (n0 : Nat) (ps : Prs) : Prop := ∀ p ∈ ps, get pr p.1 = some p.2 ∧ p.1 < n0
def CIn (cs : Cls) : Prop := ∀ p ∈ cs, p.1 = p.2
theorem PIn.left {pr : Prs} {n0 : Nat} {a b : Prs} (h : PIn pr n0 (a ++ b)) : PIn pr n0 a := fun p hp => h p (List.mem_append.2 (.inl hp))
theorem PIn.right {pr : Prs} {n0 : Nat} {a b : Prs} (h : PIn pr n0 (a ++ b)) : PIn pr n0 b := fun p hp => h p (List.mem_append.2 (.inr hp))
theorem CIn.left {a b : Cls} (h : CIn (a ++ b)) : CIn a := fun p hp => h p (List.mem_append.2 (.inl hp))
theorem CIn.right {a b : Cls} (h : CIn (a ++ b)) : CIn b := fun p hp => h p (List.mem_append.2 (.inr hp))
theorem CIn.head {a : Cl × Cl} {b : Cls} (h : CIn (a :: b)) : a.1 = a.2 := h _ (List.mem_cons_self ..)
theorem CIn.tail {a : Cl × Cl} {b : Cls} (h : CIn (a :: b)) : CIn b := fun p hp => h p (List.mem_cons_of_mem _ hp)

section
variable {pr : Prs} {n0 : Nat}
def MOK (pr : Prs) (n0 : Nat) (m : Value → Value → Option (Prs × Cls)) : Prop := ∀ v v0 ps cs, m v v0 = some (ps, cs) → PIn pr n0 ps → CIn cs → AR (nlOf pr) (rhoOf pr) n0 v v0
theorem mV0_ok : MOK pr n0 mV0 := by
  intro v v0 ps cs h hp hc
  unfold mV0 at h
  split at h
  · rename_i i o n c
    split at h
    · rename_i j o' n' c'
      simp only [Option.some.injEq, Prod.mk.injEq] at h
      obtain ⟨rfl, rfl⟩ := h
      obtain ⟨h1, h2⟩ := hp _ (List.mem_cons_self ..)
      have e1 := hc.head
      have e2 := hc.tail.head
      have e3 := hc.tail.tail.head
      simp only [Cl.n.injEq] at e1 e2 e3
      subst e1; subst e2; subst e3
      exact AR.slice h2 (by unfold nlOf; simp only at h1; rw [h1]) (by unfold rhoOf; simp only at h1; rw [h1])
    · simp only [Option.some.injEq, Prod.mk.injEq] at h
      obtain ⟨rfl, rfl⟩ := h
      have e1 := hc.head
      have e2 := hc.tail.head
      simp only [Cl.n.injEq] at e1 e2
      subst e1; subst e2
      exact AR.nilslice
    · cases h
  · rename_i i o
    split at h
    · rename_i j o'
      simp only [Option.some.injEq, Prod.mk.injEq] at h
      obtain ⟨rfl, rfl⟩ := h
      obtain ⟨h1, h2⟩ := hp _ (List.mem_cons_self ..)
      have e1 := hc.head
      simp only [Cl.n.injEq] at e1
      subst e1
      exact AR.ptr h2 (by unfold nlOf; simp only at h1; rw [h1]) (by unfold rhoOf; simp only at h1; rw [h1])
    · cases h
  · split at h
    · rename_i hf
      simp only [Option.some.injEq, Prod.mk.injEq] at h
      obtain ⟨rfl, rfl⟩ := h
      have e1 := hc.head
      simp only [Cl.v.injEq] at e1
      subst e1
      exact AR.flat hf
    · cases h
theorem mL_ok {m : Value → Value → Option (Prs × Cls)} (hm : MOK pr n0 m) : ∀ {vs vs0 : List Value} {ps : Prs} {cs : Cls}, mL m vs vs0 = some (ps, cs) → PIn pr n0 ps → CIn cs → ARs (nlOf pr) (rhoOf pr) n0 vs vs0
  | [], [], ps, cs, h, hp, hc => ARs.nil
  | v :: r, v0 :: r0, ps, cs, h, hp, hc => by
    simp only [mL] at h
    split at h
    · rename_i p c h1
      split at h
      · rename_i p2 c2 h2
        simp only [Option.some.injEq, Prod.mk.injEq] at h
        obtain ⟨rfl, rfl⟩ := h
        exact ARs.cons (hm _ _ _ _ h1 hp.left hc.left) (mL_ok hm h2 hp.right hc.right)
      · cases h
    · cases h
  | [], _ :: _, ps, cs, h, hp, hc => by simp [mL] at h
  | _ :: _, [], ps, cs, h, hp, hc => by simp [mL] at h
theorem mV1_ok : MOK pr n0 mV1 := by
  intro v v0 ps cs h hp hc
  unfold mV1 at h
  split at h
  · rename_i fn0 cs0
    split at h
    · rename_i fn cs'
      split at h
      · rename_i p c h1
        simp only [Option.some.injEq, Prod.mk.injEq] at h
        obtain ⟨rfl, rfl⟩ := h
        have e1 := hc.head
        simp only [Cl.v.injEq, Value.func.injEq] at e1
        obtain ⟨rfl, _⟩ := e1
        exact AR.func (mL_ok mV0_ok h1 hp hc.tail)
      · cases h
    · cases h
  · exact mV0_ok _ _ _ _ h hp hc
theorem mV2_ok : MOK pr n0 mV2 := by
  intro v v0 ps cs h hp hc
  unfold mV2 at h
  split at h
  · split at h
    · exact AR.agg (mL_ok mV1_ok h hp hc)
    · cases h
  · exact mV1_ok _ _ _ _ h hp hc
theorem mV3_ok : MOK pr n0 mV3 := by
  intro v v0 ps cs h hp hc
  unfold mV3 at h
  split at h
  · split at h
    · exact AR.tuple (mL_ok mV2_ok h hp hc)
    · cases h
  · exact mV2_ok _ _ _ _ h hp hc
end

/-! #### states -/
def mT (ts : List (Nat × Value)) : List (Nat × Value) → Option (Prs × Cls)
  | [] => some ([], [])
  | (t, v0) :: r =>
    match get ts t with
    | some v =>
      match mV3 v v0 with
      | some (p, c) => (match mT ts r with | some (p2, c2) => some (p ++ p2, c ++ c2) | none => none)
      | none => none
    | none => none
theorem mT_ok {pr : Prs} {n0 : Nat} {ts : List (Nat × Value)} : ∀ {l : List (Nat × Value)} {ps : Prs} {cs : Cls}, mT ts l = some (ps, cs) → PIn pr n0 ps → CIn cs → ∀ p ∈ l, ∃ v, get ts p.1 = some v ∧ AR (nlOf pr) (rhoOf pr) n0 v p.2
  | [], ps, cs, h, hp, hc, p, hm => by simp at hm
  | (t, v0) :: r, ps, cs, h, hp, hc, p, hm => by
    simp only [mT] at h
    split at h
    · rename_i v hv
      split at h
      · rename_i p1 c1 h1
        split at h
        · rename_i p2 c2 h2
          simp only [Option.some.injEq, Prod.mk.injEq] at h
          obtain ⟨rfl, rfl⟩ := h
          rcases List.mem_cons.1 hm with rfl | hm
          · exact ⟨v, hv, mV3_ok _ _ _ _ h1 hp.left hc.left⟩
          · exact mT_ok h2 hp.right hc.right p hm
        · cases h
      · cases h
    · cases h
/-- the cells of a block: those of a row as a whole, others one by one -/
def mCells (row : Bool) (cs cs0 : List Value) : Option (Prs × Cls) :=
  match row with
  | true => some ([], [(.l cs, .l cs0)])
  | false => if cs0.all cell1 then mL mV1 cs cs0 else none
def mH (rows : List Nat) (lo : Nat) (hp : Heap) : Heap → Prs → Option (Prs × Cls)
  | [], pr => some (pr, [])
  | (i, b0) :: r, pr =>
    match get pr i with
    | some none => (match mH rows lo hp r pr with | some (p2, c2) => some (p2, (.l [], .l b0.cells) :: c2) | none => none)
    | x =>
      match (match x with | some (some j) => j | _ => i) with
      | j =>
        match get hp j with
        | some b =>
          if decide (lo ≤ b.st) && decide (b0.st ≤ b.st) && b.esz == b0.esz then
            match mCells (rows.contains i) b.cells b0.cells with
            | some (p, c) => (match mH rows lo hp r ((pr ++ [(i, some j)]) ++ p) with | some (p2, c2) => some (p2, c ++ c2) | none => none)
            | none => none
          else none
        | none => none
/-- rows' cells are plain -/
def SCR (rows : List Nat) (H : Heap) : Prop := ∀ p ∈ H, rows.contains p.1 = true → ∀ v ∈ p.2.cells, scalar v = true
theorem SCR.nil {rows : List Nat} : SCR rows [] := fun p hp => by simp at hp
theorem SCR.cons {rows : List Nat} {i : Nat} {b : Blk} {H : Heap} (h : rows.contains i = true → ∀ v ∈ b.cells, scalar v = true) (hs : SCR rows H) : SCR rows ((i, b) :: H) := fun p hp => by
  rcases List.mem_cons.1 hp with rfl | hp
  · exact h
  · exact hs p hp
theorem mH_mono {rows : List Nat} {lo : Nat} {hp : Heap} : ∀ {l : Heap} {pr ps : Prs} {cs : Cls}, mH rows lo hp l pr = some (ps, cs) → ∃ q, ps = pr ++ q
  | [], pr, ps, cs, h => by simp only [mH, Option.some.injEq, Prod.mk.injEq] at h; exact ⟨[], by simp [h.1]⟩
  | (i, b0) :: r, pr, ps, cs, h => by
    simp only [mH] at h
    split at h
    · split at h
      · rename_i p2 c2 h2
        simp only [Option.some.injEq, Prod.mk.injEq] at h
        obtain ⟨rfl, rfl⟩ := h
        exact mH_mono h2
      · cases h
    · split at h
      · rename_i b hb
        split at h
        · split at h
          · rename_i p c h1
            split at h
            · rename_i p2 c2 h2
              simp only [Option.some.injEq, Prod.mk.injEq] at h
              obtain ⟨rfl, rfl⟩ := h
              obtain ⟨q, hq⟩ := mH_mono h2
              exact ⟨_, hq.trans (by rw [List.append_assoc, List.append_assoc])⟩
            · cases h
          · cases h
        · cases h
      · cases h
theorem get_append {α : Type} : ∀ {a b : List (Nat × α)} {i : Nat} {v : α}, get a i = some v → get (a ++ b) i = some v
  | [], b, i, v, h => by simp [get] at h
  | (j, u) :: r, b, i, v, h => by
    simp only [List.cons_append, get] at h ⊢
    split
    · rename_i e; rw [if_pos e] at h; exact h
    · rename_i e; rw [if_neg e] at h; exact get_append h
/-- a block there is nothing here, or a block -/
def BOK (pr : Prs) (n0 lo : Nat) (hp : Heap) (i : Nat) (b0 : Blk) : Prop :=
  (nlOf pr i = true ∧ b0.cells = []) ∨ (nlOf pr i = false ∧ ∃ b, get hp (rhoOf pr i) = some b ∧ lo ≤ b.st ∧ b0.st ≤ b.st ∧ b.esz = b0.esz ∧ b0.cells.length = b.cells.length ∧ ∀ (j : Nat) (v : Value), b0.cells[j]? = some v → cell1 v = true ∧ ∃ u, b.cells[j]? = some u ∧ AR (nlOf pr) (rhoOf pr) n0 u v)
theorem mL_length {m : Value → Value → Option (Prs × Cls)} : ∀ {vs vs0 : List Value} {ps : Prs} {cs : Cls}, mL m vs vs0 = some (ps, cs) → vs.length = vs0.length
  | [], [], ps, cs, h => rfl
  | v :: r, v0 :: r0, ps, cs, h => by
    simp only [mL] at h
    split at h
    · split at h
      · rename_i h2; simp [mL_length h2]
      · cases h
    · cases h
  | [], _ :: _, ps, cs, h => by simp [mL] at h
  | _ :: _, [], ps, cs, h => by simp [mL] at h
theorem mL_each {m : Value → Value → Option (Prs × Cls)} {pr : Prs} {n0 : Nat} (hm : MOK pr n0 m) : ∀ {vs vs0 : List Value} {ps : Prs} {cs : Cls}, mL m vs vs0 = some (ps, cs) → PIn pr n0 ps → CIn cs → ∀ (j : Nat) (v : Value), vs0[j]? = some v → ∃ u, vs[j]? = some u ∧ AR (nlOf pr) (rhoOf pr) n0 u v
  | [], [], ps, cs, h, hp, hc, j, v, hj => by simp at hj
  | x :: r, x0 :: r0, ps, cs, h, hp, hc, j, v, hj => by
    simp only [mL] at h
    split at h
    · rename_i p c h1
      split at h
      · rename_i p2 c2 h2
        simp only [Option.some.injEq, Prod.mk.injEq] at h
        obtain ⟨rfl, rfl⟩ := h
        cases j with
        | zero => simp at hj; subst hj; exact ⟨x, rfl, hm _ _ _ _ h1 hp.left hc.left⟩
        | succ j => simp at hj; obtain ⟨u, q1, q2⟩ := mL_each hm h2 hp.right hc.right j v hj; exact ⟨u, by simpa using q1, q2⟩
      · cases h
    · cases h
  | [], _ :: _, ps, cs, h, hp, hc, j, v, hj => by simp [mL] at h
  | _ :: _, [], ps, cs, h, hp, hc, j, v, hj => by simp [mL] at h
theorem mH_ok {rows : List Nat} {lo : Nat} {hp : Heap} {pf : Prs} {n0 : Nat} : ∀ {l : Heap} {pr : Prs} {cs : Cls}, mH rows lo hp l pr = some (pf, cs) → PIn pf n0 pf → CIn cs → SCR rows l → ∀ p ∈ l, BOK pf n0 lo hp p.1 p.2
  | [], pr, cs, h, hp', hc, hs, p, hm => by simp at hm
  | (i, b0) :: r, pr, cs, h, hp', hc, hs, p, hm => by
    have hs2 : SCR rows r := fun q hq => hs q (List.mem_cons_of_mem _ hq)
    simp only [mH] at h
    split at h
    · rename_i hn
      split at h
      · rename_i p2 c2 h2
        simp only [Option.some.injEq, Prod.mk.injEq] at h
        obtain ⟨rfl, rfl⟩ := h
        rcases List.mem_cons.1 hm with rfl | hm
        · obtain ⟨q, rfl⟩ := mH_mono h2
          have e := hc.head
          simp only [Cl.l.injEq] at e
          refine .inl ⟨?_, e.symm⟩
          unfold nlOf
          rw [get_append hn]
        · exact mH_ok h2 hp' hc.tail hs2 p hm
      · cases h
    · rename_i hn
      split at h
      · rename_i b hb
        split at h
        · rename_i hcond
          simp only [Bool.and_eq_true, decide_eq_true_eq, beq_iff_eq] at hcond
          split at h
          · rename_i pp c h1
            split at h
            · rename_i p2 c2 h2
              simp only [Option.some.injEq, Prod.mk.injEq] at h
              obtain ⟨rfl, rfl⟩ := h
              rcases List.mem_cons.1 hm with rfl | hm
              · obtain ⟨q, hq⟩ := mH_mono h2
                have hg : ∃ j, get p2 i = some (some j) ∧ get hp j = some b ∧ PIn p2 n0 pp := by
                  refine ⟨_, (hp' (i, some _) ?_).1, hb, fun x hx => hp' x ?_⟩
                  · rw [hq]; simp
                  · rw [hq]; simp [hx]
                obtain ⟨j, g1, g2, g3⟩ := hg
                refine .inr ⟨by unfold nlOf; rw [g1], b, by unfold rhoOf; rw [g1]; exact g2, hcond.1.1, hcond.1.2, hcond.2, ?_⟩
                unfold mCells at h1
                split at h1
                · rename_i hrow
                  simp only [Option.some.injEq, Prod.mk.injEq] at h1
                  obtain ⟨rfl, rfl⟩ := h1
                  have e := hc.head
                  simp only [Cl.l.injEq] at e
                  have hsc := hs _ (List.mem_cons_self ..) hrow
                  refine ⟨by rw [e], fun k v hk => ?_⟩
                  have hv := hsc v (List.mem_of_getElem? hk)
                  exact ⟨scalar_cell1 hv, v, by rw [e]; exact hk, AR.flat (scalar_flat hv)⟩
                · split at h1
                  · rename_i hall
                    refine ⟨(mL_length h1).symm, fun k v hk => ⟨List.all_eq_true.1 hall v (List.mem_of_getElem? hk), mL_each mV1_ok h1 g3 hc.left k v hk⟩⟩
                  · cases h1
              · exact mH_ok h2 hp' hc.right hs2 p hm
            · cases h
          · cases h
        · cases h
      · cases h

/-- all that must be so of what was found -/
def prsOK (nI n0 : Nat) (pr : Prs) : Bool := pr.all fun p => decide (p.1 < n0) && (decide (nI ≤ p.1) || p.2 == some p.1) && (get pr p.1 == some p.2)
def parsOK (pr : Prs) (hp all : Heap) : Bool := all.all fun p => nlOf pr p.1 || (match get hp (rhoOf pr p.1) with | some b => all.all (fun q => nlOf pr q.1 || !b.par.contains (rhoOf pr q.1) || p.2.par.contains q.1) | none => false)
def injOK (pr : Prs) (all : Heap) : Bool := noDup ((all.filter fun p => !nlOf pr p.1).map fun p => rhoOf pr p.1)
def fitM (rows : List Nat) (nI lo : Nat) (σ σ0 : AS) : Option Cls :=
  if decide (nI ≤ σ0.nx) && σ0.hp.all (fun p => decide (p.1 < σ0.nx) && decide (p.2.st ≤ 2)) && noDup (σ0.hp.map (·.1)) then
    match mT σ.ts σ0.ts with
    | some (p, c) =>
      match mH rows lo σ.hp σ0.hp p with
      | some (pr, c2) => if prsOK nI σ0.nx pr && parsOK pr σ.hp σ0.hp && injOK pr σ0.hp then some (c ++ c2) else none
      | none => none
    | none => none
  else none
theorem prsOK_ok {nI n0 : Nat} {pr : Prs} (h : prsOK nI n0 pr = true) : PIn pr n0 pr ∧ ∀ i, i < nI → nlOf pr i = false ∧ rhoOf pr i = i := by
  have h' : ∀ p ∈ pr, (p.1 < n0 ∧ (nI ≤ p.1 ∨ p.2 = some p.1)) ∧ get pr p.1 = some p.2 := fun p hp => by
    have := List.all_eq_true.1 h p hp
    simpa only [Bool.and_eq_true, decide_eq_true_eq, Bool.or_eq_true, beq_iff_eq] using this
  refine ⟨fun p hp => ⟨(h' p hp).2, (h' p hp).1.1⟩, fun i hi => ?_⟩
  unfold nlOf rhoOf
  cases hg : get pr i with
  | none => simp
  | some x =>
    have := (h' _ (get_mem hg)).1.2
    simp only at this
    rcases this with g | g
    · omega
    · subst g; simp
/-- the heap in other numbers -/
theorem HRel.fitM {B : Nat} {μ : Nat → Option Loc} {hp H0 : Heap} {w : World} (h : HRel B μ hp w) (hst : ∀ i b, get hp i = some b → b.st ≤ 2) {pr : Prs} {n0 : Nat} (hid : ∀ p ∈ H0, p.1 < n0 ∧ p.2.st ≤ 2) (hB : ∀ p ∈ H0, BOK pr n0 1 hp p.1 p.2)
    (hpar : parsOK pr hp H0 = true) (hinj : injOK pr H0 = true) (hnd : noDup (H0.map (·.1)) = true) : HRel B (mu0 (nlOf pr) (rhoOf pr) n0 μ) H0 w := by
  have hm : ∀ i, i < n0 → nlOf pr i = false → ∀ L, μ (rhoOf pr i) = some L → mu0 (nlOf pr) (rhoOf pr) n0 μ i = some L := fun i hi hn L hL => by unfold mu0; rw [if_pos ⟨hi, hn⟩]; exact hL
  have hm' : ∀ i L, mu0 (nlOf pr) (rhoOf pr) n0 μ i = some L → nlOf pr i = false ∧ μ (rhoOf pr i) = some L := fun i L hL => by
    unfold mu0 at hL
    split at hL
    · rename_i hi; exact ⟨hi.2, hL⟩
    · cases hL
  have n5 := noDup_ok hnd
  have rinj : ∀ p ∈ H0, ∀ q ∈ H0, nlOf pr p.1 = false → nlOf pr q.1 = false → rhoOf pr p.1 = rhoOf pr q.1 → p.1 = q.1 := by
    intro p hp q hq np nq he
    have n4 := noDup_ok hinj
    have hp' : p ∈ H0.filter fun p => !nlOf pr p.1 := List.mem_filter.2 ⟨hp, by simp [np]⟩
    have hq' : q ∈ H0.filter fun p => !nlOf pr p.1 := List.mem_filter.2 ⟨hq, by simp [nq]⟩
    obtain ⟨i, hi, ei⟩ := List.mem_iff_getElem.1 hp'
    obtain ⟨j, hj, ej⟩ := List.mem_iff_getElem.1 hq'
    have e : i = j := by
      have := List.getElem_inj (xs := (H0.filter fun p => !nlOf pr p.1).map fun p => rhoOf pr p.1) (i := i) (j := j) (h₀ := by simpa using hi) (h₁ := by simpa using hj) n4
      exact this.1 (by simpa [ei, ej] using he)
    subst e; rw [← ei, ej]
  have hpar' : ∀ i b, get H0 i = some b → nlOf pr i = false → ∀ j b', get H0 j = some b' → nlOf pr j = false → ∀ b2, get hp (rhoOf pr i) = some b2 → rhoOf pr j ∈ b2.par → j ∈ b.par := by
    intro i b hi ni j b' hj nj b2 hb2 hmem
    have := List.all_eq_true.1 hpar _ (get_mem hi)
    simp only [ni, Bool.false_or, hb2] at this
    have := List.all_eq_true.1 this _ (get_mem hj)
    simp only [nj, Bool.false_or, Bool.or_eq_true, Bool.not_eq_true', List.contains_eq_mem, decide_eq_false_iff_not, decide_eq_true_eq] at this
    rcases this with g | g
    · exact absurd hmem g
    · exact g
  refine ⟨fun i b hi h1 j v hj => ?_, fun i b L hi h1 hL => ?_, fun i b hi h2 => ?_, fun i b j b' L L' hi hj h2 h1 hne hL hL' hk => ?_⟩
  · rcases hB _ (get_mem hi) with ⟨g1, g2⟩ | ⟨g1, b2, g2, g3, g4, g5, g6, g7⟩
    · simp only at g2; rw [g2] at hj; simp at hj
    · obtain ⟨q1, u, q2, q3⟩ := g7 j v hj
      obtain ⟨L, v', r1, r2, r3, r4⟩ := h.read _ b2 g2 g3 j u q2
      exact ⟨L, v', hm i (hid _ (get_mem hi)).1 g1 L r1, r2, q3 μ v' r3, q1⟩
  · obtain ⟨n1, n2⟩ := hm' i L hL
    rcases hB _ (get_mem hi) with ⟨g1, g2⟩ | ⟨g1, b2, g2, g3, g4, g5, g6, g7⟩
    · rw [n1] at g1; cases g1
    · simp only at g5; rw [← g5]; exact h.esz _ b2 L g2 g3 n2
  · rcases hB _ (get_mem hi) with ⟨g1, g2⟩ | ⟨g1, b2, g2, g3, g4, g5, g6, g7⟩
    · exact .inl ⟨by unfold mu0; rw [if_neg (by rw [g1]; simp)], g2⟩
    · have hs2 := hst _ b2 g2
      simp only at g4 g6
      rcases h.own _ b2 g2 (by omega) with ⟨q1, q2⟩ | ⟨L, k, c, e, q1, q2, q3, q4, q5, q6⟩
      · refine .inl ⟨?_, ?_⟩
        · unfold mu0; split
          · exact q1
          · rfl
        · exact List.eq_nil_of_length_eq_zero (by rw [g6, q2]; rfl)
      · exact .inr ⟨L, k, c, e, hm i (hid _ (get_mem hi)).1 g1 L q1, q2, q3, q4, q5, by rw [g6]; exact q6⟩
  · obtain ⟨n1, n2⟩ := hm' i L hL
    obtain ⟨m1, m2⟩ := hm' j L' hL'
    rcases hB _ (get_mem hi) with ⟨g1, g2⟩ | ⟨g1, b2, g2, g3, g4, g5, g6, g7⟩
    · rw [n1] at g1; cases g1
    · rcases hB _ (get_mem hj) with ⟨f1, f2⟩ | ⟨f1, c2, f2, f3, f4, f5, f6, f7⟩
      · rw [m1] at f1; cases f1
      · simp only at g4 g6 f4 f6
        have s1 := hst _ b2 g2
        have s2 := hst _ c2 f2
        have e2 : ∀ hb : b.st = 2, b2.st = 2 := fun hb => by omega
        rcases h.apart _ b2 _ c2 L L' g2 f2 (by omega) f3 (by
            rcases hne with hne | hne
            · exact .inl (by omega)
            · refine .inr fun q => hne ?_
              exact List.eq_nil_of_length_eq_zero (by rw [f6, q]; rfl)) n2 m2 hk with q | ⟨q1, q2, q3, q4⟩
        · exact .inl (rinj _ (get_mem hj) _ (get_mem hi) f1 g1 q)
        · refine .inr ⟨?_, hpar' i b hi g1 j b' hj f1 b2 g2 q2, q3, by rw [f6, g6]; exact q4⟩
          omega
theorem Imp.fitM {rows : List Nat} {nI : Nat} {nt : NT} {σ σ0 : AS} {cs : Cls} (h : fitM rows nI 1 σ σ0 = some cs) (hc : CIn cs) (hs : SCR rows σ0.hp) : Imp nI nt σ σ0 := by
  unfold Am.fitM at h
  split at h
  · rename_i hcond
    simp only [Bool.and_eq_true, decide_eq_true_eq] at hcond
    obtain ⟨⟨c1, c3⟩, c4⟩ := hcond
    split at h
    · rename_i p c hT
      split at h
      · rename_i pr cc hH
        split at h
        · rename_i hok
          simp only [Bool.and_eq_true] at hok
          obtain ⟨⟨k1, k2⟩, k3⟩ := hok
          injection h with h; subst h
          obtain ⟨hP, hlow⟩ := prsOK_ok k1
          obtain ⟨q, hq⟩ := mH_mono hH
          have hPp : PIn pr σ0.nx p := fun x hx => hP x (by rw [hq]; simp [hx])
          have hTT := mT_ok hT hPp hc.left
          have hBB := mH_ok hH hP hc.right hs
          have hid : ∀ p ∈ σ0.hp, p.1 < σ0.nx ∧ p.2.st ≤ 2 := fun p hp => by
            have := List.all_eq_true.1 c3 p hp
            simpa only [Bool.and_eq_true, decide_eq_true_eq] using this
          intro B w0 μ a w hr
          refine ⟨mu0 (nlOf pr) (rhoOf pr) σ0.nx μ, fun i hi => ?_, ⟨hr.t.defers, hr.t.size, fun t v hv => ?_⟩, hr.h.fitM hr.st hid hBB k2 k3 c4, hr.below, hr.size, fun i hi => ?_, fun i b hi => (hid _ (get_mem hi)).2, fun i b hi hb => ?_⟩
          · obtain ⟨g1, g2⟩ := hlow i hi
            unfold mu0
            rw [if_pos ⟨by omega, g1⟩, g2]
          · obtain ⟨u, g1, g2⟩ := hTT _ (get_mem hv)
            obtain ⟨v', g3, g4⟩ := hr.t.val t u g1
            exact ⟨v', g3, g2 μ v' g4⟩
          · unfold mu0
            rw [if_neg]
            rintro ⟨q1, _⟩
            have : σ0.nx ≤ i := hi
            omega
          · have := (hid _ (get_mem hb)).1
            have : σ0.nx ≤ i := hi
            simp only at *; omega
        · cases h
      · cases h
    · cases h
  · cases h
/-- what a function answers, in other numbers -/
theorem fitM_val {nI n1 k : Nat} {v u : Value} {hp new : Heap} {rows : List Nat} {cs : Cls} (hf : Am.fitM rows nI 1 ⟨[(0, v)], hp, n1⟩ ⟨[(0, u)], new, nI + k⟩ = some cs) (hc : CIn cs) (hs : SCR rows new) :
    ∃ f : (Nat → Option Loc) → Nat → Option Loc, (∀ μ, ExtI nI μ (f μ)) ∧ (∀ μ v', VRel μ v v' → VRel (f μ) u v') ∧ ∀ B μ w, HRel B μ hp w → (∀ i b, get hp i = some b → b.st ≤ 2) → HRel B (f μ) new w := by
  unfold Am.fitM at hf
  split at hf
  · rename_i hcond
    simp only [Bool.and_eq_true, decide_eq_true_eq] at hcond
    obtain ⟨⟨c1, c3⟩, c4⟩ := hcond
    split at hf
    · rename_i p c hT
      split at hf
      · rename_i pr cc hH
        split at hf
        · rename_i hok
          simp only [Bool.and_eq_true] at hok
          obtain ⟨⟨k1, k2⟩, k3⟩ := hok
          injection hf with hf; subst hf
          obtain ⟨hP, hlow⟩ := prsOK_ok k1
          obtain ⟨q, hq⟩ := mH_mono hH
          have hPp : PIn pr (nI + k) p := fun x hx => hP x (by rw [hq]; simp [hx])
          have hTT := mT_ok hT hPp hc.left
          have hBB := mH_ok hH hP hc.right hs
          have hid : ∀ p ∈ new, p.1 < nI + k ∧ p.2.st ≤ 2 := fun p hp => by
            have := List.all_eq_true.1 c3 p hp
            simpa only [Bool.and_eq_true, decide_eq_true_eq] using this
          refine ⟨mu0 (nlOf pr) (rhoOf pr) (nI + k), fun μ i hi => ?_, fun μ v' hv => ?_, fun B μ w h hst => h.fitM hst hid hBB k2 k3 c4⟩
          · obtain ⟨g1, g2⟩ := hlow i hi
            unfold mu0
            rw [if_pos ⟨by omega, g1⟩, g2]
          · obtain ⟨x, g1, g2⟩ := hTT (0, u) (by simp)
            simp [get] at g1
            subst g1
            exact g2 μ v' hv
        · cases hf
      · cases hf
    · cases hf
  · cases hf
end Go.Am
