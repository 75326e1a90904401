/-
An abstract machine over the kit's wp calculus, part 9: functions, and calls by what is known of a function.
-/
import Derived.Test.YtbihgmehjhlojaaAm8
set_option linter.unusedVariables false
set_option linter.unusedSimpArgs false
namespace Go.Am
open Go Go.RowKit

/-- what a function answers, of arguments told by a heap of its own; new: what it makes. It changes nothing that was there. -/
def FnOK (P : Program) (g : FuncId) (args : List Value) (H : Heap) (nI : Nat) (v : Value) (new : Heap) : Prop :=
  ∀ (μ : Nat → Option Loc) (w : World) (cargs : List Value), VRels μ args cargs → HRel w.heap.size μ H w → (∀ i, nI ≤ i → μ i = none) →
    Calls P g cargs.toArray w fun e w' => ∃ μ' v', e = .returned v' ∧ ExtI nI μ μ' ∧ VRel μ' v v' ∧ HRel w.heap.size μ' new w' ∧ Below w.heap.size w w'

def argTs : Nat → List Value → List (Nat × Value)
  | _, [] => []
  | k, v :: r => (k, v) :: argTs (k + 1) r
theorem get_argTs : ∀ (args : List Value) (k t : Nat) (v : Value), get (argTs k args) t = some v → k ≤ t ∧ args[t - k]? = some v
  | [], k, t, v, h => by simp [argTs, get] at h
  | a :: r, k, t, v, h => by
    simp only [argTs, get] at h
    split at h
    · rename_i e; injection h with h; subst h; subst e; simp
    · rename_i e
      obtain ⟨h1, h2⟩ := get_argTs r (k + 1) t v h
      refine ⟨by omega, ?_⟩
      have : t - k = (t - (k + 1)) + 1 := by omega
      rw [this, List.getElem?_cons_succ]; exact h2

def resOf1 (P : Program) (σ : AS) : ResultVar → Option Value
  | .tmp t => get σ.ts t
  | .cell a t => (get σ.ts a).bind fun v => valLoad P σ.hp t v
def resOf (P : Program) (rs : List ResultVar) (σ : AS) : Option Value :=
  match rs.mapM (resOf1 P σ) with
  | some [v] => some v
  | some vs => some (.tuple vs.toArray)
  | none => none
def resF (tmps : Array Value) : ResultVar → Sem Value
  | .tmp t => pure (tmps.getD t undef)
  | .cell a t => do loadVar t (← asAddr (tmps.getD a undef))
theorem results_eq (fn : Func) (tmps : Array Value) : results fn tmps = (do let vs ← fn.results.mapM (resF tmps); pure (if h : vs.size = 1 then vs[0] else .tuple vs)) := by
  unfold results
  congr 1
theorem res1_ok {P : Program} {B : Nat} {w0 : World} {μ : Nat → Option Loc} {nt : NT} {σ : AS} {a : Act} {w : World} (hr : RelS B w0 μ nt σ a w) {r : ResultVar} {v : Value} (h : resOf1 P σ r = some v) :
    ∃ v', (resF a.tmps r).run P w = .ok v' w ∧ VRel μ v v' := by
  cases r with
  | tmp t =>
    obtain ⟨v', h1, h2⟩ := hr.t.val t v h
    exact ⟨v', by simp [resF, Array.getD_eq_getD_getElem?, h1], h2⟩
  | cell x t =>
    obtain ⟨u, hu, h⟩ := Option.bind_eq_some_iff.1 h
    obtain ⟨u', h1, h2⟩ := hr.t.val x u hu
    obtain ⟨v', q1, q2⟩ := load_ok (P := P) hr.h (HLe.refl _) h h2
    refine ⟨v', ?_, q2⟩
    have hp : ∃ ad, u' = .pointer (some ad) := by
      unfold valLoad at h
      split at h
      · obtain ⟨L, _, e⟩ := h2.pointer; exact ⟨_, e⟩
      · cases h
    obtain ⟨ad, rfl⟩ := hp
    simp [resF, Array.getD_eq_getD_getElem?, h1, asAddr]
    simpa [Instr.loadAt, Instr.sureAddr] using q1
theorem resL_ok {P : Program} {B : Nat} {w0 : World} {μ : Nat → Option Loc} {nt : NT} {σ : AS} {a : Act} {w : World} (hr : RelS B w0 μ nt σ a w) : ∀ {rs : List ResultVar} {vs : List Value}, rs.mapM (resOf1 P σ) = some vs →
    ∃ vs', (rs.mapM (resF a.tmps)).run P w = .ok vs' w ∧ VRels μ vs vs'
  | [], vs, h => by simp at h; subst h; exact ⟨[], by simp, .nil _⟩
  | r :: rs, vs, h => by
    simp only [List.mapM_cons, Option.bind_eq_bind, Option.bind_eq_some_iff, Option.pure_def, Option.some.injEq] at h
    obtain ⟨v, hv, vr, hvr, rfl⟩ := h
    obtain ⟨v', h1, h2⟩ := res1_ok hr hv
    obtain ⟨vs', h3, h4⟩ := resL_ok hr hvr
    refine ⟨v' :: vs', ?_, .cons h2 h4⟩
    simp only [List.mapM_cons, Sem.run_bind]
    rw [h1]; simp only [Result.andThen_ok]
    rw [h3]; rfl
theorem res_ok {P : Program} {B : Nat} {w0 : World} {μ : Nat → Option Loc} {nt : NT} {σ : AS} {a : Act} {w : World} (hr : RelS B w0 μ nt σ a w) {fn : Func} {v : Value} (h : resOf P fn.results.toList σ = some v) :
    ∃ v', (results fn a.tmps).run P w = .ok v' w ∧ VRel μ v v' := by
  unfold resOf at h
  cases hm : fn.results.toList.mapM (resOf1 P σ) with
  | none => rw [hm] at h; cases h
  | some vs =>
    rw [hm] at h
    obtain ⟨vs', h1, h2⟩ := resL_ok hr hm
    have hrun : (results fn a.tmps).run P w = .ok (if h : vs'.toArray.size = 1 then vs'.toArray[0] else .tuple vs'.toArray) w := by
      rw [results_eq]
      rw [← Array.toArray_toList (xs := fn.results), List.mapM_toArray]
      simp only [Sem.run_bind, Sem.run_map]
      rw [h1]; rfl
    match vs, vs', h2, h, hrun with
    | [u], [u'], h2, h, hrun =>
      injection h with h; subst h
      exact ⟨u', by rw [hrun]; rfl, h2.2 0 _ _ rfl rfl⟩
    | [], vs', h2, h, hrun =>
      injection h with h; subst h
      have := h2.of_nil; subst this
      exact ⟨.tuple #[], by rw [hrun]; rfl, .flat _ rfl⟩
    | u :: u2 :: r, vs', h2, h, hrun =>
      injection h with h; subst h
      refine ⟨.tuple vs'.toArray, ?_, .mkTuple h2⟩
      rw [hrun]
      have : ¬ (vs'.toArray.size = 1) := by have := h2.1; simp at this ⊢; omega
      rw [dif_neg this]
    | [u], [], h2, h, hrun => have := h2.1; simp at this
    | [u], a :: b :: c, h2, h, hrun => have := h2.1; simp at this

/-- a function whose body comes to this -/
theorem FnOK.of_tr {P : Program} {g : FuncId} {fn : Func} {c : Code} {args : List Value} {H : Heap} {nI : Nat} {v : Value} {new : Heap} (hf : P.funcs[g]? = some fn) (hb : fn.body = some c) (hn : args.length ≤ fn.ntmps) (hst : ∀ i b, get H i = some b → b.st ≤ 1 ∧ i < nI)
    (h : Tr P none ⟨fn.ntmps, []⟩ nI c { ts := argTs 0 args, hp := H, nx := nI } fun ex s => (ex = .ret ∨ ex = .normal) ∧ resOf P fn.results.toList s = some v ∧ HLe new s.hp) : FnOK P g args H nI v new := by
  intro μ w cargs hargs hH hfree
  refine calls_of_wp hf hb ((wpIn_wide (n := 0)).1 (h 0 w.heap.size w μ _ w _ ⟨⟨rfl, ?_, fun t x hx => ?_⟩, hH, Kept.refl _ _, Nat.le_refl _, fun i hi => hfree i hi, fun i b hb => by have := (hst i b hb).1; omega, fun i b hi hb => by have := (hst i b hb).2; have : nI ≤ i := hi; omega⟩ fun ex s μ' a' w' hK hx hr => ?_))
  · have := hargs.1; simp; omega
  · obtain ⟨_, h2⟩ := get_argTs args 0 t x hx
    obtain ⟨v', h3, h4⟩ := hargs.get h2
    refine ⟨v', ?_, h4⟩
    rw [Array.getElem?_append_left (by simpa using (List.getElem?_eq_some_iff.1 h3).1)]
    simpa using h3
  · obtain ⟨hex, hres, hle⟩ := hK
    obtain ⟨v', h1, h2⟩ := res_ok hr hres
    rcases hex with rfl | rfl
    · exact ⟨hr.t.defers, v', h1, μ', v', rfl, hx, h2, hr.h.le hr.st hle, hr.below.b⟩
    · exact ⟨hr.t.defers, v', h1, μ', v', rfl, hx, h2, hr.h.le hr.st hle, hr.below.b⟩

/-! ### other numbers for the blocks -/
def ren0 (ρ : Nat → Nat) : Value → Value
  | .pointer (some ⟨i, o, none⟩) => .pointer (some ⟨ρ i, o, none⟩)
  | .slice (some ⟨i, o, none⟩) n c => .slice (some ⟨ρ i, o, none⟩) n c
  | v => v
def ren1 (ρ : Nat → Nat) : Value → Value
  | .func fn ⟨[]⟩ cs => .func fn #[] (cs.toList.map (ren0 ρ)).toArray
  | v => ren0 ρ v
def ren2 (ρ : Nat → Nat) : Value → Value
  | .agg cs => .agg (cs.toList.map (ren1 ρ)).toArray
  | v => ren1 ρ v
def ren (ρ : Nat → Nat) : Value → Value
  | .tuple cs => .tuple (cs.toList.map (ren2 ρ)).toArray
  | v => ren2 ρ v
/-- the shape of a value that is renamed so, its blocks below n -/
def shp0 (n : Nat) : Value → Bool
  | .pointer (some ⟨i, _, none⟩) => i < n
  | .slice (some ⟨i, _, none⟩) _ _ => i < n
  | v => scalar v
def shp1 (n : Nat) : Value → Bool
  | .func _ ⟨[]⟩ cs => cs.toList.all (shp0 n)
  | v => shp0 n v
def shp2 (n : Nat) : Value → Bool
  | .agg cs => cs.toList.all (shp1 n)
  | v => shp1 n v
def shp (n : Nat) : Value → Bool
  | .tuple cs => cs.toList.all (shp2 n)
  | v => shp2 n v

theorem rel_map {μ μ' : Nat → Option Loc} {f : Value → Value} {cs cs' : List Value} (hf : ∀ v ∈ cs, ∀ c, VRel μ (f v) c → VRel μ' v c) (h : VRels μ (cs.map f) cs') : VRels μ' cs cs' := by
  refine ⟨by simpa using h.1, fun i v v' hv hv' => hf v (List.mem_of_getElem? hv) v' (h.2 i (f v) v' (by simp [hv]) hv')⟩
theorem rel_map' {μ μ' : Nat → Option Loc} {f : Value → Value} {cs cs' : List Value} (hf : ∀ v ∈ cs, ∀ c, VRel μ v c → VRel μ' (f v) c) (h : VRels μ cs cs') : VRels μ' (cs.map f) cs' := by
  refine ⟨by simpa using h.1, fun i v v' hv hv' => ?_⟩
  rw [List.getElem?_map] at hv
  obtain ⟨u, hu, rfl⟩ := Option.map_eq_some_iff.1 hv
  exact hf u (List.mem_of_getElem? hu) v' (h.2 i u v' hu hv')
theorem VRel.pointer' {μ : Nat → Option Loc} {i o : Nat} {v' : Value} (h : VRel μ (.pointer (some ⟨i, o, none⟩)) v') {μ' : Nat → Option Loc} {j : Nat} (hj : ∀ L, μ i = some L → μ' j = some L) : VRel μ' (.pointer (some ⟨j, o, none⟩)) v' := by
  obtain ⟨L, hL, rfl⟩ := h.pointer
  exact .ptr j o L (hj L hL)
theorem VRel.slice' {μ : Nat → Option Loc} {i o n c : Nat} {v' : Value} (h : VRel μ (.slice (some ⟨i, o, none⟩) n c) v') {μ' : Nat → Option Loc} {j : Nat} (hj : ∀ L, μ i = some L → μ' j = some L) : VRel μ' (.slice (some ⟨j, o, none⟩) n c) v' := by
  cases h with
  | flat _ h => simp [Am.flat, scalar] at h
  | sl _ _ _ _ L a c' hL hc hx hcn ht ha => exact .sl j o n c L a c' (hj L hL) hc hx hcn ht ha
  | slnil => exact .slnil j o
theorem ren0_scal {ρ : Nat → Nat} {v : Value} (h : scalar v = true) : ren0 ρ v = v := by
  unfold ren0; split <;> simp_all [scalar]
theorem shp0_cases {n : Nat} {v : Value} (h : shp0 n v = true) : (∃ i o, v = .pointer (some ⟨i, o, none⟩) ∧ i < n) ∨ (∃ i o k c, v = .slice (some ⟨i, o, none⟩) k c ∧ i < n) ∨ scalar v = true := by
  unfold shp0 at h
  split at h
  · exact .inl ⟨_, _, rfl, by simpa using h⟩
  · exact .inr (.inl ⟨_, _, _, _, rfl, by simpa using h⟩)
  · exact .inr (.inr h)
theorem ren0_of {μ μ' : Nat → Option Loc} {ρ : Nat → Nat} {n : Nat} (hm : ∀ i, i < n → ∀ L, μ (ρ i) = some L → μ' i = some L) {v c : Value} (hs : shp0 n v = true) (h : VRel μ (ren0 ρ v) c) : VRel μ' v c := by
  rcases shp0_cases hs with ⟨i, o, rfl, hi⟩ | ⟨i, o, k, q, rfl, hi⟩ | hsc
  · exact VRel.pointer' h (hm i hi)
  · exact VRel.slice' h (hm i hi)
  · rw [ren0_scal hsc] at h; rw [h.scal hsc]; exact .flat _ (scalar_flat hsc)
theorem ren0_to {μ μ' : Nat → Option Loc} {ρ : Nat → Nat} {n : Nat} (hm : ∀ i, i < n → ∀ L, μ i = some L → μ' (ρ i) = some L) {v c : Value} (hs : shp0 n v = true) (h : VRel μ v c) : VRel μ' (ren0 ρ v) c := by
  rcases shp0_cases hs with ⟨i, o, rfl, hi⟩ | ⟨i, o, k, q, rfl, hi⟩ | hsc
  · exact VRel.pointer' h (hm i hi)
  · exact VRel.slice' h (hm i hi)
  · rw [ren0_scal hsc, h.scal hsc]; exact .flat _ (scalar_flat hsc)
theorem shp1_cases {n : Nat} {v : Value} (h : shp1 n v = true) : (∃ fn cs, v = .func fn #[] cs ∧ ∀ x ∈ cs.toList, shp0 n x = true) ∨ (shp0 n v = true ∧ ∀ ρ, ren1 ρ v = ren0 ρ v) := by
  unfold shp1 at h
  split at h
  · exact .inl ⟨_, _, rfl, List.all_eq_true.1 h⟩
  · rename_i hne
    refine .inr ⟨h, fun ρ => ?_⟩
    unfold ren1
    split
    · exact absurd rfl (hne _ _)
    · rfl
theorem ren1_of {μ μ' : Nat → Option Loc} {ρ : Nat → Nat} {n : Nat} (hm : ∀ i, i < n → ∀ L, μ (ρ i) = some L → μ' i = some L) {v c : Value} (hs : shp1 n v = true) (h : VRel μ (ren1 ρ v) c) : VRel μ' v c := by
  rcases shp1_cases hs with ⟨fn, cs, rfl, hcs⟩ | ⟨h0, e⟩
  · have h' : VRel μ (.func fn #[] (cs.toList.map (ren0 ρ)).toArray) c := h
    obtain ⟨b', rfl, _, hb⟩ := h'.funcOf
    have := rel_map (f := ren0 ρ) (fun v hv c hc => ren0_of hm (hcs v hv) hc) (by simpa using hb)
    have q := VRel.func fn cs.toList b'.toList this.1 this.2
    simpa using q
  · rw [e] at h; exact ren0_of hm h0 h
theorem ren1_to {μ μ' : Nat → Option Loc} {ρ : Nat → Nat} {n : Nat} (hm : ∀ i, i < n → ∀ L, μ i = some L → μ' (ρ i) = some L) {v c : Value} (hs : shp1 n v = true) (h : VRel μ v c) : VRel μ' (ren1 ρ v) c := by
  rcases shp1_cases hs with ⟨fn, cs, rfl, hcs⟩ | ⟨h0, e⟩
  · obtain ⟨b', rfl, _, hb⟩ := h.funcOf
    have := rel_map' (f := ren0 ρ) (fun v hv c hc => ren0_to hm (hcs v hv) hc) hb
    have q := VRel.func fn _ b'.toList this.1 this.2
    simpa [ren1] using q
  · rw [e]; exact ren0_to hm h0 h
theorem ren2_of {μ μ' : Nat → Option Loc} {ρ : Nat → Nat} {n : Nat} (hm : ∀ i, i < n → ∀ L, μ (ρ i) = some L → μ' i = some L) {v c : Value} (hs : shp2 n v = true) (h : VRel μ (ren2 ρ v) c) : VRel μ' v c := by
  unfold shp2 at hs
  split at hs
  · rename_i cs
    have h' : VRel μ (.agg (cs.toList.map (ren1 ρ)).toArray) c := h
    obtain ⟨b', rfl, hb⟩ := h'.aggOf
    have := rel_map (f := ren1 ρ) (fun v hv c hc => ren1_of hm (List.all_eq_true.1 hs v hv) hc) (by simpa using hb)
    have q := VRel.mkAgg this
    simpa using q
  · rename_i hne
    have e : ren2 ρ v = ren1 ρ v := by unfold ren2; split; exact absurd rfl (hne _); rfl
    rw [e] at h; exact ren1_of hm hs h
theorem ren2_to {μ μ' : Nat → Option Loc} {ρ : Nat → Nat} {n : Nat} (hm : ∀ i, i < n → ∀ L, μ i = some L → μ' (ρ i) = some L) {v c : Value} (hs : shp2 n v = true) (h : VRel μ v c) : VRel μ' (ren2 ρ v) c := by
  unfold shp2 at hs
  split at hs
  · rename_i cs
    obtain ⟨b', rfl, hb⟩ := h.aggOf
    have := rel_map' (f := ren1 ρ) (fun v hv c hc => ren1_to hm (List.all_eq_true.1 hs v hv) hc) hb
    have q := VRel.mkAgg this
    simpa [ren2] using q
  · rename_i hne
    have e : ren2 ρ v = ren1 ρ v := by unfold ren2; split; exact absurd rfl (hne _); rfl
    rw [e]; exact ren1_to hm hs h
theorem ren_of {μ μ' : Nat → Option Loc} {ρ : Nat → Nat} {n : Nat} (hm : ∀ i, i < n → ∀ L, μ (ρ i) = some L → μ' i = some L) {v c : Value} (hs : shp n v = true) (h : VRel μ (ren ρ v) c) : VRel μ' v c := by
  unfold shp at hs
  split at hs
  · rename_i cs
    have h' : VRel μ (.tuple (cs.toList.map (ren2 ρ)).toArray) c := h
    obtain ⟨b', rfl, hb⟩ := h'.tupleOf
    have := rel_map (f := ren2 ρ) (fun v hv c hc => ren2_of hm (List.all_eq_true.1 hs v hv) hc) (by simpa using hb)
    have q := VRel.mkTuple this
    simpa using q
  · rename_i hne
    have e : ren ρ v = ren2 ρ v := by unfold ren; split; exact absurd rfl (hne _); rfl
    rw [e] at h; exact ren2_of hm hs h
theorem ren_to {μ μ' : Nat → Option Loc} {ρ : Nat → Nat} {n : Nat} (hm : ∀ i, i < n → ∀ L, μ i = some L → μ' (ρ i) = some L) {v c : Value} (hs : shp n v = true) (h : VRel μ v c) : VRel μ' (ren ρ v) c := by
  unfold shp at hs
  split at hs
  · rename_i cs
    obtain ⟨b', rfl, hb⟩ := h.tupleOf
    have := rel_map' (f := ren2 ρ) (fun v hv c hc => ren2_to hm (List.all_eq_true.1 hs v hv) hc) hb
    have q := VRel.mkTuple this
    simpa [ren] using q
  · rename_i hne
    have e : ren ρ v = ren2 ρ v := by unfold ren; split; exact absurd rfl (hne _); rfl
    rw [e]; exact ren2_to hm hs h
end Go.Am
