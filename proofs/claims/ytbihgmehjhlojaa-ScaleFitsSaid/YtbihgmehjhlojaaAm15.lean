/-
An abstract machine over the kit's wp calculus, part 15: closed code, closed calls.
-/
import Derived.Test.YtbihgmehjhlojaaAm14
set_option linter.unusedVariables false
set_option linter.unusedSimpArgs false
namespace Go.Am
open Go Go.RowKit

def loopN (f : AS → Option (Exit × AS)) : Nat → AS → Option (Exit × AS)
  | 0, _ => none
  | n + 1, σ =>
    match f σ with
    | some (.normal, σ') => loopN f n σ'
    | r => r
def runCode (call : CallF) (P : Program) (nt : NT) (N : Nat) : Code → AS → Option (Exit × AS)
  | .skip, σ => some (.normal, σ)
  | .region _ ops false, σ => match evalOpsC call P nt ops ops.toList σ with | some s => some (.normal, s) | none => none
  | .region _ ops true, σ => match runDraw call P nt ops σ with | some s => some (.normal, s) | none => none
  | .seq a b, σ =>
    match runCode call P nt N a σ with
    | some (.normal, s) => runCode call P nt N b s
    | r => r
  | .cond c a b, σ =>
    match ev σ.ts c with
    | some (.bool true) => runCode call P nt N a σ
    | some (.bool false) => runCode call P nt N b σ
    | _ => none
  | .block id c, σ =>
    match runCode call P nt N c σ with
    | some (.exit id', s) => if id' = id then some (.normal, s) else some (.exit id', s)
    | r => r
  | .loop c, σ => loopN (fun s => runCode call P nt N c s) N σ
  | .exit id, σ => some (.exit id, σ)
  | .ret, σ => some (.ret, σ)
  | _, _ => none

section
variable {call : CallF} {P : Program} (hc : CallOK P call) (hm : P.follows .mixedOrders = true)

theorem loopN_ok {r : Option Nat} {nt : NT} {nI : Nat} {c : Code} {f : AS → Option (Exit × AS)} (hf : ∀ {σ : AS} {ex : Exit} {σ' : AS}, f σ = some (ex, σ') → nI ≤ σ.nx → σ.nx ≤ σ'.nx ∧ Tr P r nt nI c σ fun e s => e = ex ∧ s = σ') : ∀ {n : Nat} {σ : AS} {ex : Exit} {σ' : AS},
    loopN f n σ = some (ex, σ') → nI ≤ σ.nx → (σ.nx ≤ σ'.nx ∧ ex ≠ .normal) ∧ Tr P r nt nI (.loop c) σ fun e s => e = ex ∧ s = σ' := by
  have h1 : ∀ {n : Nat} {σ : AS} {ex : Exit} {σ' : AS}, loopN f n σ = some (ex, σ') → nI ≤ σ.nx → σ.nx ≤ σ'.nx ∧ ex ≠ .normal := by
    intro n
    induction n with
    | zero => intro σ ex σ' h; simp [loopN] at h
    | succ n ih =>
      intro σ ex σ' h hn
      simp only [loopN] at h
      split at h
      · rename_i s hs
        have q := (hf hs hn).1
        have := ih h (by omega)
        exact ⟨by omega, this.2⟩
      · rename_i hne
        have q := (hf h hn).1
        refine ⟨q, ?_⟩
        rintro rfl
        exact hne _ h
  intro n σ ex σ' h hn
  refine ⟨h1 h hn, ?_⟩
  -- what is left of the rounds
  let ι := { p : Nat × AS // loopN f p.1 p.2 = some (ex, σ') ∧ nI ≤ p.2.nx }
  refine Tr.loop (ι := ι) (fun i => i.1.2) (fun i => i.1.1) (fun i => ?_) ⟨(n, σ), h, hn⟩ (Imp.refl _ _ _)
  obtain ⟨⟨m, s⟩, hm', hn'⟩ := i
  simp only at hm' hn' ⊢
  cases m with
  | zero => simp [loopN] at hm'
  | succ m =>
    simp only [loopN] at hm'
    split at hm'
    · rename_i s1 hs
      obtain ⟨q1, q2⟩ := hf hs hn'
      refine q2.mono fun e s2 ⟨h1, h2⟩ => ?_
      subst h1; subst h2
      exact ⟨⟨(m, s2), hm', by show nI ≤ s2.nx; omega⟩, Imp.refl _ _ _, Nat.lt_succ_self _⟩
    · rename_i hne
      obtain ⟨q1, q2⟩ := hf hm' hn'
      refine q2.mono fun e s2 ⟨h1, h2⟩ => ?_
      subst h1; subst h2
      cases e with
      | normal => exact absurd hm' (hne _)
      | _ => exact ⟨rfl, rfl⟩

include hc hm
theorem runCode_ok {r : Option Nat} {nt : NT} {nI N : Nat} : ∀ {c : Code} {σ : AS} {ex : Exit} {σ' : AS}, runCode call P nt N c σ = some (ex, σ') → nI ≤ σ.nx → σ.nx ≤ σ'.nx ∧ Tr P r nt nI c σ fun e s => e = ex ∧ s = σ' := by
  intro c
  induction c with
  | skip => intro σ ex σ' h hn; simp only [runCode, Option.some.injEq, Prod.mk.injEq] at h; obtain ⟨rfl, rfl⟩ := h; exact ⟨Nat.le_refl _, Tr.skip ⟨rfl, rfl⟩⟩
  | region id ops draw =>
    intro σ ex σ' h hn
    cases draw with
    | false =>
      simp only [runCode] at h
      split at h
      · rename_i s hs
        simp only [Option.some.injEq, Prod.mk.injEq] at h
        obtain ⟨rfl, rfl⟩ := h
        have hle : ∀ {l : List Oper} {σ s : AS}, evalOpsC call P nt ops l σ = some s → σ.nx ≤ s.nx := by
          intro l
          induction l with
          | nil => intro σ s h; simp only [evalOpsC, Option.some.injEq] at h; subst h; exact Nat.le_refl _
          | cons o r ih =>
            intro σ s h
            simp only [evalOpsC] at h
            split at h
            · split at h
              · split at h
                · rename_i e nx he
                  have := (evalC_ok hc he).2
                  have := ih h
                  simp only [AS.app] at this; omega
                · cases h
              · have := ih h
                exact this
              · cases h
            · cases h
        refine ⟨hle hs, Tr.region ?_⟩
        have := TrL.evalC hc (r := r) (l2 := []) (K := fun s' => Exit.normal = .normal ∧ s' = s) hn hs fun _ => TrL.nil ⟨rfl, rfl⟩
        rwa [List.append_nil] at this
      · cases h
    | true =>
      simp only [runCode] at h
      split at h
      · rename_i s hs
        simp only [Option.some.injEq, Prod.mk.injEq] at h
        obtain ⟨rfl, rfl⟩ := h
        exact runDraw_ok hc hm hs hn
      · cases h
  | seq a b iha ihb =>
    intro σ ex σ' h hn
    simp only [runCode] at h
    split at h
    · rename_i s hs
      obtain ⟨h1, h2⟩ := iha hs hn
      obtain ⟨h3, h4⟩ := ihb h (by omega)
      refine ⟨by omega, Tr.seq (h2.mono fun e s2 ⟨q1, q2⟩ => ?_)⟩
      subst q1; subst q2
      exact h4
    · rename_i hne
      obtain ⟨h1, h2⟩ := iha h hn
      refine ⟨h1, Tr.seq (h2.mono fun e s2 ⟨q1, q2⟩ => ?_)⟩
      subst q1; subst q2
      cases e with
      | normal => exact absurd h (hne _)
      | _ => exact ⟨rfl, rfl⟩
  | cond x a b iha ihb =>
    intro σ ex σ' h hn
    simp only [runCode] at h
    split at h
    · rename_i hx
      obtain ⟨h1, h2⟩ := iha h hn
      exact ⟨h1, Tr.cond hx (fun _ => h2) (fun q => by cases q)⟩
    · rename_i hx
      obtain ⟨h1, h2⟩ := ihb h hn
      exact ⟨h1, Tr.cond hx (fun q => by cases q) fun _ => h2⟩
    · cases h
  | block id c ih =>
    intro σ ex σ' h hn
    simp only [runCode] at h
    split at h
    · rename_i id' s hs
      obtain ⟨h1, h2⟩ := ih hs hn
      split at h
      · rename_i e
        simp only [Option.some.injEq, Prod.mk.injEq] at h
        obtain ⟨rfl, rfl⟩ := h
        refine ⟨h1, Tr.block (h2.mono fun e2 s2 ⟨q1, q2⟩ => ?_)⟩
        subst q1; subst q2
        simp only [inBlk, if_pos e]; simp
      · rename_i e
        simp only [Option.some.injEq, Prod.mk.injEq] at h
        obtain ⟨rfl, rfl⟩ := h
        refine ⟨h1, Tr.block (h2.mono fun e2 s2 ⟨q1, q2⟩ => ?_)⟩
        subst q1; subst q2
        simp only [inBlk, if_neg e]; simp
    · rename_i hne
      obtain ⟨h1, h2⟩ := ih h hn
      refine ⟨h1, Tr.block (h2.mono fun e2 s2 ⟨q1, q2⟩ => ?_)⟩
      subst q1; subst q2
      cases e2 with
      | exit id' => exact absurd h (hne _ _)
      | _ => exact ⟨rfl, rfl⟩
  | loop c ih =>
    intro σ ex σ' h hn
    simp only [runCode] at h
    obtain ⟨h1, h2⟩ := loopN_ok (P := P) (r := r) (nt := nt) (nI := nI) (c := c) (fun h hn => ih h hn) h hn
    exact ⟨h1.1, h2⟩
  | exit id => intro σ ex σ' h hn; simp only [runCode, Option.some.injEq, Prod.mk.injEq] at h; obtain ⟨rfl, rfl⟩ := h; exact ⟨Nat.le_refl _, Tr.exit ⟨rfl, rfl⟩⟩
  | ret => intro σ ex σ' h hn; simp only [runCode, Option.some.injEq, Prod.mk.injEq] at h; obtain ⟨rfl, rfl⟩ := h; exact ⟨Nat.le_refl _, Tr.ret ⟨rfl, rfl⟩⟩
  | _ => intro σ ex σ' h hn; simp [runCode] at h
end

/-! ### calls -/
/-- what a call has made: the new blocks that its answer leads to -/
def newGo (hp : Heap) (nx nx' : Nat) : Nat → List Nat → Heap → Option Heap
  | _, [], acc => some acc
  | 0, _ :: _, _ => none
  | f + 1, i :: r, acc =>
    if i < nx then newGo hp nx nx' f r acc
    else
      match get acc i with
      | some _ => newGo hp nx nx' f r acc
      | none =>
        match get hp i with
        | some b =>
          if b.st = 2 then
            if decide (i < nx') && b.cells.all (shp1 nx') then newGo hp nx nx' f (b.cells.flatMap ids1 ++ r) ((i, { cells := b.cells, st := 2, par := [], esz := b.esz }) :: acc) else none
          else newGo hp nx nx' f r acc
        | none => newGo hp nx nx' f r acc
theorem newGo_ok {hp : Heap} {nx nx' : Nat} : ∀ {f : Nat} {l : List Nat} {acc H : Heap}, newGo hp nx nx' f l acc = some H → (NewOK nx (nx' - nx) acc ∧ ∀ i b, (i, b) ∈ acc → nx ≤ i ∧ ∃ b', get hp i = some b' ∧ b'.cells = b.cells ∧ b'.esz = b.esz ∧ b'.st = 2) → NewOK nx (nx' - nx) H ∧ ∀ i b, (i, b) ∈ H → nx ≤ i ∧ ∃ b', get hp i = some b' ∧ b'.cells = b.cells ∧ b'.esz = b.esz ∧ b'.st = 2
  | f, [], acc, H, h, ha => by unfold newGo at h; injection h with h; subst h; exact ha
  | 0, _ :: _, acc, H, h, ha => by simp [newGo] at h
  | f + 1, i :: r, acc, H, h, ha => by
    simp only [newGo] at h
    split at h
    · exact newGo_ok h ha
    · rename_i hi
      split at h
      · exact newGo_ok h ha
      · rename_i hna
        split at h
        · rename_i b hb
          split at h
          · rename_i hst
            split at h
            · rename_i hc
              simp only [Bool.and_eq_true, decide_eq_true_eq] at hc
              obtain ⟨⟨a1, a2⟩, a3⟩ := ha
              have e : nx + (nx' - nx) = nx' := by omega
              refine newGo_ok h ⟨⟨?_, ?_⟩, ?_⟩
              · simp only [List.all_cons, Bool.and_eq_true, decide_eq_true_eq, List.isEmpty_nil, e]
                exact ⟨⟨⟨⟨by omega, hc.2⟩, by simp⟩, trivial⟩, by rw [e] at a1; exact a1⟩
              · simp only [List.map_cons, List.nodup_cons]
                refine ⟨fun hm => ?_, a2⟩
                obtain ⟨⟨j, x⟩, hx, hxe⟩ := List.mem_map.1 hm
                simp only at hxe; subst hxe
                rw [get_of_mem a2 hx] at hna; cases hna
              · intro j x hj
                rcases List.mem_cons.1 hj with q | q
                · injection q with q1 q2; subst q1; subst q2
                  exact ⟨by omega, b, hb, rfl, rfl, hst⟩
                · exact a3 j x q
            · cases h
          · exact newGo_ok h ha
        · exact newGo_ok h ha
/-- blocks that may share memory with no other one of them -/
def parOK (hp new : Heap) : Bool := new.all fun p => match get hp p.1 with | some b => b.par.all (fun j => !new.any (fun q => q.1 == j)) | none => false
theorem parOK_ok {hp new : Heap} (h : parOK hp new = true) {i : Nat} {b b' : Blk} (hi : (i, b) ∈ new) (hb : get hp i = some b') : ∀ j ∈ b'.par, get new j = none := by
  intro j hj
  have := List.all_eq_true.1 h _ hi
  simp only [hb] at this
  have := List.all_eq_true.1 this j hj
  cases hg : get new j with
  | none => rfl
  | some x =>
    have hm := get_mem hg
    simp only [Bool.not_eq_true', List.any_eq_false] at this
    have := this _ hm
    simp at this

def isRet : Exit → Bool
  | .ret => true
  | .normal => true
  | _ => false
def callN (P : Program) (ext : FuncId → List Value → Option Value) (prim : CallF) (N : Nat) : Nat → CallF
  | 0, _, _, _, _ => none
  | n + 1, g, args, H, nx =>
    match ext g args with
    | some v => some (v, [], nx)
    | none =>
      match prim g args H nx with
      | some r => some r
      | none =>
        match P.funcs[g]? with
        | none => none
        | some fn =>
          match fn.body with
          | none => none
          | some c =>
            if args.length ≤ fn.ntmps then
              match runCode (callN P ext prim N n) P ⟨fn.ntmps, []⟩ N c { ts := argTs 0 args, hp := H, nx := nx } with
              | some (ex, σ) =>
                if isRet ex then
                  match resOf P fn.results.toList σ with
                  | some v =>
                    match newGo σ.hp nx σ.nx 4000 (ids3 v) [] with
                    | some new => if shp σ.nx v && parOK σ.hp new then some (v, new, σ.nx) else none
                    | none => none
                  | none => none
                else none
              | none => none
            else none
/-- what is asked of the library's functions -/
def ExtOK (P : Program) (ext : FuncId → List Value → Option Value) : Prop := ∀ g args v, ext g args = some v → (∀ w, (callFunc g args.toArray).run P w = .ok (.value v) w) ∧ args.all flat = true ∧ flat v = true
def NamesOK (P : Program) : Prop := ∀ (g : FuncId) (fn : Func), P.funcs[g]? = some fn → (fn.name == "runtime.NumGoroutine") = false
theorem callN_ok {P : Program} (hm : P.follows .mixedOrders = true) (hnames : NamesOK P) {ext : FuncId → List Value → Option Value} (hext : ExtOK P ext) {prim : CallF} (hprim : CallOK P prim) {N : Nat} : ∀ n, CallOK P (callN P ext prim N n)
  | 0 => fun g args H nx v new nx' h => by simp [callN] at h
  | n + 1 => fun g args H nx v new nx' h => by
    have ih := callN_ok hm hnames hext hprim (N := N) n
    simp only [callN] at h
    split at h
    · rename_i u hu
      simp only [Option.some.injEq, Prod.mk.injEq] at h
      obtain ⟨rfl, rfl, rfl⟩ := h
      obtain ⟨h1, h2, h3⟩ := hext g args _ hu
      exact ⟨Nat.le_refl _, callSem_of_ext h1 h2 h3⟩
    · split at h
      · rename_i q hq
        injection h with h; subst h
        exact hprim _ _ _ _ _ _ _ hq
      · split at h
        · cases h
        · rename_i fn hfn
          split at h
          · cases h
          · rename_i c hb
            split at h
            · rename_i hlen
              split at h
              · rename_i ex σ hrun
                split at h
                · rename_i hex
                  split at h
                  · rename_i u hu
                    split at h
                    · rename_i new' hnew
                      split at h
                      · rename_i hsp
                        simp only [Bool.and_eq_true] at hsp
                        simp only [Option.some.injEq, Prod.mk.injEq] at h
                        obtain ⟨rfl, rfl, rfl⟩ := h
                        obtain ⟨hle, htr⟩ := runCode_ok ih hm (r := none) (nI := nx) hrun (Nat.le_refl _)
                        obtain ⟨hN, hN2⟩ := newGo_ok hnew ⟨⟨by simp, by simp⟩, fun i b hb => by simp at hb⟩
                        refine ⟨hle, fun o fo aos ats ts hp caps vs ho hf ha hargs hH hsh => ?_⟩
                        refine callSem_of_fn (FnOK.of_trS hfn hb hlen (fun i b hi => ⟨by have := (hH i b hi).2.1; omega, (hH i b hi).1⟩) (htr.mono fun e s ⟨q1, q2⟩ => ?_)) ⟨hfn, hb, hnames g fn hfn⟩ hle hsp.1 hN o fo aos ats ts hp caps vs ho hf ha hargs hH hsh
                        subst q1; subst q2
                        refine ⟨?_, hu, fun i b hi h1 => ?_⟩
                        · cases e <;> simp_all [isRet]
                        · obtain ⟨h2, b', h3, h4, h5, h6⟩ := hN2 i b (get_mem hi)
                          have hst : b.st = 2 := by
                            have := List.all_eq_true.1 hN.1 _ (get_mem hi)
                            simp only [Bool.and_eq_true, decide_eq_true_eq] at this
                            exact this.1.2
                          exact ⟨b', h3, h4, h5, by omega, fun j hj => .inr fun x hx => by rw [parOK_ok hsp.2 (get_mem hi) h3 j hj] at hx; cases hx⟩
                      · cases h
                    · cases h
                  · cases h
                · cases h
              · cases h
            · cases h
end Go.Am
