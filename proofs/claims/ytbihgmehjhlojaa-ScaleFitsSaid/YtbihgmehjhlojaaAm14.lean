/-
An abstract machine over the kit's wp calculus, part 14: a program that runs closed code on abstract states, and that what it says is so.
-/
import Derived.Test.YtbihgmehjhlojaaAm13
set_option linter.unusedVariables false
set_option linter.unusedSimpArgs false
namespace Go.Am
open Go Go.RowKit

abbrev CallF := FuncId → List Value → Heap → Nat → Option (Value × Heap × Nat)
def CallOK (P : Program) (call : CallF) : Prop := ∀ g args H nx v new nx', call g args H nx = some (v, new, nx') → nx ≤ nx' ∧ CallSem P g args H nx nx' v new

/-! ### which blocks a value leads to -/
def ids0 : Value → List Nat
  | .pointer (some ⟨i, _, none⟩) => [i]
  | .slice (some ⟨i, _, none⟩) _ _ => [i]
  | _ => []
def ids1 : Value → List Nat
  | .func _ _ cs => cs.toList.flatMap ids0
  | v => ids0 v
def ids2 : Value → List Nat
  | .agg cs => cs.toList.flatMap ids1
  | v => ids1 v
def ids3 : Value → List Nat
  | .tuple cs => cs.toList.flatMap ids2
  | v => ids2 v
def reachGo (hp : Heap) (nx : Nat) : Nat → List Nat → Heap → Option Heap
  | _, [], acc => some acc
  | 0, _ :: _, _ => none
  | f + 1, i :: r, acc =>
    match get acc i with
    | some _ => reachGo hp nx f r acc
    | none =>
      match get hp i with
      | some b =>
        if b.st = 0 then reachGo hp nx f r acc
        else if decide (i < nx) && b.cells.all (shp1 nx) then reachGo hp nx f (b.cells.flatMap ids1 ++ r) ((i, { cells := b.cells, st := 1, par := [], esz := b.esz }) :: acc)
        else none
      | none => reachGo hp nx f r acc
theorem reachGo_ok {hp : Heap} {nx : Nat} : ∀ {f : Nat} {l : List Nat} {acc H : Heap}, reachGo hp nx f l acc = some H → HIn nx acc hp → HIn nx H hp
  | f, [], acc, H, h, ha => by unfold reachGo at h; injection h with h; subst h; exact ha
  | 0, _ :: _, acc, H, h, ha => by simp [reachGo] at h
  | f + 1, i :: r, acc, H, h, ha => by
    simp only [reachGo] at h
    split at h
    · exact reachGo_ok h ha
    · split at h
      · rename_i b hb
        split at h
        · exact reachGo_ok h ha
        · rename_i hst
          split at h
          · rename_i hc
            simp only [Bool.and_eq_true, decide_eq_true_eq] at hc
            refine reachGo_ok h fun j x hj => ?_
            simp only [get] at hj
            split at hj
            · rename_i e
              injection hj with hj; subst hj; subst e
              exact ⟨hc.1, rfl, hc.2, b, hb, by omega, rfl, rfl⟩
            · exact ha j x hj
          · cases h
      · exact reachGo_ok h ha
def evalC (call : CallF) (P : Program) (ts : List (Nat × Value)) (hp : Heap) (nx : Nat) (o : Oper) : Option (Eff × Nat) :=
  match o.op with
  | .call { callee := .value fo, args := aos, argTypes := _ } =>
    match ev ts fo with
    | some (.func (.func g) ⟨[]⟩ caps) =>
      (aos.toList.mapM (ev ts)).bind fun vs =>
        if (vs ++ caps.toList).all (shp nx) then
          (reachGo hp nx 4000 ((vs ++ caps.toList).flatMap ids3) []).bind fun H =>
            match call g (vs ++ caps.toList) H nx with
            | some (v, new, nx') => some ({ val := some v, upd := new }, nx')
            | none => none
        else none
    | _ => none
  | _ => evalOp P ts hp nx o
theorem evalC_ok {call : CallF} {P : Program} (hc : CallOK P call) {ts : List (Nat × Value)} {hp : Heap} {nx nx' : Nat} {o : Oper} {e : Eff} (h : evalC call P ts hp nx o = some (e, nx')) : OpOK P o ts hp nx nx' e ∧ nx ≤ nx' := by
  unfold evalC at h
  split at h
  · rename_i fo aos ats ho
    split at h
    · rename_i g caps hf
      obtain ⟨vs, hvs, h⟩ := Option.bind_eq_some_iff.1 h
      split at h
      · rename_i hs
        obtain ⟨H, hH, h⟩ := Option.bind_eq_some_iff.1 h
        split at h
        · rename_i v new n' hcall
          simp only [Option.some.injEq, Prod.mk.injEq] at h
          obtain ⟨rfl, rfl⟩ := h
          obtain ⟨h1, h2⟩ := hc _ _ _ _ _ _ _ hcall
          exact ⟨h2 o fo aos ats ts hp caps vs ho hf hvs rfl (reachGo_ok hH fun i b hb => by simp [get] at hb) hs, h1⟩
        · cases h
      · cases h
    · cases h
  · exact evalOp_ok h

/-- operations in a row -/
def evalOpsC (call : CallF) (P : Program) (nt : NT) (all : Array Oper) : List Oper → AS → Option AS
  | [], σ => some σ
  | o :: r, σ =>
    if dstOK nt o && noDefer o.op then
      match guardOf all σ.ts o with
      | some true =>
        match evalC call P σ.ts σ.hp σ.nx o with
        | some (e, nx) => evalOpsC call P nt all r (σ.app o.dst e nx)
        | none => none
      | some false => evalOpsC call P nt all r { σ with ts := putDst σ.ts o.dst (some undef) }
      | none => none
    else none
theorem TrL.evalC {call : CallF} {P : Program} (hc : CallOK P call) {r : Option Nat} {nt : NT} {nI : Nat} {all : Array Oper} {l2 : List Oper} {K : AS → Prop} : ∀ {l1 : List Oper} {σ σ' : AS}, nI ≤ σ.nx → evalOpsC call P nt all l1 σ = some σ' → (σ.nx ≤ σ'.nx → TrL P r nt nI all l2 σ' K) → TrL P r nt nI all (l1 ++ l2) σ K
  | [], σ, σ', hn, h, k => by simp only [evalOpsC, Option.some.injEq] at h; subst h; exact k (Nat.le_refl _)
  | o :: l1, σ, σ', hn, h, k => by
    simp only [evalOpsC] at h
    split at h
    · rename_i hd
      simp only [Bool.and_eq_true] at hd
      obtain ⟨hd, hnd⟩ := hd
      split at h
      · rename_i hg
        split at h
        · rename_i e nx he
          obtain ⟨q1, q2⟩ := evalC_ok hc he
          exact TrL.op hd hnd hg q1 q2 hn (TrL.evalC hc (Nat.le_trans hn q2) h fun q => k (Nat.le_trans q2 q))
        · cases h
      · rename_i hg
        exact TrL.skip hd hg (TrL.evalC hc hn h k)
      · cases h
    · cases h

/-! ### regions that draw -/
def asideKeys (A : List Nat) (i : Nat) : Nat → List Item → List Nat
  | _, [] => []
  | j, it :: r => match it.e.upd with
    | [] => asideKeys A i (j + 1) r
    | u => if aside A i j then u.map (·.1) ++ asideKeys A i (j + 1) r else asideKeys A i (j + 1) r
def drawGo (call : CallF) (P : Program) (nt : NT) (all : Array Oper) (A : List Nat) (ds : Keys) (σ : AS) (dlf : Nat → List Nat) : Nat → List Oper → List Item → List Heap → Nat → Option (List Item × List Heap × Nat)
  | _, [], its, hs, nx => some (its, hs, nx)
  | i, o :: r, its, hs, nx =>
    match leanTs A ds its σ i, asideKeys A i 0 its ++ dlf i with
    | ts, dl => match leanHp A its σ i dl with
      | hp => if dstOK nt o then
          match guardOf all ts o with
          | some true =>
            if noDefer o.op then
              match evalC call P ts hp nx o with
              | some (e, nx') => drawGo call P nt all A ds σ dlf (i + 1) r (its ++ [⟨o, e, nx, nx', dl⟩]) (hs ++ [hp]) nx'
              | none => none
            else none
          | some false => drawGo call P nt all A ds σ dlf (i + 1) r (its ++ [⟨o, ⟨some undef, []⟩, nx, nx, dl⟩]) (hs ++ [hp]) nx
          | none => none
        else none
theorem chain_append : ∀ {its : List Item} {n m : Nat} {it : Item}, chain n its m → it.lo = m → m ≤ it.hi → chain n (its ++ [it]) it.hi
  | [], n, m, it, h, h1, h2 => by simp [chain] at h ⊢; omega
  | x :: r, n, m, it, h, h1, h2 => by
    obtain ⟨q1, q2, q3⟩ := h
    exact ⟨q1, q2, chain_append q3 h1 h2⟩
theorem drawGo_ok {call : CallF} {P : Program} (hc : CallOK P call) {nt : NT} {all : Array Oper} {A : List Nat} {ds : Keys} {σ : AS} {dlf : Nat → List Nat} {n0 : Nat} : ∀ {r : List Oper} {i : Nat} {its its' : List Item} {hs hs' : List Heap} {nx nx' : Nat}, drawGo call P nt all A ds σ dlf i r its hs nx = some (its', hs', nx') → its.length = i → hs.length = i → chain n0 its nx →
      (∀ j it, its[j]? = some it → StepOK P all nt it.o (leanTs A ds (its.take j) σ j) (leanHp A (its.take j) σ j it.dl) it.lo it.hi it.e ∧ hs[j]? = some (leanHp A (its.take j) σ j it.dl)) →
      its'.map (·.o) = its.map (·.o) ++ r ∧ hs'.length = its'.length ∧ chain n0 its' nx' ∧ ∀ j it, its'[j]? = some it → StepOK P all nt it.o (leanTs A ds (its'.take j) σ j) (leanHp A (its'.take j) σ j it.dl) it.lo it.hi it.e ∧ hs'[j]? = some (leanHp A (its'.take j) σ j it.dl)
  | [], i, its, its', hs, hs', nx, nx', h, h1, h2, h3, h4 => by
    simp only [drawGo, Option.some.injEq, Prod.mk.injEq] at h
    obtain ⟨rfl, rfl, rfl⟩ := h
    exact ⟨by simp, by omega, h3, h4⟩
  | o :: r, i, its, its', hs, hs', nx, nx', h, h1, h2, h3, h4 => by
    have app : ∀ (x : Item), x.o = o → x.lo = nx → nx ≤ x.hi → StepOK P all nt x.o (leanTs A ds its σ i) (leanHp A its σ i x.dl) x.lo x.hi x.e → drawGo call P nt all A ds σ dlf (i + 1) r (its ++ [x]) (hs ++ [leanHp A its σ i x.dl]) x.hi = some (its', hs', nx') →
        its'.map (·.o) = its.map (·.o) ++ o :: r ∧ hs'.length = its'.length ∧ chain n0 its' nx' ∧ ∀ j it, its'[j]? = some it → StepOK P all nt it.o (leanTs A ds (its'.take j) σ j) (leanHp A (its'.take j) σ j it.dl) it.lo it.hi it.e ∧ hs'[j]? = some (leanHp A (its'.take j) σ j it.dl) := by
      intro x hxo hxl hxh hstep hgo
      have := drawGo_ok hc (n0 := n0) hgo (by simp [h1]) (by simp [h2]) (chain_append h3 hxl hxh) (fun j it hj => by
        rcases Nat.lt_or_ge j its.length with q | q
        · rw [List.getElem?_append_left q] at hj
          rw [List.take_append_of_le_length (by omega), List.getElem?_append_left (by omega)]
          exact h4 j it hj
        · have e : j = its.length := by have := (List.getElem?_eq_some_iff.1 hj).1; simp at this; omega
          subst e
          simp at hj; subst hj
          rw [List.take_append_of_le_length (Nat.le_refl _), List.take_length, List.getElem?_append_right (by omega)]
          rw [h1]
          exact ⟨hstep, by simp [h2]⟩)
      obtain ⟨g1, g2⟩ := this
      exact ⟨by rw [g1]; simp [hxo], g2⟩
    simp only [drawGo] at h
    split at h
    · rename_i hd
      split at h
      · rename_i hg
        split at h
        · rename_i hnd
          split at h
          · rename_i e nx2 he
            obtain ⟨q1, q2⟩ := evalC_ok hc he
            exact app ⟨o, e, nx, nx2, _⟩ rfl rfl q2 ⟨hd, .inl ⟨hnd, hg, q1⟩⟩ h
          · cases h
        · cases h
      · rename_i hg
        exact app ⟨o, ⟨some undef, []⟩, nx, nx, _⟩ rfl rfl (Nat.le_refl _) ⟨hd, .inr ⟨hg, rfl, rfl⟩⟩ h
      · cases h
    · cases h
def asideRow (A : List Nat) (j : Nat) (kj : List Nat) : Nat → List Item → List Heap → Bool
  | _, [], _ => true
  | _, _ :: _, [] => false
  | i, it :: r, h :: hs => (if i < j then (A.getD j 0).testBit i || kj.all (fun x => !(keysOf it.e).contains x) else true) && (if aside A i j then kj.all (fun x => match get h x with | none => true | some b => b.st == 0) else true) && asideRow A j kj (i + 1) r hs
def asideAll (A : List Nat) (its : List Item) (hs : List Heap) : Nat → List Item → Bool
  | _, [] => true
  | j, jt :: r => (match keysOf jt.e with | [] => true | kj => asideRow A j kj 0 its hs) && asideAll A its hs (j + 1) r
theorem asideRow_ok {A : List Nat} {j : Nat} {kj : List Nat} : ∀ {its : List Item} {hs : List Heap} {k : Nat}, asideRow A j kj k its hs = true → ∀ {i : Nat} {it : Item} {h : Heap}, its[i]? = some it → hs[i]? = some h → ∀ x ∈ kj,
    (k + i < j → x ∈ keysOf it.e → (A.getD j 0).testBit (k + i) = true) ∧ (aside A (k + i) j = true → ∀ b, get h x = some b → b.st = 0)
  | [], hs, k, hh, i, it, h, hi, _, x, hx => by simp at hi
  | _ :: _, [], k, hh, i, it, h, hi, hh2, x, hx => by simp at hh2
  | it0 :: r, h0 :: hs, k, hh, i, it, h, hi, hh2, x, hx => by
    simp only [asideRow, Bool.and_eq_true] at hh
    obtain ⟨⟨g1, g2⟩, g3⟩ := hh
    cases i with
    | zero =>
      simp at hi hh2; subst hi; subst hh2
      simp only [Nat.add_zero]
      refine ⟨fun hk hxk => ?_, fun ha b hb => ?_⟩
      · rw [if_pos hk, Bool.or_eq_true] at g1
        rcases g1 with g1 | g1
        · exact g1
        · have := List.all_eq_true.1 g1 x hx
          simp at this; exact absurd hxk this
      · rw [if_pos ha] at g2
        have := List.all_eq_true.1 g2 x hx
        rw [hb] at this; simpa using this
    | succ i =>
      have := asideRow_ok g3 (i := i) (by simpa using hi) (by simpa using hh2) x hx
      rwa [show k + 1 + i = k + (i + 1) by omega] at this
theorem asideAll_ok {A : List Nat} {its : List Item} {hs : List Heap} : ∀ {r : List Item} {k : Nat}, asideAll A its hs k r = true → ∀ {j : Nat} {jt : Item}, r[j]? = some jt → ∀ {i : Nat} {it : Item} {h : Heap}, its[i]? = some it → hs[i]? = some h → ∀ x ∈ keysOf jt.e,
    (i < k + j → x ∈ keysOf it.e → (A.getD (k + j) 0).testBit i = true) ∧ (aside A i (k + j) = true → ∀ b, get h x = some b → b.st = 0)
  | [], k, _, j, jt, hj, i, it, h, hi, hh, x, hx => by simp at hj
  | jt0 :: r, k, hg, j, jt, hj, i, it, h, hi, hh, x, hx => by
    simp only [asideAll, Bool.and_eq_true] at hg
    obtain ⟨g1, g2⟩ := hg
    cases j with
    | zero =>
      simp at hj; subst hj
      split at g1
      · rename_i e; rw [e] at hx; simp at hx
      · have := asideRow_ok g1 (i := i) hi hh x hx
        simpa using this
    | succ j =>
      have := asideAll_ok g2 (j := j) (by simpa using hj) hi hh x hx
      rwa [show k + 1 + j = k + (j + 1) by omega] at this
def drawFin (σ : AS) (its : List Item) (nx : Nat) : AS :=
  match stAt (fun _ => true) 0 its σ.ts σ.hp with
  | (ts, hp) => { ts := ts, hp := hp, nx := nx }
def runDraw (call : CallF) (P : Program) (nt : NT) (ops : Array Oper) (σ : AS) : Option AS :=
  match ops.toList with
  | l => match ancs l, l.map (·.dst) with
    | A, ds => if bindsOK 0 l && wOK A ds then
        match drawGo call P nt ops A ds σ (fun _ => []) 0 l [] [] σ.nx with
        | some (its, hs, nx) =>
          if asideAll A its hs 0 its then some (drawFin σ its nx)
          else match drawGo call P nt ops A ds σ (fun i => asideKeys A i 0 its) 0 l [] [] σ.nx with
            | some (its2, hs2, nx2) => if asideAll A its2 hs2 0 its2 then some (drawFin σ its2 nx2) else none
            | none => none
        | none => none
      else none
theorem runDraw_ok {call : CallF} {P : Program} (hc : CallOK P call) (hm : P.follows .mixedOrders = true) {r : Option Nat} {nt : NT} {nI id : Nat} {ops : Array Oper} {σ σ' : AS} (h : runDraw call P nt ops σ = some σ') (hn : nI ≤ σ.nx) :
    σ.nx ≤ σ'.nx ∧ Tr P r nt nI (.region id ops true) σ fun ex s => ex = .normal ∧ s = σ' := by
  have fin : ∀ {dlf : Nat → List Nat} {its : List Item} {hs : List Heap} {nx : Nat}, bindsOK 0 ops.toList = true → wOK (ancs ops.toList) (ops.toList.map (·.dst)) = true → drawGo call P nt ops (ancs ops.toList) (ops.toList.map (·.dst)) σ dlf 0 ops.toList [] [] σ.nx = some (its, hs, nx) →
      asideAll (ancs ops.toList) its hs 0 its = true → drawFin σ its nx = σ' → σ.nx ≤ σ'.nx ∧ Tr P r nt nI (.region id ops true) σ fun ex s => ex = .normal ∧ s = σ' := by
    intro dlf its hs nx hb hw hgo has hf
    obtain ⟨g1, g2, g3, g4⟩ := drawGo_ok hc (n0 := σ.nx) hgo rfl rfl (by simp [chain]) (fun j it hj => by simp at hj)
    subst hf
    refine ⟨chain_le g3, Tr.draw hm (by simpa using g1.symm) rfl hb hw (fun i j it jt hi hj x hx => ?_) g3 (fun i it hi => (g4 i it hi).1) hn ⟨rfl, rfl⟩⟩
    have := asideAll_ok has hj hi (g4 i it hi).2 x hx
    rwa [Nat.zero_add] at this
  unfold runDraw at h
  simp only at h
  split at h
  · rename_i hbw
    simp only [Bool.and_eq_true] at hbw
    split at h
    · rename_i its hs nx hgo
      split at h
      · rename_i has
        injection h with h
        exact fin hbw.1 hbw.2 hgo has h
      · split at h
        · rename_i its2 hs2 nx2 hgo2
          split at h
          · rename_i has
            injection h with h
            exact fin hbw.1 hbw.2 hgo2 has h
          · cases h
        · cases h
    · cases h
  · cases h
end Go.Am
