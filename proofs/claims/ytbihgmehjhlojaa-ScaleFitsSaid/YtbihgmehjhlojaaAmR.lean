/-
An abstract machine over the kit's wp calculus, part R: code run with answers.
-/
import Derived.Test.YtbihgmehjhlojaaAmM
set_option linter.unusedVariables false
set_option linter.unusedSimpArgs false
namespace Go.Am
open Go Go.RowKit

theorem OpOK.more {P : Program} {o : Oper} {ts ts' : List (Nat × Value)} {hp hp' : Heap} {lo hi : Nat} {e : Eff} (h : OpOK P o ts hp lo hi e) (ht : TLe ts ts') (hh : HLe hp hp') : OpOK P o ts' hp' lo hi e :=
  fun B w0 μ F ts2 hp2 nt a w next Q h1 h2 => h B w0 μ F ts2 hp2 nt a w next Q (fun t v hv => h1 t v (ht t v hv)) (hh.trans h2)
theorem SCR.skip {rows : List Nat} {i : Nat} {b : Blk} {H : Heap} (h : rows.contains i = false) (hs : SCR rows H) : SCR rows ((i, b) :: H) := SCR.cons (fun q => by rw [h] at q; cases q) hs

abbrev GenF := List (Nat × Value) → Heap → Nat → Oper → Option (Eff × Nat × Cls)
/-- what is told of an operation is so -/
def GenOK (P : Program) (f : GenF) : Prop := ∀ ts hp nx o e nx' cs, f ts hp nx o = some (e, nx', cs) → CIn cs → OpOK P o ts hp nx nx' e ∧ nx ≤ nx'
/-- code from a state on, where ranges over functions leave marks among what is deferred -/
def MarksOK (lo : Nat) (ms : List Deferred) (w : World) : Prop := (∀ d ∈ ms, ∃ D, d = { target := .collected D, args := #[] } ∧ lo ≤ D ∧ w.heap[D]? = some (.deferred (some []))) ∧ (ms.map (·.target)).Nodup
def TrM (P : Program) (N nI : Nat) (c : Code) (σ : AS) (K : Exit → AS → Prop) : Prop :=
  ∀ (ds : List Deferred) (n B : Nat) (w0 : World) (μ : Nat → Option Loc) (a : Act) (w : World) (Q : Exit → Act → World → Prop), 1 ≤ n → RelS B w0 μ ⟨N, ds⟩ σ a w →
    (∀ ex σ' μ' a' w' ms, K ex σ' → ExtI nI μ μ' → MarksOK w.heap.size ms w' → KeepsOthers w w' → RelS B w0 μ' ⟨N, ms ++ ds⟩ σ' a' w' → Q ex a' w') → c.wpIn (fen none) n P Q a w
inductive Ans (P : Program) (r : Option Nat) (N : Nat) (nI : Nat) (m : Bool)
  /-- the value v is u -/
  | is (v u : Value) (h : v = u)
  /-- what an operation does -/
  | gen (f : GenF) (h : GenOK P f)
  /-- what a statement comes to: a loop -/
  | stmt (c : Code) (rows : List Nat) (σ0 : AS) (ex : Exit) (σ1 : AS) (hs : SCR rows σ0.hp) (h : ∀ ds, Tr P r ⟨N, ds⟩ nI c σ0 fun e s => e = ex ∧ s = σ1) (hn : nI ≤ σ1.nx)
  /-- a call whose body is gone through in the caller's memory -/
  | inl (g : FuncId) (fn : Func) (hg : Has P g fn ((fun f : Func => match f.body with | some c => c | none => .skip) fn)) (args : List Value) (hp0 : Heap) (nx0 : Nat) (v : Value) (hp1 : Heap) (nx1 : Nat) (h : ∀ ds, Tr P none ⟨fn.ntmps, ds⟩ nx0 ((fun f : Func => match f.body with | some c => c | none => .skip) fn) ⟨argTs 0 args, hp0, nx0⟩ fun ex s => isRet ex = true ∧ resOf P fn.results.toList s = some v ∧ s.hp = hp1 ∧ s.nx = nx1) (hn : args.length ≤ fn.ntmps) (hnx : nx0 ≤ nx1)
  /-- what a range over a function comes to -/
  | rng (hm : m = true) (c : Code) (rows : List Nat) (σ0 : AS) (ex : Exit) (σ1 : AS) (hs : SCR rows σ0.hp) (h : TrM P N nI c σ0 fun e s => e = ex ∧ s = σ1) (hn : nI ≤ σ1.nx)

section
variable {P : Program} {r : Option Nat} {N : Nat} {nI : Nat} {m : Bool} {ds : List Deferred}
def evalX (a : Ans P r N nI m) (ts : List (Nat × Value)) (hp : Heap) (nx : Nat) (o : Oper) : Option (Eff × Nat × Cls) :=
  match a with
  | .is v u _ =>
    match evalOp P ts hp nx o with
    | some (⟨some w, []⟩, nx') => some (⟨some u, []⟩, nx', [(.v w, .v v)])
    | _ => none
  | .gen f _ => f ts hp nx o
  | .stmt .. => none
  | .inl .. => none
  | .rng .. => none
theorem evalX_ok {a : Ans P r N nI m} {ts : List (Nat × Value)} {hp : Heap} {nx nx' : Nat} {o : Oper} {e : Eff} {cs : Cls} (h : evalX a ts hp nx o = some (e, nx', cs)) (hc : ∀ p ∈ cs, p.1 = p.2) : OpOK P o ts hp nx nx' e ∧ nx ≤ nx' := by
  unfold evalX at h
  split at h
  · rename_i v u hvu
    split at h
    · rename_i w n' he
      simp only [Option.some.injEq, Prod.mk.injEq] at h
      obtain ⟨rfl, rfl, rfl⟩ := h
      have := hc _ (List.mem_cons_self ..)
      injection this with this
      subst this; subst hvu
      exact evalOp_ok he
    · cases h
  · rename_i f hf
    exact hf _ _ _ _ _ _ _ h hc
  · cases h
  · cases h
  · cases h

abbrev Anss (P : Program) (r : Option Nat) (N : Nat) (nI : Nat) (m : Bool) := List (Nat × Ans P r N nI m)
/-- an operation: by its answer, if the next one is its own -/
def evalA (k : Nat) (A : Anss P r N nI m) (ts : List (Nat × Value)) (hp : Heap) (nx : Nat) (o : Oper) : Option (Eff × Nat × Anss P r N nI m × List (Cl × Cl)) :=
  match A with
  | [] => match evalOp P ts hp nx o with | some (e, n) => some (e, n, [], []) | none => none
  | (k', a) :: q =>
    if k' == k then (match evalX a ts hp nx o with | some (e, n, cs) => some (e, n, q, cs) | none => none)
    else match evalOp P ts hp nx o with | some (e, n) => some (e, n, (k', a) :: q, []) | none => none
theorem evalA_ok {k : Nat} {A A' : Anss P r N nI m} {ts : List (Nat × Value)} {hp : Heap} {nx nx' : Nat} {o : Oper} {e : Eff} {cs : List (Cl × Cl)} (h : evalA k A ts hp nx o = some (e, nx', A', cs)) (hc : ∀ p ∈ cs, p.1 = p.2) : OpOK P o ts hp nx nx' e ∧ nx ≤ nx' := by
  unfold evalA at h
  split at h
  · split at h
    · rename_i he
      simp only [Option.some.injEq, Prod.mk.injEq] at h
      obtain ⟨rfl, rfl, rfl, rfl⟩ := h
      exact evalOp_ok he
    · cases h
  · split at h
    · split at h
      · rename_i he
        simp only [Option.some.injEq, Prod.mk.injEq] at h
        obtain ⟨rfl, rfl, rfl, rfl⟩ := h
        exact evalX_ok he hc
      · cases h
    · split at h
      · rename_i he
        simp only [Option.some.injEq, Prod.mk.injEq] at h
        obtain ⟨rfl, rfl, rfl, rfl⟩ := h
        exact evalOp_ok he
      · cases h

/-- a call in the caller's memory -/
def inlX (k : Nat) (A : Anss P r N nI m) (σ : AS) (o : Oper) : Option (AS × Anss P r N nI m × Cls) :=
  match A with
  | (k', .inl g fn _ args hp0 nx0 v hp1 nx1 _ _ _) :: q =>
    if k' == k then
      match o.op with
      | .call { callee := .value fo, args := aos, argTypes := _ } =>
        match ev σ.ts fo with
        | some (.func (.func g') ⟨[]⟩ caps) =>
          match aos.toList.mapM (ev σ.ts) with
          | some vs =>
            if g' == g && nx0 == σ.nx then
              match fit [] 0 σ ⟨σ.ts, hp0, nx0⟩ with
              | some cs => some (⟨putDst σ.ts o.dst (some v), hp1, nx1⟩, q, (.l (vs ++ caps.toList), .l args) :: cs)
              | none => none
            else none
          | none => none
        | _ => none
      | _ => none
    else none
  | _ => none
theorem TrL.inl {all : Array Oper} {o : Oper} {l : List Oper} {σ : AS} {K : AS → Prop} {nt : NT} {g : FuncId} {fn : Func} {c : Code} (hg : Has P g fn c) {args : List Value} {v : Value} {hp1 : Heap} {nx1 : Nat} (hd : dstOK nt o = true) (hgd : guardOf all σ.ts o = some true) {fo : Operand} {aos : Array Operand} {ats : Array TypeId} (ho : o.op = .call { callee := .value fo, args := aos, argTypes := ats }) {caps : Array Value} (hf : ev σ.ts fo = some (.func (.func g) #[] caps)) {vs : List Value} (hvs : aos.toList.mapM (ev σ.ts) = some vs) (hargs : vs ++ caps.toList = args)
    (hb : ∀ ds, Tr P none ⟨fn.ntmps, ds⟩ σ.nx c ⟨argTs 0 args, σ.hp, σ.nx⟩ fun ex s => isRet ex = true ∧ resOf P fn.results.toList s = some v ∧ s.hp = hp1 ∧ s.nx = nx1) (hn : args.length ≤ fn.ntmps) (hnx : σ.nx ≤ nx1) (hnI : nI ≤ σ.nx)
    (h : TrL P r nt nI all l ⟨putDst σ.ts o.dst (some v), hp1, nx1⟩ K) : TrL P r nt nI all (o :: l) σ K := by
  intro n B w0 μ a w Q hr hk
  unfold wpListIn
  rw [if_pos (guardOf_ok hr.t hgd)]
  refine wpIn_of_wp (by rw [ho]; rintro c ⟨⟩) ?_
  obtain ⟨caps', ef, _, hcaps⟩ := (ev_ok hr.t hf).funcOf
  have hv := (mapM_ev hr.t hvs).append hcaps
  rw [hargs] at hv
  unfold Oper.wp
  rw [run_call ho ef hg]
  show Calls P g (aos.map a.eval ++ caps') w _
  have e2 : aos.map a.eval ++ caps' = (aos.toList.map a.eval ++ caps'.toList).toArray := by apply Array.ext'; simp
  rw [e2]
  generalize aos.toList.map a.eval ++ caps'.toList = cargs at hv
  refine calls_of_wp hg.hfn hg.hbody ((wpIn_wide (n := 0)).1 (hb [] 0 B w0 μ _ w _ ⟨⟨rfl, ?_, fun t x hx => ?_⟩, hr.h, hr.below, hr.size, hr.free, hr.st, hr.dom⟩ fun ex s μ' a' w' hK hx hr' => ?_))
  · have := hv.1; simp; omega
  · obtain ⟨_, q2⟩ := get_argTs args 0 t x hx
    obtain ⟨v', q3, q4⟩ := hv.get q2
    refine ⟨v', ?_, q4⟩
    rw [Array.getElem?_append_left (by simpa using (List.getElem?_eq_some_iff.1 q3).1)]
    simpa using q3
  · obtain ⟨hex, hres, rfl, rfl⟩ := hK
    obtain ⟨v', q1, q2⟩ := res_ok hr' hres
    have hext : Ext μ μ' := fun i L hL => by
      rcases Nat.lt_or_ge i σ.nx with q | q
      · rw [hx i q]; exact hL
      · rw [hr.free i q] at hL; cases hL
    have hlast : wpListIn (fen r) n P all Q l (a.put o.dst v') w' := by
      refine h n B w0 μ' _ w' Q ⟨(hr.t.mono hext).put o.dst (dstOK_ok hd) (some v) v' (fun y hy => by injection hy with hy; subst hy; exact q2), hr'.h, hr'.below, hr'.size, hr'.free, hr'.st, hr'.dom⟩ fun σ2 μ2 a2 w2 k1 k2 k3 => hk σ2 μ2 a2 w2 k1 (ExtI.trans (fun i hi => hx i (by omega)) k2) k3
    cases ex with
    | ret => exact ⟨hr'.t.defers, v', q1, hlast⟩
    | normal => exact ⟨hr'.t.defers, v', q1, hlast⟩
    | _ => simp [isRet] at hex
theorem inlX_ok {k : Nat} {A A' : Anss P r N nI m} {σ σ' : AS} {o : Oper} {cs : Cls} (h : inlX k A σ o = some (σ', A', cs)) (hc : CIn cs) {all : Array Oper} {l : List Oper} {K : AS → Prop} {nt : NT} (hd : dstOK nt o = true) (hgd : guardOf all σ.ts o = some true) (hnI : nI ≤ σ.nx) :
    σ.nx ≤ σ'.nx ∧ (TrL P r nt nI all l σ' K → TrL P r nt nI all (o :: l) σ K) := by
  unfold inlX at h
  split at h
  · rename_i k' g fn hg args hp0 nx0 v hp1 nx1 hb hn hnx q
    split at h
    · split at h
      · rename_i fo aos ats ho
        split at h
        · rename_i g' caps hf
          split at h
          · rename_i vs hvs
            split at h
            · rename_i hcond
              simp only [Bool.and_eq_true, beq_iff_eq] at hcond
              obtain ⟨rfl, rfl⟩ := hcond
              split at h
              · rename_i cs2 hfit
                simp only [Option.some.injEq, Prod.mk.injEq] at h
                obtain ⟨rfl, rfl, rfl⟩ := h
                have e1 := hc.head
                simp only [Cl.l.injEq] at e1
                refine ⟨hnx, fun hT => ?_⟩
                refine TrL.imp (σ' := ⟨σ.ts, hp0, σ.nx⟩) (fun B w0 μ a w hr => ?_) (TrL.inl hg hd hgd ho hf hvs e1 hb hn hnx hnI hT)
                obtain ⟨μ', q1, q2⟩ := Imp.fit (nI := 0) (nt := nt) hfit hc.tail (.inl ⟨rfl, rfl⟩) B w0 μ a w hr
                exact ⟨μ, ExtI.refl _ _, by
                  obtain ⟨c1, c2⟩ := Imp.fit_id (nI := 0) (nt := nt) hfit hc.tail rfl B w0 μ a w hr
                  exact c2⟩
              · cases h
            · cases h
          · cases h
        · cases h
      · cases h
    · cases h
  · cases h

def opsX (all : Array Oper) : Nat → List Oper → AS → Anss P r N nI m → Option (AS × Anss P r N nI m × List (Cl × Cl))
  | _, [], σ, A => some (σ, A, [])
  | k, o :: l, σ, A =>
    if dstOK ⟨N, []⟩ o && noDefer o.op then
      match guardOf all σ.ts o with
      | some true =>
        match inlX k A σ o with
        | some (σ1, A', cs) => (match opsX all (k + 1) l σ1 A' with
          | some (s, A2, cs2) => some (s, A2, cs ++ cs2)
          | none => none)
        | none =>
        match evalA k A σ.ts σ.hp σ.nx o with
        | some (e, nx, A', cs) => match opsX all (k + 1) l (σ.app o.dst e nx) A' with
          | some (s, A2, cs2) => some (s, A2, cs ++ cs2)
          | none => none
        | none => none
      | some false => opsX all (k + 1) l { σ with ts := putDst σ.ts o.dst (some undef) } A
      | none => none
    else none
theorem opsX_ok {all : Array Oper} {l2 : List Oper} {K : AS → Prop} : ∀ {l1 : List Oper} {k : Nat} {σ σ' : AS} {A A' : Anss P r N nI m} {cs : List (Cl × Cl)}, nI ≤ σ.nx → opsX all k l1 σ A = some (σ', A', cs) → (∀ p ∈ cs, p.1 = p.2) → (nI ≤ σ'.nx → TrL P r ⟨N, ds⟩ nI all l2 σ' K) → TrL P r ⟨N, ds⟩ nI all (l1 ++ l2) σ K
  | [], k, σ, σ', A, A', cs, hn, h, hc, hk => by
    simp only [opsX, Option.some.injEq, Prod.mk.injEq] at h
    obtain ⟨rfl, rfl, rfl⟩ := h
    exact hk hn
  | o :: l1, k, σ, σ', A, A', cs, hn, h, hc, hk => by
    simp only [opsX] at h
    split at h
    · rename_i hd
      simp only [Bool.and_eq_true] at hd
      obtain ⟨hd, hnd⟩ := hd
      split at h
      · rename_i hg
        split at h
        · rename_i σ1 A1 c1 he
          split at h
          · rename_i s A2 c2 h2
            simp only [Option.some.injEq, Prod.mk.injEq] at h
            obtain ⟨rfl, rfl, rfl⟩ := h
            obtain ⟨q2, q1⟩ := inlX_ok (K := K) (l := l1 ++ l2) (nt := ⟨N, ds⟩) he (fun p hp => hc p (List.mem_append.2 (.inl hp))) hd hg hn
            exact q1 (opsX_ok (Nat.le_trans hn q2) h2 (fun p hp => hc p (List.mem_append.2 (.inr hp))) hk)
          · cases h
        split at h
        · rename_i e nx A1 c1 he
          split at h
          · rename_i s A2 c2 h2
            simp only [Option.some.injEq, Prod.mk.injEq] at h
            obtain ⟨rfl, rfl, rfl⟩ := h
            obtain ⟨q1, q2⟩ := evalA_ok he fun p hp => hc p (List.mem_append.2 (.inl hp))
            exact TrL.op hd hnd hg q1 q2 hn (opsX_ok (Nat.le_trans hn q2) h2 (fun p hp => hc p (List.mem_append.2 (.inr hp))) hk)
          · cases h
        · cases h
      · rename_i hg
        exact TrL.skip hd hg (opsX_ok hn h hc hk)
      · cases h
    · cases h
theorem opsX_nx {all : Array Oper} : ∀ {l1 : List Oper} {k : Nat} {σ σ' : AS} {A A' : Anss P r N nI m} {cs : List (Cl × Cl)}, nI ≤ σ.nx → opsX all k l1 σ A = some (σ', A', cs) → (∀ p ∈ cs, p.1 = p.2) → σ.nx ≤ σ'.nx
  | [], k, σ, σ', A, A', cs, hn, h, hc => by
    simp only [opsX, Option.some.injEq, Prod.mk.injEq] at h
    obtain ⟨rfl, rfl, rfl⟩ := h
    exact Nat.le_refl _
  | o :: l1, k, σ, σ', A, A', cs, hn, h, hc => by
    simp only [opsX] at h
    split at h
    · rename_i hd
      split at h
      · rename_i hg
        split at h
        · rename_i σ1 A1 c1 he
          split at h
          · rename_i s A2 c2 h2
            simp only [Option.some.injEq, Prod.mk.injEq] at h
            obtain ⟨rfl, rfl, rfl⟩ := h
            obtain ⟨q2, _⟩ := inlX_ok (K := fun _ => True) (l := []) (all := all) (nt := ⟨N, []⟩) he (fun p hp => hc p (List.mem_append.2 (.inl hp))) (by simp only [Bool.and_eq_true] at hd; exact hd.1) hg hn
            have := opsX_nx (Nat.le_trans hn q2) h2 fun p hp => hc p (List.mem_append.2 (.inr hp))
            exact Nat.le_trans q2 this
          · cases h
        split at h
        · rename_i e nx A1 c1 he
          split at h
          · rename_i s A2 c2 h2
            simp only [Option.some.injEq, Prod.mk.injEq] at h
            obtain ⟨rfl, rfl, rfl⟩ := h
            obtain ⟨q1, q2⟩ := evalA_ok he fun p hp => hc p (List.mem_append.2 (.inl hp))
            have := opsX_nx (σ := σ.app o.dst e nx) (Nat.le_trans hn q2) h2 fun p hp => hc p (List.mem_append.2 (.inr hp))
            exact Nat.le_trans q2 this
          · cases h
        · cases h
      · exact opsX_nx (σ := { σ with ts := putDst σ.ts o.dst (some undef) }) hn h hc
      · cases h
    · cases h
def drawX (all : Array Oper) (B : List Nat) (dks : Keys) (σ : AS) (dlf : Nat → List Nat) (id : Nat) : Nat → List Oper → List Item → List Heap → Nat → Anss P r N nI m → Option (List Item × List Heap × Nat × Anss P r N nI m × List (Cl × Cl))
  | _, [], its, hs, nx, A => some (its, hs, nx, A, [])
  | i, o :: l, its, hs, nx, A =>
    match leanTs B dks its σ i, asideKeys B i 0 its ++ dlf i with
    | ts, dl => match leanHp B its σ i dl with
      | hp => if dstOK ⟨N, []⟩ o then
          match guardOf all ts o with
          | some true =>
            if noDefer o.op then
              match evalA (id * 1000 + i) A ts hp nx o with
              | some (e, nx', A', cs) =>
                match drawX all B dks σ dlf id (i + 1) l (its ++ [⟨o, e, nx, nx', dl⟩]) (hs ++ [hp]) nx' A' with
                | some (a, b, c, A2, cs2) => some (a, b, c, A2, cs ++ cs2)
                | none => none
              | none => none
            else none
          | some false => drawX all B dks σ dlf id (i + 1) l (its ++ [⟨o, ⟨some undef, []⟩, nx, nx, dl⟩]) (hs ++ [hp]) nx A
          | none => none
        else none
theorem drawX_ok {all : Array Oper} {B : List Nat} {dks : Keys} {σ : AS} {dlf : Nat → List Nat} {n0 id : Nat} : ∀ {l : List Oper} {i : Nat} {its its' : List Item} {hs hs' : List Heap} {nx nx' : Nat} {A A' : Anss P r N nI m} {cs : List (Cl × Cl)}, drawX all B dks σ dlf id i l its hs nx A = some (its', hs', nx', A', cs) → (∀ p ∈ cs, p.1 = p.2) → its.length = i → hs.length = i → chain n0 its nx →
      (∀ j it, its[j]? = some it → StepOK P all ⟨N, ds⟩ it.o (leanTs B dks (its.take j) σ j) (leanHp B (its.take j) σ j it.dl) it.lo it.hi it.e ∧ hs[j]? = some (leanHp B (its.take j) σ j it.dl)) →
      its'.map (·.o) = its.map (·.o) ++ l ∧ hs'.length = its'.length ∧ chain n0 its' nx' ∧ ∀ j it, its'[j]? = some it → StepOK P all ⟨N, ds⟩ it.o (leanTs B dks (its'.take j) σ j) (leanHp B (its'.take j) σ j it.dl) it.lo it.hi it.e ∧ hs'[j]? = some (leanHp B (its'.take j) σ j it.dl)
  | [], i, its, its', hs, hs', nx, nx', A, A', cs, h, hc, h1, h2, h3, h4 => by
    simp only [drawX, Option.some.injEq, Prod.mk.injEq] at h
    obtain ⟨rfl, rfl, rfl, rfl, rfl⟩ := h
    exact ⟨by simp, by omega, h3, h4⟩
  | o :: l, i, its, its', hs, hs', nx, nx', A, A', cs, h, hc, h1, h2, h3, h4 => by
    have app : ∀ (x : Item) {A1 : Anss P r N nI m} {c2 : List (Cl × Cl)}, x.o = o → x.lo = nx → nx ≤ x.hi → StepOK P all ⟨N, ds⟩ x.o (leanTs B dks its σ i) (leanHp B its σ i x.dl) x.lo x.hi x.e → drawX all B dks σ dlf id (i + 1) l (its ++ [x]) (hs ++ [leanHp B its σ i x.dl]) x.hi A1 = some (its', hs', nx', A', c2) → (∀ p ∈ c2, p.1 = p.2) →
        its'.map (·.o) = its.map (·.o) ++ o :: l ∧ hs'.length = its'.length ∧ chain n0 its' nx' ∧ ∀ j it, its'[j]? = some it → StepOK P all ⟨N, ds⟩ it.o (leanTs B dks (its'.take j) σ j) (leanHp B (its'.take j) σ j it.dl) it.lo it.hi it.e ∧ hs'[j]? = some (leanHp B (its'.take j) σ j it.dl) := by
      intro x A1 c2 hxo hxl hxh hstep hgo hc2
      have := drawX_ok (n0 := n0) hgo hc2 (by simp [h1]) (by simp [h2]) (chain_append h3 hxl hxh) (fun j it hj => by
        rcases Nat.lt_or_ge j its.length with q | q
        · rw [List.getElem?_append_left q] at hj
          rw [List.take_append_of_le_length (by omega), List.getElem?_append_left (by omega)]
          exact h4 j it hj
        · have e : j = its.length := by have := (List.getElem?_eq_some_iff.1 hj).1; simp at this; omega
          subst e
          simp at hj; subst hj
          rw [List.take_append_of_le_length (Nat.le_refl _), List.take_length, List.getElem?_append_right (by omega)]
          rw [h1]
          exact ⟨hstep, by simp [h2]⟩)
      obtain ⟨g1, g2⟩ := this
      exact ⟨by rw [g1]; simp [hxo], g2⟩
    simp only [drawX] at h
    split at h
    · rename_i hd
      split at h
      · rename_i hg
        split at h
        · rename_i hnd
          split at h
          · rename_i e nx2 A1 c1 he
            split at h
            · rename_i a b c A2 c2 h2'
              simp only [Option.some.injEq, Prod.mk.injEq] at h
              obtain ⟨rfl, rfl, rfl, rfl, rfl⟩ := h
              obtain ⟨q1, q2⟩ := evalA_ok he fun p hp => hc p (List.mem_append.2 (.inl hp))
              exact app ⟨o, e, nx, nx2, _⟩ rfl rfl q2 ⟨hd, .inl ⟨hnd, hg, q1⟩⟩ h2' fun p hp => hc p (List.mem_append.2 (.inr hp))
            · cases h
          · cases h
        · cases h
      · rename_i hg
        exact app ⟨o, ⟨some undef, []⟩, nx, nx, _⟩ rfl rfl (Nat.le_refl _) ⟨hd, .inr ⟨hg, rfl, rfl⟩⟩ h hc
      · cases h
    · cases h
def drawRun (ops : Array Oper) (σ : AS) (id : Nat) (A : Anss P r N nI m) : Option (AS × Anss P r N nI m × List (Cl × Cl)) :=
  match ops.toList with
  | l => match ancs l, l.map (·.dst) with
    | B, dks => if bindsOK 0 l && wOK B dks then
        match drawX ops B dks σ (fun _ => []) id 0 l [] [] σ.nx A with
        | some (its, hs, nx, A', cs) =>
          if asideAll B its hs 0 its then some (drawFin σ its nx, A', cs)
          else match drawX ops B dks σ (fun i => asideKeys B i 0 its) id 0 l [] [] σ.nx A with
            | some (its2, hs2, nx2, A2, cs2) => if asideAll B its2 hs2 0 its2 then some (drawFin σ its2 nx2, A2, cs2) else none
            | none => none
        | none => none
      else none
theorem drawRun_ok (hm : P.follows .mixedOrders = true) {id id' : Nat} {ops : Array Oper} {σ σ' : AS} {A A' : Anss P r N nI m} {cs : List (Cl × Cl)} (h : drawRun ops σ id' A = some (σ', A', cs)) (hc : ∀ p ∈ cs, p.1 = p.2) (hn : nI ≤ σ.nx) :
    σ.nx ≤ σ'.nx ∧ Tr P r ⟨N, ds⟩ nI (.region id ops true) σ fun ex s => ex = .normal ∧ s = σ' := by
  have fin : ∀ {dlf : Nat → List Nat} {its : List Item} {hs : List Heap} {nx : Nat} {A2 : Anss P r N nI m} {c2 : List (Cl × Cl)}, bindsOK 0 ops.toList = true → wOK (ancs ops.toList) (ops.toList.map (·.dst)) = true → drawX ops (ancs ops.toList) (ops.toList.map (·.dst)) σ dlf id' 0 ops.toList [] [] σ.nx A = some (its, hs, nx, A2, c2) → (∀ p ∈ c2, p.1 = p.2) →
      asideAll (ancs ops.toList) its hs 0 its = true → drawFin σ its nx = σ' → σ.nx ≤ σ'.nx ∧ Tr P r ⟨N, ds⟩ nI (.region id ops true) σ fun ex s => ex = .normal ∧ s = σ' := by
    intro dlf its hs nx A2 c2 hb hw hgo hc2 has hf
    obtain ⟨g1, g2, g3, g4⟩ := drawX_ok (n0 := σ.nx) hgo hc2 rfl rfl (by simp [chain]) (fun j it hj => by simp at hj)
    subst hf
    refine ⟨chain_le g3, Tr.draw hm (by simpa using g1.symm) rfl hb hw (fun i j it jt hi hj x hx => ?_) g3 (fun i it hi => (g4 i it hi).1) hn ⟨rfl, rfl⟩⟩
    have := asideAll_ok has hj hi (g4 i it hi).2 x hx
    rwa [Nat.zero_add] at this
  unfold drawRun at h
  simp only at h
  split at h
  · rename_i hbw
    simp only [Bool.and_eq_true] at hbw
    split at h
    · rename_i its hs nx A1 c1 hgo
      split at h
      · rename_i has
        simp only [Option.some.injEq, Prod.mk.injEq] at h
        obtain ⟨h1, rfl, rfl⟩ := h
        exact fin hbw.1 hbw.2 hgo hc has h1
      · split at h
        · rename_i its2 hs2 nx2 A2 c2 hgo2
          split at h
          · rename_i has
            simp only [Option.some.injEq, Prod.mk.injEq] at h
            obtain ⟨h1, rfl, rfl⟩ := h
            exact fin hbw.1 hbw.2 hgo2 hc has h1
          · cases h
        · cases h
    · cases h
  · cases h

def stmtX (c : Code) (σ : AS) (A : Anss P r N nI m) : Option (Exit × AS × Anss P r N nI m × List (Cl × Cl)) :=
  match A with
  | (_, .stmt c' rows σ0 ex σ1 _ _ _) :: q =>
    match fitM rows nI 1 σ σ0 with
    | some cs => some (ex, σ1, q, (.c c, .c c') :: cs)
    | none => none
  | (_, .rng _ c' rows σ0 ex σ1 _ _ _) :: q =>
    match fitM rows nI 1 σ σ0 with
    | some cs => some (ex, σ1, q, (.c c, .c c') :: cs)
    | none => none
  | _ => none
theorem stmtX_ok {c : Code} {σ σ' : AS} {A A' : Anss P r N nI false} {ex : Exit} {cs : List (Cl × Cl)} (h : stmtX c σ A = some (ex, σ', A', cs)) (hc : ∀ p ∈ cs, p.1 = p.2) : nI ≤ σ'.nx ∧ Tr P r ⟨N, ds⟩ nI c σ fun e s => e = ex ∧ s = σ' := by
  unfold stmtX at h
  split at h
  · rename_i k c' rows σ0 ex' σ1 hs htr hn q
    split at h
    · rename_i c2 hf
      simp only [Option.some.injEq, Prod.mk.injEq] at h
      obtain ⟨rfl, rfl, rfl, rfl⟩ := h
      have h1 := hc _ (List.mem_cons_self ..)
      injection h1 with h1
      subst h1
      exact ⟨hn, Tr.imp (Imp.fitM hf (fun p hp => hc p (List.mem_cons_of_mem _ hp)) hs) (htr ds)⟩
    · cases h
  · rename_i k hm c' rows σ0 ex' σ1 hs htr hn q
    cases hm
  · cases h
theorem MarksOK.keep {lo : Nat} {ms : List Deferred} {w w' : World} (h : MarksOK lo ms w) (hk : KeepsOthers w w') : MarksOK lo ms w' := ⟨fun d hd => by
  obtain ⟨D, e, h0, h1⟩ := h.1 d hd
  exact ⟨D, e, h0, hk.same _ _ h1 rfl⟩, h.2⟩
theorem MarksOK.nil (lo : Nat) (w : World) : MarksOK lo [] w := ⟨fun d hd => (by cases hd), List.nodup_nil⟩
theorem MarksOK.app {lo : Nat} {ms ms2 : List Deferred} {w w' : World} (h : MarksOK lo ms w) (hk : KeepsOthers w w') (h2 : MarksOK w.heap.size ms2 w') (hlo : lo ≤ w.heap.size) : MarksOK lo (ms2 ++ ms) w' := by
  refine ⟨fun d hd => ?_, ?_⟩
  · rcases List.mem_append.1 hd with hd | hd
    · obtain ⟨D, e, h0, h1⟩ := h2.1 d hd
      exact ⟨D, e, by omega, h1⟩
    · exact (h.keep hk).1 d hd
  · rw [List.map_append, List.nodup_append]
    refine ⟨h2.2, h.2, fun a ha b hb e => ?_⟩
    obtain ⟨d, hd, rfl⟩ := List.mem_map.1 ha
    obtain ⟨d', hd', rfl⟩ := List.mem_map.1 hb
    obtain ⟨D, e1, h0, h1⟩ := h2.1 d hd
    obtain ⟨D', e2, h0', h1'⟩ := h.1 d' hd'
    subst e1; subst e2
    simp only [Target.collected.injEq] at e
    subst e
    have := (Array.getElem?_eq_some_iff.1 h1').1
    omega
theorem Rel.base {B : Nat} {w0 w1 : World} {μ : Nat → Option Loc} {F : Nat → Prop} {ts : List (Nat × Value)} {hp : Heap} {nt : NT} {a : Act} {w : World} (h : Rel B w1 μ F ts hp nt a w) (hk : Kept B w0 w1) : Rel B w0 μ F ts hp nt a w :=
  ⟨h.t, h.h, hk.trans h.below, h.size, h.free, h.st, h.dom⟩
theorem Rel.self {B : Nat} {w0 : World} {μ : Nat → Option Loc} {F : Nat → Prop} {ts : List (Nat × Value)} {hp : Heap} {nt : NT} {a : Act} {w : World} (h : Rel B w0 μ F ts hp nt a w) : Rel B w μ F ts hp nt a w :=
  ⟨h.t, h.h, Kept.refl _ _, h.size, h.free, h.st, h.dom⟩
theorem TrM.of_tr {c : Code} {σ : AS} {K : Exit → AS → Prop} (h : ∀ ds, Tr P none ⟨N, ds⟩ nI c σ K) : TrM P N nI c σ K :=
  fun ds n B w0 μ a w Q _ hr hk => h ds n B w μ a w Q hr.self fun ex s μ' a' w' k hx hr' => hk ex s μ' a' w' [] k hx (MarksOK.nil _ _) hr'.below.o (hr'.base hr.below)
theorem TrM.imp {c : Code} {σ σ' : AS} {K : Exit → AS → Prop} (hi : ∀ ds, Imp nI ⟨N, ds⟩ σ σ') (h : TrM P N nI c σ' K) : TrM P N nI c σ K := fun ds n B w0 μ a w Q h1 hr hq => by
  obtain ⟨μ1, e1, h2⟩ := hi ds B w0 μ a w hr
  exact h ds n B w0 μ1 a w Q h1 h2 fun ex s μ' a' w' ms k hx => hq ex s μ' a' w' ms k (e1.trans hx)
theorem TrM.seq {x y : Code} {σ : AS} {K : Exit → AS → Prop} (h : TrM P N nI x σ fun ex s => match ex with | .normal => TrM P N nI y s K | e => K e s) : TrM P N nI (.seq x y) σ K := by
  intro ds n B w0 μ a w Q h1 hr hq
  refine wpIn_seq (h ds n B w0 μ a w _ h1 hr fun ex s μ' a' w' ms k hx hm hko hr' => ?_)
  cases ex with
  | normal => exact k (ms ++ ds) n B w0 μ' a' w' Q h1 hr' fun ex2 s2 μ2 a2 w2 ms2 k2 hx2 hm2 hko2 hr2 => hq ex2 s2 μ2 a2 w2 (ms2 ++ ms) k2 (hx.trans hx2) (hm.app hko2 hm2 hko.size) (hko.trans hko2) (by rw [List.append_assoc]; exact hr2)
  | _ => exact hq _ s μ' a' w' ms k hx hm hko hr'
theorem TrM.cond {c : Operand} {x y : Code} {σ : AS} {K : Exit → AS → Prop} {b : Bool} (hc : ev σ.ts c = some (.bool b)) (ht : b = true → TrM P N nI x σ K) (hf : b = false → TrM P N nI y σ K) : TrM P N nI (.cond c x y) σ K := by
  intro ds n B w0 μ a w Q h1 hr hq
  have e := (ev_ok hr.t hc).bool
  cases b with
  | true => exact wpIn_cond_true e (ht rfl ds n B w0 μ a w Q h1 hr hq)
  | false => exact wpIn_cond_false e (hf rfl ds n B w0 μ a w Q h1 hr hq)
theorem TrM.block {id : Nat} {c : Code} {σ : AS} {K : Exit → AS → Prop} (h : TrM P N nI c σ (inBlk id K)) : TrM P N nI (.block id c) σ K := by
  intro ds n B w0 μ a w Q h1 hr hq
  refine wpIn_block (h ds n B w0 μ a w _ h1 hr fun ex s μ' a' w' ms k hx hm hko hr' => ?_)
  cases ex with
  | exit id' =>
    simp only [inBlk] at k
    simp only [Exit.inBlock]
    split at k
    · rename_i e; rw [if_pos e]; exact hq _ s μ' a' w' ms k hx hm hko hr'
    · rename_i e; rw [if_neg e]; exact hq _ s μ' a' w' ms k hx hm hko hr'
  | _ => exact hq _ s μ' a' w' ms k hx hm hko hr'
theorem TrM.mono {c : Code} {σ : AS} {K K' : Exit → AS → Prop} (h : TrM P N nI c σ K) (hk : ∀ ex s, K ex s → K' ex s) : TrM P N nI c σ K' :=
  fun ds n B w0 μ a w Q h1 hr hq => h ds n B w0 μ a w Q h1 hr fun ex s μ' a' w' ms k => hq ex s μ' a' w' ms (hk ex s k)
theorem stmtX_okM {c : Code} {σ σ' : AS} {A A' : Anss P none N nI m} {ex : Exit} {cs : List (Cl × Cl)} (h : stmtX c σ A = some (ex, σ', A', cs)) (hc : ∀ p ∈ cs, p.1 = p.2) : nI ≤ σ'.nx ∧ TrM P N nI c σ fun e s => e = ex ∧ s = σ' := by
  unfold stmtX at h
  split at h
  · rename_i k c' rows σ0 ex' σ1 hs htr hn q
    split at h
    · rename_i c2 hf
      simp only [Option.some.injEq, Prod.mk.injEq] at h
      obtain ⟨rfl, rfl, rfl, rfl⟩ := h
      have h1 := hc _ (List.mem_cons_self ..)
      injection h1 with h1
      subst h1
      exact ⟨hn, TrM.imp (fun ds => Imp.fitM hf (fun p hp => hc p (List.mem_cons_of_mem _ hp)) hs) (TrM.of_tr htr)⟩
    · cases h
  · rename_i k hm c' rows σ0 ex' σ1 hs htr hn q
    split at h
    · rename_i c2 hf
      simp only [Option.some.injEq, Prod.mk.injEq] at h
      obtain ⟨rfl, rfl, rfl, rfl⟩ := h
      have h1 := hc _ (List.mem_cons_self ..)
      injection h1 with h1
      subst h1
      exact ⟨hn, TrM.imp (fun ds => Imp.fitM hf (fun p hp => hc p (List.mem_cons_of_mem _ hp)) hs) htr⟩
    · cases h
  · cases h

/-- is a statement as a whole told by the next answer? -/
def hasStmt (k : Nat) (A : Anss P r N nI m) : Bool :=
  match A with
  | (k', .stmt ..) :: _ => k' == k
  | (k', .rng ..) :: _ => k' == k
  | _ => false
def runX : Code → AS → Anss P r N nI m → Option (Exit × AS × Anss P r N nI m × List (Cl × Cl))
  | .skip, σ, A => some (.normal, σ, A, [])
  | .region id ops draw, σ, A =>
    if hasStmt (id * 1000 + 999) A then stmtX (.region id ops draw) σ A
    else
      match draw with
      | false => match opsX ops (id * 1000) ops.toList σ A with | some (s, A', cs) => some (.normal, s, A', cs) | none => none
      | true => match drawRun ops σ id A with | some (s, A', cs) => some (.normal, s, A', cs) | none => none
  | .seq a b, σ, A =>
    match runX a σ A with
    | some (.normal, s, A', cs) => (match runX b s A' with | some (ex, s2, A2, cs2) => some (ex, s2, A2, cs ++ cs2) | none => none)
    | x => x
  | .cond c a b, σ, A =>
    match ev σ.ts c with
    | some (.bool true) => runX a σ A
    | some (.bool false) => runX b σ A
    | _ => none
  | .block id c, σ, A =>
    match runX c σ A with
    | some (.exit id', s, A', cs) => if id' = id then some (.normal, s, A', cs) else some (.exit id', s, A', cs)
    | x => x
  | .exit id, σ, A => some (.exit id, σ, A, [])
  | .ret, σ, A => some (.ret, σ, A, [])
  | c, σ, A => stmtX c σ A

theorem runX_ok (hm : P.follows .mixedOrders = true) : ∀ {c : Code} {σ σ' : AS} {A A' : Anss P r N nI false} {ex : Exit} {cs : List (Cl × Cl)}, runX c σ A = some (ex, σ', A', cs) → (∀ p ∈ cs, p.1 = p.2) → nI ≤ σ.nx → nI ≤ σ'.nx ∧ Tr P r ⟨N, ds⟩ nI c σ fun e s => e = ex ∧ s = σ' := by
  intro c
  induction c with
  | skip => intro σ σ' A A' ex cs h hc hn; simp only [runX, Option.some.injEq, Prod.mk.injEq] at h; obtain ⟨rfl, rfl, rfl, rfl⟩ := h; exact ⟨hn, Tr.skip ⟨rfl, rfl⟩⟩
  | region id ops draw =>
    intro σ σ' A A' ex cs h hc hn
    simp only [runX] at h
    split at h
    · exact stmtX_ok h hc
    · cases draw with
      | false =>
        simp only at h
        split at h
        · rename_i s A1 c1 hs
          simp only [Option.some.injEq, Prod.mk.injEq] at h
          obtain ⟨rfl, rfl, rfl, rfl⟩ := h
          refine ⟨Nat.le_trans hn (opsX_nx hn hs hc), Tr.region ?_⟩
          have := opsX_ok (ds := ds) (l2 := []) (K := fun s' => Exit.normal = .normal ∧ s' = s) hn hs hc fun _ => TrL.nil ⟨rfl, rfl⟩
          rwa [List.append_nil] at this
        · cases h
      | true =>
        simp only at h
        split at h
        · rename_i s A1 c1 hs
          simp only [Option.some.injEq, Prod.mk.injEq] at h
          obtain ⟨rfl, rfl, rfl, rfl⟩ := h
          obtain ⟨q1, q2⟩ := drawRun_ok (ds := ds) hm (id := id) hs hc hn
          exact ⟨Nat.le_trans hn q1, q2⟩
        · cases h
  | seq a b iha ihb =>
    intro σ σ' A A' ex cs h hc hn
    simp only [runX] at h
    split at h
    · rename_i s A1 c1 hs
      split at h
      · rename_i e2 s2 A2 c2 h2
        simp only [Option.some.injEq, Prod.mk.injEq] at h
        obtain ⟨rfl, rfl, rfl, rfl⟩ := h
        obtain ⟨h1, h3⟩ := iha hs (fun p hp => hc p (List.mem_append.2 (.inl hp))) hn
        obtain ⟨h4, h5⟩ := ihb h2 (fun p hp => hc p (List.mem_append.2 (.inr hp))) h1
        refine ⟨h4, Tr.seq (h3.mono fun e x ⟨q1, q2⟩ => ?_)⟩
        subst q1; subst q2
        exact h5
      · cases h
    · rename_i hne
      obtain ⟨h1, h2⟩ := iha h hc hn
      refine ⟨h1, Tr.seq (h2.mono fun e x ⟨q1, q2⟩ => ?_)⟩
      subst q1; subst q2
      cases e with
      | normal => exact absurd h (hne _ _ _)
      | _ => exact ⟨rfl, rfl⟩
  | cond x a b iha ihb =>
    intro σ σ' A A' ex cs h hc hn
    simp only [runX] at h
    split at h
    · rename_i hx
      obtain ⟨h1, h2⟩ := iha h hc hn
      exact ⟨h1, Tr.cond hx (fun _ => h2) (fun q => by cases q)⟩
    · rename_i hx
      obtain ⟨h1, h2⟩ := ihb h hc hn
      exact ⟨h1, Tr.cond hx (fun q => by cases q) fun _ => h2⟩
    · cases h
  | block id c ih =>
    intro σ σ' A A' ex cs h hc hn
    simp only [runX] at h
    split at h
    · rename_i id' s A1 c1 hs
      split at h
      · rename_i e
        simp only [Option.some.injEq, Prod.mk.injEq] at h
        obtain ⟨rfl, rfl, rfl, rfl⟩ := h
        obtain ⟨h1, h2⟩ := ih hs hc hn
        refine ⟨h1, Tr.block (h2.mono fun e2 s2 ⟨q1, q2⟩ => ?_)⟩
        subst q1; subst q2
        simp only [inBlk, if_pos e]; simp
      · rename_i e
        simp only [Option.some.injEq, Prod.mk.injEq] at h
        obtain ⟨rfl, rfl, rfl, rfl⟩ := h
        obtain ⟨h1, h2⟩ := ih hs hc hn
        refine ⟨h1, Tr.block (h2.mono fun e2 s2 ⟨q1, q2⟩ => ?_)⟩
        subst q1; subst q2
        simp only [inBlk, if_neg e]; simp
    · rename_i hne
      obtain ⟨h1, h2⟩ := ih h hc hn
      refine ⟨h1, Tr.block (h2.mono fun e2 s2 ⟨q1, q2⟩ => ?_)⟩
      subst q1; subst q2
      cases e2 with
      | exit id' => exact absurd h (hne _ _ _ _)
      | _ => exact ⟨rfl, rfl⟩
  | exit id => intro σ σ' A A' ex cs h hc hn; simp only [runX, Option.some.injEq, Prod.mk.injEq] at h; obtain ⟨rfl, rfl, rfl, rfl⟩ := h; exact ⟨hn, Tr.exit ⟨rfl, rfl⟩⟩
  | ret => intro σ σ' A A' ex cs h hc hn; simp only [runX, Option.some.injEq, Prod.mk.injEq] at h; obtain ⟨rfl, rfl, rfl, rfl⟩ := h; exact ⟨hn, Tr.ret ⟨rfl, rfl⟩⟩
  | _ => intro σ σ' A A' ex cs h hc hn; simp only [runX] at h; exact stmtX_ok h hc

theorem runX_okM (hm : P.follows .mixedOrders = true) : ∀ {c : Code} {σ σ' : AS} {A A' : Anss P none N nI m} {ex : Exit} {cs : List (Cl × Cl)}, runX c σ A = some (ex, σ', A', cs) → (∀ p ∈ cs, p.1 = p.2) → nI ≤ σ.nx → nI ≤ σ'.nx ∧ TrM P N nI c σ fun e s => e = ex ∧ s = σ' := by
  intro c
  induction c with
  | skip => intro σ σ' A A' ex cs h hc hn; simp only [runX, Option.some.injEq, Prod.mk.injEq] at h; obtain ⟨rfl, rfl, rfl, rfl⟩ := h; exact ⟨hn, TrM.of_tr fun ds => Tr.skip ⟨rfl, rfl⟩⟩
  | region id ops draw =>
    intro σ σ' A A' ex cs h hc hn
    simp only [runX] at h
    split at h
    · exact stmtX_okM h hc
    · cases draw with
      | false =>
        simp only at h
        split at h
        · rename_i s A1 c1 hs
          simp only [Option.some.injEq, Prod.mk.injEq] at h
          obtain ⟨rfl, rfl, rfl, rfl⟩ := h
          refine ⟨Nat.le_trans hn (opsX_nx hn hs hc), TrM.of_tr fun ds => Tr.region ?_⟩
          have := opsX_ok (ds := ds) (l2 := []) (K := fun s' => Exit.normal = .normal ∧ s' = s) hn hs hc fun _ => TrL.nil ⟨rfl, rfl⟩
          rwa [List.append_nil] at this
        · cases h
      | true =>
        simp only at h
        split at h
        · rename_i s A1 c1 hs
          simp only [Option.some.injEq, Prod.mk.injEq] at h
          obtain ⟨rfl, rfl, rfl, rfl⟩ := h
          exact ⟨Nat.le_trans hn (drawRun_ok (ds := []) hm (id := id) hs hc hn).1, TrM.of_tr fun ds => (drawRun_ok (ds := ds) hm (id := id) hs hc hn).2⟩
        · cases h
  | seq a b iha ihb =>
    intro σ σ' A A' ex cs h hc hn
    simp only [runX] at h
    split at h
    · rename_i s A1 c1 hs
      split at h
      · rename_i e2 s2 A2 c2 h2
        simp only [Option.some.injEq, Prod.mk.injEq] at h
        obtain ⟨rfl, rfl, rfl, rfl⟩ := h
        obtain ⟨h1, h3⟩ := iha hs (fun p hp => hc p (List.mem_append.2 (.inl hp))) hn
        obtain ⟨h4, h5⟩ := ihb h2 (fun p hp => hc p (List.mem_append.2 (.inr hp))) h1
        refine ⟨h4, TrM.seq (h3.mono fun e x ⟨q1, q2⟩ => ?_)⟩
        subst q1; subst q2
        exact h5
      · cases h
    · rename_i hne
      obtain ⟨h1, h2⟩ := iha h hc hn
      refine ⟨h1, TrM.seq (h2.mono fun e x ⟨q1, q2⟩ => ?_)⟩
      subst q1; subst q2
      cases e with
      | normal => exact absurd h (hne _ _ _)
      | _ => exact ⟨rfl, rfl⟩
  | cond x a b iha ihb =>
    intro σ σ' A A' ex cs h hc hn
    simp only [runX] at h
    split at h
    · rename_i hx
      obtain ⟨h1, h2⟩ := iha h hc hn
      exact ⟨h1, TrM.cond hx (fun _ => h2) (fun q => by cases q)⟩
    · rename_i hx
      obtain ⟨h1, h2⟩ := ihb h hc hn
      exact ⟨h1, TrM.cond hx (fun q => by cases q) fun _ => h2⟩
    · cases h
  | block id c ih =>
    intro σ σ' A A' ex cs h hc hn
    simp only [runX] at h
    split at h
    · rename_i id' s A1 c1 hs
      split at h
      · rename_i e
        simp only [Option.some.injEq, Prod.mk.injEq] at h
        obtain ⟨rfl, rfl, rfl, rfl⟩ := h
        obtain ⟨h1, h2⟩ := ih hs hc hn
        refine ⟨h1, TrM.block (h2.mono fun e2 s2 ⟨q1, q2⟩ => ?_)⟩
        subst q1; subst q2
        simp only [inBlk, if_pos e]; simp
      · rename_i e
        simp only [Option.some.injEq, Prod.mk.injEq] at h
        obtain ⟨rfl, rfl, rfl, rfl⟩ := h
        obtain ⟨h1, h2⟩ := ih hs hc hn
        refine ⟨h1, TrM.block (h2.mono fun e2 s2 ⟨q1, q2⟩ => ?_)⟩
        subst q1; subst q2
        simp only [inBlk, if_neg e]; simp
    · rename_i hne
      obtain ⟨h1, h2⟩ := ih h hc hn
      refine ⟨h1, TrM.block (h2.mono fun e2 s2 ⟨q1, q2⟩ => ?_)⟩
      subst q1; subst q2
      cases e2 with
      | exit id' => exact absurd h (hne _ _ _ _)
      | _ => exact ⟨rfl, rfl⟩
  | exit id => intro σ σ' A A' ex cs h hc hn; simp only [runX, Option.some.injEq, Prod.mk.injEq] at h; obtain ⟨rfl, rfl, rfl, rfl⟩ := h; exact ⟨hn, TrM.of_tr fun ds => Tr.exit ⟨rfl, rfl⟩⟩
  | ret => intro σ σ' A A' ex cs h hc hn; simp only [runX, Option.some.injEq, Prod.mk.injEq] at h; obtain ⟨rfl, rfl, rfl, rfl⟩ := h; exact ⟨hn, TrM.of_tr fun ds => Tr.ret ⟨rfl, rfl⟩⟩
  | _ => intro σ σ' A A' ex cs h hc hn; simp only [runX] at h; exact stmtX_okM h hc

/-- the run's two sides: what it found, what it was told. They are one just if the run goes through. -/
def viewL (x : Option (Exit × AS × Anss P r N nI m × List (Cl × Cl))) (rows : List Nat) (σ0 : AS) : Option (Exit × List Cl) :=
  match x with
  | some (ex, σ, [], ps) => match fitM rows nI 1 σ σ0 with
    | some qs => some (ex, ps.map (·.1) ++ qs.map (·.1))
    | none => none
  | _ => none
def viewR (x : Option (Exit × AS × Anss P r N nI m × List (Cl × Cl))) (rows : List Nat) (ex0 : Exit) (σ0 : AS) : Option (Exit × List Cl) :=
  match x with
  | some (_, σ, [], ps) => match fitM rows nI 1 σ σ0 with
    | some qs => some (ex0, ps.map (·.2) ++ qs.map (·.2))
    | none => some (ex0, [])
  | _ => some (ex0, [])
theorem map_eq_pairs {α : Type} : ∀ {l : List (α × α)}, l.map (·.1) = l.map (·.2) → ∀ p ∈ l, p.1 = p.2
  | [], _, p, hp => by simp at hp
  | q :: r, h, p, hp => by
    simp only [List.map_cons, List.cons.injEq] at h
    rcases List.mem_cons.1 hp with rfl | hp
    · exact h.1
    · exact map_eq_pairs h.2 p hp
theorem Tr.run (hm : P.follows .mixedOrders = true) {c : Code} {σ : AS} {A : Anss P r N nI false} {rows : List Nat} {ex : Exit} {σ0 : AS} (h : viewL (runX c σ A) rows σ0 = viewR (runX c σ A) rows ex σ0) (hs : SCR rows σ0.hp) (hn : nI ≤ σ.nx) :
    Tr P r ⟨N, ds⟩ nI c σ fun e s => e = ex ∧ s = σ0 := by
  unfold viewL viewR at h
  split at h
  · rename_i ex' σ' ps hrun
    split at h
    · rename_i qs hf
      simp only [hf] at h
      simp only [Option.some.injEq, Prod.mk.injEq] at h
      obtain ⟨rfl, h⟩ := h
      have h' : (ps ++ qs).map (·.1) = (ps ++ qs).map (·.2) := by simpa using h
      have hp := map_eq_pairs h'
      obtain ⟨h1, h2⟩ := runX_ok (ds := ds) hm hrun (fun p hpm => hp p (List.mem_append.2 (.inl hpm))) hn
      refine h2.post fun e s ⟨q1, q2⟩ => ?_
      subst q1; subst q2
      exact ⟨σ0, Imp.fitM hf (fun p hpm => hp p (List.mem_append.2 (.inr hpm))) hs, rfl, rfl⟩
    · cases h
  · cases h

/-! ### functions -/
def bodyOf (f : Func) : Code := match f.body with | some c => c | none => .skip
theorem Sub.refl (H : Heap) : Sub H H := fun i b h _ => ⟨b, h, rfl, rfl, Nat.le_refl _, fun j hj => .inl hj⟩
/-- heaps that are read alone -/
def roOK (nI : Nat) (H : Heap) : Bool := H.all fun p => decide (p.1 < nI) && decide (p.2.st ≤ 1)
theorem roOK_ok {nI : Nat} {H : Heap} (h : roOK nI H = true) : ∀ i b, get H i = some b → b.st ≤ 1 ∧ i < nI := fun i b hi => by
  have := List.all_eq_true.1 h _ (get_mem hi)
  simp only [Bool.and_eq_true, decide_eq_true_eq] at this
  exact ⟨this.2, this.1⟩
def viewFL (x : Option (Exit × AS × Anss P none N nI m × List (Cl × Cl))) (rs : List ResultVar) (rows : List Nat) (k : Nat) (u : Value) (new : Heap) : Option (List Cl) :=
  match x with
  | some (ex, σ, [], ps) =>
    if isRet ex then
      match resOf P rs σ with
      | some v => match fitM rows nI 1 ⟨[(0, v)], σ.hp, σ.nx⟩ ⟨[(0, u)], new, nI + k⟩ with
        | some qs => some (ps.map (·.1) ++ qs.map (·.1))
        | none => none
      | none => none
    else none
  | _ => none
def viewFR (x : Option (Exit × AS × Anss P none N nI m × List (Cl × Cl))) (rs : List ResultVar) (rows : List Nat) (k : Nat) (u : Value) (new : Heap) : Option (List Cl) :=
  match x with
  | some (ex, σ, [], ps) =>
    if isRet ex then
      match resOf P rs σ with
      | some v => match fitM rows nI 1 ⟨[(0, v)], σ.hp, σ.nx⟩ ⟨[(0, u)], new, nI + k⟩ with
        | some qs => some (ps.map (·.2) ++ qs.map (·.2))
        | none => some []
      | none => some []
    else some []
  | _ => some []
end
theorem HRel.others {B : Nat} {μ : Nat → Option Loc} {H : Heap} {w w' : World} (h : HRel B μ H w) (hb : ∀ (k : Nat) (o : Obj), w.heap[k]? = some o → o.isCells = true → w'.heap[k]? = some o) : HRel B μ H w' := by
  refine ⟨fun i b hi h1 j v hv => ?_, h.esz, fun i b hi h2 => ?_, h.apart⟩
  · obtain ⟨L, v', hL, hc, hr, h1⟩ := h.read i b hi h1 j v hv
    refine ⟨L, v', hL, ?_, hr, h1⟩
    have hcell : ∃ o : Obj, w.heap[(L.at_.add j).block]? = some o ∧ o.isCells = true := by
      unfold World.cell? at hc
      cases ho : w.heap[(L.at_.add j).block]? with
      | none => simp [ho] at hc
      | some o => exact ⟨o, rfl, by cases o <;> simp_all [Obj.isCells]⟩
    obtain ⟨o, ho, hio⟩ := hcell
    rw [World.cell?_of_block (w := w) (by rw [ho]; exact hb _ _ ho hio)]; exact hc
  · rcases h.own i b hi h2 with q | ⟨L, k, c, e, q1, q2, q3, q4, q5⟩
    · exact .inl q
    · exact .inr ⟨L, k, c, e, q1, q2, q3, hb _ _ q4 rfl, q5⟩
theorem putObj_cells {w : World} {D : Nat} {o o' : Obj} (h : w.heap[D]? = some o) (ho : o.isCells = false) : ∀ (k : Nat) (x : Obj), w.heap[k]? = some x → x.isCells = true → (w.putObj D o').heap[k]? = some x := fun k x hk hx => by
  have : k ≠ D := by rintro rfl; rw [h] at hk; injection hk with hk; subst hk; rw [ho] at hx; cases hx
  exact (World.putObj_heap_other this).trans hk
theorem Kept.putObj {B : Nat} {w0 w : World} {D : Nat} {o o' : Obj} (h : Kept B w0 w) (hB : B ≤ D) (h0 : w0.heap.size ≤ D) (hD : w.heap[D]? = some o) : Kept B w0 (w.putObj D o') := by
  refine ⟨h.b.trans ((Below.refl B w).grown (grownBy_putObj' w D o') (by have := (Array.getElem?_eq_some_iff.1 hD).1; omega) (fun k e => by cases e; omega)), ⟨?_, fun k x hk hx => ?_⟩⟩
  · have := h.o.size; have := (grownBy_putObj' w D o').size; omega
  · have hlt := (Array.getElem?_eq_some_iff.1 hk).1
    exact (World.putObj_heap_other (by omega)).trans (h.o.same k x hk hx)
theorem Rel.putObj {B : Nat} {w0 : World} {μ : Nat → Option Loc} {F : Nat → Prop} {ts : List (Nat × Value)} {hp : Heap} {nt : NT} {a : Act} {w : World} {D : Nat} {o o' : Obj} (h : Rel B w0 μ F ts hp nt a w) (hB : B ≤ D) (h0 : w0.heap.size ≤ D) (hD : w.heap[D]? = some o) (ho : o.isCells = false) : Rel B w0 μ F ts hp nt a (w.putObj D o') :=
  ⟨h.t, h.h.others (putObj_cells hD ho), h.below.putObj hB h0 hD, Nat.le_trans h.size (grownBy_putObj' w D o').size, h.free, h.st, h.dom⟩
/-- a function's end, marks and all -/
theorem leavesM {P : Program} {F : Fence} {n : Nat} {fn : Func} {R : Ending → World → Prop} {w0 : World} {μ : Nat → Option Loc} {σ : AS} {a : Act} {nt : NT} (hres : ∀ w, RelS w0.heap.size w0 μ nt σ a w → ∃ v, (results fn a.tmps).run P w = .ok v w ∧ R (.returned v) w) :
    ∀ {ms : List Deferred} {w : World}, MarksOK w0.heap.size ms w → RelS w0.heap.size w0 μ nt σ a w → LeavesInM F n P fn a.tmps R ms .returning w
  | [], w, hm, hr => hres w hr
  | d :: ms, w, hm, hr => by
    obtain ⟨D, rfl, h0, h1⟩ := hm.1 d (List.mem_cons_self ..)
    refine ⟨by simp, .inl ⟨D, _, rfl, run_takeDeferred h1, leavesM hres ⟨fun d' hd' => ?_, ?_⟩ (hr.putObj (by omega) h0 h1 rfl)⟩⟩
    · obtain ⟨D', e, q0, q1⟩ := hm.1 d' (List.mem_cons_of_mem _ hd')
      refine ⟨D', e, q0, (World.putObj_heap_other ?_).trans q1⟩
      rintro rfl
      have := hm.2
      simp only [List.map_cons, List.nodup_cons, List.mem_map, not_exists, not_and] at this
      exact this.1 d' hd' (by rw [e])
    · have := hm.2
      simp only [List.map_cons, List.nodup_cons] at this
      exact this.2
/-- a function as a whole, by a run of its body -/
theorem FnOK.run {P : Program} {m : Bool} (hm : P.follows .mixedOrders = true) {g : FuncId} {fn : Func} {args : List Value} {H : Heap} {nI k : Nat} {v : Value} {new : Heap} (hf : P.funcs[g]? = some fn) (hb : fn.body = some (bodyOf fn)) (hn : args.length ≤ fn.ntmps) (hst : roOK nI H = true) (A : Anss P none fn.ntmps nI m) (rows : List Nat)
    (h : viewFL (runX (bodyOf fn) ⟨argTs 0 args, H, nI⟩ A) fn.results.toList rows k v new = viewFR (runX (bodyOf fn) ⟨argTs 0 args, H, nI⟩ A) fn.results.toList rows k v new) (hs : SCR rows new) : FnOK P g args H nI v new := by
  unfold viewFL viewFR at h
  split at h
  · rename_i ex' σ' ps hrun
    split at h
    · rename_i hret
      split at h
      · rename_i v' hres
        split at h
        · rename_i qs hfit
          simp only [Option.some.injEq] at h
          have h' : (ps ++ qs).map (·.1) = (ps ++ qs).map (·.2) := by simpa using h
          have hp := map_eq_pairs h'
          obtain ⟨h1, h2⟩ := runX_okM hm hrun (fun p hpm => hp p (List.mem_append.2 (.inl hpm))) (Nat.le_refl _)
          obtain ⟨f, f1, f2, f3⟩ := fitM_val hfit (fun p hpm => hp p (List.mem_append.2 (.inr hpm))) hs
          intro μ w cargs hargs hH hfree
          have hst' := roOK_ok hst
          refine callsIn_wide.1 (callsIn_of_wp_marks (F := fen none) (n := 9) hf hb trivial (h2 [] 9 w.heap.size w μ _ w _ (by omega) ⟨⟨rfl, ?_, fun t x hx => ?_⟩, hH, Kept.refl _ _, Nat.le_refl _, fun i hi => hfree i hi, fun i b hb => by have := (hst' i b hb).1; omega, fun i b hi hb => by have := (hst' i b hb).2; have : nI ≤ i := hi; omega⟩ fun ex s μ' a' w' ms hK hx hmk hko hr => ?_))
          · have := hargs.1; simp; omega
          · obtain ⟨_, q2⟩ := get_argTs args 0 t x hx
            obtain ⟨v', q3, q4⟩ := hargs.get q2
            refine ⟨v', ?_, q4⟩
            rw [Array.getElem?_append_left (by simpa using (List.getElem?_eq_some_iff.1 q3).1)]
            simpa using q3
          · obtain ⟨hex, rfl⟩ := hK
            subst hex
            have hdef : a'.defers = ms := by rw [hr.t.defers]; simp
            have hlast : LeavesInM (fen none) 9 P fn a'.tmps (fun e w' => ∃ μ' v', e = .returned v' ∧ ExtI nI μ μ' ∧ VRel μ' v v' ∧ HRel w.heap.size μ' new w' ∧ Below w.heap.size w w') a'.defers .returning w' := by
              rw [hdef]
              refine leavesM (fun w2 hr2 => ?_) hmk hr
              obtain ⟨v', q1, q2⟩ := res_ok hr2 hres
              exact ⟨v', q1, f μ', v', rfl, ExtI.trans hx (f1 μ'), f2 μ' v' q2, f3 _ μ' w2 hr2.h hr2.st, hr2.below.b⟩
            cases ex with
            | ret => exact hlast
            | normal => exact hlast
            | _ => simp [isRet] at hret
        · cases h
      · cases h
    · cases h
  · cases h
end Go.Am
