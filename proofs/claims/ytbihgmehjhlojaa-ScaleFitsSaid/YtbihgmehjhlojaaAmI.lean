/-
An abstract machine over the kit's wp calculus, part I: functions that are ranged over: between two calls of yield, and at one.
-/
import Derived.Test.YtbihgmehjhlojaaAmY
set_option linter.unusedVariables false
set_option linter.unusedSimpArgs false
namespace Go.Am
open Go Go.RowKit

theorem letsOut_then {K : Act → World → Prop} {Q : Exit → Act → World → Prop} (h : LetsOut (Exit.then K Q)) : LetsOut Q := h
theorem Oper.wpIn_then {F : Fence} {n : Nat} {P : Program} {o : Oper} {a : Act} {w : World} {next : Act → World → Prop} {K : Act → World → Prop} {Q : Exit → Act → World → Prop} (h : o.wpIn F n P a w next (Exit.then K Q)) : o.wpIn F n P a w next Q := by
  unfold Oper.wpIn at *
  refine ⟨h.1, ?_⟩
  have h2 := h.2
  revert h2
  generalize (o.semAt F.round a.eval).run P w = res
  intro h2
  cases res with
  | ok nx w' => cases nx <;> exact h2
  | halt x w' => cases x <;> exact h2
theorem wpListIn_app {F : Fence} {n : Nat} {P : Program} {all : Array Oper} {Q : Exit → Act → World → Prop} {l2 : List Oper} : ∀ {l1 : List Oper} {a : Act} {w : World}, wpListIn F n P all (Exit.then (wpListIn F n P all Q l2) Q) l1 a w → wpListIn F n P all Q (l1 ++ l2) a w
  | [], a, w, h => h
  | o :: l1, a, w, h => by
    simp only [List.cons_append, wpListIn] at h ⊢
    split
    · rename_i hw
      rw [if_pos hw] at h
      exact Oper.wpIn_mono (fun a w => wpListIn_app) (Oper.wpIn_then h)
    · rename_i hw
      rw [if_neg hw] at h
      exact ⟨h.1, wpListIn_app h.2⟩

/-- a call of yield -/
theorem run_callYield {P : Program} {o : Oper} {fo : Operand} {aos : Array Operand} {ats : Array TypeId} (ho : o.op = .call { callee := .value fo, args := aos, argTypes := ats }) {a : Act} {l : Nat} (hf : a.eval fo = .func (.yield l) #[] #[])
    {w w' : World} {nx : Next} (hy : (Instr.yield l (aos.map a.eval)).run P w = .ok nx w') : (execOp a.eval o).run P w = .ok nx w' := by
  simp only [execOp, ho, resolve, Sem.run_bind, hf, Deferred.ofValue, Sem.run_pure, Result.andThen_ok, invoke, Array.empty_append]
  exact hy
theorem yield_op {P : Program} {o : Oper} {fo : Operand} {aos : Array Operand} {ats : Array TypeId} (ho : o.op = .call { callee := .value fo, args := aos, argTypes := ats }) {a : Act} {l : Nat} (hf : a.eval fo = .func (.yield l) #[] #[])
    {n : Nat} {w : World} {R : Ending → World → Prop} (hy : YieldAt (fen none) (n - 1) P l (aos.map a.eval) w R) {next : Act → World → Prop} {Q : Exit → Act → World → Prop} (hk : ∀ e w', R e w' → ∃ v, e = .returned v ∧ next (a.put o.dst v) w') : o.wpIn (fen none) n P a w next Q := by
  obtain ⟨fn, tmps, assign, body, h1, h2⟩ := hy
  refine ⟨fun f _ => trivial, ?_⟩
  rw [Oper.semAt_eq _ _ _ (by rw [ho]; rintro c ⟨⟩), run_callYield ho hf h1, Oper.uponIn_round]
  refine ⟨fun hh => by simp [fen, Fence.wide] at hh, h2.mono fun e w' he => ?_⟩
  obtain ⟨v, rfl, hn⟩ := hk e w' he
  exact hn

theorem HRel.rebase {B B' : Nat} {μ : Nat → Option Loc} {H : Heap} {w : World} (h : HRel B μ H w) (hro : ∀ i b, get H i = some b → b.st ≤ 1) : HRel B' μ H w :=
  ⟨h.read, h.esz, fun i b hi h2 => by have := hro i b hi; omega, h.apart⟩
theorem Rel.rebase {B : Nat} {w0 : World} {μ : Nat → Option Loc} {F : Nat → Prop} {ts : List (Nat × Value)} {hp : Heap} {nt : NT} {a : Act} {w : World} (h : Rel B w0 μ F ts hp nt a w) (hro : ∀ i b, get hp i = some b → b.st ≤ 1) : Rel w.heap.size w μ F ts hp nt a w :=
  ⟨h.t, h.h.rebase hro, Kept.refl _ _, Nat.le_refl _, h.free, h.st, h.dom⟩
theorem grown_of_kept {w w' : World} (h : Kept w.heap.size w w') : w.grownBy w' none := ⟨h.b.os, h.b.tape, h.b.output, h.b.size, fun k hk _ => h.b.block k hk⟩
theorem HRel.congr {B : Nat} {μ μ' : Nat → Option Loc} {H : Heap} {w : World} {n : Nat} (h : HRel B μ H w) (hx : ExtI n μ μ') (hid : ∀ i b, get H i = some b → b.st ≤ 1 ∧ i < n) (hc : ∀ i b, get H i = some b → ∀ v ∈ b.cells, shp1 n v = true) : HRel B μ' H w := by
  refine ⟨fun i b hi h1 j v hv => ?_, fun i b L hi h1 hL => ?_, fun i b hi h2 => ?_, fun i b j b' L L' hi hj h2 => ?_⟩
  · obtain ⟨L, v', q1, q2, q3, q4⟩ := h.read i b hi h1 j v hv
    refine ⟨L, v', by rw [hx i (hid i b hi).2]; exact q1, q2, ren1_of (ρ := id) (fun i hi L hL => by rw [hx i hi]; exact hL) (hc i b hi v (List.mem_of_getElem? hv)) (by rw [ren1_id (ρ := id) fun i => rfl]; exact q3), q4⟩
  · exact h.esz i b L hi h1 (by rw [← hx i (hid i b hi).2]; exact hL)
  · have := (hid i b hi).1; omega
  · have := (hid i b hi).1; omega

/-- the rounds' side: what they have come to (J; Jx: one of them has stopped), and what a call of yield does -/
structure JC {α : Type} (P : Program) (enc : α → List Value) (HR : World → Prop) where
  n : Nat
  l : Nat
  NN : Nat
  J : List α → World → Prop
  Jx : List α → World → Prop
  hJ : ∃ B, AbidesFrom B J
  hJx : ∃ B, AbidesFrom B Jx
  hy : ∀ pre x W, J pre W → pre.length < NN → YieldAt (fen none) (n - 1) P l (enc x).toArray W fun e W' => (e = .returned (.bool true) ∧ J (pre ++ [x]) W' ∧ (HR W → HR W')) ∨ (e = .returned (.bool false) ∧ Jx (pre ++ [x]) W')
section
variable {P : Program} {α : Type} {enc : α → List Value} {HR : World → Prop}
def JC.JJ (C : JC P enc HR) : Bool → List α → World → Prop
  | false => C.J
  | true => C.Jx
theorem JC.abides (C : JC P enc HR) (b : Bool) {pre : List α} {W W' : World} (h : C.JJ b pre W) (hg : W.grownBy W' none) : C.JJ b pre W' := by
  cases b with
  | false => obtain ⟨B, hB⟩ := C.hJ; exact hB pre W W' none h hg fun r e => by cases e
  | true => obtain ⟨B, hB⟩ := C.hJx; exact hB pre W W' none h hg fun r e => by cases e
/-- where the function that is ranged over stands: its state, of a world of its own; what the rounds have come to -/
def RI (C : JC P enc HR) (b : Bool) (L : Nat → Option Loc) (N nI : Nat) (pre : List α) (σ : AS) (a : Act) (W : World) : Prop := ∃ μ, ExtI nI L μ ∧ RelS W.heap.size W μ ⟨N, []⟩ σ a W ∧ C.JJ b pre W
/-- code of a function that is ranged over -/
def TrJ (C : JC P enc HR) (N nI : Nat) (L : Nat → Option Loc) (b : Bool) (c : Code) (σ : AS) (pre : List α) (K : Exit → AS → List α → Bool → Prop) : Prop :=
  ∀ (a : Act) (W : World) (Q : Exit → Act → World → Prop), RI C b L N nI pre σ a W → (∀ ex s pre' b' a' W', K ex s pre' b' → RI C b' L N nI pre' s a' W' → Q ex a' W') → c.wpIn (fen none) C.n P Q a W
variable {C : JC P enc HR} {N nI : Nat} {L : Nat → Option Loc} {b : Bool} {σ : AS} {pre : List α} {K : Exit → AS → List α → Bool → Prop}
theorem TrJ.piece {c : Code} {σ1 : AS} {ex : Exit} (h : Tr P none ⟨N, []⟩ nI c σ fun e s => e = ex ∧ s = σ1) (hro : ∀ i b, get σ1.hp i = some b → b.st ≤ 1) (hk : K ex σ1 pre b) : TrJ C N nI L b c σ pre K := by
  intro a W Q ⟨μ, hL, hr, hj⟩ hq
  refine h C.n W.heap.size W μ a W Q hr fun e s μ' a' w' ⟨h1, h2⟩ hx hr' => ?_
  subst h1; subst h2
  exact hq _ _ _ _ a' w' hk ⟨μ', hL.trans hx, hr'.rebase hro, C.abides b hj (grown_of_kept hr'.below)⟩
theorem TrJ.seq {x y : Code} (h : TrJ C N nI L b x σ pre fun ex s p q => match ex with | .normal => TrJ C N nI L q y s p K | e => K e s p q) : TrJ C N nI L b (.seq x y) σ pre K := by
  intro a W Q hr hq
  refine wpIn_seq (h a W _ hr fun ex s p q a' W' k hr' => ?_)
  cases ex with
  | normal => exact k a' W' Q hr' hq
  | _ => exact hq _ s p q a' W' k hr'
theorem TrJ.cond {c : Operand} {x y : Code} {v : Bool} (hc : ev σ.ts c = some (.bool v)) (ht : v = true → TrJ C N nI L b x σ pre K) (hf : v = false → TrJ C N nI L b y σ pre K) : TrJ C N nI L b (.cond c x y) σ pre K := by
  intro a W Q hr hq
  obtain ⟨μ, hL, hr', hj⟩ := id hr
  have e := (ev_ok hr'.t hc).bool
  cases v with
  | true => exact wpIn_cond_true e (ht rfl a W Q hr hq)
  | false => exact wpIn_cond_false e (hf rfl a W Q hr hq)
theorem TrJ.skip (h : K .normal σ pre b) : TrJ C N nI L b .skip σ pre K := fun a W Q hr hq => wpIn_skip (hq _ _ _ _ a W h hr)
theorem TrJ.ret (h : K .ret σ pre b) : TrJ C N nI L b .ret σ pre K := fun a W Q hr hq => wpIn_ret (hq _ _ _ _ a W h hr)
theorem TrJ.exit {id : Nat} (h : K (.exit id) σ pre b) : TrJ C N nI L b (.exit id) σ pre K := fun a W Q hr hq => wpIn_exit (hq _ _ _ _ a W h hr)
theorem TrJ.mono {c : Code} {K' : Exit → AS → List α → Bool → Prop} (h : TrJ C N nI L b c σ pre K) (hk : ∀ ex s p q, K ex s p q → K' ex s p q) : TrJ C N nI L b c σ pre K' := fun a W Q hr hq => h a W Q hr fun ex s p q a' W' k => hq ex s p q a' W' (hk _ _ _ _ k)
def inBlkJ (id : Nat) (K : Exit → AS → List α → Bool → Prop) : Exit → AS → List α → Bool → Prop
  | .exit id', s, p, q => if id' = id then K .normal s p q else K (.exit id') s p q
  | e, s, p, q => K e s p q
theorem TrJ.block {id : Nat} {c : Code} (h : TrJ C N nI L b c σ pre (inBlkJ id K)) : TrJ C N nI L b (.block id c) σ pre K := by
  intro a W Q hr hq
  refine wpIn_block (h a W _ hr fun ex s p q a' W' k hr' => ?_)
  cases ex with
  | exit id' =>
    simp only [inBlkJ] at k
    simp only [Exit.inBlock]
    split at k
    · rename_i e; rw [if_pos e]; exact hq _ s p q a' W' k hr'
    · rename_i e; rw [if_neg e]; exact hq _ s p q a' W' k hr'
  | _ => exact hq _ s p q a' W' k hr'
/-- a loop: I is told at each round's head -/
theorem TrJ.loop {c : Code} {ι : Type} (I : ι → AS) (pr : ι → List α) (m : ι → Nat) (Inv : ι → Prop) (round : ∀ i, Inv i → TrJ C N nI L false c (I i) (pr i) fun ex s p q => match ex with | .normal => ∃ j, Inv j ∧ s = I j ∧ p = pr j ∧ q = false ∧ m j < m i | e => K e s p q) (i : ι) (hi : Inv i) : TrJ C N nI L false (.loop c) (I i) (pr i) K := by
  intro a W Q hr hq
  refine Go.wpIn_loop_ghost (fun n a' w' => ∃ k : ι, m k = n ∧ Inv k ∧ RI C false L N nI (pr k) (I k) a' w') (m i) ⟨i, rfl, hi, hr⟩ fun n a' w' hI => ?_
  obtain ⟨k, rfl, hk, h'⟩ := hI
  refine round k hk a' w' _ h' fun ex s p q a2 w2 hK hr2 => ?_
  cases ex with
  | normal =>
    obtain ⟨j, hj, rfl, rfl, rfl, hm⟩ := hK
    exact ⟨m j, hm, j, rfl, hj, hr2⟩
  | _ => exact hq _ s p q a2 w2 hK hr2
/-- a region with a call of yield in it -/
theorem TrJ.yield {id : Nat} {ops : Array Oper} {l1 l2 : List Oper} {o : Oper} (hops : ops.toList = l1 ++ o :: l2) {σ1 : AS} {σ2 : Bool → AS} (h1 : TrL P none ⟨N, []⟩ nI ops l1 σ fun s => s = σ1) {fo : Operand} {aos : Array Operand} {ats : Array TypeId} (ho : o.op = .call { callee := .value fo, args := aos, argTypes := ats })
    (hgd : o.guard = none) (hd : dstOK ⟨N, []⟩ o = true) (hf : ev σ1.ts fo = some (.func (.yield C.l) #[] #[])) {x : α} (hx : aos.toList.mapM (ev σ1.ts) = some (enc x)) (hxf : (enc x).all flat = true) (hH : ∀ i b, get σ1.hp i = some b → b.st ≤ 1) (hnx : nI ≤ σ1.nx)
    (hHR1 : ∀ μ W, ExtI nI L μ → HRel W.heap.size μ σ1.hp W → HR W) (hHR2 : ∀ μ (W : World), ExtI nI L μ → HR W → HRel W.heap.size μ σ1.hp W) (hlen : pre.length < C.NN)
    (h2 : ∀ v : Bool, TrL P none ⟨N, []⟩ nI ops l2 ⟨putDst σ1.ts o.dst (some (.bool v)), (if v then σ1.hp else []), σ1.nx⟩ fun s => s = σ2 v) (hro2 : ∀ v i b, get (σ2 v).hp i = some b → b.st ≤ 1) (hk1 : K .normal (σ2 true) (pre ++ [x]) false) (hk2 : K .normal (σ2 false) (pre ++ [x]) true) :
    TrJ C N nI L false (.region id ops false) σ pre K := by
  intro a W Q ⟨μ, hL, hr, hj⟩ hq
  refine wpIn_region_list ?_
  rw [hops]
  refine wpListIn_app (h1 C.n W.heap.size W μ a W _ hr fun s μ' a' w' e hx' hr' => ?_)
  subst e
  have hj' : C.J pre w' := C.abides false hj (grown_of_kept hr'.below)
  have hLμ := hL.trans hx'
  show wpListIn (fen none) C.n P ops Q (o :: l2) a' w'
  unfold wpListIn
  rw [if_pos (by unfold Region.wanted; rw [hgd])]
  have hfe : a'.eval fo = .func (.yield C.l) #[] #[] := by
    have := (ev_ok hr'.t hf).flatEq rfl
    exact this
  have hargs : aos.map a'.eval = (enc x).toArray := by
    have hv := mapM_ev hr'.t hx
    have : ∀ {l l' : List Value}, VRels μ' l l' → l.all flat = true → l' = l := by
      intro l
      induction l with
      | nil => intro l' h _; exact h.of_nil
      | cons y r ih =>
        intro l' h hh
        obtain ⟨y', r', rfl, q1, q2⟩ := h.of_cons
        simp only [List.all_cons, Bool.and_eq_true] at hh
        rw [q1.flatEq hh.1, ih q2 hh.2]
    have e := this hv hxf
    rw [← e]; apply Array.ext'; simp
  refine yield_op ho hfe (R := fun e W' => (e = .returned (.bool true) ∧ C.J (pre ++ [x]) W' ∧ (HR w' → HR W')) ∨ (e = .returned (.bool false) ∧ C.Jx (pre ++ [x]) W')) (by rw [hargs]; exact C.hy pre x w' hj' hlen) fun e W' hR => ?_
  have hput : ∀ v : Bool, ∀ hp : Heap, HRel W'.heap.size μ' hp W' → (∀ i b, get hp i = some b → get s.hp i = some b) → RelS W'.heap.size W' μ' ⟨N, []⟩ ⟨putDst s.ts o.dst (some (.bool v)), hp, s.nx⟩ (a'.put o.dst (.bool v)) W' := fun v hp hh hsub =>
    ⟨hr'.t.put o.dst (dstOK_ok hd) (some (.bool v)) (.bool v) fun y hy => by injection hy with hy; subst hy; exact .flat _ rfl, hh, Kept.refl _ _, Nat.le_refl _, hr'.free, fun i b hi => hr'.st i b (hsub i b hi), fun i b hi hb => hr'.dom i b hi (hsub i b hb)⟩
  rcases hR with ⟨rfl, q1, q2⟩ | ⟨rfl, q1⟩
  · refine ⟨_, rfl, ?_⟩
    have hh := hHR2 μ' W' hLμ (q2 (hHR1 μ' w' hLμ (hr'.h.rebase hH)))
    refine h2 true C.n W'.heap.size W' μ' _ W' Q (hput true s.hp hh fun i b h => h) fun s3 μ3 a3 w3 e3 hx3 hr3 => ?_
    subst e3
    exact hq .normal _ _ _ a3 w3 hk1 ⟨μ3, hLμ.trans hx3, hr3.rebase (hro2 true), C.abides false q1 (grown_of_kept hr3.below)⟩
  · refine ⟨_, rfl, ?_⟩
    have hh : HRel W'.heap.size μ' [] W' := ⟨fun i b hi => by simp [get] at hi, fun i b L hi => by simp [get] at hi, fun i b hi => by simp [get] at hi, fun i b j b' L L' hi => by simp [get] at hi⟩
    refine h2 false C.n W'.heap.size W' μ' _ W' Q (hput false [] hh fun i b h => by simp [get] at h) fun s3 μ3 a3 w3 e3 hx3 hr3 => ?_
    subst e3
    exact hq .normal _ _ _ a3 w3 hk2 ⟨μ3, hLμ.trans hx3, hr3.rebase (hro2 false), C.abides true q1 (grown_of_kept hr3.below)⟩
end
/-! ### parts of code, by name -/
def cL : Code → Code | .seq a _ => a | _ => .skip
def cR : Code → Code | .seq _ b => b | _ => .skip
def cT : Code → Code | .cond _ a _ => a | _ => .skip
def cF : Code → Code | .cond _ _ b => b | _ => .skip
def cC : Code → Operand | .cond c _ _ => c | _ => .tmp 0
def cB : Code → Code | .block _ c => c | .loop c => c | .rangeFunc _ _ _ c => c | _ => .skip
def cId : Code → Nat | .block id _ => id | .region id _ _ => id | _ => 0
def cOps : Code → Array Oper | .region _ ops _ => ops | _ => #[]
def cKind : Code → Nat | .seq .. => 1 | .cond .. => 2 | .block .. => 3 | .loop .. => 4 | .region _ _ false => 5 | _ => 0
theorem kind1 {c : Code} (h : (cKind c == 1) = true) : c = .seq (cL c) (cR c) := by cases c <;> simp_all [cKind, cL, cR]; rename_i b; cases b <;> simp_all [cKind]
theorem kind2 {c : Code} (h : (cKind c == 2) = true) : c = .cond (cC c) (cT c) (cF c) := by cases c <;> simp_all [cKind, cC, cT, cF]; rename_i b; cases b <;> simp_all [cKind]
theorem kind3 {c : Code} (h : (cKind c == 3) = true) : c = .block (cId c) (cB c) := by cases c <;> simp_all [cKind, cId, cB]; rename_i b; cases b <;> simp_all [cKind]
theorem kind4 {c : Code} (h : (cKind c == 4) = true) : c = .loop (cB c) := by cases c <;> simp_all [cKind, cB]; rename_i b; cases b <;> simp_all [cKind]
theorem kind5 {c : Code} (h : (cKind c == 5) = true) : c = .region (cId c) (cOps c) false := by cases c <;> simp_all [cKind, cId, cOps]; rename_i b; cases b <;> simp_all [cKind]
section
variable {P : Program} {α : Type} {enc : α → List Value} {HR : World → Prop} {C : JC P enc HR} {N nI : Nat} {L : Nat → Option Loc} {b : Bool} {σ : AS} {pre : List α} {K : Exit → AS → List α → Bool → Prop} {c : Code}
theorem TrJ.seqC (hc : (cKind c == 1) = true) (h : TrJ C N nI L b (cL c) σ pre fun ex s p q => match ex with | .normal => TrJ C N nI L q (cR c) s p K | e => K e s p q) : TrJ C N nI L b c σ pre K := by rw [kind1 hc]; exact TrJ.seq h
theorem TrJ.condC (hk : (cKind c == 2) = true) {v : Bool} (hc : ev σ.ts (cC c) = some (.bool v)) (ht : v = true → TrJ C N nI L b (cT c) σ pre K) (hf : v = false → TrJ C N nI L b (cF c) σ pre K) : TrJ C N nI L b c σ pre K := by rw [kind2 hk]; exact TrJ.cond hc ht hf
theorem TrJ.blockC (hc : (cKind c == 3) = true) (h : TrJ C N nI L b (cB c) σ pre (inBlkJ (cId c) K)) : TrJ C N nI L b c σ pre K := by rw [kind3 hc]; exact TrJ.block h
theorem TrJ.loopC (hc : (cKind c == 4) = true) {ι : Type} (I : ι → AS) (pr : ι → List α) (m : ι → Nat) (Inv : ι → Prop) (round : ∀ i, Inv i → TrJ C N nI L false (cB c) (I i) (pr i) fun ex s p q => match ex with | .normal => ∃ j, Inv j ∧ s = I j ∧ p = pr j ∧ q = false ∧ m j < m i | e => K e s p q) (i : ι) (hi : Inv i) : TrJ C N nI L false c (I i) (pr i) K := by rw [kind4 hc]; exact TrJ.loop I pr m Inv round i hi
theorem TrJ.run {A : Anss P none N nI false} {rows : List Nat} {ex : Exit} {σ0 : AS} (hm : P.follows .mixedOrders = true) (h : viewL (runX c σ A) rows σ0 = viewR (runX c σ A) rows ex σ0) (hs : SCR rows σ0.hp) (hn : nI ≤ σ.nx) (hro : roOK σ0.nx σ0.hp = true) (hk : K ex σ0 pre b) : TrJ C N nI L b c σ pre K :=
  TrJ.piece (Tr.run hm h hs hn) (fun i b hi => (roOK_ok hro i b hi).1) hk
theorem TrL.ev {r : Option Nat} {nt : NT} {all : Array Oper} {l : List Oper} {σ1 : AS} (hn : nI ≤ σ.nx) (h : evalOps P nt all l σ = some σ1) : TrL P r nt nI all l σ fun s => s = σ1 := by
  have := TrL.eval (P := P) (r := r) (nt := nt) (nI := nI) (all := all) (l2 := []) (K := fun s => s = σ1) hn h (TrL.nil rfl)
  rwa [List.append_nil] at this
end
/-- a function that is ranged over, by a walk of its body -/
theorem SeqC.of_trJ {α : Type} {P : Program} {g : FuncId} {fn : Func} (hg : Has P g fn (bodyOf fn)) {caps0 : List Value} {H0 : Heap} {n0 : Nat} {rows : List Nat} {enc : α → List Value} {xs : List α} (sc : SCR rows H0) (ro : roOK n0 H0 = true) (cl : ∀ i b, get H0 i = some b → ∀ v ∈ b.cells, shp1 n0 v = true) (hn : caps0.length + 1 ≤ fn.ntmps) (hres : fn.results.toList = [])
    (h : ∀ (μ0 : Nat → Option Loc) (C : JC P enc (fun W => HRel 0 μ0 H0 W)), C.NN = xs.length → (∀ μ W, ExtI n0 μ0 μ → HRel W.heap.size μ H0 W → HRel 0 μ0 H0 W) → (∀ μ (W : World), ExtI n0 μ0 μ → HRel 0 μ0 H0 W → HRel W.heap.size μ H0 W) →
      TrJ C fn.ntmps n0 μ0 false (bodyOf fn) ⟨argTs 0 (.func (.yield C.l) #[] #[] :: caps0), H0, n0⟩ [] fun ex s pre b => isRet ex = true ∧ ((b = false ∧ pre = xs) ∨ (b = true ∧ pre <+: xs))) : SeqC P g caps0 H0 n0 rows enc xs := by
  refine ⟨⟨fn, _, hg⟩, sc, ro, fun μ0 w0 ccaps n hcaps hH0 hfree => fun l J Jx W hbelow hJ hJx hy hj0 => ?_⟩
  have hro := roOK_ok ro
  let C : JC P enc (fun W => HRel 0 μ0 H0 W) := ⟨n, l, xs.length, J, Jx, ⟨_, hJ⟩, ⟨_, hJx⟩, fun pre x W hj hl => hy pre x W hj hl⟩
  have hHW : HRel 0 μ0 H0 W := hH0.world fun k hk => hbelow.block k hk
  have hT := h μ0 C rfl (fun μ W hx hh => (hh.rebase fun i b hi => (hro i b hi).1).congr (n := n0) (fun i hi => (hx i hi).symm) (fun i b hi => hro i b hi) cl) (fun μ W hx hh => (hh.rebase fun i b hi => (hro i b hi).1).congr (n := n0) hx (fun i b hi => hro i b hi) cl)
  refine callsIn_of_wp hg.hfn hg.hbody trivial (hT _ W _ ⟨μ0, ExtI.refl _ _, ⟨⟨rfl, ?_, fun t x hx => ?_⟩, hHW.rebase fun i b hi => (hro i b hi).1, Kept.refl _ _, Nat.le_refl _, fun i hi => hfree i hi, fun i b hb => by have := (hro i b hb).1; omega, fun i b hi hb => by have := (hro i b hb).2; have : n0 ≤ i := hi; omega⟩, hj0⟩ fun ex s pre b a' W' hK hr => ?_)
  · have := hcaps.1; simp; omega
  · obtain ⟨_, q2⟩ := get_argTs _ 0 t x hx
    have hall : VRels μ0 (.func (.yield l) #[] #[] :: caps0) (.func (.yield l) #[] #[] :: ccaps) := .cons (.flat _ rfl) hcaps
    obtain ⟨v', q3, q4⟩ := hall.get q2
    refine ⟨v', ?_, q4⟩
    rw [Array.getElem?_append_left (by have := (List.getElem?_eq_some_iff.1 q3).1; simp at this ⊢; omega)]
    simpa using q3
  · obtain ⟨hex, hK⟩ := hK
    obtain ⟨μ, hx, hr', hj⟩ := hr
    have hrs : resOf P fn.results.toList s = some (.tuple #[]) := by rw [hres]; rfl
    obtain ⟨v', q1, q2⟩ := res_ok hr' hrs
    have hlast : (∃ v, Ending.returned v' = .returned v) ∧ ((∃ ys, ys = xs ∧ J ys W') ∨ (∃ ys, ys <+: xs ∧ Jx ys W')) := by
      refine ⟨⟨v', rfl⟩, ?_⟩
      rcases hK with ⟨rfl, rfl⟩ | ⟨rfl, hp⟩
      · exact .inl ⟨pre, rfl, hj⟩
      · exact .inr ⟨pre, hp, hj⟩
    cases ex with
    | ret => exact ⟨hr'.t.defers, v', q1, hlast⟩
    | normal => exact ⟨hr'.t.defers, v', q1, hlast⟩
    | _ => simp [isRet] at hex
end Go.Am
