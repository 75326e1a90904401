/-
An abstract machine over the kit's wp calculus, part 8: rows of operations, and code.
-/
import Derived.Test.YtbihgmehjhlojaaAm7
import Derived.Sort.LoopGhostIn
import Derived.TacticsIn
set_option linter.unusedVariables false
set_option linter.unusedSimpArgs false
namespace Go.Am
open Go Go.RowKit

structure AS where
  ts : List (Nat × Value)
  hp : Heap
  nx : Nat

/-- the ids below n lie where they lay -/
def ExtI (n : Nat) (μ μ' : Nat → Option Loc) : Prop := ∀ i, i < n → μ' i = μ i
theorem ExtI.refl (n : Nat) (μ : Nat → Option Loc) : ExtI n μ μ := fun _ _ => rfl
theorem ExtI.trans {n : Nat} {a b c : Nat → Option Loc} (h : ExtI n a b) (k : ExtI n b c) : ExtI n a c := fun i hi => (k i hi).trans (h i hi)

abbrev RelS (B : Nat) (w0 : World) (μ : Nat → Option Loc) (nt : NT) (σ : AS) (a : Act) (w : World) : Prop := Rel B w0 μ (fun i => σ.nx ≤ i) σ.ts σ.hp nt a w

/-- the fence of a frame: a function's (none), or a round's of a range over a function -/
def fen (r : Option Nat) : Fence := { Fence.wide with round := r }
theorem fen_none : fen none = Fence.wide := rfl
theorem callsIn_fen {r : Option Nat} {n : Nat} {P : Program} {f : FuncId} {args : Array Value} {w : World} {R : Ending → World → Prop} (h : Calls P f args w R) : CallsIn (fen r) n P f args w R := by
  have h' : CallsIn Fence.wide n P f args w R := callsIn_wide.2 h
  cases r with
  | none => exact h'
  | some l => exact CallsIn.inRound l h'
theorem rowsIn_fen {r : Option Nat} {n : Nat} {P : Program} {row : String} {args : Array Value} {w : World} {R : Value → World → Prop} (h : Rows P row args w R) : RowsIn (fen r) n P row args w R := by
  have h' : RowsIn Fence.wide n P row args w R := fun c cs _ => by
    obtain ⟨v, w', k, s⟩ := h c cs
    exact ⟨v, w', k, stepsIn_wide.2 s⟩
  exact h'
/-- an operation that defers nothing does in a round what it does everywhere -/
theorem wpIn_of_wp {P : Program} {o : Oper} {a : Act} {w : World} {next : Act → World → Prop} {Q : Exit → Act → World → Prop} {r : Option Nat} {n : Nat} (hd : ∀ c, o.op ≠ .defer c) (h : o.wp P a w next Q) : o.wpIn (fen r) n P a w next Q := by
  refine ⟨fun f _ => trivial, ?_⟩
  rw [Oper.semAt_eq _ _ _ hd]
  unfold Oper.wp at h
  revert h
  generalize (execOp a.eval o).run P w = res
  intro h
  cases res with
  | ok nx w' =>
    cases nx with
    | value v => exact h
    | skip => exact h
    | defer d => exact h
    | enter f args => exact ⟨fun hh => by simp [fen, Fence.wide] at hh, callsIn_fen h⟩
    | row row args => exact ⟨fun hh => by simp [fen, Fence.wide] at hh, rowsIn_fen h⟩
    | _ => exact h.elim
  | halt x w' =>
    cases x with
    | panic v => exact h
    | _ => exact h.elim
def noDefer : Op → Bool
  | .defer _ => false
  | _ => true
theorem noDefer_ok {o : Op} (h : noDefer o = true) : ∀ c, o ≠ .defer c := by rintro c rfl; simp [noDefer] at h

/-- code from a state on: whatever it comes to is let -/
def Tr (P : Program) (r : Option Nat) (nt : NT) (nI : Nat) (c : Code) (σ : AS) (K : Exit → AS → Prop) : Prop :=
  ∀ (n B : Nat) (w0 : World) (μ : Nat → Option Loc) (a : Act) (w : World) (Q : Exit → Act → World → Prop), RelS B w0 μ nt σ a w →
    (∀ ex σ' μ' a' w', K ex σ' → ExtI nI μ μ' → RelS B w0 μ' nt σ' a' w' → Q ex a' w') → c.wpIn (fen r) n P Q a w
/-- the same for the rest of a region's operations -/
def TrL (P : Program) (r : Option Nat) (nt : NT) (nI : Nat) (all : Array Oper) (l : List Oper) (σ : AS) (K : AS → Prop) : Prop :=
  ∀ (n B : Nat) (w0 : World) (μ : Nat → Option Loc) (a : Act) (w : World) (Q : Exit → Act → World → Prop), RelS B w0 μ nt σ a w →
    (∀ σ' μ' a' w', K σ' → ExtI nI μ μ' → RelS B w0 μ' nt σ' a' w' → Q .normal a' w') → wpListIn (fen r) n P all Q l a w

theorem TrL.nil {P : Program} {r : Option Nat} {nt : NT} {nI : Nat} {all : Array Oper} {σ : AS} {K : AS → Prop} (h : K σ) : TrL P r nt nI all [] σ K :=
  fun n B w0 μ a w Q hr hk => wpListIn_nil (hk σ μ a w h (ExtI.refl _ _) hr)

/-- is an operation carried out? -/
def guardOf (all : Array Oper) (ts : List (Nat × Value)) (o : Oper) : Option Bool :=
  match o.guard with
  | none => some true
  | some (j, want) =>
    match (all.toList[j]?).bind (·.dst) with
    | none => some false
    | some d =>
      match get ts d with
      | some (.bool b) => some (b == want)
      | some (.tuple ⟨[]⟩) => some false
      | _ => none
theorem guardOf_ok {μ : Nat → Option Loc} {all : Array Oper} {ts : List (Nat × Value)} {nt : NT} {a : Act} (h : TRel μ ts nt a) {o : Oper} {b : Bool} (hg : guardOf all ts o = some b) : Region.wanted o (yielded all a.tmps) = b := by
  unfold guardOf at hg
  unfold Region.wanted
  cases hgd : o.guard with
  | none => rw [hgd] at hg; simpa using hg
  | some q =>
    obtain ⟨j, want⟩ := q
    rw [hgd] at hg
    simp only at hg ⊢
    unfold yielded
    have e : all[j]? = all.toList[j]? := (Array.getElem?_toList ..).symm
    rw [e]
    cases hd : (all.toList[j]?).bind (·.dst) with
    | none => rw [hd] at hg; simp at hg; subst hg; simp
    | some d =>
      rw [hd] at hg
      simp only [Option.bind_some] at hg ⊢
      split at hg
      · rename_i c hc
        obtain ⟨v', h1, h2⟩ := h.val d _ hc
        have := h2.bool; subst this
        rw [h1]; simp at hg ⊢; exact hg
      · rename_i hc
        obtain ⟨v', h1, h2⟩ := h.val d _ hc
        have := h2.flatEq rfl; subst this
        rw [h1]; simp at hg ⊢; exact hg
      · cases hg

def AS.app (σ : AS) (dst : Option Nat) (e : Eff) (nx : Nat) : AS := { ts := putDst σ.ts dst e.val, hp := puts σ.hp e.upd, nx := nx }
def dstOK (nt : NT) (o : Oper) : Bool := match o.dst with | none => true | some d => d < nt.n
theorem dstOK_ok {nt : NT} {o : Oper} (h : dstOK nt o = true) : ∀ d, o.dst = some d → d < nt.n := by
  intro d hd; unfold dstOK at h; rw [hd] at h; simpa using h
theorem TrL.op {P : Program} {r : Option Nat} {nt : NT} {nI : Nat} {all : Array Oper} {o : Oper} {l : List Oper} {σ : AS} {K : AS → Prop} {e : Eff} {nx : Nat} (hd : dstOK nt o = true) (hnd : noDefer o.op = true) (hg : guardOf all σ.ts o = some true) (ho : OpOK P o σ.ts σ.hp σ.nx nx e) (hnx : σ.nx ≤ nx) (hnI : nI ≤ σ.nx)
    (h : TrL P r nt nI all l (σ.app o.dst e nx) K) : TrL P r nt nI all (o :: l) σ K := by
  intro n B w0 μ a w Q hr hk
  unfold wpListIn
  rw [if_pos (guardOf_ok hr.t hg)]
  refine wpIn_of_wp (noDefer_ok hnd) (ho B w0 μ _ σ.ts σ.hp nt a w _ Q (TLe.refl _) (HLe.refl _) hr (fun i h1 _ => h1) (dstOK_ok hd) fun μ' a' w' hx hout hr' => ?_)
  refine h n B w0 μ' a' w' Q ⟨hr'.t, hr'.h, hr'.below, hr'.size, fun i hi => hr'.free i ⟨by have : nx ≤ i := hi; omega, fun q => by have : nx ≤ i := hi; omega⟩, hr'.st, fun i b hi hb => hr'.dom i b ⟨by have : nx ≤ i := hi; omega, fun q => by have : nx ≤ i := hi; omega⟩ hb⟩ fun σ' μ2 a2 w2 k1 k2 k3 => hk σ' μ2 a2 w2 k1 (ExtI.trans (fun i hi => hout i fun q => by omega) k2) k3
theorem TrL.skip {P : Program} {r : Option Nat} {nt : NT} {nI : Nat} {all : Array Oper} {o : Oper} {l : List Oper} {σ : AS} {K : AS → Prop} (hd : dstOK nt o = true) (hg : guardOf all σ.ts o = some false)
    (h : TrL P r nt nI all l { σ with ts := putDst σ.ts o.dst (some undef) } K) : TrL P r nt nI all (o :: l) σ K := by
  intro n B w0 μ a w Q hr hk
  unfold wpListIn
  rw [if_neg (by rw [guardOf_ok hr.t hg]; simp)]
  refine ⟨fun _ _ => trivial, h n B w0 μ _ w Q ⟨hr.t.put o.dst (dstOK_ok hd) (some undef) undef (fun x hx => by injection hx with hx; subst hx; exact .flat _ rfl), hr.h, hr.below, hr.size, hr.free, hr.st, hr.dom⟩ hk⟩

/-- operations that call nothing, in a row -/
def evalOps (P : Program) (nt : NT) (all : Array Oper) : List Oper → AS → Option AS
  | [], σ => some σ
  | o :: r, σ =>
    if dstOK nt o && noDefer o.op then
      match guardOf all σ.ts o with
      | some true =>
        match evalOp P σ.ts σ.hp σ.nx o with
        | some (e, nx) => evalOps P nt all r (σ.app o.dst e nx)
        | none => none
      | some false => evalOps P nt all r { σ with ts := putDst σ.ts o.dst (some undef) }
      | none => none
    else none
theorem TrL.eval {P : Program} {r : Option Nat} {nt : NT} {nI : Nat} {all : Array Oper} {l2 : List Oper} {K : AS → Prop} : ∀ {l1 : List Oper} {σ σ' : AS}, nI ≤ σ.nx → evalOps P nt all l1 σ = some σ' → TrL P r nt nI all l2 σ' K → TrL P r nt nI all (l1 ++ l2) σ K
  | [], σ, σ', hn, h, k => by simp only [evalOps, Option.some.injEq] at h; subst h; exact k
  | o :: r, σ, σ', hn, h, k => by
    simp only [evalOps] at h
    split at h
    · rename_i hd
      simp only [Bool.and_eq_true] at hd
      obtain ⟨hd, hnd⟩ := hd
      split at h
      · rename_i hg
        split at h
        · rename_i e nx he
          obtain ⟨q1, q2⟩ := evalOp_ok he
          exact TrL.op hd hnd hg q1 q2 hn (TrL.eval (Nat.le_trans hn q2) h k)
        · cases h
      · rename_i hg
        exact TrL.skip hd hg (TrL.eval hn h k)
      · cases h
    · cases h

/-! ### code -/
theorem Tr.mono {P : Program} {r : Option Nat} {nt : NT} {nI : Nat} {c : Code} {σ : AS} {K K' : Exit → AS → Prop} (h : Tr P r nt nI c σ K) (hk : ∀ ex s, K ex s → K' ex s) : Tr P r nt nI c σ K' :=
  fun n B w0 μ a w Q hr hq => h n B w0 μ a w Q hr fun ex s μ' a' w' k => hq ex s μ' a' w' (hk ex s k)
theorem Tr.region {P : Program} {r : Option Nat} {nt : NT} {nI id : Nat} {ops : Array Oper} {σ : AS} {K : Exit → AS → Prop} (h : TrL P r nt nI ops ops.toList σ (K .normal)) : Tr P r nt nI (.region id ops false) σ K :=
  fun n B w0 μ a w Q hr hq => wpIn_region_list (h n B w0 μ a w Q hr fun s μ' a' w' k => hq .normal s μ' a' w' k)
theorem Tr.seq {P : Program} {r : Option Nat} {nt : NT} {nI : Nat} {x y : Code} {σ : AS} {K : Exit → AS → Prop} (h : Tr P r nt nI x σ fun ex s => match ex with | .normal => Tr P r nt nI y s K | e => K e s) : Tr P r nt nI (.seq x y) σ K := by
  intro n B w0 μ a w Q hr hq
  refine wpIn_seq (h n B w0 μ a w _ hr fun ex s μ' a' w' k hx hr' => ?_)
  cases ex with
  | normal => exact k n B w0 μ' a' w' Q hr' fun ex2 s2 μ2 a2 w2 k2 hx2 => hq ex2 s2 μ2 a2 w2 k2 (hx.trans hx2)
  | _ => exact hq _ s μ' a' w' k hx hr'
theorem Tr.skip {P : Program} {r : Option Nat} {nt : NT} {nI : Nat} {σ : AS} {K : Exit → AS → Prop} (h : K .normal σ) : Tr P r nt nI .skip σ K := fun n B w0 μ a w Q hr hq => wpIn_skip (hq _ σ μ a w h (ExtI.refl _ _) hr)
theorem Tr.exit {P : Program} {r : Option Nat} {nt : NT} {nI id : Nat} {σ : AS} {K : Exit → AS → Prop} (h : K (.exit id) σ) : Tr P r nt nI (.exit id) σ K := fun n B w0 μ a w Q hr hq => wpIn_exit (hq _ σ μ a w h (ExtI.refl _ _) hr)
theorem Tr.ret {P : Program} {r : Option Nat} {nt : NT} {nI : Nat} {σ : AS} {K : Exit → AS → Prop} (h : K .ret σ) : Tr P r nt nI .ret σ K := fun n B w0 μ a w Q hr hq => wpIn_ret (hq _ σ μ a w h (ExtI.refl _ _) hr)
theorem Tr.cond {P : Program} {r : Option Nat} {nt : NT} {nI : Nat} {c : Operand} {x y : Code} {σ : AS} {K : Exit → AS → Prop} {b : Bool} (hc : ev σ.ts c = some (.bool b)) (ht : b = true → Tr P r nt nI x σ K) (hf : b = false → Tr P r nt nI y σ K) : Tr P r nt nI (.cond c x y) σ K := by
  intro n B w0 μ a w Q hr hq
  have e := (ev_ok hr.t hc).bool
  cases b with
  | true => exact wpIn_cond_true e (ht rfl n B w0 μ a w Q hr hq)
  | false => exact wpIn_cond_false e (hf rfl n B w0 μ a w Q hr hq)
def inBlk (id : Nat) (K : Exit → AS → Prop) : Exit → AS → Prop
  | .exit id', s => if id' = id then K .normal s else K (.exit id') s
  | e, s => K e s
theorem Tr.block {P : Program} {r : Option Nat} {nt : NT} {nI id : Nat} {c : Code} {σ : AS} {K : Exit → AS → Prop} (h : Tr P r nt nI c σ (inBlk id K)) : Tr P r nt nI (.block id c) σ K := by
  intro n B w0 μ a w Q hr hq
  refine wpIn_block (h n B w0 μ a w _ hr fun ex s μ' a' w' k hx hr' => ?_)
  cases ex with
  | exit id' =>
    simp only [inBlk] at k
    simp only [Exit.inBlock]
    split at k
    · rename_i e; rw [if_pos e]; exact hq _ s μ' a' w' k hx hr'
    · rename_i e; rw [if_neg e]; exact hq _ s μ' a' w' k hx hr'
  | _ => exact hq _ s μ' a' w' k hx hr'

/-- what is told of one state may be told of another one -/
def Imp (nI : Nat) (nt : NT) (σ σ' : AS) : Prop :=
  ∀ (B : Nat) (w0 : World) (μ : Nat → Option Loc) (a : Act) (w : World), RelS B w0 μ nt σ a w → ∃ μ', ExtI nI μ μ' ∧ RelS B w0 μ' nt σ' a w
theorem Imp.refl (nI : Nat) (nt : NT) (σ : AS) : Imp nI nt σ σ := fun B w0 μ a w h => ⟨μ, ExtI.refl _ _, h⟩
theorem Imp.trans {nI : Nat} {nt : NT} {a b c : AS} (h : Imp nI nt a b) (k : Imp nI nt b c) : Imp nI nt a c := fun B w0 μ x w hr => by
  obtain ⟨μ1, e1, h1⟩ := h B w0 μ x w hr
  obtain ⟨μ2, e2, h2⟩ := k B w0 μ1 x w h1
  exact ⟨μ2, e1.trans e2, h2⟩
theorem Tr.imp {P : Program} {r : Option Nat} {nt : NT} {nI : Nat} {c : Code} {σ σ' : AS} {K : Exit → AS → Prop} (hi : Imp nI nt σ σ') (h : Tr P r nt nI c σ' K) : Tr P r nt nI c σ K := fun n B w0 μ a w Q hr hq => by
  obtain ⟨μ1, e1, h1⟩ := hi B w0 μ a w hr
  exact h n B w0 μ1 a w Q h1 fun ex s μ' a' w' k hx => hq ex s μ' a' w' k (e1.trans hx)
theorem TrL.imp {P : Program} {r : Option Nat} {nt : NT} {nI : Nat} {all : Array Oper} {l : List Oper} {σ σ' : AS} {K : AS → Prop} (hi : Imp nI nt σ σ') (h : TrL P r nt nI all l σ' K) : TrL P r nt nI all l σ K := fun n B w0 μ a w Q hr hq => by
  obtain ⟨μ1, e1, h1⟩ := hi B w0 μ a w hr
  exact h n B w0 μ1 a w Q h1 fun s μ' a' w' k hx => hq s μ' a' w' k (e1.trans hx)
/-- a way out is told of another state -/
theorem Tr.post {P : Program} {r : Option Nat} {nt : NT} {nI : Nat} {c : Code} {σ : AS} {K K' : Exit → AS → Prop} (h : Tr P r nt nI c σ K) (hk : ∀ ex s, K ex s → ∃ s', Imp nI nt s s' ∧ K' ex s') : Tr P r nt nI c σ K' :=
  fun n B w0 μ a w Q hr hq => h n B w0 μ a w Q hr fun ex s μ' a' w' k hx hr' => by
    obtain ⟨s', hi, k'⟩ := hk ex s k
    obtain ⟨μ2, e2, h2⟩ := hi B w0 μ' a' w' hr'
    exact hq ex s' μ2 a' w' k' (hx.trans e2) h2

/-- a loop: I is told at each round's head, by what is left -/
theorem Tr.loop {P : Program} {r : Option Nat} {nt : NT} {nI : Nat} {c : Code} {K : Exit → AS → Prop} {ι : Type} (I : ι → AS) (m : ι → Nat)
    (round : ∀ i, Tr P r nt nI c (I i) fun ex s => match ex with | .normal => ∃ j, Imp nI nt s (I j) ∧ m j < m i | e => K e s) : ∀ (i : ι) {σ : AS}, Imp nI nt σ (I i) → Tr P r nt nI (.loop c) σ K := by
  intro i σ hi n0 B w0 μ a w Q hr hq
  obtain ⟨μ1, e1, h1⟩ := hi B w0 μ a w hr
  refine Go.wpIn_loop_ghost (fun n a' w' => ∃ k : ι, m k = n ∧ ∃ μ', ExtI nI μ μ' ∧ RelS B w0 μ' nt (I k) a' w') (m i) ⟨i, rfl, μ1, e1, h1⟩ fun n a' w' hI => ?_
  obtain ⟨k, rfl, μ', e', h'⟩ := hI
  refine round k n0 B w0 μ' a' w' _ h' fun ex s μ2 a2 w2 hk hx hr2 => ?_
  cases ex with
  | normal =>
    obtain ⟨j, hij, hm⟩ := hk
    obtain ⟨μ3, e3, h3⟩ := hij B w0 μ2 a2 w2 hr2
    exact ⟨m j, hm, j, rfl, μ3, (e'.trans hx).trans e3, h3⟩
  | _ => exact hq _ s μ2 a2 w2 hk (e'.trans hx) hr2
end Go.Am
