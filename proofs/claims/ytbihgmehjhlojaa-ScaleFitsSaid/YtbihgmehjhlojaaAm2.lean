/-
An abstract machine over the kit's wp calculus, part 2: frames, effects, and the operations that touch no memory.
-/
import Derived.Test.YtbihgmehjhlojaaAm1
import Derived.RangeFuncFrom
import Derived.RangeFuncCalls
import Derived.RangeFuncLeaves
set_option linter.unusedVariables false
set_option linter.unusedSimpArgs false
namespace Go.Am
open Go Go.RowKit

/-- a frame: how many temporaries, what it has deferred -/
structure NT where
  n : Nat
  ds : List Deferred
/-- whatever lay below B lies as it lay, and whatever is no cells -/
structure Kept (B : Nat) (w w' : World) : Prop where
  b : Below B w w'
  o : KeepsOthers w w'
theorem Kept.refl (B : Nat) (w : World) : Kept B w w := ⟨Below.refl _ _, KeepsOthers.refl _⟩
theorem Kept.trans {B : Nat} {a b c : World} (h : Kept B a b) (k : Kept B b c) : Kept B a c := ⟨h.b.trans k.b, h.o.trans k.o⟩
theorem Kept.alloc {B : Nat} {a w : World} (h : Kept B a w) (hB : B ≤ w.heap.size) (o : Obj) : Kept B a (w.alloc o) := ⟨h.b.alloc hB o, h.o.trans (KeepsOthers.alloc w o)⟩
theorem Kept.setCell {B : Nat} {a w : World} (h : Kept B a w) {p : Addr} (hp : B ≤ p.block) (u : Value) : Kept B a (w.setCell p u) := ⟨h.b.setCell hp u, h.o.trans (KeepsOthers.setCell w p u)⟩
theorem Kept.same {B : Nat} {a w w' : World} (h : Kept B a w) (e1 : w'.os = w.os) (e2 : w'.tape = w.tape) (e3 : w'.output = w.output) (e4 : w'.heap = w.heap) : Kept B a w' := by
  have hk : KeepsOthers w w' := ⟨by rw [e4]; exact Nat.le_refl _, fun k o hk _ => by rw [e4]; exact hk⟩
  refine ⟨h.b.trans ⟨e1, e2, e3, by rw [e4]; exact Nat.le_refl _, fun k _ => by rw [e4]⟩, h.o.trans hk⟩
theorem Kept.drew {B : Nat} {a w : World} (h : Kept B a w) : Kept B a w.drew := h.same rfl rfl rfl rfl
theorem Kept.of_below {w w' : World} (h : Below w.heap.size w w') : Kept w.heap.size w w' := ⟨h, h.size, fun k o hk _ => (h.block k (Array.getElem?_eq_some_iff.1 hk).1).trans hk⟩

structure TRel (μ : Nat → Option Loc) (ts : List (Nat × Value)) (nt : NT) (a : Act) : Prop where
  defers : a.defers = nt.ds
  size : a.tmps.size = nt.n
  val : ∀ t v, get ts t = some v → ∃ v', a.tmps[t]? = some v' ∧ VRel μ v v'

structure Rel (B : Nat) (w0 : World) (μ : Nat → Option Loc) (F : Nat → Prop) (ts : List (Nat × Value)) (hp : Heap) (nt : NT) (a : Act) (w : World) : Prop where
  t : TRel μ ts nt a
  h : HRel B μ hp w
  below : Kept B w0 w
  size : B ≤ w.heap.size
  free : ∀ i, F i → μ i = none
  st : ∀ i b, get hp i = some b → b.st ≤ 2
  dom : ∀ i b, F i → get hp i = some b → b.st = 0

def TLe (ts ts' : List (Nat × Value)) : Prop := ∀ t v, get ts t = some v → get ts' t = some v
theorem TLe.refl (ts : List (Nat × Value)) : TLe ts ts := fun _ _ h => h

structure Eff where
  val : Option Value
  upd : Heap

def putDst (ts : List (Nat × Value)) (d : Option Nat) (v : Option Value) : List (Nat × Value) :=
  match d, v with
  | none, _ => ts
  | some d, some v => put ts d v
  | some d, none => del ts d

/-- an operation does this, whatever else there is -/
def OpOK (P : Program) (o : Oper) (ts : List (Nat × Value)) (hp : Heap) (lo hi : Nat) (e : Eff) : Prop :=
  ∀ (B : Nat) (w0 : World) (μ : Nat → Option Loc) (F : Nat → Prop) (ts' : List (Nat × Value)) (hp' : Heap) (nt : NT) (a : Act) (w : World) (next : Act → World → Prop) (Q : Exit → Act → World → Prop),
    TLe ts ts' → HLe hp hp' → Rel B w0 μ F ts' hp' nt a w → (∀ i, lo ≤ i → i < hi → F i) → (∀ d, o.dst = some d → d < nt.n) →
    (∀ μ' a' w', Ext μ μ' → (∀ i, ¬ (lo ≤ i ∧ i < hi) → μ' i = μ i) → Rel B w0 μ' (fun i => F i ∧ ¬ (lo ≤ i ∧ i < hi)) (putDst ts' o.dst e.val) (puts hp' e.upd) nt a' w' → next a' w') → o.wp P a w next Q

theorem TRel.put {μ : Nat → Option Loc} {ts : List (Nat × Value)} {nt : NT} {a : Act} (h : TRel μ ts nt a) (d : Option Nat) (hd : ∀ x, d = some x → x < nt.n) (v : Option Value) (v' : Value)
    (hv : ∀ x, v = some x → VRel μ x v') : TRel μ (putDst ts d v) nt (a.put d v') := by
  cases d with
  | none => exact h
  | some d =>
    have hdn := hd d rfl
    refine ⟨h.defers, by simp [Act.put, h.size], fun t x hx => ?_⟩
    by_cases e : d = t
    · subst e
      have hx' : v = some x := by
        cases v with
        | none => simp [putDst, get_del] at hx
        | some v => simp [putDst, get_put] at hx; rw [hx]
      refine ⟨v', ?_, hv x hx'⟩
      simp [Act.put, h.size, hdn]
    · have hx' : get ts t = some x := by
        cases v with
        | none => simpa [putDst, get_del, e] using hx
        | some v => simpa [putDst, get_put, e] using hx
      obtain ⟨y, hy, hr⟩ := h.val t x hx'
      refine ⟨y, ?_, hr⟩
      simp only [Act.put]
      rw [Array.getElem?_setIfInBounds_ne e]; exact hy
theorem TRel.mono {μ μ' : Nat → Option Loc} (hm : Ext μ μ') {ts : List (Nat × Value)} {nt : NT} {a : Act} (h : TRel μ ts nt a) : TRel μ' ts nt a :=
  ⟨h.defers, h.size, fun t v hv => by obtain ⟨v', e, r⟩ := h.val t v hv; exact ⟨v', e, r.mono hm⟩⟩

/-! ### operands -/
def ev (ts : List (Nat × Value)) : Operand → Option Value
  | .tmp t => get ts t
  | .const v => if flat v then some v else none
  | .func f => some (.func (.func f) #[] #[])
  | .global _ => none
theorem ev_le {ts ts' : List (Nat × Value)} (hl : TLe ts ts') {x : Operand} {v : Value} (h : ev ts x = some v) : ev ts' x = some v := by
  cases x with
  | tmp t => exact hl t v h
  | const u => exact h
  | func f => exact h
  | global g => exact h
theorem ev_ok {μ : Nat → Option Loc} {ts : List (Nat × Value)} {nt : NT} {a : Act} (h : TRel μ ts nt a) {x : Operand} {v : Value} (hx : ev ts x = some v) : VRel μ v (a.eval x) := by
  cases x with
  | tmp t =>
    obtain ⟨v', e, r⟩ := h.val t v hx
    simpa [Act.eval, Array.getD_eq_getD_getElem?, e] using r
  | const u =>
    simp only [ev] at hx
    split at hx
    · rename_i hf; injection hx with e; subst e; exact .flat _ hf
    · cases hx
  | func f => simp only [ev, Option.some.injEq] at hx; subst hx; exact .flat _ rfl
  | global g => simp [ev] at hx

/-! ### what runs without memory -/
def pureRun {α : Type} (P : Program) : Sem α → Option α
  | .pure a => some a
  | .program k => pureRun P (k P)
  | .mark _ k => pureRun P k
  | _ => none
theorem pureRun_ok {α : Type} {P : Program} {s : Sem α} : ∀ {a : α}, pureRun P s = some a → ∀ w : World, s.run P w = .ok a w := by
  induction s with
  | pure a => intro b h w; simp only [pureRun, Option.some.injEq] at h; subst h; rfl
  | program k ih => intro b h w; simp only [pureRun] at h; simp only [Sem.run]; exact ih P h w
  | mark m k ih => intro b h w; simp only [pureRun] at h; simp only [Sem.run]; exact ih h w
  | _ => intro b h w; simp [pureRun] at h

/-! ### values told out of values -/
theorem OpOK.pure {P : Program} {o : Oper} {ts : List (Nat × Value)} {hp : Heap} {lo hi : Nat} {v : Value}
    (h : ∀ (μ : Nat → Option Loc) (B : Nat) (H : Heap) (ts' : List (Nat × Value)) (nt : NT) (a : Act) (w : World), TLe ts ts' → HLe hp H → HRel B μ H w → TRel μ ts' nt a → (∀ i b, get H i = some b → b.st ≤ 2) → ∃ v', (execOp a.eval o).run P w = .ok (.value v') w ∧ VRel μ v v') :
    OpOK P o ts hp lo hi { val := some v, upd := [] } := by
  intro B w0 μ F ts' hp' nt a w next Q htl hhl hr hF hd hk
  obtain ⟨v', he, hv⟩ := h μ B hp' ts' nt a w htl hhl hr.h hr.t hr.st
  unfold Oper.wp
  rw [he, Oper.upon_value]
  refine hk μ _ w (Ext.refl _) (fun _ _ => rfl) ⟨hr.t.put o.dst hd (some v) v' (fun x hx => by injection hx with e; subst e; exact hv), hr.h, hr.below, hr.size, fun i hi => hr.free i hi.1, hr.st, fun i b hi hb => hr.dom i b hi.1 hb⟩

def isAggT (P : Program) (t : TypeId) : Option Bool :=
  match P.underlying t with
  | some (.struct _) => some true
  | some (.array _ _) => some true
  | some _ => some false
  | none => none
def sizeT (P : Program) (t : TypeId) : Option Nat := (P.info? t).map (·.size)
def zeroT (P : Program) (t : TypeId) : Option (List Value) := (P.info? t).bind fun i => i.zero.map fun z => z.cells.toList
theorem run_isAggT {P : Program} {t : TypeId} {b : Bool} (h : isAggT P t = some b) (w : World) : (isAgg t).run P w = .ok b w := by
  unfold isAggT at h
  cases hu : P.underlying t with
  | none => simp [hu] at h
  | some d => cases d <;> simp_all [isAgg, run_underlying hu]
theorem run_sizeT {P : Program} {t : TypeId} {n : Nat} (h : sizeT P t = some n) (w : World) : (sizeOf t).run P w = .ok n w := by
  unfold sizeT at h
  cases hu : P.info? t with
  | none => simp [hu] at h
  | some d => simp [hu] at h; simp [sizeOf, typeInfo, hu, h]

def asInt? : Value → Option Int
  | .int _ n => some n
  | _ => none

def runFlat (P : Program) (s : Sem Value) : Option Value :=
  match pureRun P s with
  | some v => if flat v then some v else none
  | none => none
theorem runFlat_ok {P : Program} {s : Sem Value} {v : Value} (h : runFlat P s = some v) : (∀ w : World, s.run P w = .ok v w) ∧ flat v = true := by
  unfold runFlat at h
  split at h
  · rename_i u hu
    split at h
    · rename_i hf; injection h with h; subst h; exact ⟨pureRun_ok hu, hf⟩
    · cases h
  · cases h

def valPick (ts : List (Nat × Value)) (c a b : Operand) : Option Value :=
  match ev ts c with
  | some (.bool t) => if t then ev ts a else ev ts b
  | _ => none
def valExtract (ts : List (Nat × Value)) (x : Operand) (i : Nat) : Option Value :=
  match ev ts x with
  | some (.tuple vs) => vs.toList[i]?
  | _ => none
def nonNil : Value → Bool
  | .slice (some _) n c => 0 < n || c == n || c == n + 2
  | _ => false
def valBin (P : Program) (op : BinOp) (t : TypeId) (x y : Operand) (vx vy : Value) : Option Value :=
  if flat vx && flat vy then runFlat P (do eqGuard op t x y vx vy; binOp op t vx vy)
  else match P.underlying t, op, vy with
    | some (.slice _), .eql, .slice none 0 0 => if nonNil vx then some (.bool false) else none
    | some (.slice _), .neq, .slice none 0 0 => if nonNil vx then some (.bool true) else none
    | _, _, _ => none
def valFieldAddr (P : Program) (s : TypeId) (f : Nat) (v : Value) : Option Value :=
  match P.underlying s with
  | some (.struct fields) =>
    match fields.toList[f]? with
    | some fd =>
      match sizeT P fd.type, v with
      | some (k + 1), .pointer (some ⟨i, o, none⟩) => some (.pointer (some ⟨i, o + fd.offset, none⟩))
      | _, _ => none
    | none => none
  | _ => none
def valPart (P : Program) (t : TypeId) (cs : List Value) (o : Nat) : Option Value :=
  match isAggT P t, sizeT P t with
  | some true, some k => if o + k ≤ cs.length then some (.agg ((cs.drop o).take k).toArray) else none
  | some false, _ => cs[o]?
  | _, _ => none
def valField (P : Program) (t : TypeId) (f : Nat) (v : Value) : Option Value :=
  match P.underlying t with
  | some (.struct fields) =>
    match fields.toList[f]?, v with
    | some fd, .agg cs => valPart P fd.type cs.toList fd.offset
    | _, _ => none
  | _ => none
def valIndex (P : Program) (t : TypeId) (vx vi : Value) : Option Value :=
  if flat vx && flat vi then runFlat P (Instr.index t vx vi)
  else match P.underlying t, vx, vi with
    | some (.array len elem), .agg cs, .int _ n =>
      if 0 ≤ n ∧ n < len then
        match sizeT P elem with
        | some k => valPart P elem cs.toList (n.toNat * k)
        | none => none
      else none
    | _, _, _ => none
def valLen (P : Program) (t : TypeId) (v : Value) : Option Value :=
  match P.underlying t, v with
  | some (.slice _), .slice _ n _ => some (.int .i64 n)
  | some .string, .string s => some (.int .i64 s.size)
  | _, _ => none

/-- the operations that only tell a value out of values -/
def evalVal (P : Program) (ts : List (Nat × Value)) (o : Oper) : Option Value :=
  match o.op with
  | .move x => ev ts x
  | .assign x => ev ts x
  | .pick c a b => valPick ts c a b
  | .extract x i => valExtract ts x i
  | .binOp op t x y _ => (ev ts x).bind fun vx => (ev ts y).bind fun vy => valBin P op t x y vx vy
  | .unOp op _ x => (ev ts x).bind fun v => if flat v then runFlat P (Op.unary op v) else none
  | .convert src dst x => (ev ts x).bind fun v => if flat v then runFlat P (convert src dst v) else none
  | .makeFunc fn first captured => if first.isEmpty then (captured.toList.mapM (ev ts)).map fun cs => .func fn #[] cs.toArray else none
  | .nilCheck x => (ev ts x).bind fun v =>
    match v with
    | .pointer (some ⟨i, o, none⟩) => some (.pointer (some ⟨i, o, none⟩))
    | .func (.func f) a b => some (.func (.func f) a b)
    | _ => none
  | .fieldAddr s x f => (ev ts x).bind fun v => valFieldAddr P s f v
  | .field t x f => (ev ts x).bind fun v => valField P t f v
  | .index t x ix => (ev ts x).bind fun vx => (ev ts ix).bind fun vi => valIndex P t vx vi
  | .call { callee := .builtin .len, args, argTypes } =>
    match args.toList, argTypes.toList with
    | [x], [t] => (ev ts x).bind fun v => valLen P t v
    | _, _ => none
  | .call { callee := .builtin .min, args, argTypes } => (args.toList.mapM (ev ts)).bind fun vs => if vs.all flat then runFlat P (Builtin.min_ argTypes o.type vs.toArray) else none
  | .call { callee := .builtin .max, args, argTypes } => (args.toList.mapM (ev ts)).bind fun vs => if vs.all flat then runFlat P (Builtin.max_ argTypes o.type vs.toArray) else none
  | _ => none

theorem mapM_ev {μ : Nat → Option Loc} {ts : List (Nat × Value)} {nt : NT} {a : Act} (h : TRel μ ts nt a) : ∀ {xs : List Operand} {vs : List Value}, xs.mapM (ev ts) = some vs → VRels μ vs (xs.map a.eval)
  | [], vs, e => by simp at e; subst e; exact .nil _
  | x :: xs, vs, e => by
    simp only [List.mapM_cons, Option.bind_eq_bind, Option.bind_eq_some_iff, Option.pure_def, Option.some.injEq] at e
    obtain ⟨v, hv, r, hr, rfl⟩ := e
    exact .cons (ev_ok h hv) (mapM_ev h hr)
theorem mapM_ev_le {ts ts' : List (Nat × Value)} (hl : TLe ts ts') : ∀ {xs : List Operand} {vs : List Value}, xs.mapM (ev ts) = some vs → xs.mapM (ev ts') = some vs
  | [], vs, e => e
  | x :: xs, vs, e => by
    simp only [List.mapM_cons, Option.bind_eq_bind, Option.bind_eq_some_iff, Option.pure_def, Option.some.injEq] at e ⊢
    obtain ⟨v, hv, r, hr, rfl⟩ := e
    exact ⟨v, ev_le hl hv, r, mapM_ev_le hl hr, rfl⟩
theorem VRels.flatEq {μ : Nat → Option Loc} {vs vs' : List Value} (h : VRels μ vs vs') (hf : vs.all flat = true) : vs' = vs :=
  eq_of_rels h.1 (fun v hv v' hr => hr.flatEq (List.all_eq_true.1 hf v hv)) h.2
theorem VRels.sub {μ : Nat → Option Loc} {vs vs' : List Value} (h : VRels μ vs vs') (o k : Nat) : VRels μ ((vs.drop o).take k) ((vs'.drop o).take k) := by
  refine ⟨by simp [h.1], fun i v v' hv hv' => ?_⟩
  simp only [List.getElem?_take, List.getElem?_drop] at hv hv'
  split at hv
  · rename_i hi; rw [if_pos hi] at hv'; exact h.2 _ v v' hv hv'
  · cases hv
theorem extract_list (cs : Array Value) (o k : Nat) : cs.extract o (o + k) = ((cs.toList.drop o).take k).toArray := by
  apply Array.ext'
  simp [List.drop_take]

theorem VRel.nonNil {μ : Nat → Option Loc} {v v' : Value} (h : VRel μ v v') (hn : Am.nonNil v = true) : ∃ a n c, v' = .slice (some a) n c := by
  cases h with
  | flat _ h => cases v <;> simp_all [Am.nonNil, Am.flat]; rename_i a _ _; cases a <;> simp_all [scalar]
  | sl => exact ⟨_, _, _, rfl⟩
  | slnil => simp [Am.nonNil] at hn
  | _ => simp [Am.nonNil] at hn
theorem VRel.sliceLen {μ : Nat → Option Loc} {a : Option Addr} {n c : Nat} {v' : Value} (h : VRel μ (.slice a n c) v') : ∃ a' c', v' = .slice a' n c' := by
  cases h with
  | flat _ h => exact ⟨_, _, rfl⟩
  | sl => exact ⟨_, _, rfl⟩
  | slnil => exact ⟨_, _, rfl⟩
theorem VRel.funcOf {μ : Nat → Option Loc} {fn : Fn} {a b : Array Value} {v' : Value} (h : VRel μ (.func fn a b) v') : ∃ b', v' = .func fn #[] b' ∧ a = #[] ∧ VRels μ b.toList b'.toList := by
  cases h with
  | flat _ h =>
    simp [Am.flat] at h
    obtain ⟨rfl, rfl⟩ := h
    exact ⟨#[], rfl, rfl, .nil _⟩
  | func fn cs cs' hl h => exact ⟨cs'.toArray, rfl, rfl, hl, h⟩
theorem part_ok {P : Program} {t : TypeId} {cs cs' : Array Value} {o : Nat} {v : Value} {μ : Nat → Option Loc} (h : valPart P t cs.toList o = some v) (hv : VRels μ cs.toList cs'.toList) (w : World) : ∃ v', (part t cs' o).run P w = .ok v' w ∧ VRel μ v v' := by
  unfold valPart at h
  split at h
  · rename_i k ha hk
    split at h
    · rename_i hle
      injection h with h; subst h
      refine ⟨.agg (cs'.extract o (o + k)), ?_, ?_⟩
      · simp [part, run_isAggT ha, run_sizeT hk]
      · rw [extract_list]; exact .mkAgg (hv.sub o k)
    · cases h
  · rename_i ha
    obtain ⟨v', hv', hr⟩ := hv.get h
    refine ⟨v', ?_, hr⟩
    have : cs'[o]? = some v' := by rw [← Array.getElem?_toList]; exact hv'
    simp [part, run_isAggT ha, this]
  · cases h
theorem bin_ok {P : Program} {op : BinOp} {t : TypeId} {x y : Operand} {vx vy v vx' vy' : Value} {μ : Nat → Option Loc} (h : valBin P op t x y vx vy = some v) (hx : VRel μ vx vx') (hy : VRel μ vy vy') (w : World) :
    (do eqGuard op t x y vx' vy'; binOp op t vx' vy').run P w = .ok v w ∧ flat v = true := by
  unfold valBin at h
  split at h
  · rename_i hf
    rw [Bool.and_eq_true] at hf
    rw [hx.flatEq hf.1, hy.flatEq hf.2]
    exact ⟨(runFlat_ok h).1 w, (runFlat_ok h).2⟩
  · split at h
    · rename_i hu _
      split at h
      · rename_i hn
        injection h with h; subst h
        obtain ⟨a, n, c, rfl⟩ := hx.nonNil hn
        have := hy.scal rfl; subst this
        have := Lib.run_eql_slice_nil (P := P) w _ _ (some a) n c 0 0 hu
        refine ⟨?_, rfl⟩
        simp [eqGuard, this]
      · cases h
    · rename_i hu _
      split at h
      · rename_i hn
        injection h with h; subst h
        obtain ⟨a, n, c, rfl⟩ := hx.nonNil hn
        have := hy.scal rfl; subst this
        have := run_neq_slice_nil (P := P) w _ _ (some a) n c hu
        refine ⟨?_, rfl⟩
        simp [eqGuard, this]
      · cases h
    · cases h
theorem fieldAddr_ok {P : Program} {s : TypeId} {f : Nat} {v u v' : Value} {μ : Nat → Option Loc} (h : valFieldAddr P s f v = some u) (hv : VRel μ v v') (w : World) : ∃ u', (Instr.fieldAt s v' f).run P w = .ok u' w ∧ VRel μ u u' := by
  unfold valFieldAddr at h
  split at h
  · rename_i fields hu
    split at h
    · rename_i fd hf
      split at h
      · rename_i k i o hk
        injection h with h; subst h
        obtain ⟨L, hL, rfl⟩ := hv.pointer
        refine ⟨.pointer (some (L.at_.add (o + fd.offset))), ?_, .ptr i _ L hL⟩
        have hf' : fields[f]? = some fd := by rw [← Array.getElem?_toList]; exact hf
        simp [Instr.fieldAt, run_underlying hu, hf', Instr.sureAddr, fieldPlace, run_sizeT hk, Addr.add_add]
      · cases h
    · cases h
  · cases h
theorem field_ok {P : Program} {t : TypeId} {f : Nat} {v u v' : Value} {μ : Nat → Option Loc} (h : valField P t f v = some u) (hv : VRel μ v v') (w : World) : ∃ u', (Instr.field t v' f).run P w = .ok u' w ∧ VRel μ u u' := by
  unfold valField at h
  split at h
  · rename_i fields hu
    split at h
    · rename_i fd cs hf
      obtain ⟨cs', rfl, hr⟩ := hv.aggOf
      obtain ⟨u', hu', hr'⟩ := part_ok h hr w
      have hf' : fields[f]? = some fd := by rw [← Array.getElem?_toList]; exact hf
      exact ⟨u', by simp [Instr.field, run_underlying hu, hf', asAgg, hu'], hr'⟩
    · cases h
  · cases h
theorem index_ok {P : Program} {t : TypeId} {vx vi u vx' vi' : Value} {μ : Nat → Option Loc} (h : valIndex P t vx vi = some u) (hx : VRel μ vx vx') (hi : VRel μ vi vi') (w : World) : ∃ u', (Instr.index t vx' vi').run P w = .ok u' w ∧ VRel μ u u' := by
  unfold valIndex at h
  split at h
  · rename_i hf
    rw [Bool.and_eq_true] at hf
    rw [hx.flatEq hf.1, hi.flatEq hf.2]
    exact ⟨u, (runFlat_ok h).1 w, .flat _ (runFlat_ok h).2⟩
  · split at h
    · rename_i len elem cs k n hu _
      split at h
      · rename_i hn
        split at h
        · rename_i sz hk
          obtain ⟨cs', rfl, hr⟩ := hx.aggOf
          obtain ⟨u', hu', hr'⟩ := part_ok h hr w
          have := hi.int; subst this
          exact ⟨u', by simp [Instr.index, asIntOf, run_underlying hu, hn, run_sizeT hk, hu'], hr'⟩
        · cases h
      · cases h
    · cases h
theorem len_ok {P : Program} {t : TypeId} {v u v' : Value} {μ : Nat → Option Loc} (h : valLen P t v = some u) (hv : VRel μ v v') (ty : TypeId) (w : World) : (Builtin.len_ #[t] ty #[v']).run P w = .ok u w ∧ flat u = true := by
  unfold valLen at h
  split at h
  · rename_i e a n c hu
    injection h with h; subst h
    obtain ⟨a', c', rfl⟩ := hv.sliceLen
    exact ⟨by simp [Builtin.len_, run_underlying hu, goInt], rfl⟩
  · rename_i s hu
    injection h with h; subst h
    have := hv.string; subst this
    exact ⟨by simp [Builtin.len_, run_underlying hu, goInt], rfl⟩
  · cases h

theorem evalVal_ok {P : Program} {o : Oper} {ts : List (Nat × Value)} {v : Value} (h : evalVal P ts o = some v) (hp : Heap) (lo hi : Nat) : OpOK P o ts hp lo hi { val := some v, upd := [] } := by
  refine OpOK.pure fun μ B H ts' nt a w hl hhl hH hT hst => ?_
  have E : ∀ {x : Operand} {v : Value}, ev ts x = some v → VRel μ v (a.eval x) := fun hx => ev_ok hT (ev_le hl hx)
  have EM : ∀ {xs : List Operand} {vs : List Value}, xs.mapM (ev ts) = some vs → VRels μ vs (xs.map a.eval) := fun hx => mapM_ev hT (mapM_ev_le hl hx)
  unfold evalVal at h
  split at h
  · rename_i x ho; exact ⟨_, by simp [execOp, ho], E h⟩
  · rename_i x ho; exact ⟨_, by simp [execOp, ho], E h⟩
  · rename_i c x y ho
    unfold valPick at h
    split at h
    · rename_i t hc
      have := (E hc).bool
      cases t
      · exact ⟨a.eval y, by simp [execOp, ho, this, asBool], E h⟩
      · exact ⟨a.eval x, by simp [execOp, ho, this, asBool], E h⟩
    · cases h
  · rename_i x i ho
    unfold valExtract at h
    split at h
    · rename_i vs hx
      obtain ⟨cs', e, hv⟩ := (E hx).tupleOf
      obtain ⟨v', hv', hr⟩ := hv.get h
      refine ⟨v', ?_, hr⟩
      have : cs'[i]? = some v' := by rw [← Array.getElem?_toList]; exact hv'
      simp [execOp, ho, e, Instr.extract, this]
    · cases h
  · rename_i op t x y yt ho
    obtain ⟨vx, hx, h⟩ := Option.bind_eq_some_iff.1 h
    obtain ⟨vy, hy, h⟩ := Option.bind_eq_some_iff.1 h
    obtain ⟨r, hf⟩ := bin_ok h (E hx) (E hy) w
    refine ⟨v, ?_, .flat v hf⟩
    simp only [execOp, ho]
    rw [Sem.run_bind, r]; rfl
  · rename_i op t x ho
    obtain ⟨vx, hx, h⟩ := Option.bind_eq_some_iff.1 h
    split at h
    · rename_i hf
      refine ⟨v, ?_, .flat v (runFlat_ok h).2⟩
      simp [execOp, ho, (E hx).flatEq hf, (runFlat_ok h).1 w]
    · cases h
  · rename_i src dst x ho
    obtain ⟨vx, hx, h⟩ := Option.bind_eq_some_iff.1 h
    split at h
    · rename_i hf
      refine ⟨v, ?_, .flat v (runFlat_ok h).2⟩
      simp [execOp, ho, (E hx).flatEq hf, (runFlat_ok h).1 w]
    · cases h
  · rename_i fn first captured ho
    split at h
    · rename_i hfe
      obtain ⟨cs, hcs, rfl⟩ := Option.map_eq_some_iff.1 h
      have hr := EM hcs
      have hfe' : first = #[] := by simpa using hfe
      subst hfe'
      refine ⟨.func fn #[] (captured.map a.eval), by simp [execOp, ho, Instr.makeFunc], ?_⟩
      have : captured.map a.eval = (captured.toList.map a.eval).toArray := by apply Array.ext'; simp
      rw [this]
      exact .func fn cs _ hr.1 hr.2
    · cases h
  · rename_i x ho
    obtain ⟨vx, hx, h⟩ := Option.bind_eq_some_iff.1 h
    split at h
    · injection h with h; subst h
      obtain ⟨L, hL, e⟩ := (E hx).pointer
      exact ⟨.pointer (some (L.at_.add _)), by simp [execOp, ho, e], .ptr _ _ L hL⟩
    · injection h with h; subst h
      have hr := E hx
      obtain ⟨b', e, rfl, hb⟩ := hr.funcOf
      refine ⟨a.eval x, ?_, hr⟩
      simp [execOp, ho, e]
    · cases h
  · rename_i s x f ho
    obtain ⟨vx, hx, h⟩ := Option.bind_eq_some_iff.1 h
    obtain ⟨u', r, hr⟩ := fieldAddr_ok h (E hx) w
    exact ⟨u', by simp [execOp, ho, r], hr⟩
  · rename_i t x f ho
    obtain ⟨vx, hx, h⟩ := Option.bind_eq_some_iff.1 h
    obtain ⟨u', r, hr⟩ := field_ok h (E hx) w
    exact ⟨u', by simp [execOp, ho, r], hr⟩
  · rename_i t x ix ho
    obtain ⟨vx, hx, h⟩ := Option.bind_eq_some_iff.1 h
    obtain ⟨vi, hi', h⟩ := Option.bind_eq_some_iff.1 h
    obtain ⟨u', r, hr⟩ := index_ok h (E hx) (E hi') w
    exact ⟨u', by simp [execOp, ho, r], hr⟩
  · rename_i args argTypes ho
    split at h
    · rename_i x t hargs htypes
      obtain ⟨vx, hx, h⟩ := Option.bind_eq_some_iff.1 h
      obtain ⟨r, hf⟩ := len_ok h (E hx) o.type w
      have e1 : args = #[x] := by apply Array.ext'; simpa using hargs
      have e2 : argTypes = #[t] := by apply Array.ext'; simpa using htypes
      subst e1; subst e2
      exact ⟨v, by simp [execOp, ho, resolve, invoke, builtin, r], .flat v hf⟩
    · cases h
  · rename_i args argTypes ho
    obtain ⟨vs, hvs, h⟩ := Option.bind_eq_some_iff.1 h
    split at h
    · rename_i hf
      have e := (EM hvs).flatEq hf
      have e' : args.map a.eval = vs.toArray := by apply Array.ext'; simpa using e
      exact ⟨v, by simp [execOp, ho, resolve, invoke, builtin, e', (runFlat_ok h).1 w], .flat v (runFlat_ok h).2⟩
    · cases h
  · rename_i args argTypes ho
    obtain ⟨vs, hvs, h⟩ := Option.bind_eq_some_iff.1 h
    split at h
    · rename_i hf
      have e := (EM hvs).flatEq hf
      have e' : args.map a.eval = vs.toArray := by apply Array.ext'; simpa using e
      exact ⟨v, by simp [execOp, ho, resolve, invoke, builtin, e', (runFlat_ok h).1 w], .flat v (runFlat_ok h).2⟩
    · cases h
  · cases h
end Go.Am
