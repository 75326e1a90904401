/-
The program of this seat: the library's functions that the model gives, the names.
-/
import Derived.Test.YtbihgmehjhlojaaAm15
import Derived.Test.YtbihgmehjhlojaaProg
set_option linter.unusedVariables false
set_option linter.unusedSimpArgs false
namespace Go.Am
open Go Go.RowKit Go.Proofs

theorem ext_run {P : Program} {g : FuncId} {fn : Func} {e : Array Value → Sem Value} (hf : P.funcs[g]? = some fn) (hn : (fn.name == "runtime.NumGoroutine") = false) (hb : fn.body.isNone = true) (h1 : (Extern.findNext fn).isNone = true) (h2 : Extern.find fn = some e) {args : List Value} {v : Value}
    (h3 : ∀ w, (e args.toArray).run P w = .ok v w) : ∀ w, (callFunc g args.toArray).run P w = .ok (.value v) w := by
  intro w
  have h1' : Extern.findNext fn = none := by simpa using h1
  unfold callFunc
  simp only [Sem.run_bind, run_program, Result.andThen_ok, hf, h1', h2]
  rw [Sem.run_ite, if_neg (by rw [hn]; simp), Sem.run_ite, if_pos hb]
  simp only [Sem.run_bind, run_mark, Result.andThen_ok, h3 w, Sem.run_pure]

def two64 : Nat := 18446744073709551616
def extBits : List Value → Option Value
  | [.float .f64 b] => some (.int .u64 (Int.ofNat b))
  | _ => none
def extFrom : List Value → Option Value
  | [.int .u64 n] => some (.float .f64 n.toNat)
  | _ => none
def extTrunc : List Value → Option Value
  | [.float .f64 x] =>
    match FloatKind.f64.decode x with
    | .nan _ _ => none
    | d => some (.float .f64 (FloatKind.f64.encode (d.integral .zero)))
  | _ => none
def extAdd : List Value → Option Value
  | [.int _ x, .int _ y, .int _ c] => if c.toNat > 1 then none else some (.tuple #[.int .u64 (Int.ofNat ((x.toNat + y.toNat + c.toNat) % two64)), .int .u64 (Int.ofNat ((x.toNat + y.toNat + c.toNat) / two64))])
  | _ => none
def extSub : List Value → Option Value
  | [.int _ x, .int _ y, .int _ b] => if b.toNat > 1 then none else some (.tuple #[.int .u64 (Int.ofNat ((x.toNat + two64 - y.toNat - b.toNat) % two64)), .int .u64 (Int.ofNat (if x.toNat < y.toNat + b.toNat then 1 else 0))])
  | _ => none
theorem extBits_ok {P : Program} {args : List Value} {v : Value} (h : extBits args = some v) : (∀ w, (Extern.MathFloatBits.float64bits args.toArray).run P w = .ok v w) ∧ args.all flat = true ∧ flat v = true := by
  unfold extBits at h
  split at h
  · injection h with h; subst h
    exact ⟨fun w => rfl, rfl, rfl⟩
  · cases h
theorem extFrom_ok {P : Program} {args : List Value} {v : Value} (h : extFrom args = some v) : (∀ w, (Extern.MathFloatBits.float64frombits args.toArray).run P w = .ok v w) ∧ args.all flat = true ∧ flat v = true := by
  unfold extFrom at h
  split at h
  · injection h with h; subst h
    exact ⟨fun w => rfl, rfl, rfl⟩
  · cases h
theorem trunc_run {P : Program} {x : Nat} {name : String} (hd : ∀ s t, FloatKind.f64.decode x = .nan s t → False) (w : World) : (Extern.MathFloor.toIntegral name .zero #[.float .f64 x]).run P w = .ok (.float .f64 (FloatKind.f64.encode ((FloatKind.f64.decode x).integral .zero))) w := by
  obtain ⟨f, hf⟩ : ∃ f : Bool → Nat → Sem Value, Extern.MathFloor.toIntegral name .zero #[.float .f64 x] = (match FloatKind.f64.decode x with | .nan s t => f s t | d => pure (.float .f64 (FloatKind.f64.encode (d.integral .zero)))) := ⟨_, rfl⟩
  rw [hf]
  cases hx : FloatKind.f64.decode x with
  | nan s t => exact absurd hx (fun h => hd _ _ h)
  | _ => rfl
theorem extTrunc_ok {P : Program} {args : List Value} {v : Value} (h : extTrunc args = some v) : (∀ w, (Extern.MathFloor.toIntegral "math.archTrunc" .zero args.toArray).run P w = .ok v w) ∧ args.all flat = true ∧ flat v = true := by
  unfold extTrunc at h
  split at h
  · split at h
    · cases h
    · rename_i d hd
      injection h with h; subst h
      refine ⟨fun w => ?_, rfl, rfl⟩
      exact trunc_run hd w
  · cases h
def addSem (args : Array Value) : Sem Value := do
  let (x, y, c) ← Extern.MathBitsCarry.three "Add64" args
  pure (Extern.MathBitsCarry.pair ((x + y + c) % Extern.MathBitsCarry.m64) ((x + y + c) / Extern.MathBitsCarry.m64))
def subSem (args : Array Value) : Sem Value := do
  let (x, y, b) ← Extern.MathBitsCarry.three "Sub64" args
  pure (Extern.MathBitsCarry.pair ((x + Extern.MathBitsCarry.m64 - y - b) % Extern.MathBitsCarry.m64) (if x < y + b then 1 else 0))
theorem three_run {P : Program} {w : World} {name : String} {k k' k'' : IntKind} {x y c : Int} (h : ¬ c.toNat > 1) : (Extern.MathBitsCarry.three name #[.int k x, .int k' y, .int k'' c]).run P w = .ok (x.toNat, y.toNat, c.toNat) w := by
  match c, h with
  | .ofNat 0, _ => rfl
  | .ofNat 1, _ => rfl
  | .ofNat (n + 2), h => exact absurd (by show n + 2 > 1; omega) h
  | .negSucc n, _ => rfl
theorem extAdd_ok {P : Program} {args : List Value} {v : Value} (h : extAdd args = some v) : (∀ w, (addSem args.toArray).run P w = .ok v w) ∧ args.all flat = true ∧ flat v = true := by
  unfold extAdd at h
  split at h
  · split at h
    · cases h
    · rename_i hc
      injection h with h; subst h
      refine ⟨fun w => ?_, rfl, rfl⟩
      unfold addSem
      simp only [Sem.run_bind, three_run hc, Result.andThen_ok]
      rfl
  · cases h
theorem extSub_ok {P : Program} {args : List Value} {v : Value} (h : extSub args = some v) : (∀ w, (subSem args.toArray).run P w = .ok v w) ∧ args.all flat = true ∧ flat v = true := by
  unfold extSub at h
  split at h
  · split at h
    · cases h
    · rename_i hc
      injection h with h; subst h
      refine ⟨fun w => ?_, rfl, rfl⟩
      unfold subSem
      simp only [Sem.run_bind, three_run hc, Result.andThen_ok]
      rfl
  · cases h

theorem find_bits : Extern.find Try.f97 = some Extern.MathFloatBits.float64bits := by kernel_rfl
theorem find_from : Extern.find Try.f94 = some Extern.MathFloatBits.float64frombits := by kernel_rfl
theorem find_trunc : Extern.find Try.f189 = some (Extern.MathFloor.toIntegral "math.archTrunc" .zero) := by kernel_rfl
theorem find_add : Extern.find Try.f232 = some addSem := by kernel_rfl
theorem find_sub : Extern.find Try.f238 = some subSem := by kernel_rfl

def ext (g : FuncId) (args : List Value) : Option Value :=
  if g = 97 then extBits args else
  if g = 94 then extFrom args else
  if g = 189 then extTrunc args else
  if g = 232 then extAdd args else
  if g = 238 then extSub args else
  none
theorem ext_ok : ExtOK Try.prog ext := by
  intro g args v h
  unfold ext at h
  split at h
  · rename_i e; subst e; obtain ⟨h1, h2⟩ := extBits_ok (P := Try.prog) h; exact ⟨ext_run Try.func97 (by kernel_rfl) (by kernel_rfl) (by kernel_rfl) find_bits h1, h2⟩
  split at h
  · rename_i e; subst e; obtain ⟨h1, h2⟩ := extFrom_ok (P := Try.prog) h; exact ⟨ext_run Try.func94 (by kernel_rfl) (by kernel_rfl) (by kernel_rfl) find_from h1, h2⟩
  split at h
  · rename_i e; subst e; obtain ⟨h1, h2⟩ := extTrunc_ok (P := Try.prog) h; exact ⟨ext_run Try.func189 (by kernel_rfl) (by kernel_rfl) (by kernel_rfl) find_trunc h1, h2⟩
  split at h
  · rename_i e; subst e; obtain ⟨h1, h2⟩ := extAdd_ok (P := Try.prog) h; exact ⟨ext_run Try.func232 (by kernel_rfl) (by kernel_rfl) (by kernel_rfl) find_add h1, h2⟩
  split at h
  · rename_i e; subst e; obtain ⟨h1, h2⟩ := extSub_ok (P := Try.prog) h; exact ⟨ext_run Try.func238 (by kernel_rfl) (by kernel_rfl) (by kernel_rfl) find_sub h1, h2⟩
  cases h
theorem follows_mixed : Try.prog.follows .mixedOrders = true := by kernel_rfl
theorem names_all : Try.prog.funcs.toList.all (fun fn => !(fn.name == "runtime.NumGoroutine")) = true := by kernel_rfl
theorem names_ok : NamesOK Try.prog := by
  intro g fn h
  have h' : Try.prog.funcs.toList[g]? = some fn := by rw [← h]; simp
  have := List.all_eq_true.1 names_all fn (List.mem_of_getElem? h')
  simpa using this
end Go.Am
