/-
Numbers, lists and rows: what the walks lean on.
-/
import Derived.Test.YtbihgmehjhlojaaSpo
set_option linter.unusedVariables false
set_option linter.unusedSimpArgs false
set_option maxRecDepth 100000
namespace Go.Am
open Go Go.RowKit Go.Proofs

theorem lit_sc {cs : List Value} (h : cs.all scalar = true) : ∀ v ∈ cs, scalar v = true := fun v hv => List.all_eq_true.1 h v hv
def I64 (x : Int) : Prop := -9223372036854775808 ≤ x ∧ x ≤ 9223372036854775807
def U64 (x : Int) : Prop := 0 ≤ x ∧ x < 18446744073709551616
def L64 (l : List Int) : Prop := ∀ x ∈ l, I64 x
def LU64 (l : List Int) : Prop := ∀ x ∈ l, U64 x
theorem L64.at {l : List Int} (h : L64 l) {i : Nat} {x : Int} (hi : l[i]? = some x) : I64 x := h x (List.mem_of_getElem? hi)
theorem LU64.at {l : List Int} (h : LU64 l) {i : Nat} {x : Int} (hi : l[i]? = some x) : U64 x := h x (List.mem_of_getElem? hi)
def fits64 (x : Int) : Bool := decide (-9223372036854775808 ≤ x) && decide (x ≤ 9223372036854775807)
theorem fits64_iff {x : Int} : fits64 x = true ↔ I64 x := by simp [fits64, I64]
theorem fits64_not {x : Int} : fits64 x = false ↔ ¬ I64 x := by rw [← fits64_iff]; simp
theorem wrap_i64_low {x : Int} (h1 : -18446744073709551616 ≤ x + 9223372036854775808) (h2 : x < -9223372036854775808) : IntKind.i64.wrap x = x + 18446744073709551616 := by
  simp only [IntKind.wrap, IntKind.signed, IntKind.bits]
  simp [Int.bmod]
  split <;> omega
theorem wrap_i64_high {x : Int} (h1 : x ≤ 27670116110564327423) (h2 : 9223372036854775807 < x) : IntKind.i64.wrap x = x - 18446744073709551616 := by
  simp only [IntKind.wrap, IntKind.signed, IntKind.bits]
  simp [Int.bmod]
  split <;> omega
/-- a sum or a difference of two, within 64 bits or not -/
theorem wrap_i64_cases {x : Int} (h1 : -18446744073709551616 ≤ x) (h2 : x ≤ 18446744073709551615) : (I64 x ∧ IntKind.i64.wrap x = x) ∨ (x < -9223372036854775808 ∧ IntKind.i64.wrap x = x + 18446744073709551616) ∨ (9223372036854775807 < x ∧ IntKind.i64.wrap x = x - 18446744073709551616) := by
  by_cases a : x < -9223372036854775808
  · exact .inr (.inl ⟨a, wrap_i64_low (by omega) a⟩)
  · by_cases b : 9223372036854775807 < x
    · exact .inr (.inr ⟨b, wrap_i64_high (by omega) b⟩)
    · exact .inl ⟨⟨by omega, by omega⟩, wrap_i64 (by omega) (by omega)⟩
theorem wrap_u64_cases {x : Int} (h1 : -18446744073709551616 ≤ x) (h2 : x < 36893488147419103232) : (U64 x ∧ IntKind.u64.wrap x = x) ∨ (x < 0 ∧ IntKind.u64.wrap x = x + 18446744073709551616) ∨ (18446744073709551616 ≤ x ∧ IntKind.u64.wrap x = x - 18446744073709551616) := by
  have : IntKind.u64.wrap x = x % 18446744073709551616 := by
    simp only [IntKind.wrap, IntKind.signed, IntKind.bits]
    simp
  rw [this]
  unfold U64
  omega

/-! ### the first that is so -/
def idxI {α : Type} (p : α → Bool) (l : List α) : Int := if l.any p then ((l.findIdx p : Nat) : Int) else -1
theorem idx_step {α : Type} {p : α → Bool} {l : List α} {i : Nat} {s : α} (h : ∀ x ∈ l.take i, p x = false) (hs : l[i]? = some s) (hp : p s = false) : ∀ x ∈ l.take (i + 1), p x = false := by
  intro x hx
  rw [List.take_add_one, hs] at hx
  simp at hx
  rcases hx with hx | rfl
  · exact h x hx
  · exact hp
theorem idx_found {α : Type} {p : α → Bool} {l : List α} {i : Nat} {s : α} (h : ∀ x ∈ l.take i, p x = false) (hs : l[i]? = some s) (hp : p s = true) : i = l.findIdx p ∧ l.any p = true := by
  have hi : i < l.length := (List.getElem?_eq_some_iff.1 hs).1
  have hs2 : l[i] = s := (List.getElem?_eq_some_iff.1 hs).2
  refine ⟨?_, List.any_eq_true.2 ⟨s, List.mem_of_getElem? hs, hp⟩⟩
  refine ((List.findIdx_eq hi).2 ⟨by rw [hs2]; exact hp, fun j hj => ?_⟩).symm
  have : l[j] ∈ l.take i := by
    rw [List.mem_take_iff_getElem]
    exact ⟨j, by omega, rfl⟩
  simpa using h _ this
theorem idx_none {α : Type} {p : α → Bool} {l : List α} {i : Nat} (h : ∀ x ∈ l.take i, p x = false) (hi : l.length ≤ i) : l.any p = false := by
  rw [List.take_of_length_le hi] at h
  simpa using h
theorem idxI_nonneg {α : Type} (p : α → Bool) (l : List α) : decide (idxI p l ≥ 0) = l.any p := by
  unfold idxI
  split
  · rename_i h; rw [h]; simp
  · rename_i h; simp at h ⊢; exact h
theorem idxI_true {α : Type} {p : α → Bool} {l : List α} (h : l.any p = true) : idxI p l = ((l.findIdx p : Nat) : Int) := by unfold idxI; rw [if_pos h]
theorem idxI_false {α : Type} {p : α → Bool} {l : List α} (h : l.any p = false) : idxI p l = -1 := by unfold idxI; rw [if_neg (by simp [h])]

/-! ### rows -/
def encU (x : Int × Int) : List Value := [.int .i64 x.1, .int .u64 x.2]
theorem encU_k (x : Int × Int) : (encU x).length = 2 := rfl
theorem encU_sc (l : List (Int × Int)) : ∀ v ∈ l.flatMap encU, scalar v = true := by
  intro v hv
  obtain ⟨s, _, hs⟩ := List.mem_flatMap.1 hv
  simp [encU] at hs
  rcases hs with rfl | rfl <;> rfl
def encW (x : Int) : List Value := [.int .u64 x]
theorem encW_k (x : Int) : (encW x).length = 1 := rfl
theorem encW_sc (l : List Int) : ∀ v ∈ l.flatMap encW, scalar v = true := by
  intro v hv
  obtain ⟨s, _, hs⟩ := List.mem_flatMap.1 hv
  simp [encW] at hs
  subst hs; rfl
theorem take_next {α : Type} {l : List α} {i : Nat} {s : α} (h : l[i]? = some s) : l.take (i + 1) = l.take i ++ [s] := by rw [List.take_add_one, h]; rfl
theorem take_all {α : Type} {l : List α} {i : Nat} (h : l.length ≤ i) : l.take i = l := List.take_of_length_le h
theorem drop_none {α : Type} {l : List α} {i : Nat} (h : l.length ≤ i) : l.drop i = [] := List.drop_eq_nil_of_le h
theorem idx_lt {α : Type} {l : List α} {i : Nat} {s : α} (h : l[i]? = some s) : i < l.length := (List.getElem?_eq_some_iff.1 h).1

/-! ### sums -/
def absGo : Int → List Int → Option (List Int)
  | _, [] => some []
  | a, d :: r => if fits64 (a + d) then (match absGo (a + d) r with | some l => some ((a + d) :: l) | none => none) else none
def absS (d : List Int) : Option (List Int) := absGo 0 d
def absL (d : List Int) : List Int := (absS d).getD []
def absE (d : List Int) : Int := if (absS d).isSome then 0 else 28
theorem absGo_length : ∀ {d : List Int} {a : Int} {l : List Int}, absGo a d = some l → l.length = d.length
  | [], a, l, h => by simp [absGo] at h; subst h; rfl
  | x :: r, a, l, h => by
    simp only [absGo] at h
    split at h
    · split at h
      · rename_i l' h'; injection h with h; subst h; simp [absGo_length h']
      · cases h
    · cases h
theorem absGo_in : ∀ {d : List Int} {a : Int} {l : List Int}, absGo a d = some l → L64 l
  | [], a, l, h => by simp [absGo] at h; subst h; intro x hx; simp at hx
  | y :: r, a, l, h => by
    simp only [absGo] at h
    split at h
    · rename_i hf
      split at h
      · rename_i l' h'
        injection h with h; subst h
        intro x hx
        rcases List.mem_cons.1 hx with rfl | hx
        · exact fits64_iff.1 hf
        · exact absGo_in h' x hx
      · cases h
    · cases h
theorem absL_in (d : List Int) : L64 (absL d) := by
  unfold absL
  cases h : absS d with
  | none => intro x hx; simp at hx
  | some l => exact absGo_in h
theorem absL_le (d : List Int) : (absL d).length ≤ d.length := by
  unfold absL
  cases h : absS d with
  | none => simp
  | some l => simp [absGo_length h]
theorem absE_zero {d : List Int} : absE d = 0 ↔ absS d = some (absL d) := by
  unfold absE absL
  cases h : absS d <;> simp
theorem absE_len {d : List Int} (h : absE d = 0) : (absL d).length = d.length := absGo_length (absE_zero.1 h)
theorem andNot63 {v : Int} (h : U64 v) : IntKind.u64.wrap (((BitVec.ofInt 64 v &&& ~~~BitVec.ofInt 64 9223372036854775808).toNat : Nat) : Int) = v % 9223372036854775808 := by
  obtain ⟨n, rfl⟩ := Int.eq_ofNat_of_zero_le h.1
  have hn : n < 18446744073709551616 := by have := h.2; omega
  have e : (BitVec.ofInt 64 ((n : Nat) : Int) &&& ~~~BitVec.ofInt 64 9223372036854775808).toNat = n % 9223372036854775808 := by
    rw [BitVec.toNat_and, BitVec.toNat_not]
    have e1 : (BitVec.ofInt 64 ((n : Nat) : Int)).toNat = n := by simp [BitVec.toNat_ofInt]; omega
    have e2 : 2 ^ 64 - 1 - (BitVec.ofInt 64 9223372036854775808).toNat = 2 ^ 63 - 1 := by decide
    rw [e1, e2, Nat.and_two_pow_sub_one_eq_mod]
  rw [e]
  have : ((n % 9223372036854775808 : Nat) : Int) = (n : Int) % 9223372036854775808 := by omega
  rw [this]
  exact wrap_u64 (by omega) (by omega)
def nanS (v : Int) : Bool := decide (v % 9223372036854775808 > 9218868437227405312)
def thrS (v : Int) : Bool := decide (v < 9218868437227405312)

/-! ### a side of a histogram -/
def sideE (l : List Sp) (d : List Int) : Int := if checkS l ≠ 0 then checkS l else if countS l ≠ d.length then 23 else if absE d ≠ 0 then absE d else if (absL d).any (fun n => decide (n < 0)) then 22 else 0
def sideR (l : List Sp) (d : List Int) : List (Int × Int) := if sideE l d = 0 then (places l).zip (absL d) else []
theorem sideE_zero {l : List Sp} {d : List Int} : sideE l d = 0 ↔ checkS l = 0 ∧ countS l = d.length ∧ absE d = 0 ∧ (absL d).any (fun n => decide (n < 0)) = false := by
  unfold sideE
  split
  · rename_i h; constructor
    · intro q; exact absurd q h
    · intro q; exact absurd q.1 h
  · rename_i h
    split
    · rename_i h2; constructor
      · intro q; cases q
      · intro q; exact absurd q.2.1 h2
    · rename_i h2
      split
      · rename_i h3; constructor
        · intro q; exact absurd q h3
        · intro q; exact absurd q.2.2.1 h3
      · rename_i h3
        split
        · rename_i h4; constructor
          · intro q; cases q
          · intro q; rw [q.2.2.2] at h4; cases h4
        · rename_i h4
          simp only [ne_eq, Decidable.not_not] at h h2 h3
          exact ⟨fun _ => ⟨h, h2, h3, by simpa using h4⟩, fun _ => rfl⟩
theorem sideR_len (l : List Sp) (d : List Int) : (sideR l d).length ≤ 4096 := by
  unfold sideR
  split
  · have h1 := places_length l
    have h2 := countS_le l
    simp [List.length_zip]
    omega
  · simp
/-! ### functions of the library -/
def gExt (g : FuncId) (args : List Value) (v : Value) : GenF := fun ts hp nx o =>
  match o.op with
  | .call { callee := .value fo, args := aos, argTypes := _ } =>
    match ev ts fo with
    | some (.func (.func g') ⟨[]⟩ caps) =>
      match aos.toList.mapM (ev ts) with
      | some vs => if g' == g then some (val1 v, nx, [(.l (vs ++ caps.toList), .l args)]) else none
      | none => none
    | _ => none
  | _ => none
theorem gExt_ok {g : FuncId} {args : List Value} {v u : Value} (h : ext g args = some v) (e : v = u) (hs : ∀ n, args.all (shp n) = true) : GenOK Try.prog (gExt g args u) := by
  subst e
  intro ts hp nx o e nx' cs he hc
  unfold gExt at he
  split at he
  · rename_i fo aos ats ho
    split at he
    · rename_i g' caps hf
      split at he
      · rename_i vs hvs
        split at he
        · rename_i hg
          simp only [beq_iff_eq] at hg
          subst hg
          simp only [Option.some.injEq, Prod.mk.injEq] at he
          obtain ⟨rfl, rfl, rfl⟩ := he
          have e1 := hc.head
          simp only [Cl.l.injEq] at e1
          obtain ⟨h1, h2, h3⟩ := ext_ok g' args v h
          refine ⟨callSem_of_ext (H := []) (nx := nx) h1 h2 h3 o fo aos ats ts hp caps vs ho hf hvs e1 (fun i b hi => by simp [get] at hi) (hs nx), Nat.le_refl _⟩
        · cases he
      · cases he
    · cases he
  · cases he
section
variable {r : Option Nat} {N nI : Nat} {m : Bool}
def aExt {g : FuncId} {args : List Value} {v u : Value} (h : ext g args = some v) (e : v = u) (hs : ∀ n, args.all (shp n) = true) : Ans Try.prog r N nI m := .gen _ (gExt_ok h e hs)
end
theorem add64_ext {x y : Int} (hx : U64 x) (hy : U64 y) : (Value.tuple #[.int .u64 (Int.ofNat ((x.toNat + y.toNat + (0 : Int).toNat) % two64)), .int .u64 (Int.ofNat ((x.toNat + y.toNat + (0 : Int).toNat) / two64))]) = .tuple #[.int .u64 (if x + y < 18446744073709551616 then x + y else x + y - 18446744073709551616), .int .u64 (if x + y < 18446744073709551616 then 0 else 1)] := by
  unfold U64 at hx hy
  unfold two64
  split
  · congr 4
    · simp; omega
    · simp; omega
  · congr 4
    · simp; omega
    · simp; omega
/-- a loop of a known number of rounds -/
theorem Tr.seqLoop {P : Program} {r : Option Nat} {nt : NT} {nI : Nat} {c : Code} (S : Nat → AS) (n : Nat) {K : Exit → AS → Prop} (h : ∀ k, k < n → Tr P r nt nI c (S k) fun e s => e = .normal ∧ s = S (k + 1)) (hl : Tr P r nt nI c (S n) fun e s => e ≠ .normal ∧ K e s) : Tr P r nt nI (.loop c) (S 0) K := by
  refine Tr.loop (ι := { k : Nat // k ≤ n }) (fun k => S k.1) (fun k => n - k.1) (fun k => ?_) ⟨0, Nat.zero_le _⟩ (Imp.refl _ _ _)
  obtain ⟨k, hk⟩ := k
  rcases Nat.lt_or_ge k n with q | q
  · refine (h k q).mono fun e s ⟨h1, h2⟩ => ?_
    subst h1; subst h2
    exact ⟨⟨k + 1, q⟩, Imp.refl _ _ _, by simp only; omega⟩
  · have : k = n := by omega
    subst this
    refine hl.mono fun e s ⟨h1, h2⟩ => ?_
    cases e with
    | normal => exact absurd rfl h1
    | _ => exact h2
end Go.Am
