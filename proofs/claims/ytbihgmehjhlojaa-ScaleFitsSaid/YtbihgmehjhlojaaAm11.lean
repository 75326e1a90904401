/-
An abstract machine over the kit's wp calculus, part 11: regions that draw their order.
-/
import Derived.Test.YtbihgmehjhlojaaAm10
import Derived.OrdersIn
set_option linter.unusedVariables false
set_option linter.unusedSimpArgs false
namespace Go.Am
open Go Go.RowKit

/-! ### what the last of those that write says -/
def lastW {α : Type} (S : Nat → Bool) : Nat → List (Option (Option α)) → Option α → Option α
  | _, [], d => d
  | k, w :: r, d => lastW S (k + 1) r (if S k then w.getD d else d)
theorem lastW_agree {α : Type} {S S' : Nat → Bool} : ∀ {ws : List (Option (Option α))} {k : Nat} {d : Option α}, (∀ j v, ws[j]? = some (some v) → S (k + j) = S' (k + j)) → lastW S k ws d = lastW S' k ws d
  | [], k, d, h => rfl
  | w :: r, k, d, h => by
    simp only [lastW]
    have e : (if S k = true then w.getD d else d) = (if S' k = true then w.getD d else d) := by
      cases w with
      | none => simp
      | some v => have := h 0 v rfl; simp only [Nat.add_zero] at this; rw [this]
    rw [e]
    exact lastW_agree fun j v hv => by have := h (j + 1) v (by simpa using hv); rwa [show k + (j + 1) = k + 1 + j by omega] at this
theorem lastW_none {α : Type} {S : Nat → Bool} : ∀ {ws : List (Option (Option α))} {k : Nat} {d : Option α}, (∀ j v, ws[j]? = some (some v) → S (k + j) = false) → lastW S k ws d = d
  | [], k, d, h => rfl
  | w :: r, k, d, h => by
    simp only [lastW]
    have e : (if S k = true then w.getD d else d) = d := by
      cases w with
      | none => simp
      | some v => have := h 0 v rfl; simp only [Nat.add_zero] at this; simp [this]
    rw [e]
    exact lastW_none fun j v hv => by have := h (j + 1) v (by simpa using hv); rwa [show k + (j + 1) = k + 1 + j by omega] at this
theorem lastW_add {α : Type} {S : Nat → Bool} {i : Nat} : ∀ {ws : List (Option (Option α))} {k : Nat} {d : Option α} {w : Option (Option α)}, k ≤ i → ws[i - k]? = some w → S i = false → (∀ v j u, w = some v → i < j → ws[j - k]? = some (some u) → S j = false) →
    lastW (fun j => if j = i then true else S j) k ws d = w.getD (lastW S k ws d)
  | [], k, d, w, hk, hw, _, _ => by simp at hw
  | x :: r, k, d, w, hk, hw, hS, hj => by
    simp only [lastW]
    by_cases e : k = i
    · subst e
      simp only [Nat.sub_self, List.getElem?_cons_zero, Option.some.injEq] at hw
      subst hw
      simp only [if_true, hS, Bool.false_eq_true, if_false]
      have e1 : ∀ d', lastW (fun j => if j = k then true else S j) (k + 1) r d' = lastW S (k + 1) r d' := fun d' => lastW_agree fun j v _ => by rw [if_neg (by omega)]
      rw [e1]
      cases x with
      | none => rfl
      | some v =>
        have e2 : ∀ d', lastW S (k + 1) r d' = d' := fun d' => lastW_none fun j u hu => hj v (k + 1 + j) u rfl (by omega) (by rw [show k + 1 + j - k = j + 1 by omega]; simpa using hu)
        rw [e2]; rfl
    · simp only [if_neg e]
      have hk' : k + 1 ≤ i := by omega
      refine lastW_add hk' (by rwa [show i - k = (i - (k + 1)) + 1 by omega, List.getElem?_cons_succ] at hw) hS fun v j u hv hij hu => hj v j u hv hij ?_
      rw [show j - k = (j - (k + 1)) + 1 by omega, List.getElem?_cons_succ]; exact hu

/-! ### which must go ahead -/
def bindsOn (o : Oper) : List Nat := o.after.toList.filterMap fun e => if Region.binds .any e then some e.on else none
def orMask (acc : List Nat) : List Nat → Nat → Nat
  | [], m => m
  | k :: r, m => orMask acc r (m ||| 2 ^ k ||| acc.getD k 0)
def ancsGo : List Oper → List Nat → List Nat
  | [], acc => acc
  | o :: r, acc => ancsGo r (acc ++ [orMask acc (bindsOn o) 0])
theorem orMask_bit {acc : List Nat} {j : Nat} : ∀ {l : List Nat} {m : Nat}, (orMask acc l m).testBit j = true → m.testBit j = true ∨ ∃ k, k ∈ l ∧ (j = k ∨ (acc.getD k 0).testBit j = true)
  | [], m, h => .inl h
  | k :: r, m, h => by
    simp only [orMask] at h
    rcases orMask_bit h with g | ⟨q, hq, g⟩
    · rw [Nat.testBit_or, Nat.testBit_or, Bool.or_eq_true, Bool.or_eq_true] at g
      rcases g with (g | g) | g
      · exact .inl g
      · rw [Nat.testBit_two_pow] at g; simp at g; exact .inr ⟨k, by simp, .inl g.symm⟩
      · exact .inr ⟨k, by simp, .inr g⟩
    · exact .inr ⟨q, by simp [hq], g⟩
/-- each stands behind what its own operation names, and behind what those stand behind -/
def AncOK (l : List Oper) (A : List Nat) : Prop := ∀ (i : Nat) (o : Oper), l[i]? = some o → ∀ j, (A.getD i 0).testBit j = true → ∃ k, k ∈ bindsOn o ∧ (j = k ∨ (k < i ∧ (A.getD k 0).testBit j = true))
theorem getD_append_left {A B : List Nat} {i : Nat} (h : i < A.length) : (A ++ B).getD i 0 = A.getD i 0 := by
  simp [List.getD_eq_getElem?_getD, List.getElem?_append_left h]
theorem ancsGo_ok : ∀ {r : List Oper} {l : List Oper} {acc : List Nat}, acc.length = l.length → AncOK l acc → AncOK (l ++ r) (ancsGo r acc)
  | [], l, acc, _, h => by simpa [ancsGo] using h
  | o :: r, l, acc, hl, h => by
    have e : l ++ o :: r = (l ++ [o]) ++ r := by simp
    rw [e]
    simp only [ancsGo]
    refine ancsGo_ok (by simp [hl]) fun i x hx j hj => ?_
    rcases Nat.lt_or_ge i l.length with hi | hi
    · rw [List.getElem?_append_left hi] at hx
      rw [getD_append_left (by omega)] at hj
      obtain ⟨k, hk, g⟩ := h i x hx j hj
      refine ⟨k, hk, g.imp id fun g => ⟨g.1, ?_⟩⟩
      rw [getD_append_left (by omega)]; exact g.2
    · have hi' : i = l.length := by
        have := (List.getElem?_eq_some_iff.1 hx).1; simp at this; omega
      subst hi'
      simp at hx; subst hx
      have : (acc ++ [orMask acc (bindsOn o) 0]).getD l.length 0 = orMask acc (bindsOn o) 0 := by
        rw [← hl]; simp [List.getD_eq_getElem?_getD]
      rw [this] at hj
      rcases orMask_bit hj with g | ⟨k, hk, g⟩
      · simp at g
      · refine ⟨k, hk, g.imp id fun g => ?_⟩
        have hkl : k < acc.length := by
          rcases Nat.lt_or_ge k acc.length with q | q
          · exact q
          · rw [List.getD_eq_getElem?_getD, List.getElem?_eq_none q] at g; simp at g
        exact ⟨by omega, by rw [getD_append_left hkl]; exact g⟩
def ancs (l : List Oper) : List Nat := ancsGo l []
theorem ancs_ok (l : List Oper) : AncOK l (ancs l) := by
  have := ancsGo_ok (r := l) (l := []) (acc := []) rfl (fun i o ho => by simp at ho)
  simpa [ancs] using this
/-- a set of operations that holds with each what it names -/
def Down (l : List Oper) (S : Nat → Bool) : Prop := ∀ i o, l[i]? = some o → S i = true → ∀ k ∈ bindsOn o, S k = true
theorem Down.anc {l : List Oper} {S : Nat → Bool} {A : List Nat} (hA : AncOK l A) (hS : Down l S) : ∀ {i : Nat} {o : Oper}, l[i]? = some o → (S i = true ∨ ∀ k ∈ bindsOn o, S k = true) → ∀ {j}, (A.getD i 0).testBit j = true → j < l.length → (∀ o ∈ l, ∀ k ∈ bindsOn o, k < l.length) → S j = true := by
  intro i
  induction i using Nat.strongRecOn with
  | _ i ih =>
    intro o ho hi j hj hjl hin
    have hall : ∀ k ∈ bindsOn o, S k = true := by
      rcases hi with hi | hi
      · exact hS i o ho hi
      · exact hi
    obtain ⟨k, hk, g⟩ := hA i o ho j hj
    rcases g with rfl | ⟨hlt, g⟩
    · exact hall _ hk
    · have hkl := hin o (List.mem_of_getElem? ho) k hk
      exact ih k hlt (List.getElem?_eq_getElem hkl) (.inl (hall k hk)) g hjl hin
/-! ### the plan: each operation's doing, its numbers -/
structure Item where
  o : Oper
  e : Eff
  lo : Nat
  hi : Nat
  dl : List Nat
def keysOf (e : Eff) : List Nat := e.upd.map (·.1)
def wsT (its : List Item) (t : Nat) : List (Option (Option Value)) := its.map fun it => if it.o.dst = some t then some it.e.val else none
def wsH (its : List Item) (i : Nat) : List (Option (Option Blk)) := its.map fun it => if i ∈ keysOf it.e then some (lastOf it.e.upd i none) else none
theorem get_putDst (ts : List (Nat × Value)) (d : Option Nat) (v : Option Value) (t : Nat) : get (putDst ts d v) t = if d = some t then v else get ts t := by
  cases d with
  | none => simp [putDst]
  | some d => cases v with
    | none => simp [putDst, get_del]
    | some v => simp [putDst, get_put]
theorem lastOf_key {u : Heap} {i : Nat} : ∀ {d : Option Blk}, i ∈ u.map (·.1) → lastOf u i d = lastOf u i none := by
  induction u with
  | nil => intro d h; simp at h
  | cons p r ih =>
    intro d h
    obtain ⟨k, v⟩ := p
    simp only [lastOf]
    by_cases e : k = i
    · simp [e]
    · simp only [if_neg e]
      exact ih (by simpa [Ne.symm e] using h)
theorem get_puts_key (hp u : Heap) (i : Nat) : get (puts hp u) i = if i ∈ u.map (·.1) then lastOf u i none else get hp i := by
  rw [get_puts]
  split
  · rename_i h; exact lastOf_key h
  · rename_i h; exact lastOf_none fun v hv => h (List.mem_map.2 ⟨_, hv, rfl⟩)
theorem HLe.of_get {H H' : Heap} (h : ∀ i b, get H i = some b → get H' i = some b) : HLe H H' := fun i b hi _ => ⟨b, h i b hi, rfl, rfl, rfl, Nat.le_refl _⟩

/-- the items' state: those of S are done, in the text's order -/
def stAt (S : Nat → Bool) : Nat → List Item → List (Nat × Value) → Heap → List (Nat × Value) × Heap
  | _, [], ts, hp => (ts, hp)
  | k, it :: r, ts, hp => if S k then stAt S (k + 1) r (putDst ts it.o.dst it.e.val) (puts hp it.e.upd) else stAt S (k + 1) r ts hp
theorem stAt_ts (S : Nat → Bool) : ∀ (its : List Item) (k : Nat) (ts : List (Nat × Value)) (hp : Heap) (t : Nat), get (stAt S k its ts hp).1 t = lastW S k (wsT its t) (get ts t)
  | [], k, ts, hp, t => rfl
  | it :: r, k, ts, hp, t => by
    simp only [stAt, wsT, List.map_cons, lastW]
    split
    · rw [stAt_ts S r, get_putDst]
      show lastW S (k + 1) (wsT r t) _ = lastW S (k + 1) (wsT r t) _
      congr 1
      split <;> rfl
    · exact stAt_ts S r (k + 1) ts hp t
theorem stAt_hp (S : Nat → Bool) : ∀ (its : List Item) (k : Nat) (ts : List (Nat × Value)) (hp : Heap) (i : Nat), get (stAt S k its ts hp).2 i = lastW S k (wsH its i) (get hp i)
  | [], k, ts, hp, i => rfl
  | it :: r, k, ts, hp, i => by
    simp only [stAt, wsH, List.map_cons, lastW]
    split
    · rw [stAt_hp S r, get_puts_key]
      show lastW S (k + 1) (wsH r i) _ = lastW S (k + 1) (wsH r i) _
      congr 1
      unfold keysOf
      split <;> rfl
    · exact stAt_hp S r (k + 1) ts hp i

/-! ### what an operation may lean on -/
def dels {α : Type} (l : List (Nat × α)) : List Nat → List (Nat × α)
  | [] => l
  | k :: r => dels (del l k) r
theorem get_dels {α : Type} : ∀ (ks : List Nat) (l : List (Nat × α)) (i : Nat), get (dels l ks) i = if i ∈ ks then none else get l i
  | [], l, i => by simp [dels]
  | k :: r, l, i => by
    simp only [dels, get_dels r, get_del, List.mem_cons]
    by_cases h1 : i ∈ r
    · simp [h1]
    · by_cases h2 : k = i
      · simp [h1, h2]
      · have : ¬ i = k := fun e => h2 e.symm
        simp [h1, h2, this]
/-- the operations that stand neither ahead of i nor behind it -/
def aside (A : List Nat) (i j : Nat) : Bool := j != i && !(A.getD i 0).testBit j && !(A.getD j 0).testBit i
/-- the temporaries that operations write -/
abbrev Keys := List (Option Nat)
def asideT (A : List Nat) (i : Nat) : Nat → Keys → List Nat
  | _, [] => []
  | j, d :: r => match d with
    | some d => if aside A i j then d :: asideT A i (j + 1) r else asideT A i (j + 1) r
    | none => asideT A i (j + 1) r
theorem asideT_mem {A : List Nat} {i : Nat} : ∀ {ks : Keys} {j m d : Nat}, ks[m]? = some (some d) → aside A i (j + m) = true → d ∈ asideT A i j ks
  | [], j, m, d, hm, _ => by simp at hm
  | d' :: r, j, 0, d, hm, ha => by
    simp at hm; subst hm
    simp only [Nat.add_zero] at ha
    simp [asideT, ha]
  | d' :: r, j, m + 1, d, hm, ha => by
    have := asideT_mem (A := A) (i := i) (ks := r) (j := j + 1) (m := m) (by simpa using hm) (by rwa [show j + 1 + m = j + (m + 1) by omega])
    simp only [asideT]
    split
    · split
      · exact List.mem_cons_of_mem _ this
      · exact this
    · exact this
def bitS (m : Nat) : Nat → Bool := fun j => m.testBit j
/-- the state that operation i may lean on: what stands ahead of it is done; what others write is not known -/
def leanTs (A : List Nat) (ks : Keys) (its : List Item) (σ : AS) (i : Nat) : List (Nat × Value) := dels (stAt (bitS (A.getD i 0)) 0 its σ.ts σ.hp).1 (asideT A i 0 ks)
def leanHp (A : List Nat) (its : List Item) (σ : AS) (i : Nat) (dl : List Nat) : Heap := dels (stAt (bitS (A.getD i 0)) 0 its σ.ts σ.hp).2 dl

def chain : Nat → List Item → Nat → Prop
  | n, [], m => n = m
  | n, it :: r, m => it.lo = n ∧ n ≤ it.hi ∧ chain it.hi r m
theorem chain_le : ∀ {its : List Item} {n m : Nat}, chain n its m → n ≤ m
  | [], n, m, h => by simp [chain] at h; omega
  | it :: r, n, m, h => by
    obtain ⟨h1, h2, h3⟩ := h
    have := chain_le h3; omega
theorem chain_in : ∀ {its : List Item} {n m i : Nat} {it : Item}, chain n its m → its[i]? = some it → n ≤ it.lo ∧ it.lo ≤ it.hi ∧ it.hi ≤ m
  | [], n, m, i, it, h, hi => by simp at hi
  | x :: r, n, m, 0, it, h, hi => by
    simp at hi; subst hi
    obtain ⟨h1, h2, h3⟩ := h
    exact ⟨by omega, by omega, chain_le h3⟩
  | x :: r, n, m, i + 1, it, h, hi => by
    obtain ⟨h1, h2, h3⟩ := h
    obtain ⟨q1, q2, q3⟩ := chain_in h3 (by simpa using hi)
    exact ⟨by omega, q2, q3⟩
theorem chain_apart : ∀ {its : List Item} {n m i j : Nat} {it jt : Item}, chain n its m → its[i]? = some it → its[j]? = some jt → i < j → it.hi ≤ jt.lo
  | [], n, m, i, j, it, jt, h, hi, hj, hij => by simp at hi
  | x :: r, n, m, 0, 0, it, jt, h, hi, hj, hij => by omega
  | x :: r, n, m, 0, j + 1, it, jt, h, hi, hj, hij => by
    simp at hi; subst hi
    exact (chain_in h.2.2 (by simpa using hj)).1
  | x :: r, n, m, i + 1, 0, it, jt, h, hi, hj, hij => by omega
  | x :: r, n, m, i + 1, j + 1, it, jt, h, hi, hj, hij => chain_apart h.2.2 (by simpa using hi) (by simpa using hj) (by omega)

def StepOK (P : Program) (all : Array Oper) (nt : NT) (o : Oper) (ts : List (Nat × Value)) (hp : Heap) (lo hi : Nat) (e : Eff) : Prop :=
  dstOK nt o = true ∧ ((noDefer o.op = true ∧ guardOf all ts o = some true ∧ OpOK P o ts hp lo hi e) ∨ (guardOf all ts o = some false ∧ e = ⟨some undef, []⟩ ∧ hi = lo))
def bindsOK : Nat → List Oper → Bool
  | _, [] => true
  | i, o :: r => (bindsOn o).all (fun k => decide (k < i)) && bindsOK (i + 1) r
theorem bindsOK_ok : ∀ {l : List Oper} {k : Nat}, bindsOK k l = true → ∀ {i : Nat} {o : Oper}, l[i]? = some o → ∀ j ∈ bindsOn o, j < k + i
  | [], k, h, i, o, hi => by simp at hi
  | x :: r, k, h, i, o, hi => by
    simp only [bindsOK, Bool.and_eq_true, List.all_eq_true, decide_eq_true_eq] at h
    cases i with
    | zero => simp at hi; subst hi; intro j hj; have := h.1 j hj; omega
    | succ i => intro j hj; have := bindsOK_ok h.2 (i := i) (by simpa using hi) j hj; omega
/-- one that writes the temporary that an earlier one writes stands behind it -/
def wOK1 (d : Nat) (m : Nat) : Nat → Keys → Bool
  | _, [] => true
  | i, d' :: r => (m.testBit i || (d' != some d)) && wOK1 d m (i + 1) r
def wOKgo (A : List Nat) (all : Keys) : Nat → Keys → Bool
  | _, [] => true
  | j, none :: r => wOKgo A all (j + 1) r
  | j, some d :: r => wOK1 d (A.getD j 0) 0 (all.take j) && wOKgo A all (j + 1) r
theorem wOK1_ok {d : Nat} {m : Nat} : ∀ {ks : Keys} {k : Nat}, wOK1 d m k ks = true → ∀ {i : Nat} {d' : Option Nat}, ks[i]? = some d' → m.testBit (k + i) = true ∨ d' ≠ some d
  | [], k, _, i, d', hi => by simp at hi
  | e :: r, k, hh, i, d', hi => by
    simp only [wOK1, Bool.and_eq_true, Bool.or_eq_true] at hh
    obtain ⟨h1, h2⟩ := hh
    cases i with
    | zero =>
      simp at hi; subst hi
      exact h1.imp id fun q => by simpa using q
    | succ i => have := wOK1_ok h2 (i := i) (by simpa using hi); rwa [show k + 1 + i = k + (i + 1) by omega] at this
theorem wOKgo_ok {A : List Nat} {all : Keys} : ∀ {r : Keys} {k : Nat}, wOKgo A all k r = true → ∀ {j : Nat} {d : Nat}, r[j]? = some (some d) → wOK1 d (A.getD (k + j) 0) 0 (all.take (k + j)) = true
  | [], k, _, j, d, hj => by simp at hj
  | none :: r, k, hh, j, d, hj => by
    cases j with
    | zero => simp at hj
    | succ j => have := wOKgo_ok (r := r) (k := k + 1) hh (j := j) (by simpa using hj); rwa [show k + 1 + j = k + (j + 1) by omega] at this
  | some d' :: r, k, hh, j, d, hj => by
    simp only [wOKgo, Bool.and_eq_true] at hh
    cases j with
    | zero => simp at hj; subst hj; exact hh.1
    | succ j => have := wOKgo_ok hh.2 (j := j) (by simpa using hj); rwa [show k + 1 + j = k + (j + 1) by omega] at this
def wOK (A : List Nat) (ks : Keys) : Bool := wOKgo A ks 0 ks
theorem wOK_ok {A : List Nat} {ks : Keys} (h : wOK A ks = true) {i j : Nat} {d' : Option Nat} {d : Nat} (hi : ks[i]? = some d') (hj : ks[j]? = some (some d)) (hij : i < j) : (A.getD j 0).testBit i = true ∨ d' ≠ some d := by
  have h1 := wOKgo_ok h hj
  rw [Nat.zero_add] at h1
  have := wOK1_ok h1 (i := i) (d' := d') (by rw [List.getElem?_take_of_lt hij]; exact hi)
  rwa [Nat.zero_add] at this
/-- operations that write the same block stand one behind the other; what one leans on is written by none aside -/
def AsideOK (A : List Nat) (its : List Item) (σ : AS) : Prop := ∀ (i j : Nat) (it jt : Item), its[i]? = some it → its[j]? = some jt → ∀ x ∈ keysOf jt.e,
  (i < j → x ∈ keysOf it.e → (A.getD j 0).testBit i = true) ∧ (aside A i j = true → ∀ b, get (leanHp A (its.take i) σ i it.dl) x = some b → b.st = 0)
theorem anc_lt {l : List Oper} {A : List Nat} (hA : AncOK l A) (hb : bindsOK 0 l = true) : ∀ {i : Nat} {o : Oper}, l[i]? = some o → ∀ {j}, (A.getD i 0).testBit j = true → j < i := by
  intro i
  induction i using Nat.strongRecOn with
  | _ i ih =>
    intro o ho j hj
    obtain ⟨k, hk, g⟩ := hA i o ho j hj
    have hki := bindsOK_ok hb ho k hk
    rw [Nat.zero_add] at hki
    rcases g with rfl | ⟨hlt, g⟩
    · exact hki
    · have hl : k < l.length := by have := (List.getElem?_eq_some_iff.1 ho).1; omega
      have := ih k hlt (List.getElem?_eq_getElem hl) g
      omega

end Go.Am
