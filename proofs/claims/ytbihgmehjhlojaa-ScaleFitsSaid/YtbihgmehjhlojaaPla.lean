/-
Operations on numbers that ask for more; the wider bucket of a place.
-/
import Derived.Test.YtbihgmehjhlojaaMak
set_option linter.unusedVariables false
set_option linter.unusedSimpArgs false
set_option maxRecDepth 100000
namespace Go.Am
open Go Go.RowKit Go.Proofs

def gBin (op : BinOp) (t : TypeId) (x y : Operand) (vx vy v : Value) : GenF := fun ts hp nx o =>
  match o.op with
  | .binOp op' t' x' y' ty' =>
    match ev ts x', ev ts y' with
    | some a, some b => some (val1 v, nx, [(.p (.binOp op' t' x' y' ty'), .p (.binOp op t x y ty')), (.v a, .v vx), (.v b, .v vy)])
    | _, _ => none
  | _ => none
theorem gBin_ok {P : Program} {op : BinOp} {t : TypeId} {x y : Operand} {vx vy v : Value} (h : valBin P op t x y vx vy = some v) : GenOK P (gBin op t x y vx vy v) := by
  intro ts hp nx o e nx' cs he hc
  unfold gBin at he
  split at he
  · rename_i op' t' x' y' ty' ho
    split at he
    · rename_i a b ha hb
      simp only [Option.some.injEq, Prod.mk.injEq] at he
      obtain ⟨rfl, rfl, rfl⟩ := he
      have e1 := hc.head
      have e2 := hc.tail.head
      have e3 := hc.tail.tail.head
      simp only [Cl.p.injEq, Op.binOp.injEq, and_true, Cl.v.injEq] at e1 e2 e3
      obtain ⟨rfl, rfl, rfl, rfl⟩ := e1
      subst e2; subst e3
      refine evalOp_ok ?_
      simp [evalOp, ho, evalVal, ha, hb, h]
    · cases he
  · cases he
section
variable {P : Program} {r : Option Nat} {N nI : Nat} {m : Bool}
def aBin {op : BinOp} {t : TypeId} {x y : Operand} {vx vy v : Value} (h : valBin P op t x y vx vy = some v) : Ans P r N nI m := .gen _ (gBin_ok h)
end
theorem shr_val {P : Program} {t : TypeId} {x y : Operand} {i b : Int} (h0 : 0 ≤ b) (h1 : b ≤ 62) : valBin P .shr t x y (.int .i64 i) (.int .i64 b) = some (.int .i64 (i / 2 ^ b.toNat)) := by
  have e : min b.toNat 64 = b.toNat := by omega
  have e2 : ¬ b < 0 := by omega
  have e3 : i.fdiv (2 ^ b.toNat) = i / 2 ^ b.toNat := Int.fdiv_eq_ediv_of_nonneg _ (Int.le_of_lt (Int.pow_pos (by decide)))
  simp [valBin, flat, scalar, runFlat, eqGuard, binOp, Op.shift, e2, pureRun, IntKind.bits, e, e3]
  rfl
theorem shl_val {P : Program} {t : TypeId} {x y : Operand} {i b : Int} (h0 : 0 ≤ b) (h1 : b ≤ 62) : valBin P .shl t x y (.int .i64 i) (.int .i64 b) = some (.int .i64 (IntKind.i64.wrap (i * 2 ^ b.toNat))) := by
  have e : min b.toNat 64 = b.toNat := by omega
  have e2 : ¬ b < 0 := by omega
  simp [valBin, flat, scalar, runFlat, eqGuard, binOp, Op.shift, e2, pureRun, IntKind.bits, e]
  rfl
theorem quo_val {P : Program} {t : TypeId} {x y : Operand} {i b : Int} (h0 : b ≠ 0) : valBin P .quo t x y (.int .i64 i) (.int .i64 b) = some (.int .i64 (IntKind.i64.wrap (i.tdiv b))) := by
  simp [valBin, flat, scalar, runFlat, eqGuard, binOp, Op.intDiv, h0, pureRun]
  rfl

/-! ### the wider bucket: the least whole number that isn't below i / 2^by -/
def cdiv (i b : Int) : Int := -((-i) / b)
def placeS (i by_ : Int) : Int := if by_ < 0 ∨ by_ > 62 then i else cdiv i (2 ^ by_.toNat)
theorem cdiv_iff {i b q : Int} (hb : 0 < b) : cdiv i b = q ↔ (q - 1) * b < i ∧ i ≤ q * b := by
  unfold cdiv
  have h1 : -q ≤ (-i) / b ↔ -q * b ≤ -i := Int.le_ediv_iff_mul_le hb
  have h2 : (-i) / b < -q + 1 ↔ -i < (-q + 1) * b := Int.ediv_lt_iff_lt_mul hb
  have e1 : -q * b = -(q * b) := Int.neg_mul _ _
  have e2 : (-q + 1) * b = -((q - 1) * b) := by rw [← Int.neg_mul]; congr 1; omega
  rw [e1] at h1
  rw [e2] at h2
  constructor
  · intro h
    exact ⟨by have := h2.1 (by omega); omega, by have := h1.1 (by omega); omega⟩
  · intro ⟨g1, g2⟩
    have := h1.2 (by omega)
    have := h2.2 (by omega)
    omega
theorem two_pow_pos (n : Nat) : (0 : Int) < 2 ^ n := Int.pow_pos (by decide)
theorem two_pow_le {n : Nat} (h : n ≤ 62) : (2 : Int) ^ n ≤ 4611686018427387904 := by
  have : (2 : Nat) ^ n ≤ 2 ^ 62 := Nat.pow_le_pow_right (by decide) h
  have e : ((2 ^ n : Nat) : Int) = (2 : Int) ^ n := by simp
  rw [← e]
  have e3 : (2 : Nat) ^ 62 = 4611686018427387904 := by decide
  omega
theorem two_pow_dvd {n : Nat} (h : n ≤ 62) : ∃ k : Int, 0 < k ∧ (9223372036854775808 : Int) = k * 2 ^ n := by
  refine ⟨2 ^ (63 - n), two_pow_pos _, ?_⟩
  rw [← Int.pow_add, show 63 - n + n = 63 by omega]
  decide
/-- the whole part, below -/
theorem floor_facts {i : Int} {n : Nat} (hi : I64 i) (hn : n ≤ 62) : (i / 2 ^ n) * 2 ^ n ≤ i ∧ i < (i / 2 ^ n) * 2 ^ n + 2 ^ n ∧ -9223372036854775808 ≤ (i / 2 ^ n) * 2 ^ n ∧ -9223372036854775808 ≤ i / 2 ^ n ∧ i / 2 ^ n ≤ 9223372036854775807 ∧ (i / 2 ^ n * 2 ^ n ≠ i → i / 2 ^ n ≤ 4611686018427387904) := by
  have hb := two_pow_pos n
  obtain ⟨k, hk, e⟩ := two_pow_dvd hn
  have h1 : (i / 2 ^ n) * 2 ^ n + i % 2 ^ n = i := Int.ediv_mul_add_emod i _
  have h2 := Int.emod_nonneg i (Int.ne_of_gt hb)
  have h3 := Int.emod_lt_of_pos i hb
  have h4 : -k ≤ i / 2 ^ n := by
    rw [Int.le_ediv_iff_mul_le hb, Int.neg_mul, ← e]
    exact hi.1
  have h5 : -9223372036854775808 ≤ (i / 2 ^ n) * 2 ^ n := by
    have := Int.mul_le_mul_of_nonneg_right h4 (Int.le_of_lt hb)
    rw [Int.neg_mul, ← e] at this
    exact this
  have hkb : k ≤ 9223372036854775808 := by
    rw [e]
    have := Int.mul_le_mul_of_nonneg_left (show (1 : Int) ≤ 2 ^ n by omega) (Int.le_of_lt hk)
    omega
  have h6 : i / 2 ^ n ≤ 9223372036854775807 := by
    rw [← Int.lt_add_one_iff, Int.ediv_lt_iff_lt_mul hb]
    have : (9223372036854775807 + 1 : Int) * 1 ≤ (9223372036854775807 + 1) * 2 ^ n := Int.mul_le_mul_of_nonneg_left (by omega) (by decide)
    have := hi.2
    omega
  refine ⟨by omega, by omega, h5, by omega, h6, fun hne => ?_⟩
  have hn0 : n ≠ 0 := by rintro rfl; simp at hne
  have h2n : (2 : Int) ≤ 2 ^ n := by
    obtain ⟨k, rfl⟩ := Nat.exists_eq_succ_of_ne_zero hn0
    rw [Int.pow_succ]
    have := two_pow_pos k
    omega
  have : i / 2 ^ n < 4611686018427387904 + 1 := by
    rw [Int.ediv_lt_iff_lt_mul hb]
    have h7 : (4611686018427387904 + 1 : Int) * 2 ≤ (4611686018427387904 + 1) * 2 ^ n := Int.mul_le_mul_of_nonneg_left h2n (by decide)
    have := hi.2
    omega
  omega
theorem cdiv_floor {i : Int} {n : Nat} (hi : I64 i) (hn : n ≤ 62) : cdiv i (2 ^ n) = if (i / 2 ^ n) * 2 ^ n = i then i / 2 ^ n else i / 2 ^ n + 1 := by
  obtain ⟨h1, h2, _⟩ := floor_facts hi hn
  have hb := two_pow_pos n
  rw [cdiv_iff hb]
  split
  · rename_i h
    rw [Int.sub_mul, h]
    omega
  · rename_i h
    rw [Int.add_sub_cancel, Int.add_mul]
    omega
theorem placeS_in {i b : Int} (hi : I64 i) : I64 (placeS i b) := by
  unfold placeS
  split
  · exact hi
  · rename_i h
    have hn : b.toNat ≤ 62 := by omega
    obtain ⟨h1, h2, h3, h4, h5, h6⟩ := floor_facts hi hn
    rw [cdiv_floor hi hn]
    unfold I64
    split
    · omega
    · rename_i hne
      have := h6 hne
      omega
theorem placeS_mono {i k b : Int} (h : i ≤ k) : placeS i b ≤ placeS k b := by
  unfold placeS
  split
  · exact h
  · unfold cdiv
    have := Int.ediv_le_ediv (two_pow_pos b.toNat) (show -k ≤ -i by omega)
    omega
theorem cdiv_cdiv {i a b : Int} (ha : 0 < a) (hb : 0 < b) : cdiv (cdiv i a) b = cdiv i (a * b) := by
  unfold cdiv
  rw [Int.neg_neg, Int.ediv_ediv_of_nonneg (Int.le_of_lt ha)]
theorem placeS_add {i a b : Int} (ha : 0 ≤ a) (ha2 : a ≤ 30) (hb : 0 ≤ b) (hb2 : b ≤ 30) : placeS (placeS i a) b = placeS i (a + b) := by
  unfold placeS
  rw [if_neg (by omega), if_neg (by omega), if_neg (by omega), cdiv_cdiv (two_pow_pos _) (two_pow_pos _), ← Int.pow_add]
  congr 2
  omega
/-- as the reference has it -/
theorem cdiv_tdiv {i : Int} {n : Nat} (hi : I64 i) (hn : n ≤ 62) : cdiv i (2 ^ n) = (if i > 0 ∧ i.tdiv (2 ^ n) * 2 ^ n ≠ i then i.tdiv (2 ^ n) + 1 else i.tdiv (2 ^ n)) := by
  by_cases h : 0 ≤ i
  · rw [Int.tdiv_eq_ediv_of_nonneg h, cdiv_floor hi hn]
    by_cases h2 : i / 2 ^ n * 2 ^ n = i
    · simp [h2]
    · rw [if_neg h2, if_pos]
      refine ⟨?_, h2⟩
      rcases Int.lt_or_eq_of_le h with q | q
      · exact q
      · subst q; simp at h2
  · rw [if_neg (by omega)]
    unfold cdiv
    have : i.tdiv (2 ^ n) = -((-i).tdiv (2 ^ n)) := by rw [Int.neg_tdiv, Int.neg_neg]
    rw [this, Int.tdiv_eq_ediv_of_nonneg (by omega)]
theorem tdiv_in {i : Int} {n : Nat} (hi : I64 i) : I64 (i.tdiv (2 ^ n)) := by
  have hb := two_pow_pos n
  unfold I64 at *
  by_cases h : 0 ≤ i
  · rw [Int.tdiv_eq_ediv_of_nonneg h]
    have h1 := Int.ediv_nonneg h (Int.le_of_lt hb)
    have h2 : i / 2 ^ n ≤ i := Int.ediv_le_self _ h
    omega
  · have e : i.tdiv (2 ^ n) = -((-i).tdiv (2 ^ n)) := by rw [Int.neg_tdiv, Int.neg_neg]
    rw [e, Int.tdiv_eq_ediv_of_nonneg (by omega)]
    have h1 := Int.ediv_nonneg (show 0 ≤ -i by omega) (Int.le_of_lt hb)
    have h2 : (-i) / 2 ^ n ≤ -i := Int.ediv_le_self _ (by omega)
    omega

/-! ### a row of one's own, its end cut off -/
theorem HRel.cut {B : Nat} {μ : Nat → Option Loc} {H : Heap} {w : World} (h : HRel B μ H w) {i : Nat} {b : Blk} (hb : get H i = some b) {cs : List Value} (hp : ∃ r, b.cells = cs ++ r) (hpar : ∀ j ∈ b.par, ∀ x, get H j = some x → x.st = 0) : HRel B μ (put H i { b with cells := cs }) w := by
  obtain ⟨r, hr⟩ := hp
  have G : ∀ j x, get (put H i { b with cells := cs }) j = some x → ∃ y, get H j = some y ∧ x.st = y.st ∧ x.par = y.par ∧ x.esz = y.esz ∧ ∃ r, y.cells = x.cells ++ r := by
    intro j x hj
    rw [get_put] at hj
    split at hj
    · rename_i e; subst e; injection hj with hj; subst hj; exact ⟨b, hb, rfl, rfl, rfl, r, hr⟩
    · exact ⟨x, hj, rfl, rfl, rfl, [], by simp⟩
  refine ⟨fun j x hj h1 k v hk => ?_, fun j x L hj h1 hL => ?_, fun j x hj h2 => ?_, fun j x j' x' L L' hj hj' h2 h1 hne hL hL' hk => ?_⟩
  · obtain ⟨y, hy, e1, e2, e3, r, e4⟩ := G j x hj
    refine h.read j y hy (by omega) k v ?_
    rw [e4, List.getElem?_append_left (List.getElem?_eq_some_iff.1 hk).1]; exact hk
  · obtain ⟨y, hy, e1, e2, e3, r, e4⟩ := G j x hj
    rw [e3]; exact h.esz j y L hy (by omega) hL
  · obtain ⟨y, hy, e1, e2, e3, r, e4⟩ := G j x hj
    rcases h.own j y hy (by omega) with ⟨q1, q2⟩ | ⟨L, k, c, e, q1, q2, q3, q4, q5, q6⟩
    · exact .inl ⟨q1, by rw [e4] at q2; exact (List.append_eq_nil_iff.1 q2).1⟩
    · exact .inr ⟨L, k, c, e, q1, q2, q3, q4, q5, by rw [e4] at q6; simp at q6; omega⟩
  · obtain ⟨y, hy, e1, e2, e3, r, e4⟩ := G j x hj
    obtain ⟨y', hy', f1, f2, f3, r', f4⟩ := G j' x' hj'
    by_cases hjj : j' = j
    · exact .inl hjj
    rcases h.apart j y j' y' L L' hy hy' (by omega) (by omega) (by rcases hne with q | q; exact .inl (by omega); exact .inr (fun q2 => q (by rw [f4] at q2; exact (List.append_eq_nil_iff.1 q2).1))) hL hL' hk with q | ⟨q1, q2, q3, q4⟩
    · exact .inl q
    · by_cases hji : j = i
      · subst hji
        rw [hb] at hy; injection hy with hy; subst hy
        have := hpar j' q2 y' hy'; omega
      · have ex : x = y := by
          rw [get_put, if_neg (fun q => hji q.symm), hy] at hj
          injection hj with hj; exact hj.symm
        subst ex
        refine .inr ⟨by omega, q2, q3, ?_⟩
        rw [f4] at q4; simp at q4; omega
theorem OpOK.cut {P : Program} {o : Oper} {ts : List (Nat × Value)} {hp : Heap} {lo hi : Nat} {v : Option Value} {i : Nat} {b : Blk} {ps : List Nat} {cs : List Value} (h : OpOK P o ts hp lo hi { val := v, upd := (i, b) :: ps.map fun x => (x, gone) }) (hc : ∃ r, b.cells = cs ++ r) (hps : b.par = ps) (hi' : i ∉ ps) : OpOK P o ts hp lo hi { val := v, upd := (i, { b with cells := cs }) :: ps.map fun x => (x, gone) } := by
  intro B w0 μ F ts' hp' nt a w next Q h1 h2 hr hF hd hk
  have G : ∀ (H : Heap) (c : Blk) (j : Nat), get (puts H ((i, c) :: ps.map fun x => (x, gone))) j = if j ∈ ps then some gone else if i = j then some c else get H j := by
    intro H c j
    rw [get_puts]
    simp only [lastOf]
    rw [lastOf_gone]
  refine h B w0 μ F ts' hp' nt a w next Q h1 h2 hr hF hd fun μ' a' w' hx ho hr' => hk μ' a' w' hx ho ?_
  have hgi : get (puts hp' ((i, b) :: ps.map fun x => (x, gone))) i = some b := by rw [G, if_neg hi', if_pos rfl]
  have e : ∀ j, get (puts hp' ((i, { b with cells := cs }) :: ps.map fun x => (x, gone))) j = get (put (puts hp' ((i, b) :: ps.map fun x => (x, gone))) i { b with cells := cs }) j := by
    intro j
    rw [G, get_put, G]
    split
    · rename_i hj
      split
      · rename_i hij; subst hij; exact absurd hj hi'
      · rfl
    · split <;> rfl
  have hcut := hr'.h.cut hgi hc (fun j hj x hx => by
    rw [G, if_pos (by rw [← hps]; exact hj)] at hx
    injection hx with hx; subst hx; rfl)
  have hst : ∀ j x, get (put (puts hp' ((i, b) :: ps.map fun x => (x, gone))) i { b with cells := cs }) j = some x → ∃ y, get (puts hp' ((i, b) :: ps.map fun x => (x, gone))) j = some y ∧ y.st = x.st := by
    intro j x hx
    rw [get_put] at hx
    split at hx
    · rename_i q; subst q; injection hx with hx; subst hx; exact ⟨b, hgi, rfl⟩
    · exact ⟨x, hx, rfl⟩
  exact (⟨hr'.t, hcut, hr'.below, hr'.size, hr'.free, fun j x hx => by obtain ⟨y, q1, q2⟩ := hst j x hx; have := hr'.st j y q1; omega, fun j x hj hx => by obtain ⟨y, q1, q2⟩ := hst j x hx; have := hr'.dom j y hj q1; omega⟩ : Rel B w0 μ' _ _ _ nt a' w').congr (fun t => rfl) e (fun j q => q)
/-- an end of a row of one's own is cleared; no more is told of it -/
def gClr {α : Type} (P : Program) (f : α → List Value) (l l' : List α) (i n k : Nat) : GenF := fun ts hp nx o =>
  match o.op with
  | .call { callee := .builtin .clear, args := ⟨[x]⟩, argTypes := ⟨[t]⟩ } =>
    match ev ts x, P.underlying t with
    | some (.slice (some ⟨b, q, none⟩) m c), some (.slice e) =>
      match get hp b, sizeT P e, zeroOf P e with
      | some blk, some k', some z =>
        if k' == k && decide (blk.st = 2) && decide ((cellsOf z).length = k) && decide (0 < k) && blk.par.isEmpty then
          some (⟨some (.tuple #[]), [(b, { blk with cells := l'.flatMap f })]⟩, nx, [(.l blk.cells, .l (l.flatMap f)), (.n q, .n (i * k)), (.n m, .n n)])
        else none
      | _, _, _ => none
    | _, _ => none
  | _ => none
theorem gClr_ok {α : Type} {P : Program} {f : α → List Value} {l l' : List α} {i n k : Nat} (hf : ∀ a, (f a).length = k) (hi : i + n ≤ l.length) (hl : l.take i = l') : GenOK P (gClr P f l l' i n k) := by
  intro ts hp nx o e nx' cs he hc
  unfold gClr at he
  split at he
  · rename_i x t ho
    split at he
    · rename_i b q m c el hx hu
      split at he
      · rename_i blk k' z hb hs hz
        split at he
        · rename_i hcond
          simp only [Bool.and_eq_true, decide_eq_true_eq, beq_iff_eq, List.isEmpty_iff] at hcond
          obtain ⟨⟨⟨⟨rfl, c2⟩, c3⟩, c4⟩, c5⟩ := hcond
          simp only [Option.some.injEq, Prod.mk.injEq] at he
          obtain ⟨rfl, rfl, rfl⟩ := he
          have e1 := hc.head
          have e2 := hc.tail.head
          have e3 := hc.tail.tail.head
          simp only [Cl.n.injEq, Cl.l.injEq] at e1 e2 e3
          subst e2; subst e3; subst hl
          have hlen : blk.cells.length = l.length * k' := by rw [e1, flat_length hf]
          have hpre : blk.cells = (l.take i).flatMap f ++ (l.drop i).flatMap f := by rw [e1, ← List.flatMap_append, List.take_append_drop]
          have hpl : ((l.take i).flatMap f).length = i * k' := by rw [flat_length hf, List.length_take, Nat.min_eq_left (by omega)]
          by_cases hm : m = 0
          · subst hm
            have hop := evalOp_ok (P := P) (ts := ts) (hp := hp) (nx := nx) (nx' := nx) (o := o) (e := ⟨some (.tuple #[]), []⟩) (by simp [evalOp, ho, hx, effClear, hu])
            have hop2 : OpOK P o ts hp nx nx { val := some (.tuple #[]), upd := (b, blk) :: ([] : List Nat).map fun x => (x, gone) } := by
              intro B w0 μ F ts' hp' nt a w next Q h1 h2 hr hF hd hk
              obtain ⟨b', g1, g2, g3, g4, g5⟩ := h2 b blk hb (by omega)
              have hst := hr.st b b' g1
              have hbb : b' = blk := by cases b'; cases blk; simp only at *; subst g2; subst g3; subst g4; congr 1; omega
              subst hbb
              refine hop.1 B w0 μ F ts' hp' nt a w next Q h1 h2 hr hF hd fun μ' a' w' hx' ho' hr' => hk μ' a' w' hx' ho' (hr'.congr (fun t => rfl) (fun j => ?_) (fun j q => q))
              simp only [List.map_nil, puts, get_put]
              split
              · rename_i q; subst q; exact g1.symm
              · rfl
            have := hop2.cut ⟨_, hpre⟩ c5 (by simp)
            exact ⟨this, Nat.le_refl _⟩
          · have hle : i * k' + m * k' ≤ blk.cells.length := by rw [hlen, ← Nat.add_mul]; exact Nat.mul_le_mul_right _ hi
            have key : effClear P hp t (.slice (some ⟨b, i * k', none⟩) m c) = some { val := some (.tuple #[]), upd := updStore b blk (splice blk.cells (zeroRow (cellsOf z) (m * k')) (i * k')) } := by
              unfold effClear
              simp only [hu, hb, hs, hz, Option.bind_some]
              rw [if_neg hm, if_pos ⟨c2, c3, hle, c4⟩]
            have hop := evalOp_ok (P := P) (ts := ts) (hp := hp) (nx := nx) (nx' := nx) (o := o) (e := { val := some (.tuple #[]), upd := updStore b blk (splice blk.cells (zeroRow (cellsOf z) (m * k')) (i * k')) }) (by simp [evalOp, ho, hx, key])
            have e5 : updStore b blk (splice blk.cells (zeroRow (cellsOf z) (m * k')) (i * k')) = (b, { blk with cells := splice blk.cells (zeroRow (cellsOf z) (m * k')) (i * k') }) :: ([] : List Nat).map fun x => (x, gone) := by unfold updStore; rw [c5]
            rw [e5] at hop
            have := hop.1.cut (cs := (l.take i).flatMap f) (by
              unfold splice
              refine ⟨zeroRow (cellsOf z) (m * k') ++ blk.cells.drop (i * k' + (zeroRow (cellsOf z) (m * k')).length), ?_⟩
              rw [hpre, List.take_append_of_le_length (by omega), List.take_of_length_le (by omega), List.append_assoc]) c5 (by simp)
            exact ⟨this, Nat.le_refl _⟩
        · cases he
      · cases he
    · cases he
  · cases he
section
variable {P : Program} {r : Option Nat} {N nI : Nat} {m : Bool}
def aClr {α : Type} {f : α → List Value} {k : Nat} (hf : ∀ a, (f a).length = k) (l l' : List α) (i n : Nat) (hi : i + n ≤ l.length) (hl : l.take i = l') : Ans P r N nI m := .gen _ (gClr_ok hf hi hl)
end
end Go.Am
