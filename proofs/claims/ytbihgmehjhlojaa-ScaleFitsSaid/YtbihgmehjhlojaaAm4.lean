/-
An abstract machine over the kit's wp calculus, part 4: the operations on memory, evaluated.
-/
import Derived.Test.YtbihgmehjhlojaaAm3
import Derived.Laws.MakeOwn
set_option linter.unusedVariables false
set_option linter.unusedSimpArgs false
namespace Go.Am
open Go Go.RowKit

theorem cellsOf_eq (v : Value) : cellsOf v = v.cells.toList := by cases v <;> rfl
theorem run_zero {P : Program} {t : TypeId} {i : TypeInfo} {z : Value} (hi : P.info? t = some i) (hz : i.zero = some z) (w : World) : (zeroValue t).run P w = .ok z w := by
  simp [zeroValue, typeInfo, hi, hz]
def zeroOf (P : Program) (t : TypeId) : Option Value :=
  match (P.info? t).bind (·.zero) with
  | some z => if (cellsOf z).all scalar then some z else none
  | none => none
theorem zeroOf_ok {P : Program} {t : TypeId} {z : Value} (h : zeroOf P t = some z) : (∀ w : World, (zeroValue t).run P w = .ok z w) ∧ (∀ v ∈ cellsOf z, scalar v = true) ∧ ∃ i, P.info? t = some i ∧ i.zero = some z := by
  unfold zeroOf at h
  split at h
  · rename_i y hy
    split at h
    · rename_i hs
      injection h with h; subst h
      obtain ⟨i, hi, hz⟩ := Option.bind_eq_some_iff.1 hy
      exact ⟨fun w => run_zero hi hz w, fun v hv => List.all_eq_true.1 hs v hv, i, hi, hz⟩
    · cases h
  · cases h
theorem scalar_flat {v : Value} (h : scalar v = true) : flat v = true := by cases v <;> simp_all [scalar, flat]
theorem scalar_cell1 {v : Value} (h : scalar v = true) : cell1 v = true := by cases v <;> simp_all [scalar, cell1]
theorem rels_scalar {μ : Nat → Option Loc} {vs : List Value} (h : ∀ v ∈ vs, scalar v = true) : VRels μ vs vs := .flatL fun v hv => scalar_flat (h v hv)

/-- a block may be read: what is told of it is there -/
theorem HRel.get1 {B : Nat} {μ : Nat → Option Loc} {hp H : Heap} {w : World} (h : HRel B μ H w) (hl : HLe hp H) {i : Nat} {b : Blk} (hb : get hp i = some b) (h1 : 1 ≤ b.st) {j : Nat} {v : Value} (hv : b.cells[j]? = some v) :
    ∃ L v', μ i = some L ∧ w.cell? (L.at_.add j) = some v' ∧ VRel μ v v' ∧ cell1 v = true := by
  obtain ⟨b', hb', e1, e2, e3, e4⟩ := hl i b hb h1
  exact h.read i b' hb' (by omega) j v (by rw [e1]; exact hv)

/-- cells from a place on -/
def cellsAt (hp : Heap) (i o k : Nat) : Option (List Value) :=
  match get hp i with
  | some b => if 1 ≤ b.st then (if ((b.cells.drop o).take k).length = k then some ((b.cells.drop o).take k) else none) else none
  | none => none
theorem cellsAt_ok {B : Nat} {μ : Nat → Option Loc} {hp H : Heap} {w : World} (h : HRel B μ H w) (hl : HLe hp H) {i o k : Nat} {cs : List Value} (hc : cellsAt hp i o k = some cs) (L : Loc) (hL : μ i = some L) :
    ∃ cs', VRels μ cs cs' ∧ cs.length = k ∧ (∀ v ∈ cs, cell1 v = true) ∧ ∀ (j : Nat) (v : Value), cs'[j]? = some v → w.cell? ((L.at_.add o).add j) = some v := by
  unfold cellsAt at hc
  split at hc
  · rename_i b hb
    split at hc
    · rename_i h1
      split at hc
      · rename_i hlen
        injection hc with hc; subst hc
        have rd : ∀ j, j < k → ∃ v v', ((b.cells.drop o).take k)[j]? = some v ∧ w.cell? ((L.at_.add o).add j) = some v' ∧ VRel μ v v' ∧ cell1 v = true := by
          intro j hj
          have hv : ((b.cells.drop o).take k)[j]? = some ((b.cells.drop o).take k)[j] := List.getElem?_eq_getElem (by omega)
          have hv' := hv
          rw [List.getElem?_take, if_pos hj, List.getElem?_drop] at hv'
          obtain ⟨L', v', q1, q2, q3, q4⟩ := h.get1 hl hb h1 hv'
          rw [hL] at q1; injection q1 with q1; subst q1
          exact ⟨_, v', hv, by rw [Addr.add_add]; exact q2, q3, q4⟩
        have key : ∀ n, n ≤ k → ∃ cs' : List Value, cs'.length = n ∧ (∀ (j : Nat) (v v' : Value), ((b.cells.drop o).take k)[j]? = some v → cs'[j]? = some v' → VRel μ v v') ∧ ∀ (j : Nat) (v : Value), cs'[j]? = some v → w.cell? ((L.at_.add o).add j) = some v := by
          intro n
          induction n with
          | zero => exact fun _ => ⟨[], rfl, fun j v v' _ h => by simp at h, fun j v h => by simp at h⟩
          | succ n ih =>
            intro hn
            obtain ⟨cs', l1, l2, l3⟩ := ih (by omega)
            obtain ⟨v, v', r1, r2, r3, r4⟩ := rd n (by omega)
            refine ⟨cs' ++ [v'], by simp [l1], fun j u u' hu hu' => ?_, fun j u hu => ?_⟩
            · rcases Nat.lt_or_ge j n with c | c
              · rw [List.getElem?_append_left (by omega)] at hu'; exact l2 j u u' hu hu'
              · rw [List.getElem?_append_right (by omega), l1] at hu'
                have : j = n := by
                  have := (List.getElem?_eq_some_iff.1 hu').1
                  simp at this; omega
                subst this
                simp at hu'; subst hu'; rw [r1] at hu; injection hu with hu; subst hu; exact r3
            · rcases Nat.lt_or_ge j n with c | c
              · rw [List.getElem?_append_left (by omega)] at hu; exact l3 j u hu
              · rw [List.getElem?_append_right (by omega), l1] at hu
                have : j = n := by
                  have := (List.getElem?_eq_some_iff.1 hu).1
                  simp at this; omega
                subst this
                simp at hu; subst hu; exact r2
        obtain ⟨cs', l1, l2, l3⟩ := key k (Nat.le_refl _)
        refine ⟨cs', ⟨by rw [hlen, l1], l2⟩, hlen, fun v hv => ?_, l3⟩
        obtain ⟨j, hj, rfl⟩ := List.getElem_of_mem hv
        obtain ⟨v, v', r1, r2, r3, r4⟩ := rd j (by omega)
        rw [List.getElem?_eq_getElem hj] at r1; injection r1 with r1; rw [r1]; exact r4
      · cases hc
    · cases hc
  · cases hc

def valLoad (P : Program) (hp : Heap) (t : TypeId) (v : Value) : Option Value :=
  match v with
  | .pointer (some ⟨i, o, none⟩) =>
    match isAggT P t with
    | some true => (sizeT P t).bind fun k => (cellsAt hp i o k).map fun cs => .agg cs.toArray
    | some false => (get hp i).bind fun b => if 1 ≤ b.st then b.cells[o]? else none
    | none => none
  | _ => none
theorem load_ok {P : Program} {B : Nat} {μ : Nat → Option Loc} {hp H : Heap} {w : World} (h : HRel B μ H w) (hl : HLe hp H) {t : TypeId} {v u v' : Value} (he : valLoad P hp t v = some u) (hv : VRel μ v v') :
    ∃ u', (Instr.loadAt t v').run P w = .ok u' w ∧ VRel μ u u' := by
  unfold valLoad at he
  split at he
  · rename_i i o
    obtain ⟨L, hL, rfl⟩ := hv.pointer
    split at he
    · rename_i ha
      obtain ⟨k, hk, he⟩ := Option.bind_eq_some_iff.1 he
      obtain ⟨cs, hcs, rfl⟩ := Option.map_eq_some_iff.1 he
      obtain ⟨cs', r1, r2, r3, r4⟩ := cellsAt_ok h hl hcs L hL
      refine ⟨.agg cs'.toArray, ?_, .mkAgg r1⟩
      have := run_loadCells_list (P := P) w (L.at_.add o) cs' r4
      have e : cs'.length = k := by rw [← r1.1, r2]
      rw [e] at this
      simp [Instr.loadAt, Instr.sureAddr, loadVar, run_isAggT ha, run_sizeT hk, this]
    · rename_i ha
      obtain ⟨b, hb, he⟩ := Option.bind_eq_some_iff.1 he
      split at he
      · rename_i h1
        obtain ⟨L', u', q1, q2, q3, q4⟩ := h.get1 hl hb h1 he
        rw [hL] at q1; injection q1 with q1; subst q1
        exact ⟨u', by simp [Instr.loadAt, Instr.sureAddr, loadVar, run_isAggT ha, q2], q3⟩
      · cases he
    · cases he
  · cases he

/-- slices -/
def valIndexAddr (P : Program) (hp : Heap) (t : TypeId) (vx vi : Value) : Option Value :=
  match P.underlying t, vx, vi with
  | some (.slice e), .slice (some ⟨i, o, none⟩) n _, .int _ x =>
    if 0 ≤ x ∧ x < n then (sizeT P e).map fun k => .pointer (some ⟨i, o + x.toNat * k, none⟩) else none
  | some (.array n e), .pointer (some ⟨i, o, none⟩), .int _ x =>
    if 0 ≤ x ∧ x < n then (sizeT P e).map fun k => .pointer (some ⟨i, o + x.toNat * k, none⟩) else none
  | _, _, _ => none
theorem indexAddr_ok {P : Program} {μ : Nat → Option Loc} {hp : Heap} {t : TypeId} {vx vi u vx' vi' : Value} (he : valIndexAddr P hp t vx vi = some u) (hx : VRel μ vx vx') (hi : VRel μ vi vi') (w : World) :
    ∃ u', (Instr.indexAt t vx' vi').run P w = .ok u' w ∧ VRel μ u u' := by
  unfold valIndexAddr at he
  split at he
  · rename_i e i o n c k x hu
    split at he
    · rename_i hn
      obtain ⟨k, hk, rfl⟩ := Option.map_eq_some_iff.1 he
      have := hi.int; subst this
      cases hx with
      | flat _ h => simp [flat, scalar] at h
      | slnil => omega
      | sl _ _ _ _ L a c' hL hc hx hcn ht ha =>
        have := ha (.inl (by omega)); subst this
        refine ⟨.pointer (some ((L.at_.add o).add (x.toNat * k))), ?_, by rw [Addr.add_add]; exact .ptr i _ L hL⟩
        simp [Instr.indexAt, asIntOf, run_underlying hu, hn, run_sizeT hk]
    · cases he
  · rename_i n e i o k x hu
    split at he
    · rename_i hn
      obtain ⟨k, hk, rfl⟩ := Option.map_eq_some_iff.1 he
      have := hi.int; subst this
      obtain ⟨L, hL, rfl⟩ := hx.pointer
      refine ⟨.pointer (some ((L.at_.add o).add (x.toNat * k))), ?_, by rw [Addr.add_add]; exact .ptr i _ L hL⟩
      simp [Instr.indexAt, asIntOf, run_underlying hu, hn, run_sizeT hk, Instr.sureAddr]
    · cases he
  · cases he

def asN : Value → Option Nat
  | .int _ n => if 0 ≤ n then some n.toNat else none
  | _ => none
theorem asN_ok {μ : Nat → Option Loc} {v v' : Value} {n : Nat} (h : asN v = some n) (hv : VRel μ v v') : ∃ k, v' = .int k (n : Int) := by
  unfold asN at h
  split at h
  · rename_i k x
    split at h
    · injection h with h; have := hv.int; subst this; exact ⟨k, by rw [← h]; congr 1; omega⟩
    · cases h
  · cases h
/-- a bound that may be left out -/
def asNO (d : Nat) : Option Value → Option Nat
  | none => some d
  | some v => asN v
def valSlice (P : Program) (hp : Heap) (t : TypeId) (x : Value) (lo hi mx : Option Value) : Option Value :=
  match P.underlying t, x with
  | some (.slice e), .slice (some ⟨i, o, none⟩) n c =>
    (sizeT P e).bind fun k => (get hp i).bind fun b => (asNO 0 lo).bind fun l => (asNO n hi).bind fun h =>
      if 1 ≤ b.st ∧ b.esz = k ∧ l ≤ h ∧ h ≤ n then
        match mx with
        | none => some (.slice (some ⟨i, o + l * k, none⟩) (h - l) (if c = n ∧ h = n then h - l else if c = n + 1 then h - l + 1 else h - l + 2))
        | some m => (asN m).bind fun m => if hi.isSome ∧ h ≤ m ∧ m ≤ n ∧ c ≠ n + 1 then some (.slice (some ⟨i, o + l * k, none⟩) (h - l) (if m = h then h - l else h - l + 2)) else none
      else none
  | some .string, .string s => if flat x && lo.all flat && hi.all flat && mx.isNone then runFlat P (Instr.slice t x lo hi mx) else none
  | _, _ => none

theorem run_bound {P : Program} (w : World) (k : IntKind) (n y : Nat) (code : BoundsCode) (h : n ≤ y) : (Instr.sliceBound (.int k (n : Int)) y code).run P w = .ok n w := by
  have : (0 : Int) ≤ n ∧ (n : Int) ≤ y := ⟨by omega, by omega⟩
  simp [Instr.sliceBound, asIntOf, this]
inductive ORel (μ : Nat → Option Loc) : Option Value → Option Value → Prop
  | none : ORel μ none none
  | some (v v' : Value) (h : VRel μ v v') : ORel μ (some v) (some v')
theorem bounds_ok {P : Program} {μ : Nat → Option Loc} (w : World) {n cap l h : Nat} {lo hi lo' hi' : Option Value} (hlo : ORel μ lo lo') (hhi : ORel μ hi hi') (el : asNO 0 lo = some l) (eh : asNO n hi = some h) (h1 : l ≤ h) (h2 : h ≤ n) (h3 : n ≤ cap) :
    (Instr.sliceBounds true n cap lo' hi' none).run P w = .ok (l, h, cap) w := by
  cases hlo with
  | none =>
    simp [asNO] at el; subst el
    cases hhi with
    | none => simp [asNO] at eh; subst eh; simp [Instr.sliceBounds]
    | some v v' hv =>
      obtain ⟨k, rfl⟩ := asN_ok eh hv
      simp [Instr.sliceBounds, run_bound (P := P) w k h cap _ (by omega)]
  | some u u' hu =>
    obtain ⟨k, rfl⟩ := asN_ok el hu
    cases hhi with
    | none => simp [asNO] at eh; subst eh; simp [Instr.sliceBounds, run_bound (P := P) w k l _ _ h1]
    | some v v' hv =>
      obtain ⟨k', rfl⟩ := asN_ok eh hv
      simp [Instr.sliceBounds, run_bound (P := P) w k' h cap _ (by omega), run_bound (P := P) w k l h _ h1]
theorem bounds3_ok {P : Program} {μ : Nat → Option Loc} (w : World) {n cap l h m : Nat} {lo lo' : Option Value} {hv hv' mv mv' : Value} (hlo : ORel μ lo lo') (hhi : VRel μ hv hv') (hm : VRel μ mv mv') (el : asNO 0 lo = some l) (eh : asN hv = some h) (em : asN mv = some m)
    (h1 : l ≤ h) (h2 : h ≤ m) (h3 : m ≤ n) (h4 : n ≤ cap) :
    (Instr.sliceBounds true n cap lo' (some hv') (some mv')).run P w = .ok (l, h, m) w := by
  obtain ⟨k1, rfl⟩ := asN_ok eh hhi
  obtain ⟨k2, rfl⟩ := asN_ok em hm
  cases hlo with
  | none =>
    simp [asNO] at el; subst el
    simp [Instr.sliceBounds, run_bound (P := P) w k1 h m _ h2, run_bound (P := P) w k2 m cap _ (by omega)]
  | some u u' hu =>
    obtain ⟨k, rfl⟩ := asN_ok el hu
    simp [Instr.sliceBounds, run_bound (P := P) w k1 h m _ h2, run_bound (P := P) w k2 m cap _ (by omega), run_bound (P := P) w k l h _ h1]

theorem slice_ok {P : Program} {B : Nat} {μ : Nat → Option Loc} {hp H : Heap} {w : World} (hH : HRel B μ H w) (hl : HLe hp H) {t : TypeId} {x u x' : Value} {lo hi mx lo' hi' mx' : Option Value}
    (he : valSlice P hp t x lo hi mx = some u) (hx : VRel μ x x') (hlo : ORel μ lo lo') (hhi : ORel μ hi hi') (hmx : ORel μ mx mx') :
    ∃ u', (Instr.sliceAt t x' lo' hi' mx').run P w = .ok u' w ∧ VRel μ u u' := by
  unfold valSlice at he
  split at he
  · rename_i e i o n c hu
    obtain ⟨k, hk, he⟩ := Option.bind_eq_some_iff.1 he
    obtain ⟨b, hb, he⟩ := Option.bind_eq_some_iff.1 he
    obtain ⟨l, el, he⟩ := Option.bind_eq_some_iff.1 he
    obtain ⟨h, eh, he⟩ := Option.bind_eq_some_iff.1 he
    split at he
    · rename_i hc
      obtain ⟨hb1, hesz, hlh, hhn⟩ := hc
      cases hx with
      | flat _ h => simp [flat, scalar] at h
      | slnil =>
        have l0 : l = 0 := by omega
        have h0 : h = 0 := by omega
        subst l0; subst h0
        split at he
        · cases hmx
          injection he with he; subst he
          have := bounds_ok (P := P) w (cap := 0) hlo hhi el eh hlh hhn (Nat.le_refl 0)
          refine ⟨.slice none 0 0, ?_, ?_⟩
          · simp [Instr.sliceAt, run_underlying hu, Instr.slice, this, run_sizeT hk]
          · simp; exact .slnil _ _
        · obtain ⟨m, em, he⟩ := Option.bind_eq_some_iff.1 he
          split at he
          · rename_i hc; simp at hc
          · cases he
      | sl _ _ _ _ L a c' hL hcap hxe hcn ht ha =>
        obtain ⟨b', hb', e1, e2, e3, e4⟩ := hl i b hb hb1
        have hLe : L.esz = k := by rw [hH.esz i b' L hb' (by omega) hL, e3, hesz]
        have key : ∀ m, l ≤ m → m ≤ c' → ∀ a2 : Addr, a2 = (if m = l then a else a.add (l * k)) → (0 < h - l ∨ o + l * k = 0) → h ≤ m → a2 = L.at_.add (o + l * k) := by
          intro m hm1 hm2 a2 ea hc hhm
          by_cases em : m = l
          · rw [if_pos em] at ea
            have hl0 : h = l := by omega
            have h0 : o + l * k = 0 := by omega
            have o0 : o = 0 := by omega
            rw [ea, ha (.inr o0), h0, o0]
          · rw [if_neg em] at ea
            have : 0 < n ∨ o = 0 := by
              rcases hc with hc | hc
              · left; omega
              · right; omega
            rw [ea, ha this, Addr.add_add]
        have tot : ∀ m, l ≤ m → m ≤ c' → o + l * k + (m - l) * L.esz ≤ L.tot := by
          intro m h1 h2
          rw [hLe] at ht ⊢
          have : l * k + (m - l) * k = m * k := by rw [← Nat.add_mul]; congr 1; omega
          have : m * k ≤ c' * k := Nat.mul_le_mul_right _ h2
          omega
        split at he
        · cases hmx
          injection he with he; subst he
          have hbd := bounds_ok (P := P) w (cap := c') hlo hhi el eh hlh hhn hcap
          refine ⟨.slice (some (if c' = l then a else a.add (l * k))) (h - l) (c' - l), ?_, ?_⟩
          · simp only [Instr.sliceAt, Sem.run_bind, run_underlying hu, Result.andThen_ok, Instr.slice, hbd, run_sizeT hk, Sem.run_pure]
            by_cases q : c' = l
            · simp [q]
            · simp [q]
          · refine .sl i _ _ _ L _ _ hL (by omega) ?_ ?_ (tot c' (by omega) (Nat.le_refl _)) (fun hc => key c' (by omega) (Nat.le_refl _) _ rfl hc (by omega))
            · intro q
              split at q
              · rename_i q1; have := hxe q1.1; omega
              · split at q <;> omega
            · split
              · exact .inl rfl
              · split
                · exact .inr (.inl rfl)
                · exact .inr (.inr rfl)
        · rename_i mv
          obtain ⟨m, em, he⟩ := Option.bind_eq_some_iff.1 he
          split at he
          · rename_i hc
            obtain ⟨q1, q2, q3, q4⟩ := hc
            injection he with he; subst he
            cases hmx with
            | some _ mv' hmv =>
              cases hhi with
              | none => simp at q1
              | some hv hv' hhv =>
                have hbd := bounds3_ok (P := P) w (cap := c') hlo hhv hmv el eh em hlh q2 q3 hcap
                refine ⟨.slice (some (if m = l then a else a.add (l * k))) (h - l) (m - l), ?_, ?_⟩
                · simp only [Instr.sliceAt, Sem.run_bind, run_underlying hu, Result.andThen_ok, Instr.slice, hbd, run_sizeT hk, Sem.run_pure]
                  by_cases q : m = l
                  · simp [q]
                  · simp [q]
                · refine .sl i _ _ _ L _ _ hL (by omega) ?_ ?_ (tot m (by omega) (by omega)) (fun hc => key m (by omega) (by omega) _ rfl hc q2)
                  · intro q
                    split at q
                    · rename_i r; rw [r]
                    · omega
                  · split
                    · exact .inl rfl
                    · exact .inr (.inr rfl)
          · cases he
    · cases he
  · rename_i s hu
    split at he
    · rename_i hf
      simp only [Bool.and_eq_true] at hf
      obtain ⟨⟨⟨f1, f2⟩, f3⟩, f4⟩ := hf
      have := hx.string; subst this
      have O : ∀ {p q : Option Value}, ORel μ p q → p.all flat = true → q = p := by
        intro p q hpq hpf
        cases hpq with
        | none => rfl
        | some v v' hv => simp at hpf; rw [hv.flatEq hpf]
      rw [O hlo f2, O hhi f3]
      cases hmx with
      | none =>
        refine ⟨u, ?_, .flat _ (runFlat_ok he).2⟩
        have := (runFlat_ok he).1 w
        simp [Instr.sliceAt, run_underlying hu, this]
      | some => simp at f4
    · cases he
  · cases he
end Go.Am
