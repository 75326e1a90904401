/-
What came in, opened: numbers, histograms, rows; and the row's own step, for a law that leaves its input alone.
-/
import Derived.Test.YtbihgmehjhlojaaAwk
import Derived.Test.YtbihgmehjhlojaaRow
import Derived.ProofKit
import Derived.OpenShut
import Derived.Carry
import Derived.WideShapes
import Derived.DataElems
set_option linter.unusedVariables false
set_option linter.unusedSimpArgs false
set_option maxRecDepth 100000
namespace Go.Am
open Go Go.RowKit Go.Proofs Go.ChangeShapes Go.WideShapes

/-! ### rows of memory -/
/-- the value is a slice of n elements of k cells each that hold what is told -/
def SlOK (w : World) (cells : List Value) (k n : Nat) (c : Value) : Prop :=
  (c = .slice none 0 0 ∧ n = 0) ∨ ∃ (a : Addr) (cap : Nat), c = .slice (some a) n cap ∧ n ≤ cap ∧ ∀ j v, cells[j]? = some v → w.cell? (a.add j) = some v
structure SRow where
  cells : List Value
  k : Nat
  n : Nat
  c : Value
def locOf (k : Nat) : Value → Option Loc
  | .slice (some a) _ cap => some ⟨a, k, cap * k⟩
  | _ => none
def muOf (rs : List SRow) : Nat → Option Loc := fun i => (rs[i]?).bind fun r => locOf r.k r.c
def hpOf : Nat → List SRow → Heap
  | _, [] => []
  | i, r :: rs => (i, ⟨r.cells, 1, [], r.k⟩) :: hpOf (i + 1) rs
theorem get_hpOf : ∀ {rs : List SRow} {i j : Nat} {b : Blk}, get (hpOf i rs) j = some b → i ≤ j ∧ ∃ r, rs[j - i]? = some r ∧ b = ⟨r.cells, 1, [], r.k⟩
  | [], i, j, b, h => by simp [hpOf, get] at h
  | r :: rs, i, j, b, h => by
    simp only [hpOf, get] at h
    split at h
    · rename_i e; subst e; injection h with h; exact ⟨Nat.le_refl _, r, by simp, h.symm⟩
    · rename_i e
      obtain ⟨h1, r', h2, h3⟩ := get_hpOf h
      refine ⟨by omega, r', ?_, h3⟩
      have e2 : j - i = (j - (i + 1)) + 1 := by omega
      rw [e2]; simpa using h2
structure RowsOK (w : World) (rs : List SRow) : Prop where
  ok : ∀ r ∈ rs, SlOK w r.cells r.k r.n r.c ∧ r.cells.length = r.n * r.k ∧ ∀ v ∈ r.cells, scalar v = true
theorem RowsOK.nil (w : World) : RowsOK w [] := ⟨fun r h => by cases h⟩
theorem RowsOK.cons {w : World} {α : Type} {f : α → List Value} {k : Nat} {l : List α} {c : Value} {rs : List SRow} (hf : ∀ x, (f x).length = k) (hs : ∀ l : List α, ∀ v ∈ l.flatMap f, scalar v = true) (h : SlOK w (l.flatMap f) k l.length c) (hr : RowsOK w rs) : RowsOK w (⟨l.flatMap f, k, l.length, c⟩ :: rs) :=
  ⟨fun r hm => by
    rcases List.mem_cons.1 hm with rfl | hm
    · exact ⟨h, flat_length hf l, hs l⟩
    · exact hr.ok r hm⟩
theorem RowsOK.muNone {rs : List SRow} {i : Nat} (h : rs.length ≤ i) : muOf rs i = none := by unfold muOf; rw [List.getElem?_eq_none h]; rfl
theorem RowsOK.rel {w : World} {rs : List SRow} (h : RowsOK w rs) (B : Nat) : HRel B (muOf rs) (hpOf 0 rs) w := by
  refine ⟨fun i b hb h1 j v hv => ?_, fun i b L hb h1 hm => ?_, fun i b hb h2 => ?_, fun i b j b' L L' hb hb' h2 h1 hne hi hj hk => ?_⟩
  · obtain ⟨_, r, hr, rfl⟩ := get_hpOf hb
    rw [Nat.sub_zero] at hr
    obtain ⟨o1, o2, o3⟩ := h.ok r (List.mem_of_getElem? hr)
    rcases o1 with ⟨hc, hn⟩ | ⟨a, cap, hc, hn, hcell⟩
    · rw [hn, Nat.zero_mul] at o2
      have := List.length_eq_zero_iff.1 o2
      simp only at hv
      rw [this] at hv; simp at hv
    · have hs := o3 v (List.mem_of_getElem? hv)
      refine ⟨⟨a, r.k, cap * r.k⟩, v, ?_, hcell j v hv, .flat _ (scalar_flat hs), scalar_cell1 hs⟩
      unfold muOf; rw [hr]; simp [locOf, hc]
  · obtain ⟨_, r, hr, rfl⟩ := get_hpOf hb
    rw [Nat.sub_zero] at hr
    unfold muOf at hm
    rw [hr] at hm
    simp only [Option.bind_some] at hm
    unfold locOf at hm
    split at hm
    · injection hm with hm; subst hm; rfl
    · cases hm
  · obtain ⟨_, r, hr, rfl⟩ := get_hpOf hb
    cases h2
  · obtain ⟨_, r, hr, rfl⟩ := get_hpOf hb
    cases h2
theorem RowsOK.val {w : World} {rs : List SRow} (h : RowsOK w rs) {i : Nat} {r : SRow} (hr : rs[i]? = some r) : VRel (muOf rs) (.slice (some ⟨i, 0, none⟩) r.n (r.n + 1)) r.c := by
  obtain ⟨o1, o2, o3⟩ := h.ok r (List.mem_of_getElem? hr)
  rcases o1 with ⟨hc, hn⟩ | ⟨a, cap, hc, hn, hcell⟩
  · rw [hc, hn]; exact .slnil i 0
  · rw [hc]
    refine .sl i 0 r.n (r.n + 1) ⟨a, r.k, cap * r.k⟩ a cap ?_ hn (fun q => by omega) (.inr (.inl rfl)) (by simp) (fun _ => by simp [Addr.add])
    unfold muOf; rw [hr]; simp [locOf, hc]

/-! ### what came in, opened -/
section
variable {H : Type} {enc : TypeId × Value → H} {P : Program} {w : World} {base : Nat} {spare : Nat → Bool} {held : Bool}
theorem choose_list {α : Type} {R : Nat → α → Prop} : ∀ (n : Nat), (∀ i, i < n → ∃ x, R i x) → ∃ l : List α, l.length = n ∧ ∀ i x, l[i]? = some x → R i x
  | 0, _ => ⟨[], rfl, fun i x h => by simp at h⟩
  | n + 1, h => by
    obtain ⟨l, hl, hR⟩ := choose_list n fun i hi => h i (by omega)
    obtain ⟨x, hx⟩ := h n (by omega)
    refine ⟨l ++ [x], by simp [hl], fun i y hy => ?_⟩
    by_cases hi : i < n
    · rw [List.getElem?_append_left (by omega)] at hy; exact hR i y hy
    · have hlt := (List.getElem?_eq_some_iff.1 hy).1
      simp at hlt
      have : i = n := by omega
      subst this
      rw [List.getElem?_append_right (by omega)] at hy
      simp [hl] at hy
      subst hy; exact hx
theorem open_sl {α : Type} {f : α → List Value} {k : Nat} {Q : α → Prop} (hf : ∀ x, (f x).length = k) (hk : 0 < k) {t e : TypeId} (ht : P.underlying t = some (.slice e)) (hc : P.cellsOf e = k)
    (hel : ∀ n cs y, DataW.trod enc P w base spare held n e cs = some y → ∃ x, cs = f x ∧ Q x) {fuel : Nat} {c : Value} {y : DataW H × List MemPlace} (h : DataW.trod enc P w base spare held fuel t [c] = some y) :
    ∃ l : List α, (∀ x ∈ l, Q x) ∧ SlOK w (l.flatMap f) k l.length c ∧ l.length ≤ maxLen := by
  rcases DataW.trod_slice ht h with ⟨h0, _⟩ | ⟨a, len, cap, elems, rest, n, _, hcs, _, hb, hl, hm, hlen, hel', _, _⟩
  · injection h0 with h0 _
    exact ⟨[], (fun x hx => by cases hx), .inl ⟨h0, rfl⟩, Nat.zero_le _⟩
  · injection hcs with hcs _
    have each : ∀ i, i < len → ∃ x, Q x ∧ ∀ j, j < k → w.cell? (a.add (i * k + j)) = (f x)[j]? := by
      intro i hi
      have h1 := hel' i hi
      rw [hc, List.getElem?_eq_getElem (by omega), Option.bind_eq_some_iff] at h1
      obtain ⟨cs', h2, h3⟩ := h1
      obtain ⟨x, rfl, hq⟩ := hel _ _ _ h3
      refine ⟨x, hq, fun j hj => ?_⟩
      rw [← (World.cells?_some h2).2.2 j hj, Addr.add_add]
    obtain ⟨l, hll, hR⟩ := choose_list len each
    refine ⟨l, fun x hx => ?_, .inr ⟨a, cap, by rw [hcs, hll], by omega, fun j v hv => ?_⟩, by omega⟩
    · obtain ⟨i, hi⟩ := List.getElem?_of_mem hx
      exact (hR i x hi).1
    · have hj : j < l.length * k := by rw [← flat_length hf l]; exact (List.getElem?_eq_some_iff.1 hv).1
      have hi : j / k < l.length := by rw [Nat.div_lt_iff_lt_mul hk]; exact hj
      have hx : l[j / k]? = some l[j / k] := List.getElem?_eq_getElem hi
      have hj2 : j % k < k := Nat.mod_lt _ hk
      have e : j / k * k + j % k = j := by rw [Nat.mul_comm]; exact Nat.div_add_mod j k
      have h4 := flat_get hf hx hj2
      rw [e] at h4
      rw [← e, (hR _ _ hx).2 _ hj2, ← h4, hv]
theorem fld {fs : Array Field} {xs : List (DataW H × List MemPlace)} {cs : List Value} {n m i : Nat} {fd : Field} {c : Value} (hget : ∀ (i : Nat) (f : Field), fs[i]? = some f → DataW.trod enc P w base spare held n f.type ((cs.drop f.offset).take (P.cellsOf f.type)) = xs[i]?)
    (hxs : xs.length = m) (hi : i < m) (hf : fs[i]? = some fd) (h1 : P.cellsOf fd.type = 1) (hc : cs[fd.offset]? = some c) : ∃ y, DataW.trod enc P w base spare held n fd.type [c] = some y := by
  have h2 := hget i fd hf
  rw [h1, List.take_one, List.head?_drop, hc, List.getElem?_eq_getElem (by omega)] at h2
  exact ⟨_, h2⟩
theorem trod_i64 {t : TypeId} {n : Nat} {cs : List Value} {y : DataW H × List MemPlace} (ht : P.underlying t = some (.int .i64)) (h : DataW.trod enc P w base spare held n t cs = some y) : ∃ z : Int, cs = [.int .i64 z] ∧ I64 z := by
  obtain ⟨z, h1, _, h3⟩ := DataW.trod_int ht h
  refine ⟨z, h1, ?_⟩
  simp [Lit.wf, IntKind.min, IntKind.max, IntKind.signed, IntKind.bits] at h3
  unfold I64; omega
theorem trod_u64 {t : TypeId} {n : Nat} {cs : List Value} {y : DataW H × List MemPlace} (ht : P.underlying t = some (.int .u64)) (h : DataW.trod enc P w base spare held n t cs = some y) : ∃ z : Int, cs = [.int .u64 z] ∧ U64 z := by
  obtain ⟨z, h1, _, h3⟩ := DataW.trod_int ht h
  refine ⟨z, h1, ?_⟩
  simp [Lit.wf, IntKind.min, IntKind.max, IntKind.signed, IntKind.bits] at h3
  unfold U64; omega
end


section
variable {H : Type} {enc : TypeId × Value → H} {W : World} {base b0 : Nat} {spare : Nat → Bool} {held : Bool}
theorem cl3 : Try.prog.cellsOf 3 = 1 := by kernel_rfl
theorem cl2 : Try.prog.cellsOf 2 = 1 := by kernel_rfl
theorem cl22 : Try.prog.cellsOf 22 = 1 := by kernel_rfl
theorem cl47 : Try.prog.cellsOf 47 = 1 := by kernel_rfl
theorem cl48 : Try.prog.cellsOf 48 = 1 := by kernel_rfl
theorem cl52 : Try.prog.cellsOf 52 = 1 := by kernel_rfl
theorem cl159 : Try.prog.cellsOf 159 = 2 := by kernel_rfl
theorem cl54 : Try.prog.cellsOf 54 = 9 := by kernel_rfl
theorem cl50 : Try.prog.cellsOf 50 = 9 := by kernel_rfl
theorem cl77 : Try.prog.cellsOf 77 = 2 := by kernel_rfl
theorem open_spans {fuel : Nat} {c : Value} {y : DataW H × List MemPlace} (h : DataW.trod enc Try.prog W base spare held fuel 47 [c] = some y) : ∃ l : List Sp, SlOK W (l.flatMap encS) 2 l.length c ∧ l.length ≤ maxLen ∧ ∀ s ∈ l, I64 s.1 ∧ I64 s.2 := by
  obtain ⟨l, h1, h2, h3⟩ := open_sl (Q := fun s : Sp => I64 s.1 ∧ I64 s.2) encS_k (by decide) Try.underlying47 cl159 (fun n cs y hy => by
    obtain ⟨xs, n', rfl, _, hl, hx, hget⟩ := DataW.trod_struct Try.underlying159 hy
    rw [cl159] at hl
    match cs, hl with
    | [a, b], _ =>
      obtain ⟨y0, h0⟩ := fld hget hx (i := 0) (by decide) rfl cl3 rfl
      obtain ⟨y1, h1⟩ := fld hget hx (i := 1) (by decide) rfl cl3 rfl
      obtain ⟨z0, e0, w0⟩ := trod_i64 Try.underlying3 h0
      obtain ⟨z1, e1, w1⟩ := trod_i64 Try.underlying3 h1
      injection e0 with e0 _
      injection e1 with e1 _
      exact ⟨(z0, z1), by rw [e0, e1]; rfl, w0, w1⟩) h
  exact ⟨l, h2, h3, h1⟩
theorem open_i64s {fuel : Nat} {c : Value} {y : DataW H × List MemPlace} (h : DataW.trod enc Try.prog W base spare held fuel 52 [c] = some y) : ∃ l : List Int, SlOK W (l.flatMap encI) 1 l.length c ∧ l.length ≤ maxLen ∧ ∀ s ∈ l, I64 s := by
  obtain ⟨l, h1, h2, h3⟩ := open_sl (Q := fun s : Int => I64 s) encI_k (by decide) Try.underlying52 cl2 (fun n cs y hy => by
    obtain ⟨z, e, w⟩ := trod_i64 Try.underlying2 hy
    exact ⟨z, e, w⟩) h
  exact ⟨l, h2, h3, h1⟩
theorem open_u64s {fuel : Nat} {c : Value} {y : DataW H × List MemPlace} (h : DataW.trod enc Try.prog W base spare held fuel 48 [c] = some y) : ∃ l : List Int, SlOK W (l.flatMap encW) 1 l.length c ∧ l.length ≤ maxLen ∧ ∀ s ∈ l, U64 s := by
  obtain ⟨l, h1, h2, h3⟩ := open_sl (Q := fun s : Int => U64 s) encW_k (by decide) Try.underlying48 cl22 (fun n cs y hy => by
    obtain ⟨z, e, w⟩ := trod_u64 Try.underlying22 hy
    exact ⟨z, e, w⟩) h
  exact ⟨l, h2, h3, h1⟩
theorem max_le {n : Nat} (h : n ≤ maxLen) : n ≤ 9223372036854775807 := Nat.le_trans h (by decide)
structure HRng (h : HI) : Prop where
  num : HNum h
  pd : L64 h.pd
  nd : L64 h.nd
  np : h.pos.length ≤ 9223372036854775807
  nn : h.neg.length ≤ 9223372036854775807
  npd : h.pd.length ≤ 9223372036854775807
  nnd : h.nd.length ≤ 9223372036854775807
structure FRng (h : HF) : Prop where
  num : FNum h
  pc : ∀ x ∈ h.pc, U64 x
  nc : ∀ x ∈ h.nc, U64 x
  np : h.pos.length ≤ 9223372036854775807
  nn : h.neg.length ≤ 9223372036854775807
  npc : h.pc.length ≤ 9223372036854775807
  nnc : h.nc.length ≤ 9223372036854775807
theorem open_hist {r : Reach} {v : Value} {d : DataW H} {p : List MemPlace} (hv : Value.okWide Try.prog W r b0 54 v) (h : DataW.Trod enc Try.prog W base spare held 54 v d p) :
    ∃ (h : HI) (c5 c6 c7 c8 : Value), v = .agg #[.int .i64 h.schema, .int .u64 h.zero, .int .u64 h.zc, .int .u64 h.count, .int .u64 h.sum, c5, c6, c7, c8] ∧ HRng h ∧
      SlOK W (h.pos.flatMap encS) 2 h.pos.length c5 ∧ SlOK W (h.neg.flatMap encS) 2 h.neg.length c6 ∧ SlOK W (h.pd.flatMap encI) 1 h.pd.length c7 ∧ SlOK W (h.nd.flatMap encI) 1 h.nd.length c8 := by
  obtain ⟨cs, rfl, _⟩ := okWide_struct Try.underlying54 hv
  obtain ⟨fuel, hf⟩ := h
  obtain ⟨xs, n', rfl, _, hl, hx, hget⟩ := DataW.trod_struct Try.underlying54 hf
  obtain ⟨cs⟩ := cs
  rw [cl54] at hl
  simp only [Value.cells] at hl hget
  match cs, hl with
  | [c0, c1, c2, c3, c4, c5, c6, c7, c8], _ =>
    obtain ⟨y0, h0⟩ := fld hget hx (i := 0) (by decide) rfl cl3 rfl
    obtain ⟨y1, h1⟩ := fld hget hx (i := 1) (by decide) rfl cl22 rfl
    obtain ⟨y2, h2⟩ := fld hget hx (i := 2) (by decide) rfl cl22 rfl
    obtain ⟨y3, h3⟩ := fld hget hx (i := 3) (by decide) rfl cl22 rfl
    obtain ⟨y4, h4⟩ := fld hget hx (i := 4) (by decide) rfl cl22 rfl
    obtain ⟨y5, h5⟩ := fld hget hx (i := 5) (by decide) rfl cl47 rfl
    obtain ⟨y6, h6⟩ := fld hget hx (i := 6) (by decide) rfl cl47 rfl
    obtain ⟨y7, h7⟩ := fld hget hx (i := 7) (by decide) rfl cl52 rfl
    obtain ⟨y8, h8⟩ := fld hget hx (i := 8) (by decide) rfl cl52 rfl
    obtain ⟨z0, e0, w0⟩ := trod_i64 Try.underlying3 h0
    obtain ⟨z1, e1, w1⟩ := trod_u64 Try.underlying22 h1
    obtain ⟨z2, e2, w2⟩ := trod_u64 Try.underlying22 h2
    obtain ⟨z3, e3, w3⟩ := trod_u64 Try.underlying22 h3
    obtain ⟨z4, e4, w4⟩ := trod_u64 Try.underlying22 h4
    obtain ⟨l5, e5, n5, _⟩ := open_spans h5
    obtain ⟨l6, e6, n6, _⟩ := open_spans h6
    obtain ⟨l7, e7, n7, w7⟩ := open_i64s h7
    obtain ⟨l8, e8, n8, w8⟩ := open_i64s h8
    injection e0 with e0 _; injection e1 with e1 _; injection e2 with e2 _; injection e3 with e3 _; injection e4 with e4 _
    exact ⟨⟨z0, z1, z2, z3, z4, l5, l6, l7, l8⟩, c5, c6, c7, c8, by rw [e0, e1, e2, e3, e4], ⟨⟨w0, w1, w2, w3, w4⟩, w7, w8, max_le n5, max_le n6, max_le n7, max_le n8⟩, e5, e6, e7, e8⟩
theorem open_fhist {r : Reach} {v : Value} {d : DataW H} {p : List MemPlace} (hv : Value.okWide Try.prog W r b0 50 v) (h : DataW.Trod enc Try.prog W base spare held 50 v d p) :
    ∃ (h : HF) (c5 c6 c7 c8 : Value), v = .agg #[.int .i64 h.schema, .int .u64 h.zero, .int .u64 h.zc, .int .u64 h.count, .int .u64 h.sum, c5, c6, c7, c8] ∧ FRng h ∧
      SlOK W (h.pos.flatMap encS) 2 h.pos.length c5 ∧ SlOK W (h.neg.flatMap encS) 2 h.neg.length c6 ∧ SlOK W (h.pc.flatMap encW) 1 h.pc.length c7 ∧ SlOK W (h.nc.flatMap encW) 1 h.nc.length c8 := by
  obtain ⟨cs, rfl, _⟩ := okWide_struct Try.underlying50 hv
  obtain ⟨fuel, hf⟩ := h
  obtain ⟨xs, n', rfl, _, hl, hx, hget⟩ := DataW.trod_struct Try.underlying50 hf
  obtain ⟨cs⟩ := cs
  rw [cl50] at hl
  simp only [Value.cells] at hl hget
  match cs, hl with
  | [c0, c1, c2, c3, c4, c5, c6, c7, c8], _ =>
    obtain ⟨y0, h0⟩ := fld hget hx (i := 0) (by decide) rfl cl3 rfl
    obtain ⟨y1, h1⟩ := fld hget hx (i := 1) (by decide) rfl cl22 rfl
    obtain ⟨y2, h2⟩ := fld hget hx (i := 2) (by decide) rfl cl22 rfl
    obtain ⟨y3, h3⟩ := fld hget hx (i := 3) (by decide) rfl cl22 rfl
    obtain ⟨y4, h4⟩ := fld hget hx (i := 4) (by decide) rfl cl22 rfl
    obtain ⟨y5, h5⟩ := fld hget hx (i := 5) (by decide) rfl cl47 rfl
    obtain ⟨y6, h6⟩ := fld hget hx (i := 6) (by decide) rfl cl47 rfl
    obtain ⟨y7, h7⟩ := fld hget hx (i := 7) (by decide) rfl cl48 rfl
    obtain ⟨y8, h8⟩ := fld hget hx (i := 8) (by decide) rfl cl48 rfl
    obtain ⟨z0, e0, w0⟩ := trod_i64 Try.underlying3 h0
    obtain ⟨z1, e1, w1⟩ := trod_u64 Try.underlying22 h1
    obtain ⟨z2, e2, w2⟩ := trod_u64 Try.underlying22 h2
    obtain ⟨z3, e3, w3⟩ := trod_u64 Try.underlying22 h3
    obtain ⟨z4, e4, w4⟩ := trod_u64 Try.underlying22 h4
    obtain ⟨l5, e5, n5, _⟩ := open_spans h5
    obtain ⟨l6, e6, n6, _⟩ := open_spans h6
    obtain ⟨l7, e7, n7, w7⟩ := open_u64s h7
    obtain ⟨l8, e8, n8, w8⟩ := open_u64s h8
    injection e0 with e0 _; injection e1 with e1 _; injection e2 with e2 _; injection e3 with e3 _; injection e4 with e4 _
    exact ⟨⟨z0, z1, z2, z3, z4, l5, l6, l7, l8⟩, c5, c6, c7, c8, by rw [e0, e1, e2, e3, e4], ⟨⟨w0, w1, w2, w3, w4⟩, w7, w8, max_le n5, max_le n6, max_le n7, max_le n8⟩, e5, e6, e7, e8⟩
theorem open_two {r : Reach} {v : Value} {d : DataW H} {p : List MemPlace} (hv : Value.okWide Try.prog W r b0 77 v) (h : DataW.Trod enc Try.prog W base spare held 77 v d p) : ∃ a b : Int, v = .agg #[.int .i64 a, .int .i64 b] ∧ I64 a ∧ I64 b := by
  have hv2 : ∃ cs, v = .agg cs := by
    simp only [Value.okWide, Try.underlying77] at hv
    obtain ⟨cs, h1, _⟩ := hv
    exact ⟨cs, h1⟩
  obtain ⟨cs, rfl⟩ := hv2
  obtain ⟨fuel, hf⟩ := h
  obtain ⟨xs, n', rfl, _, hl, hx, hget⟩ := DataW.trod_array Try.underlying77 hf
  obtain ⟨cs⟩ := cs
  rw [cl77] at hl
  simp only [Value.cells, cl3] at hl hget
  match cs, hl with
  | [c0, c1], _ =>
    have h0 := hget 0 (by decide)
    have h1 := hget 1 (by decide)
    rw [List.getElem?_eq_getElem (by omega)] at h0 h1
    simp at h0 h1
    obtain ⟨a, e0, w0⟩ := trod_i64 Try.underlying3 h0
    obtain ⟨b, e1, w1⟩ := trod_i64 Try.underlying3 h1
    injection e0 with e0 _; injection e1 with e1 _
    exact ⟨a, b, by rw [e0, e1], w0, w1⟩
end

/-! ### the row's step -/
theorem below_trodAll {H : Type} {enc : TypeId × Value → H} {P : Program} (hl : laidOutB P = true) {W W' : World} (hb : Below W.heap.size W W') {sp : Nat → Bool} : ∀ {ts : List TypeId} {vs : List Value} {ds : List (DataW H)} {ps : List MemPlace}, (∀ t ∈ ts, P.readableRec t = true ∧ t < P.types.size) →
    DataW.TrodAll enc P W 0 (fun _ => true) true ts vs ds ps → (∀ x ∈ ps, x.block < W.heap.size) → (∀ x ∈ ps, sp x.block = true) → DataW.TrodAll enc P W' 0 sp true ts vs ds ps
  | [], [], [], ps, _, h, _, _ => h
  | t :: ts, v :: vs, d :: ds, ps, ht, h, hlt, hsp => by
    obtain ⟨p, q, h1, h2, rfl⟩ := h
    obtain ⟨r1, r2⟩ := ht t (List.mem_cons_self ..)
    refine ⟨p, q, WideElems.Trod_stays hl r1 r2 h1 (fun x hx => hb.same (hlt x (by simp [hx]))) (fun x hx => hsp x (by simp [hx])), below_trodAll hl hb (fun t' h' => ht t' (List.mem_cons_of_mem _ h')) h2 (fun x hx => hlt x (by simp [hx])) (fun x hx => hsp x (by simp [hx])), rfl⟩
  | [], [], _ :: _, _, _, h, _, _ => h.elim
  | [], _ :: _, _, _, _, h, _, _ => h.elim
  | _ :: _, [], _, _, _, h, _, _ => h.elim
  | _ :: _, _ :: _, [], _, _, h, _, _ => h.elim
theorem trodAll_len {H : Type} {enc : TypeId × Value → H} {P : Program} {W : World} {b : Nat} {sp : Nat → Bool} {hd : Bool} : ∀ {ts : List TypeId} {vs : List Value} {ds : List (DataW H)} {ps : List MemPlace}, DataW.TrodAll enc P W b sp hd ts vs ds ps → ds.length = ts.length
  | [], [], [], _, _ => rfl
  | t :: ts, v :: vs, d :: ds, ps, h => by obtain ⟨p, q, h1, h2, rfl⟩ := h; simp [trodAll_len h2]
  | [], [], _ :: _, _, h => h.elim
  | [], _ :: _, _, _, h => h.elim
  | _ :: _, [], _, _, h => h.elim
  | _ :: _, _ :: _, [], _, h => h.elim
theorem laid_out : laidOutB Try.prog = true := p_laid
theorem own_ : ownKnob Try.prog.godebug = none := by kernel_rfl
theorem law_lift {H : Type} {enc : TypeId × Value → H} {os : Os} (started : os.Started) {f : FuncId} {fn : Func} {s : ChangeSpec} {dom : List PathCond} (noInit : Try.prog.inits.idxOf? f = none) (hfn : Try.prog.funcs[f]? = some fn)
    (hvars : s.vars = []) (hspec : ∀ ds : List (DataW H), ds.length = fn.params.toList.length → s.fn H ds = { results := [.lit (.bool true)], args := ds }) (hres : fn.resultTypes = #[4])
    (hread : ∀ t ∈ fn.params.toList, Try.prog.readableRec t = true ∧ t < Try.prog.types.size)
    (witness : ∃ (w : World) (tape : Tape) (i : Input), w.os = os ∧ (w.forCall tape i).Shaped Try.prog ∧ i.vars = [] ∧ Input.okWide Try.prog (w.forCall tape i) .any w.heap.size f i ∧
      s.pre6 enc Try.prog fn dom false (w.forCall tape i).memory i.args ∧ ({} : Assume).holds Try.prog (lone (Frame.enter Try.prog f i.args .normal) [] (w.forCall tape i)))
    (walk : ∀ (W : World) (base : Nat) (args : Array Value) (ds : List (DataW H)) (p : List MemPlace), (∀ (j : Nat) t v, fn.params[j]? = some t → args[j]? = some v → Value.okWide Try.prog W .any base t v) →
      DataW.TrodAll enc Try.prog W 0 (fun _ => true) true fn.params.toList args.toList ds p → Calls Try.prog f args W fun e W' => e = .returned (.bool true) ∧ Below W.heap.size W W') :
    ReturnsInHanded {} Try.checked os f .any (s.pre6 enc Try.prog fn dom false) (s.post enc Try.prog fn false true false false) := by
  refine returnsInHanded_of_change (C := Try.checked) own_ started noInit hfn witness ?_
  intro W base args ds gs before hval hW _ _
  have hW' := hW
  obtain ⟨p, q, hA, hV, rfl, hfz, hnd⟩ := hW
  rw [hvars] at hV
  obtain ⟨rfl, rfl⟩ := trodVars_none hV
  refine (walk W base args ds p hval hA).mono fun e W' ⟨he, hb⟩ => ?_
  subst he
  have hlt : ∀ x ∈ p, x.block < W.heap.size := fun x hx => hW'.lt x (by simp [hx])
  have hs := hspec ds (trodAll_len hA)
  have h1 : ∀ (b : Nat) (sp : Nat → Bool) (hd : Bool), DataW.TrodAll enc Try.prog W' b sp hd fn.resultTypes.toList ((Value.bool true).resultList fn.resultTypes.size) (s.fn H (ds ++ [])).results [] := fun b sp hd => by
    rw [List.append_nil, hs, hres]; exact trodAll_cons_mk (shut_bool Try.underlying4 _) trodAll_mk0
  refine ⟨_, rfl, ds, [], p ++ [], [], p, [], hW', h1 _ _ _, ?_, ?_, hb.frame _, fun h => by cases h⟩
  · rw [List.append_nil, hs]; exact below_trodAll laid_out hb hread hA hlt (fun x hx => by simpa using hlt x hx)
  · rw [List.append_nil, hs, hvars]; exact rfl
/-- a law's contract, used at what came in -/
theorem run_law {f : FuncId} {args : List Value} {rs : List SRow} {nI : Nat} {W : World} (h : FnOK Try.prog f args (hpOf 0 rs) nI (.bool true) []) (hr : RowsOK W rs) (hn : ∀ i, nI ≤ i → muOf rs i = none) {cargs : List Value} (hv : VRels (muOf rs) args cargs) : Calls Try.prog f cargs.toArray W fun e W' => e = .returned (.bool true) ∧ Below W.heap.size W W' :=
  (h (muOf rs) W cargs hv (hr.rel _) hn).mono fun e w' ⟨μ', v', he, _, hv', _, hb⟩ => by
    cases hv'
    exact ⟨he, hb⟩
theorem wf_i64 {n : Int} (h : (Lit.int .i64 n).wf = true) : I64 n := by
  simp [Lit.wf, IntKind.min, IntKind.max, IntKind.signed, IntKind.bits] at h
  unfold I64; omega
theorem wf_u64 {n : Int} (h : (Lit.int .u64 n).wf = true) : U64 n := by
  simp [Lit.wf, IntKind.min, IntKind.max, IntKind.signed, IntKind.bits] at h
  unfold U64; omega
end Go.Am
