/-
An abstract machine over the kit's wp calculus, part 6: literals, append, make, clear; any operation that calls nothing.
-/
import Derived.Test.YtbihgmehjhlojaaAm5
set_option linter.unusedVariables false
set_option linter.unusedSimpArgs false
namespace Go.Am
open Go Go.RowKit

/-! ### rows of zeros, literals -/
def zeroRow (z : List Value) (n : Nat) : List Value := (List.range n).map fun i => z.toArray[i % z.toArray.size]!
theorem zeroRow_made (z : Value) (n : Nat) : (madeCells z.cells n).toList = zeroRow (cellsOf z) n := by
  simp [madeCells, zeroRow, cellsOf_eq]
theorem zeroRow_length (z : List Value) (n : Nat) : (zeroRow z n).length = n := by simp [zeroRow]
theorem zeroRow_scalar {z : List Value} (h : ∀ v ∈ z, scalar v = true) (hz : z ≠ []) (n : Nat) : ∀ v ∈ zeroRow z n, scalar v = true := by
  intro v hv
  obtain ⟨i, hi, rfl⟩ := List.mem_map.1 hv
  have hp : 0 < z.length := List.length_pos_iff.2 hz
  have hlt : i % z.toArray.size < z.toArray.size := Nat.mod_lt _ (by simpa using hp)
  rw [getElem!_pos z.toArray _ hlt]
  apply h
  simp
def litZero (P : Program) (e : TypeId) (n : Nat) : Option (List Value) :=
  if n = 0 then some [] else (zeroOf P e).bind fun z => if (cellsOf z).isEmpty then none else some (zeroRow (cellsOf z) n)
def effLit (P : Program) (nx : Nat) (t : TypeId) (len : Nat) (parts : List (Nat × Value)) : Option Eff :=
  match P.underlying t with
  | some (.slice e) => (sizeT P e).bind fun k => if len * k ≤ 2 ^ 24 then (litZero P e (len * k)).bind fun z => (fillL (fun i => some (i * k, k)) z parts).bind fun cs =>
      if cs.all cell1 ∧ cs.length = len * k then some { val := some (.slice (some ⟨nx, 0, none⟩) len len), upd := [(nx, { cells := cs, st := 2, par := [], esz := k })] } else none else none
  | _ => none
theorem litZero_ok {P : Program} {e : TypeId} {n : Nat} {zs : List Value} (h : litZero P e n = some zs) (w : World) :
    ∃ z : Array Value, (n = 0 → z = #[]) ∧ (n ≠ 0 → ∃ z0, (zeroValue e).run P w = .ok z0 w ∧ z = z0.cells) ∧ ((Array.range n).map (z[· % z.size]!)).toList = zs ∧ (∀ v ∈ zs, scalar v = true) := by
  unfold litZero at h
  by_cases h0 : n = 0
  · subst h0; simp at h; subst h; exact ⟨#[], fun _ => rfl, fun h => absurd rfl h, by simp, by simp⟩
  · rw [if_neg h0] at h
    obtain ⟨z, hz, h⟩ := Option.bind_eq_some_iff.1 h
    split at h
    · cases h
    · rename_i hne
      injection h with h; subst h
      obtain ⟨r1, r2, _⟩ := zeroOf_ok hz
      exact ⟨z.cells, fun h => absurd h h0, fun _ => ⟨z, r1 w, rfl⟩, zeroRow_made z n, zeroRow_scalar r2 (by intro e; rw [e] at hne; simp at hne) n⟩
theorem lit_ok {P : Program} {o : Oper} {ts : List (Nat × Value)} {hp : Heap} {t : TypeId} {len : Nat} {parts : Array (Nat × Operand)} {vs : List (Nat × Value)} {nx : Nat} {e : Eff} (ho : o.op = .buildSlice t len parts)
    (hv : (parts.toList.mapM fun p => (ev ts p.2).map fun v => (p.1, v)) = some vs) (he : effLit P nx t len vs = some e) : OpOK P o ts hp nx (nx + 1) e := by
  unfold effLit at he
  split at he
  · rename_i el hu
    obtain ⟨k, hk, he⟩ := Option.bind_eq_some_iff.1 he
    split at he
    · rename_i hcap
      obtain ⟨zs, hz, he⟩ := Option.bind_eq_some_iff.1 he
      obtain ⟨cs, hcs, he⟩ := Option.bind_eq_some_iff.1 he
      split at he
      · rename_i h1
        obtain ⟨h1, hlen⟩ := h1
        injection he with he; subst he
        refine new_ok (Nat.lt_succ_self _) fun B μ H ts' nt a w hl hhl hH hT => ?_
        have hps := mapM_parts hT (mapM_parts_le hl hv)
        obtain ⟨z, r0, r1, r2, r3⟩ := litZero_ok hz w
        have hzr : VRels μ zs ((Array.range (len * k)).map (z[· % z.size]!)).toList := by rw [r2]; exact rels_scalar r3
        obtain ⟨out', q1, q2⟩ := fill_ok _ hps hzr hcs
        have eparts : (parts.map fun (i, x) => (i, a.eval x)).toList = parts.toList.map fun p => (p.1, a.eval p.2) := by simp
        have hsz : out'.toArray.size = len * k := by rw [List.size_toArray, ← q2.1, hlen]
        refine ⟨out'.toArray, el, .slice (some ⟨w.heap.size, 0, none⟩) len len, 0, ?_, by rw [hsz, hlen]; exact Nat.le_refl _, fun j u hj => ?_, ?_⟩
        · have n24 : ¬ (len * k > 2 ^ 24) := by omega
          simp only [execOp, ho, Instr.buildSlice, Sem.run_bind, run_underlying hu, Result.andThen_ok, run_sizeT hk]
          rw [Sem.run_ite, if_neg n24]
          rw [Array.toArray_toList, ← eparts] at q1
          by_cases h0 : len * k = 0
          · have := r0 h0; subst this
            simp only [Sem.run_bind, Sem.run_pure, Result.andThen_ok, Sem.run_ite, if_pos h0, q1, newRow, run_newObj, drewN_zero]
            rfl
          · obtain ⟨z0, g1, rfl⟩ := r1 h0
            simp only [Sem.run_bind, Sem.run_pure, Result.andThen_ok, Sem.run_ite, if_neg h0, g1, q1, newRow, run_newObj, drewN_zero]
            rfl
        · obtain ⟨u', p1, p2⟩ := q2.get hj
          exact ⟨List.all_eq_true.1 h1 u (List.mem_of_getElem? hj), u', by simpa using p1, p2⟩
        · refine .sl nx 0 len len _ _ len (setLoc_same _ _ _) (Nat.le_refl _) (fun _ => rfl) (.inl rfl) (by simp only [Nat.zero_add, hsz]; exact Nat.le_refl _) (fun _ => by simp [Addr.add])
      · cases he
    · cases he
  · cases he

/-! ### append -/
def infoOf (P : Program) (t : TypeId) : Option (Nat × Nat) :=
  match P.info? t with
  | some i => match i.zero with
    | some z => if (cellsOf z).length = i.size then some (i.size, i.bytes) else none
    | none => none
  | none => none
theorem infoOf_ok {P : Program} {t : TypeId} {k b : Nat} (h : infoOf P t = some (k, b)) : ∃ i z, P.info? t = some i ∧ i.zero = some z ∧ i.size = k ∧ i.bytes = b ∧ z.cells.size = k := by
  unfold infoOf at h
  split at h
  · rename_i i hi
    split at h
    · rename_i z hz
      split at h
      · rename_i hl
        injection h with h; injection h with h1 h2
        exact ⟨i, z, hi, hz, h1, h2, by rw [cellsOf_eq] at hl; rw [← h1]; simpa using hl⟩
      · cases h
    · cases h
  · cases h
/-- what the second argument brings: how many, and their cells -/
def srcOf (hp : Heap) (k : Nat) : Value → Option (Nat × List Value)
  | .slice none 0 0 => some (0, [])
  | .slice (some ⟨i, o, none⟩) m _ => if m = 0 then some (0, []) else (cellsAt hp i o (m * k)).map fun cs => (m, cs)
  | _ => none
def effAppend (P : Program) (hp : Heap) (nx : Nat) (t tx : TypeId) (s x : Value) : Option Eff :=
  match P.underlying t, P.underlying tx with
  | some (.slice e), some (.slice _) =>
    (infoOf P e).bind fun (k, by_) => (srcOf hp k x).bind fun (m, news) => if by_ = 0 then none else
      if m = 0 then (match s with | .slice _ _ _ => some { val := some s, upd := [] } | _ => none) else
      match s with
      | .slice none 0 0 => if m * by_ ≤ 140737488355328 then some { val := some (.slice (some ⟨nx, 0, none⟩) m (m + 2)), upd := [(nx, { cells := news, st := 2, par := [], esz := k })] } else none
      | .slice (some ⟨i, o, none⟩) n c =>
        if (n + m) * by_ ≤ 140737488355328 then
          if c = n then (cellsAt hp i o (n * k)).map fun olds => { val := some (.slice (some ⟨nx, 0, none⟩) (n + m) (n + m + 2)), upd := [(nx, { cells := olds ++ news, st := 2, par := [], esz := k })] }
          else (get hp i).bind fun b => if b.st = 2 ∧ b.esz = k ∧ o = 0 ∧ b.cells.length = n * k then some { val := some (.slice (some ⟨nx, 0, none⟩) (n + m) (n + m + 2)), upd := updApp i nx b news } else none
        else none
      | _ => none
  | _, _ => none

theorem src_ok {P : Program} {B : Nat} {μ : Nat → Option Loc} {hp H : Heap} {w : World} (hH : HRel B μ H w) (hl : HLe hp H) {tx e' : TypeId} (hu : P.underlying tx = some (.slice e')) {k m : Nat} {news : List Value} {x x' : Value} (h : srcOf hp k x = some (m, news)) (hx : VRel μ x x') :
    ∃ news', VRels μ news news' ∧ news.length = m * k ∧ (∀ v ∈ news, cell1 v = true) ∧ Src P k tx x' m news' w := by
  unfold srcOf at h
  split at h
  · injection h with h; injection h with h1 h2; subst h1; subst h2
    have := hx.scal rfl; subst this
    exact ⟨[], .nil _, by simp, by simp, Src.ofNil w hu 0⟩
  · rename_i i o m' c
    split at h
    · rename_i h0
      subst h0
      injection h with h; injection h with h1 h2; subst h1; subst h2
      refine ⟨[], .nil _, by simp, by simp, ?_⟩
      cases hx with
      | flat _ h => simp [flat, scalar] at h
      | slnil => exact Src.ofNil w hu 0
      | sl => exact Src.ofSlice w hu _ 0 _ [] (by simp) (by simp) (by simp)
    · rename_i h0
      obtain ⟨cs, hcs, e⟩ := Option.map_eq_some_iff.1 h
      injection e with e1 e2; subst e1; subst e2
      cases hx with
      | flat _ h => simp [flat, scalar] at h
      | slnil => omega
      | sl _ _ _ _ L a c' hL hc hxe hcn ht ha =>
        have := ha (.inl (by omega)); subst this
        obtain ⟨cs', r1, r2, r3, r4⟩ := cellsAt_ok hH hl hcs L hL
        refine ⟨cs', r1, r2, r3, Src.ofSlice w hu _ m' c' cs' (by rw [← r1.1, r2]) r4 fun u hu => ?_⟩
        obtain ⟨j, hj, rfl⟩ := List.getElem_of_mem hu
        have hj' : j < cs.length := by rw [r1.1]; exact hj
        exact (r1.2 j _ _ (List.getElem?_eq_getElem hj') (List.getElem?_eq_getElem hj)).cell1 (r3 _ (List.getElem_mem hj'))
  · cases h

/-- a new row out of old cells and new ones -/
theorem grow_ok {P : Program} {o : Oper} {ts : List (Nat × Value)} {hp : Heap} {t tx e ex : TypeId} {s x : Operand} {vs vx : Value} {nx k by_ n m : Nat} {olds news : List Value}
    (ho : o.op = .call { callee := .builtin .append, args := #[s, x], argTypes := #[t, tx] }) (hu : P.underlying t = some (.slice e)) (hux : P.underlying tx = some (.slice ex)) (hinfo : infoOf P e = some (k, by_))
    (hs : ev ts s = some vs) (hx : ev ts x = some vx) (hsrc : srcOf hp k vx = some (m, news)) (hm : m ≠ 0) (hfit : (n + m) * by_ ≤ 140737488355328) (hk0 : 0 < by_)
    (hold : ∀ (B : Nat) (μ : Nat → Option Loc) (H : Heap) (w : World) (v' : Value), HLe hp H → HRel B μ H w → VRel μ vs v' →
      ∃ (base : Option Addr) (c : Nat) (olds' : List Value), v' = .slice base n c ∧ c < n + m ∧ VRels μ olds olds' ∧ (∀ v ∈ olds, cell1 v = true) ∧ olds.length = n * k ∧ (Builtin.firstCells k n (.slice base n c)).run P w.drew = .ok olds'.toArray w.drew) :
    OpOK P o ts hp nx (nx + 1) { val := some (.slice (some ⟨nx, 0, none⟩) (n + m) (n + m + 2)), upd := [(nx, { cells := olds ++ news, st := 2, par := [], esz := k })] } := by
  refine new_ok (Nat.lt_succ_self _) fun B μ H ts' nt a w hl hhl hH hT => ?_
  obtain ⟨i, z, i1, i2, i3, i4, i5⟩ := infoOf_ok hinfo
  obtain ⟨news', q1, q2, q3, q4⟩ := src_ok (P := P) hH hhl hux hsrc (ev_ok hT (ev_le hl hx))
  obtain ⟨base, c, olds', e1, e2, e3, e3', e4, e5⟩ := hold B μ H w _ hhl hH (ev_ok hT (ev_le hl hs))
  have hn63 : ((n + m : Nat) : Int) ≤ 9223372036854775807 := by
    have : (n + m) * 1 ≤ (n + m) * by_ := Nat.mul_le_mul_left _ hk0
    omega
  subst i3; subst i4
  have hrun := run_append_grow_src (P := P) w t tx o.type e i z hu i1 i2 base n c olds' e5 (a.eval x) m news' q4 (by omega) hn63 (growslice_fits (by omega) hfit)
  have hge := grownCap_ge w (n + m) c e
  refine ⟨(olds' ++ news').toArray ++ Builtin.zeroCells z.cells (grownCap w (n + m) c e - (n + m)), e, .slice (some ⟨w.heap.size, 0, none⟩) (n + m) (grownCap w (n + m) c e), 1, ?_, ?_, fun j u hj => ?_, ?_⟩
  · simp [execOp, ho, resolve, invoke, builtin, e1, hrun]; rfl
  · simp [e3.1, q1.1]
  · have hrel := e3.append q1
    obtain ⟨u', p1, p2⟩ := hrel.get hj
    refine ⟨?_, u', ?_, p2⟩
    · rcases List.mem_append.1 (List.mem_of_getElem? hj) with g | g
      · exact e3' u g
      · exact q3 u g
    · rw [Array.getElem?_append_left (by simpa using (List.getElem?_eq_some_iff.1 p1).1)]
      simpa using p1
  · refine .sl nx 0 (n + m) (n + m + 2) _ _ _ (setLoc_same _ _ _) hge (by omega) (.inr (.inr rfl)) ?_ (fun _ => by simp [Addr.add])
    have hz : (Builtin.zeroCells z.cells (grownCap w (n + m) c e - (n + m))).size = (grownCap w (n + m) c e - (n + m)) * z.cells.size := by simp [Builtin.zeroCells]
    have hsz : ((olds' ++ news').toArray ++ Builtin.zeroCells z.cells (grownCap w (n + m) c e - (n + m))).size = grownCap w (n + m) c e * i.size := by
      rw [Array.size_append, hz, i5, List.size_toArray, List.length_append, ← e3.1, ← q1.1, e4, q2, ← Nat.add_mul, ← Nat.add_mul]
      congr 1; omega
    simp only [Nat.zero_add, hsz]; exact Nat.le_refl _

theorem flat_slice {a : Option Addr} {n c : Nat} (h : flat (.slice a n c) = true) : a = none ∧ n = 0 ∧ c = 0 := by
  cases a with
  | some a => simp [flat, scalar] at h
  | none => cases n with
    | succ n => simp [flat, scalar] at h
    | zero => cases c with
      | succ c => simp [flat, scalar] at h
      | zero => exact ⟨rfl, rfl, rfl⟩
/-- the old row is but read from now on -/
theorem HRel.lower {B : Nat} {μ : Nat → Option Loc} {H : Heap} {w : World} (h : HRel B μ H w) (hst : ∀ i b, get H i = some b → b.st ≤ 2) {i : Nat} {b : Blk} (hb : get H i = some b) (h2 : b.st = 2) : HRel B μ (put H i { b with st := 1 }) w := by
  refine h.le hst fun j x hj h1 => ?_
  rw [get_put] at hj
  split at hj
  · rename_i e; subst e; injection hj with hj; subst hj
    exact ⟨b, hb, rfl, rfl, rfl, by simp only; omega⟩
  · exact ⟨x, hj, rfl, rfl, rfl, Nat.le_refl _⟩
theorem inplace_ok {P : Program} {o : Oper} {ts : List (Nat × Value)} {hp : Heap} {t tx e ex : TypeId} {s x : Operand} {vx : Value} {nx k by_ n m c i : Nat} {news : List Value} {b : Blk}
    (ho : o.op = .call { callee := .builtin .append, args := #[s, x], argTypes := #[t, tx] }) (hu : P.underlying t = some (.slice e)) (hux : P.underlying tx = some (.slice ex)) (hinfo : infoOf P e = some (k, by_))
    (hs : ev ts s = some (.slice (some ⟨i, 0, none⟩) n c)) (hx : ev ts x = some vx) (hsrc : srcOf hp k vx = some (m, news)) (hm : m ≠ 0) (hfit : (n + m) * by_ ≤ 140737488355328) (hk0 : 0 < by_)
    (hb : get hp i = some b) (h2 : b.st = 2) (hesz : b.esz = k) (hlen : b.cells.length = n * k) (hcn : c ≠ n) :
    OpOK P o ts hp nx (nx + 1) { val := some (.slice (some ⟨nx, 0, none⟩) (n + m) (n + m + 2)), upd := updApp i nx b news } := by
  refine OpOK.mem fun B μ H ts' nt a w w0 hl hhl hH hT hst hsz hF hbel hnd => ?_
  have hj0 : μ nx = none := hF nx (Nat.le_refl _) (Nat.lt_succ_self _)
  obtain ⟨ti, z, i1, i2, i3, i4, i5⟩ := infoOf_ok hinfo
  obtain ⟨news', q1, q2, q3, q4⟩ := src_ok (P := P) hH hhl hux hsrc (ev_ok hT (ev_le hl hx))
  obtain ⟨b', hb', e1, e2, e3, e4⟩ := hhl i b hb (by omega)
  have hb2 : b'.st = 2 := by have := hst i b' hb'; omega
  have ebb : b' = b := by
    cases b; cases b'; simp only at e1 e2 e3 hb2 h2; subst e1; subst e2; subst e3; rw [hb2, h2]
  subst ebb
  have hn63 : ((n + m : Nat) : Int) ≤ 9223372036854775807 := by
    have : (n + m) * 1 ≤ (n + m) * by_ := Nat.mul_le_mul_left _ hk0
    omega
  have hlow := hH.lower hst hb' hb2
  have hr := ev_ok hT (ev_le hl hs)
  have stU : ∀ j y, get (puts H (updApp i nx b' news)) j = some y → y.st ≤ 2 := by
    intro j y hy
    simp only [updApp, puts, get_put] at hy
    split at hy
    · injection hy with hy; subst hy; simp
    · split at hy
      · injection hy with hy; subst hy; simp
      · exact hst j y hy
  have hne : i ≠ nx := by
    rintro rfl
    have := hnd _ b' (Nat.le_refl _) (Nat.lt_succ_self _) hb'; omega
  have updU : UpdOK H (updApp i nx b' news) nx (nx + 1) := updOK_app hne hb' hb2 (Nat.le_refl _) (Nat.lt_succ_self _)
  -- there is no room: a new row
  have grow : ∀ (base : Option Addr) (c' : Nat) (olds' : List Value), a.eval s = .slice base n c' → c' < n + m → VRels μ b'.cells olds' → (∀ v ∈ b'.cells, cell1 v = true) → (Builtin.firstCells k n (.slice base n c')).run P w.drew = .ok olds'.toArray w.drew →
      ∃ (μ' : Nat → Option Loc) (v' : Value) (w' : World), ((execOp a.eval o).run P w = .ok (.value v') w' ∨ ((execOp a.eval o).run P w = .ok .skip w' ∧ v' = undef)) ∧ (∀ x, (some (.slice (some ⟨nx, 0, none⟩) (n + m) (n + m + 2)) : Option Value) = some x → VRel μ' x v') ∧ Ext μ μ' ∧ (∀ i, μ i = none → (i < nx ∨ nx + 1 ≤ i) → μ' i = none) ∧
        HRel B μ' (puts H (updApp i nx b' news)) w' ∧ Kept B w0 w' ∧ B ≤ w'.heap.size ∧ (∀ j y, get (puts H (updApp i nx b' news)) j = some y → y.st ≤ 2) ∧ (UpdOK H (updApp i nx b' news) nx (nx + 1) ∨ updApp i nx b' news = []) := by
    intro base c' olds' ea hc' hro h1 hfc
    subst i3; subst i4
    have hrun := run_append_grow_src (P := P) w t tx o.type e ti z hu i1 i2 base n c' olds' hfc (a.eval x) m news' q4 hc' hn63 (growslice_fits hc' hfit)
    have hge := grownCap_ge w (n + m) c' e
    have hz : (Builtin.zeroCells z.cells (grownCap w (n + m) c' e - (n + m))).size = (grownCap w (n + m) c' e - (n + m)) * z.cells.size := by simp [Builtin.zeroCells]
    have hsize : ((olds' ++ news').toArray ++ Builtin.zeroCells z.cells (grownCap w (n + m) c' e - (n + m))).size = grownCap w (n + m) c' e * ti.size := by
      rw [Array.size_append, hz, i5, List.size_toArray, List.length_append, ← hro.1, ← q1.1, hlen, q2, ← Nat.add_mul, ← Nat.add_mul]
      congr 1; omega
    generalize hC : (olds' ++ news').toArray ++ Builtin.zeroCells z.cells (grownCap w (n + m) c' e - (n + m)) = C at hrun hsize
    refine ⟨setLoc μ nx ⟨⟨w.heap.size, 0, none⟩, b'.esz, C.size⟩, .slice (some ⟨w.heap.size, 0, none⟩) (n + m) (grownCap w (n + m) c' e), w.drew.alloc (.cells C e), .inl ?_, fun y hy => ?_, setLoc_ext hj0 _, setLoc_free (Nat.le_refl _) (Nat.lt_succ_self _), ?_, hbel.drew.alloc hsz _, ?_, stU, .inl updU⟩
    · simp [execOp, ho, resolve, invoke, builtin, ea, hrun]
    · injection hy with hy; subst hy
      exact .sl nx 0 (n + m) (n + m + 2) _ _ _ (setLoc_same _ _ _) hge (by omega) (.inr (.inr rfl)) (by simp only [Nat.zero_add, hsize, hesz]; exact Nat.le_refl _) (fun _ => by simp [Addr.add])
    · have hrel := hro.append q1
      have := (HRel.drew hlow).alloc (w := w.drew) hsz hj0 C e (b'.cells ++ news) b'.esz (by rw [← hC]; simp [hro.1, q1.1]) (fun j u hj => by
        obtain ⟨u', p1, p2⟩ := hrel.get hj
        refine ⟨?_, u', ?_, p2⟩
        · rcases List.mem_append.1 (List.mem_of_getElem? hj) with g | g
          · exact h1 u g
          · exact q3 u g
        · rw [← hC, Array.getElem?_append_left (by simpa using (List.getElem?_eq_some_iff.1 p1).1)]
          simpa using p1) (i :: b'.par)
      exact this
    · simp; omega
  generalize hy : a.eval s = y at hr
  cases hr with
  | flat _ h => simp [flat, scalar] at h
  | slnil =>
    have hcl : b'.cells = [] := List.eq_nil_of_length_eq_zero (by rw [hlen]; simp)
    exact grow none 0 [] hy (by omega) (by rw [hcl]; exact .nil _) (by rw [hcl]; simp) (by simp [Builtin.firstCells])
  | sl _ _ _ _ L ad c' hL hc hxe hcn' ht ha =>
    have ea := ha (.inr rfl)
    have ea0 : L.at_.add 0 = L.at_ := by simp [Addr.add]
    rw [ea0] at ea; subst ea
    have hLe : L.esz = k := by rw [hH.esz i b' L hb' (by omega) hL, hesz]
    have hown : ∃ kk cc ee, L.at_ = ⟨kk, 0, none⟩ ∧ B ≤ kk ∧ w.heap[kk]? = some (.cells cc ee (0, 0)) ∧ cc.size = L.tot := by
      rcases hH.own i b' hb' hb2 with ⟨q, _⟩ | ⟨L', kk, cc, ee, p1, p2, p3, p4, p5, p6⟩
      · rw [q] at hL; cases hL
      · rw [p1] at hL; injection hL with hL; subst hL; exact ⟨kk, cc, ee, p2, p3, p4, p5⟩
    obtain ⟨kk, cc, ee, p2, p3, p4, p5⟩ := hown
    by_cases hroom : n + m ≤ c'
    · have hbound : (n + m) * k ≤ L.tot := by
        have h1 : (n + m) * k ≤ c' * k := Nat.mul_le_mul_right _ hroom
        rw [hLe] at ht; omega
      have hl' : news'.length = m * k := by rw [← q1.1, q2]
      rw [Nat.add_mul] at hbound
      subst i3
      have hrun := run_append_room_src (P := P) w t tx o.type e ti hu i1 kk 0 n c' (a.eval x) m news' q4 hroom
        (fun j hj => by
          have : n * ti.size + j < cc.size := by omega
          simp only [World.cell?, p4]; simp; omega)
        (fun j hj => by simp [World.frozen?, p4])
      rw [Nat.zero_add, ← hlen] at hrun
      have hx1 := setLoc_ext hj0 L
      refine ⟨setLoc μ nx L, .slice (some L.at_) (n + m) c', w.setCells kk b'.cells.length news', .inl ?_, fun y hy => ?_, hx1, setLoc_free (Nat.le_refl _) (Nat.lt_succ_self _), ?_, below_setCells p3 _ _ _ hbel, by rw [size_setCells]; exact hsz, stU, .inl updU⟩
      · rw [p2] at hy ⊢
        simp [execOp, ho, resolve, invoke, builtin, hy, hrun]
      · injection hy with hy; subst hy
        exact .sl nx 0 (n + m) (n + m + 2) L _ c' (setLoc_same _ _ _) hroom (by omega) (.inr (.inr rfl)) ht (fun _ => ea0.symm)
      · exact hH.extend hb' hb2 hj0 hL p2 news news' q1 q3 (by rw [hlen, q2]; exact hbound)
    · have hcells : cellsAt H i 0 (n * k) = some b'.cells := by
        unfold cellsAt; rw [hb']; simp only [List.drop_zero]
        rw [if_pos (by omega), ← hlen, List.take_length, if_pos rfl]
      obtain ⟨cs', r1, r2, r3, r4⟩ := cellsAt_ok hH (HLe.refl H) hcells L hL
      refine grow (some L.at_) c' cs' hy (by omega) r1 r3 (run_firstCells_some w.drew k n L.at_ n c' cs' (by rw [← r1.1, r2]) fun j v hj => ?_)
      have := r4 j v hj
      rw [ea0] at this; exact this
theorem append_ok {P : Program} {o : Oper} {ts : List (Nat × Value)} {hp : Heap} {t tx : TypeId} {s x : Operand} {vs vx : Value} {nx : Nat} {e : Eff}
    (ho : o.op = .call { callee := .builtin .append, args := #[s, x], argTypes := #[t, tx] }) (hs : ev ts s = some vs) (hx : ev ts x = some vx) (he : effAppend P hp nx t tx vs vx = some e) : OpOK P o ts hp nx (nx + 1) e := by
  unfold effAppend at he
  split at he
  · rename_i el ex hu hux
    obtain ⟨⟨k, by_⟩, hinfo, he⟩ := Option.bind_eq_some_iff.1 he
    obtain ⟨⟨m, news⟩, hsrc, he⟩ := Option.bind_eq_some_iff.1 he
    simp only at he
    by_cases hb0 : by_ = 0
    · rw [if_pos hb0] at he; cases he
    have hk0 : 0 < by_ := Nat.pos_of_ne_zero hb0
    rw [if_neg hb0] at he
    split at he
    · rename_i hm
      subst hm
      split at he
      · injection he with he; subst he
        refine OpOK.pure fun μ B H ts' nt a w hl hhl hH hT hst => ?_
        obtain ⟨i, z, i1, i2, i3, i4, i5⟩ := infoOf_ok hinfo
        obtain ⟨news', q1, q2, q3, q4⟩ := src_ok (P := P) hH hhl hux hsrc (ev_ok hT (ev_le hl hx))
        have hn : news = [] := List.eq_nil_of_length_eq_zero (by simpa using q2)
        subst hn
        have := q1.of_nil; subst this
        have hr := ev_ok hT (ev_le hl hs)
        have hform : ∃ base n c, a.eval s = .slice base n c ∧ n ≤ c := by
          generalize a.eval s = y at hr
          cases hr with
          | flat _ h => obtain ⟨rfl, rfl, rfl⟩ := flat_slice h; exact ⟨_, _, _, rfl, Nat.le_refl _⟩
          | sl _ _ _ _ L a c' hL hc => exact ⟨_, _, _, rfl, hc⟩
          | slnil => exact ⟨_, _, _, rfl, Nat.le_refl _⟩
        obtain ⟨base, n, c, e1, hnc⟩ := hform
        subst i3
        refine ⟨a.eval s, ?_, hr⟩
        have := run_append_nothing (P := P) w t tx o.type el i hu i1 base n c hnc _ q4
        simp [execOp, ho, resolve, invoke, builtin, e1, this]
      · cases he
    · rename_i hm
      split at he
      · split at he
        · rename_i hfit
          injection he with he; subst he
          · have := grow_ok (nx := nx) (n := 0) (olds := []) (P := P) (o := o) (hp := hp) ho hu hux hinfo hs hx hsrc hm (by simpa using hfit) hk0 (fun B μ H w v' _ _ hv => by
              have := hv.scal rfl; subst this
              exact ⟨none, 0, [], rfl, by omega, .nil _, by simp, by simp, by simp [Builtin.firstCells]⟩)
            simpa using this
        · cases he
      · rename_i i off n c
        split at he
        · rename_i hfit
          split at he
          · rename_i hcn
            obtain ⟨olds, holds, he⟩ := Option.map_eq_some_iff.1 he
            subst he
            · refine grow_ok (P := P) (o := o) (hp := hp) ho hu hux hinfo hs hx hsrc hm hfit hk0 (fun B μ H w v' hl hH hv => ?_)
              cases hv with
              | flat _ h => simp [flat, scalar] at h
              | slnil => omega
              | sl _ _ _ _ L a c' hL hc hxe hcn' ht ha =>
                have hcc := hxe hcn
                obtain ⟨cs', r1, r2, r3, r4⟩ := cellsAt_ok hH hl holds L hL
                refine ⟨some a, c', cs', rfl, by omega, r1, r3, r2, ?_⟩
                refine run_firstCells_some w.drew k _ a _ c' cs' (by rw [← r1.1, r2]) fun j v hj => ?_
                have hpos : 0 < i := by
                  have : 0 < cs'.length := by have := (List.getElem?_eq_some_iff.1 hj).1; omega
                  rw [← r1.1, r2] at this
                  rcases Nat.eq_zero_or_pos i with h0 | h0
                  · subst h0; simp at this
                  · exact h0
                rw [ha (.inl (by omega))]; exact r4 j v hj
          · rename_i hcn
            obtain ⟨b, hb, he⟩ := Option.bind_eq_some_iff.1 he
            split at he
            · rename_i hcond
              obtain ⟨h2, hesz, ho0, hlen⟩ := hcond
              injection he with he; subst he
              subst ho0
              exact inplace_ok ho hu hux hinfo hs hx hsrc hm hfit hk0 hb h2 hesz hlen hcn
            · cases he
        · cases he
      · cases he
  · cases he
end Go.Am
