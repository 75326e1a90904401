/-
An abstract machine over the kit's wp calculus, part 7: make, clear; any operation that calls nothing; operations in a row.
-/
import Derived.Test.YtbihgmehjhlojaaAm6
set_option linter.unusedVariables false
set_option linter.unusedSimpArgs false
namespace Go.Am
open Go Go.RowKit

def effMake (P : Program) (nx : Nat) (t : TypeId) (vl vc : Value) : Option Eff :=
  match P.underlying t with
  | some (.slice e) => (infoOf P e).bind fun (k, by_) => (zeroOf P e).bind fun z => (asN vl).bind fun l => (asN vc).bind fun c =>
      if l ≤ c ∧ by_ * c ≤ 281474976710656 ∧ c ≤ 9223372036854775807 ∧ cellsOf z ≠ [] then
        some { val := some (.slice (some ⟨nx, 0, none⟩) l (if c = l then l else l + 2)), upd := [(nx, { cells := zeroRow (cellsOf z) (l * k), st := 2, par := [], esz := k })] } else none
  | _ => none
theorem make_ok {P : Program} {o : Oper} {ts : List (Nat × Value)} {hp : Heap} {t : TypeId} {x y : Operand} {vl vc : Value} {nx : Nat} {e : Eff} (ho : o.op = .makeSlice t x y) (hx : ev ts x = some vl) (hy : ev ts y = some vc) (he : effMake P nx t vl vc = some e) : OpOK P o ts hp nx (nx + 1) e := by
  unfold effMake at he
  split at he
  · rename_i el hu
    obtain ⟨⟨k, by_⟩, hinfo, he⟩ := Option.bind_eq_some_iff.1 he
    obtain ⟨z, hz, he⟩ := Option.bind_eq_some_iff.1 he
    obtain ⟨l, hl', he⟩ := Option.bind_eq_some_iff.1 he
    obtain ⟨c, hc', he⟩ := Option.bind_eq_some_iff.1 he
    split at he
    · rename_i hcond
      obtain ⟨h1, h2, h3, h4⟩ := hcond
      injection he with he; subst he
      refine new_ok (Nat.lt_succ_self _) fun B μ H ts' nt a w hl hhl hH hT => ?_
      obtain ⟨kl, ea⟩ := asN_ok hl' (ev_ok hT (ev_le hl hx))
      obtain ⟨kc, eb⟩ := asN_ok hc' (ev_ok hT (ev_le hl hy))
      obtain ⟨i, z', i1, i2, i3, i4, i5⟩ := infoOf_ok hinfo
      obtain ⟨r1, r2, j, j1, j2⟩ := zeroOf_ok hz
      rw [i1] at j1; injection j1 with j1; subst j1
      rw [i2] at j2; injection j2 with j2; subst j2
      subst i3; subst i4
      have hrun := run_make (P := P) w t el i z' hu i1 i2 kl kc (l : Int) (c : Int) (by omega) (by omega) (by rw [← Int.natCast_mul]; exact Int.ofNat_le.2 h2) (by omega)
      simp only [Int.toNat_natCast] at hrun
      have hle : l * i.size ≤ c * i.size := Nat.mul_le_mul_right _ h1
      refine ⟨madeCells z'.cells (c * i.size), el, .slice (some ⟨w.heap.size, 0, none⟩) l c, 0, ?_, ?_, fun j u hj => ?_, ?_⟩
      · simp [execOp, ho, ea, eb, hrun, drewN_zero]
      · rw [zeroRow_length, size_madeCells]; exact hle
      · have hs : scalar u = true := zeroRow_scalar r2 h4 _ u (List.mem_of_getElem? hj)
        refine ⟨scalar_cell1 hs, u, ?_, .flat _ (scalar_flat hs)⟩
        have hjl : j < l * i.size := by have := (List.getElem?_eq_some_iff.1 hj).1; rwa [zeroRow_length] at this
        rw [← Array.getElem?_toList, zeroRow_made]
        rw [← hj]
        unfold zeroRow
        have hjc : j < c * i.size := by omega
        simp only [List.getElem?_map, List.getElem?_range hjl, List.getElem?_range hjc]
      · refine .sl nx 0 l _ _ _ c (setLoc_same _ _ _) h1 (fun q => ?_) ?_ (by simp only [Nat.zero_add, size_madeCells]; exact Nat.le_refl _) (fun _ => by simp [Addr.add])
        · split at q
          · assumption
          · omega
        · split
          · exact .inl rfl
          · exact .inr (.inr rfl)
    · cases he
  · cases he

def effClear (P : Program) (hp : Heap) (t : TypeId) (s : Value) : Option Eff :=
  match P.underlying t, s with
  | some (.slice e), .slice (some ⟨i, o, none⟩) n _ =>
    if n = 0 then some { val := some (.tuple #[]), upd := [] } else
    (get hp i).bind fun b => (sizeT P e).bind fun k => (zeroOf P e).bind fun z =>
      if b.st = 2 ∧ (cellsOf z).length = k ∧ o + n * k ≤ b.cells.length ∧ 0 < k then some { val := some (.tuple #[]), upd := updStore i b (splice b.cells (zeroRow (cellsOf z) (n * k)) o) } else none
  | some (.slice _), .slice none 0 0 => some { val := some (.tuple #[]), upd := [] }
  | _, _ => none
theorem zeroCells_list (z : Array Value) (n : Nat) : (Builtin.zeroCells z n).toList = zeroRow z.toList (n * z.size) := by
  simp [Builtin.zeroCells, zeroRow]
theorem clear_ok {P : Program} {o : Oper} {ts : List (Nat × Value)} {hp : Heap} {t : TypeId} {x : Operand} {v : Value} {e : Eff} (ho : o.op = .call { callee := .builtin .clear, args := #[x], argTypes := #[t] }) (hx : ev ts x = some v) (he : effClear P hp t v = some e) (lo hi : Nat) :
    OpOK P o ts hp lo hi e := by
  unfold effClear at he
  split at he
  · rename_i el i off n c hu
    split at he
    · rename_i h0
      subst h0
      injection he with he; subst he
      refine OpOK.pure fun μ B H ts' nt a w hl hhl hH hT hst => ?_
      have hr := ev_ok hT (ev_le hl hx)
      refine ⟨.tuple #[], ?_, .flat _ rfl⟩
      generalize hy : a.eval x = y at hr
      cases hr with
      | flat _ h => simp [flat, scalar] at h
      | slnil => simp [execOp, ho, resolve, invoke, builtin, hy, Builtin.clear_, run_underlying hu]
      | sl => simp [execOp, ho, resolve, invoke, builtin, hy, Builtin.clear_, run_underlying hu]
    · rename_i h0
      obtain ⟨b, hb, he⟩ := Option.bind_eq_some_iff.1 he
      obtain ⟨k, hk, he⟩ := Option.bind_eq_some_iff.1 he
      obtain ⟨z, hz, he⟩ := Option.bind_eq_some_iff.1 he
      split at he
      · rename_i hcond
        obtain ⟨h2, hzl, hle, hk0⟩ := hcond
        injection he with he; subst he
        refine OpOK.mem fun B μ H ts' nt a w w0 hl hhl hH hT hst hsz hF hbel hnd => ?_
        obtain ⟨r1, r2, _⟩ := zeroOf_ok hz
        obtain ⟨b', hb', e1, e2, e3, e4⟩ := hhl i b hb (by omega)
        have hb2 : b'.st = 2 := by have := hst i b' hb'; omega
        have ebb : b' = b := by
          cases b; cases b'; simp only at e1 e2 e3 hb2 h2; subst e1; subst e2; subst e3; rw [hb2, h2]
        subst ebb
        have hr := ev_ok hT (ev_le hl hx)
        have hzs : z.cells.size = k := by rw [← hzl, cellsOf_eq, Array.length_toList]
        have hz0 : cellsOf z ≠ [] := by intro q; rw [q] at hzl; simp at hzl; omega
        have hsc := zeroRow_scalar r2 hz0 (n * k)
        generalize hy : a.eval x = y at hr
        cases hr with
        | flat _ h => simp [flat, scalar] at h
        | slnil => omega
        | sl _ _ _ _ L ad c' hL hc hxe hcn ht ha =>
          have := ha (.inl (by omega)); subst this
          rcases hH.own i b' hb' hb2 with ⟨q, _⟩ | ⟨L', kk, cc, ee, q1, q2, q3, q4, q5, q6⟩
          · rw [q] at hL; cases hL
          · rw [q1] at hL; injection hL with hL; subst hL
            have hlen : (zeroRow (cellsOf z) (n * k)).length = n * k := zeroRow_length _ _
            have hst2 : (storeCells ⟨kk, off, none⟩ (zeroRow (cellsOf z) (n * k))).run P w = .ok () (w.setCells kk off (zeroRow (cellsOf z) (n * k))) := by
              have := run_storeCells_cells (P := P) kk off (zeroRow (cellsOf z) (n * k)) 0 w
                (by
                  intro j hj
                  have : off + 0 + j < cc.size := by omega
                  simp only [World.cell?, q4]; simp; omega)
                (by intro j hj; simp [World.frozen?, q4])
                (by intro u hu; have := hsc u hu; cases u <;> simp_all [scalar, Value.oneCell'])
              simpa using this
            refine ⟨μ, .tuple #[], w.setCells kk off (zeroRow (cellsOf z) (n * k)), .inl ?_, (fun x hx => by injection hx with hx; subst hx; exact .flat _ rfl), Ext.refl _, fun i h _ => h, ?_, below_setCells q3 _ _ _ hbel, by rw [size_setCells]; exact hsz, ?_, .inl (updOK_store hb' hb2)⟩
            · have hadd : L'.at_.add off = ⟨kk, off, none⟩ := by rw [q2]; exact Am.add_lit kk off
              have ez : (Builtin.zeroCells z.cells n).toList = zeroRow (cellsOf z) (n * k) := by rw [zeroCells_list, hzs, cellsOf_eq]
              have hn : ∃ q, n = q + 1 := ⟨n - 1, by omega⟩
              obtain ⟨q, rfl⟩ := hn
              simp only [execOp, ho, resolve, invoke, builtin, List.map_toArray, List.map_cons, List.map_nil, hy, Sem.run_bind, Sem.run_pure, Result.andThen_ok]
              simp only [Builtin.clear_, List.getElem?_toArray, List.getElem?_cons_zero, Sem.run_bind, run_underlying hu, Result.andThen_ok, r1, ez, hadd, hst2, Sem.run_pure]
            · exact hH.store hb' hb2 q1 q2 off _ _ (rels_scalar hsc) (fun v hv => scalar_cell1 (hsc v hv)) (by omega)
            · intro j y hy
              rcases get_updStore hy with rfl | ⟨rfl, rfl⟩ | ⟨_, _, hy⟩
              · simp [gone]
              · show b'.st ≤ 2; omega
              · exact hst j y hy
      · cases he
  · rename_i el hu
    injection he with he; subst he
    refine OpOK.pure fun μ B H ts' nt a w hl hhl hH hT hst => ?_
    have hr := (ev_ok hT (ev_le hl hx)).scal rfl
    exact ⟨.tuple #[], by simp [execOp, ho, resolve, invoke, builtin, hr, Builtin.clear_, run_underlying hu], .flat _ rfl⟩
  · cases he

/-! ### any operation that calls no function -/
def evOpt (ts : List (Nat × Value)) : Option Operand → Option (Option Value)
  | none => some none
  | some x => (ev ts x).map some
theorem evOpt_ok {μ : Nat → Option Loc} {ts : List (Nat × Value)} {nt : NT} {a : Act} (h : TRel μ ts nt a) {x : Option Operand} {v : Option Value} (hx : evOpt ts x = some v) : ORel μ v (x.map a.eval) := by
  cases x with
  | none => simp [evOpt] at hx; subst hx; exact .none
  | some x =>
    obtain ⟨u, hu, rfl⟩ := Option.map_eq_some_iff.1 hx
    exact .some _ _ (ev_ok h hu)
theorem evOpt_le {ts ts' : List (Nat × Value)} (hl : TLe ts ts') {x : Option Operand} {v : Option Value} (h : evOpt ts x = some v) : evOpt ts' x = some v := by
  cases x with
  | none => exact h
  | some x =>
    obtain ⟨u, hu, rfl⟩ := Option.map_eq_some_iff.1 h
    exact Option.map_eq_some_iff.2 ⟨u, ev_le hl hu, rfl⟩

def val1 (v : Value) : Eff := { val := some v, upd := [] }
def evalOp (P : Program) (ts : List (Nat × Value)) (hp : Heap) (nx : Nat) (o : Oper) : Option (Eff × Nat) :=
  match o.op with
  | .load t x => (ev ts x).bind fun v => (valLoad P hp t v).map fun u => (val1 u, nx)
  | .indexAddr t x ix => (ev ts x).bind fun vx => (ev ts ix).bind fun vi => (valIndexAddr P hp t vx vi).map fun u => (val1 u, nx)
  | .slice t x lo hi mx => (ev ts x).bind fun vx => (evOpt ts lo).bind fun l => (evOpt ts hi).bind fun h => (evOpt ts mx).bind fun m => (valSlice P hp t vx l h m).map fun u => (val1 u, nx)
  | .store t x y => (ev ts x).bind fun va => (ev ts y).bind fun v => (effStore P hp t va v).map fun e => (e, nx)
  | .alloc t => (effAlloc P nx t).map fun e => (e, nx + 1)
  | .box t x => (ev ts x).bind fun v => (effBox nx v).map fun e => (e, nx + 1)
  | .build t parts => (parts.toList.mapM fun p => (ev ts p.2).map fun v => (p.1, v)).bind fun vs => (valBuild P t vs).map fun u => (val1 u, nx)
  | .buildSlice t len parts => (parts.toList.mapM fun p => (ev ts p.2).map fun v => (p.1, v)).bind fun vs => (effLit P nx t len vs).map fun e => (e, nx + 1)
  | .makeSlice t x y => (ev ts x).bind fun vl => (ev ts y).bind fun vc => (effMake P nx t vl vc).map fun e => (e, nx + 1)
  | .call { callee := .builtin .append, args := ⟨[s, x]⟩, argTypes := ⟨[t, tx]⟩ } => (ev ts s).bind fun vs => (ev ts x).bind fun vx => (effAppend P hp nx t tx vs vx).map fun e => (e, nx + 1)
  | .call { callee := .builtin .clear, args := ⟨[x]⟩, argTypes := ⟨[t]⟩ } => (ev ts x).bind fun v => (effClear P hp t v).map fun e => (e, nx)
  | _ => (evalVal P ts o).map fun u => (val1 u, nx)

theorem OpOK.widen {P : Program} {o : Oper} {ts : List (Nat × Value)} {hp : Heap} {lo hi hi' : Nat} {e : Eff} (h : OpOK P o ts hp lo hi e) (hh : hi ≤ hi') : OpOK P o ts hp lo hi' e := by
  intro B w0 μ F ts' hp' nt a w next Q htl hhl hr hF hd hk
  refine h B w0 μ F ts' hp' nt a w next Q htl hhl hr (fun i h1 h2 => hF i h1 (by omega)) hd fun μ' a' w' hx ho hr' => hk μ' a' w' hx (fun i hi => ho i fun q => hi ⟨q.1, by omega⟩) ?_
  exact ⟨hr'.t, hr'.h, hr'.below, hr'.size, fun i hi => hr'.free i ⟨hi.1, fun q => hi.2 ⟨q.1, by omega⟩⟩, hr'.st, fun i b hi hb => hr'.dom i b ⟨hi.1, fun q => hi.2 ⟨q.1, by omega⟩⟩ hb⟩
theorem evalOp_ok {P : Program} {ts : List (Nat × Value)} {hp : Heap} {nx nx' : Nat} {o : Oper} {e : Eff} (h : evalOp P ts hp nx o = some (e, nx')) : OpOK P o ts hp nx nx' e ∧ nx ≤ nx' := by
  unfold evalOp at h
  split at h
  · rename_i t x ho
    obtain ⟨v, hv, h⟩ := Option.bind_eq_some_iff.1 h
    obtain ⟨u, hu, h⟩ := Option.map_eq_some_iff.1 h
    injection h with h1 h2; subst h1; subst h2
    refine ⟨OpOK.pure fun μ B H ts' nt a w hl hhl hH hT hst => ?_, Nat.le_refl _⟩
    obtain ⟨u', q1, q2⟩ := load_ok (P := P) hH hhl hu (ev_ok hT (ev_le hl hv))
    exact ⟨u', by simp [execOp, ho, q1], q2⟩
  · rename_i t x ix ho
    obtain ⟨v, hv, h⟩ := Option.bind_eq_some_iff.1 h
    obtain ⟨vi, hvi, h⟩ := Option.bind_eq_some_iff.1 h
    obtain ⟨u, hu, h⟩ := Option.map_eq_some_iff.1 h
    injection h with h1 h2; subst h1; subst h2
    refine ⟨OpOK.pure fun μ B H ts' nt a w hl hhl hH hT hst => ?_, Nat.le_refl _⟩
    obtain ⟨u', q1, q2⟩ := indexAddr_ok (P := P) hu (ev_ok hT (ev_le hl hv)) (ev_ok hT (ev_le hl hvi)) w
    exact ⟨u', by simp [execOp, ho, q1], q2⟩
  · rename_i t x lo hi mx ho
    obtain ⟨v, hv, h⟩ := Option.bind_eq_some_iff.1 h
    obtain ⟨l, hl', h⟩ := Option.bind_eq_some_iff.1 h
    obtain ⟨hh, hh', h⟩ := Option.bind_eq_some_iff.1 h
    obtain ⟨m, hm', h⟩ := Option.bind_eq_some_iff.1 h
    obtain ⟨u, hu, h⟩ := Option.map_eq_some_iff.1 h
    injection h with h1 h2; subst h1; subst h2
    refine ⟨OpOK.pure fun μ B H ts' nt a w hl hhl hH hT hst => ?_, Nat.le_refl _⟩
    obtain ⟨u', q1, q2⟩ := slice_ok (P := P) hH hhl hu (ev_ok hT (ev_le hl hv)) (evOpt_ok hT (evOpt_le hl hl')) (evOpt_ok hT (evOpt_le hl hh')) (evOpt_ok hT (evOpt_le hl hm'))
    exact ⟨u', by simp [execOp, ho, q1], q2⟩
  · rename_i t x y ho
    obtain ⟨va, hva, h⟩ := Option.bind_eq_some_iff.1 h
    obtain ⟨v, hv, h⟩ := Option.bind_eq_some_iff.1 h
    obtain ⟨u, hu, h⟩ := Option.map_eq_some_iff.1 h
    injection h with h1 h2; subst h1; subst h2
    exact ⟨store_ok ho hva hv hu _ _, Nat.le_refl _⟩
  · rename_i t ho
    obtain ⟨u, hu, h⟩ := Option.map_eq_some_iff.1 h
    injection h with h1 h2; subst h1; subst h2
    exact ⟨alloc_ok ho hu, Nat.le_succ _⟩
  · rename_i t x ho
    obtain ⟨v, hv, h⟩ := Option.bind_eq_some_iff.1 h
    obtain ⟨u, hu, h⟩ := Option.map_eq_some_iff.1 h
    injection h with h1 h2; subst h1; subst h2
    exact ⟨box_ok ho hv hu, Nat.le_succ _⟩
  · rename_i t parts ho
    obtain ⟨v, hv, h⟩ := Option.bind_eq_some_iff.1 h
    obtain ⟨u, hu, h⟩ := Option.map_eq_some_iff.1 h
    injection h with h1 h2; subst h1; subst h2
    exact ⟨build_ok ho hv hu _ _, Nat.le_refl _⟩
  · rename_i t len parts ho
    obtain ⟨v, hv, h⟩ := Option.bind_eq_some_iff.1 h
    obtain ⟨u, hu, h⟩ := Option.map_eq_some_iff.1 h
    injection h with h1 h2; subst h1; subst h2
    exact ⟨lit_ok ho hv hu, Nat.le_succ _⟩
  · rename_i t x y ho
    obtain ⟨va, hva, h⟩ := Option.bind_eq_some_iff.1 h
    obtain ⟨v, hv, h⟩ := Option.bind_eq_some_iff.1 h
    obtain ⟨u, hu, h⟩ := Option.map_eq_some_iff.1 h
    injection h with h1 h2; subst h1; subst h2
    exact ⟨make_ok ho hva hv hu, Nat.le_succ _⟩
  · rename_i s x t tx ho
    obtain ⟨vs, hvs, h⟩ := Option.bind_eq_some_iff.1 h
    obtain ⟨v, hv, h⟩ := Option.bind_eq_some_iff.1 h
    obtain ⟨u, hu, h⟩ := Option.map_eq_some_iff.1 h
    injection h with h1 h2; subst h1; subst h2
    exact ⟨append_ok ho hvs hv hu, Nat.le_succ _⟩
  · rename_i x t ho
    obtain ⟨v, hv, h⟩ := Option.bind_eq_some_iff.1 h
    obtain ⟨u, hu, h⟩ := Option.map_eq_some_iff.1 h
    injection h with h1 h2; subst h1; subst h2
    exact ⟨clear_ok ho hv hu _ _, Nat.le_refl _⟩
  · obtain ⟨u, hu, h⟩ := Option.map_eq_some_iff.1 h
    injection h with h1 h2; subst h1; subst h2
    exact ⟨evalVal_ok hu hp _ _, Nat.le_refl _⟩
end Go.Am
