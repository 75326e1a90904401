/-
An abstract machine over the kit's wp calculus, part 5: stores, new blocks, append; all operations but calls.
-/
import Derived.Test.YtbihgmehjhlojaaAm4
import Derived.Deep.Upon
set_option linter.unusedVariables false
set_option linter.unusedSimpArgs false
namespace Go.Am
open Go Go.RowKit

/-- of the free numbers no block is told -/
def UpdOK (H upd : Heap) (lo hi : Nat) : Prop := ∀ i b, get (puts H upd) i = some b → (lo ≤ i ∧ i < hi) ∨ b.st = 0 ∨ ∃ b', get H i = some b' ∧ b'.st ≠ 0
/-- what an operation that returns a value owes -/
theorem OpOK.mem {P : Program} {o : Oper} {ts : List (Nat × Value)} {hp : Heap} {lo hi : Nat} {e : Eff}
    (h : ∀ (B : Nat) (μ : Nat → Option Loc) (H : Heap) (ts' : List (Nat × Value)) (nt : NT) (a : Act) (w w0 : World), TLe ts ts' → HLe hp H → HRel B μ H w → TRel μ ts' nt a → (∀ i b, get H i = some b → b.st ≤ 2) → B ≤ w.heap.size → (∀ i, lo ≤ i → i < hi → μ i = none) → Kept B w0 w → (∀ i b, lo ≤ i → i < hi → get H i = some b → b.st = 0) →
      ∃ (μ' : Nat → Option Loc) (v' : Value) (w' : World), ((execOp a.eval o).run P w = .ok (.value v') w' ∨ ((execOp a.eval o).run P w = .ok .skip w' ∧ v' = undef)) ∧ (∀ x, e.val = some x → VRel μ' x v') ∧ Ext μ μ' ∧ (∀ i, μ i = none → (i < lo ∨ hi ≤ i) → μ' i = none) ∧
        HRel B μ' (puts H e.upd) w' ∧ Kept B w0 w' ∧ B ≤ w'.heap.size ∧ (∀ i b, get (puts H e.upd) i = some b → b.st ≤ 2) ∧ (UpdOK H e.upd lo hi ∨ e.upd = [])) :
    OpOK P o ts hp lo hi e := by
  intro B w0 μ F ts' hp' nt a w next Q htl hhl hr hF hd hk
  obtain ⟨μ', v', w', hrun, hv, hx, hfree, hH, hb, hsz, hst, hdom⟩ := h B μ hp' ts' nt a w w0 htl hhl hr.h hr.t hr.st hr.size (fun i h1 h2 => hr.free i (hF i h1 h2)) hr.below (fun i b h1 h2 hb => hr.dom i b (hF i h1 h2) hb)
  have R : Rel B w0 μ' (fun i => F i ∧ ¬ (lo ≤ i ∧ i < hi)) (putDst ts' o.dst e.val) (puts hp' e.upd) nt (a.put o.dst v') w' :=
    ⟨(hr.t.mono hx).put o.dst hd e.val v' hv, hH, hb, hsz, fun i hi => hfree i (hr.free i hi.1) (by have := hi.2; omega), hst, fun i b hi hb => by
      rcases hdom with hdom | hdom
      · rcases hdom i b hb with q | q | ⟨b', q1, q2⟩
        · exact absurd q hi.2
        · exact q
        · exact absurd (hr.dom i b' hi.1 q1) q2
      · rw [hdom] at hb; exact hr.dom i b hi.1 hb⟩
  have out : ∀ i, ¬ (lo ≤ i ∧ i < hi) → μ' i = μ i := fun i hi => by
    cases hm : μ i with
    | none => exact hfree i hm (by omega)
    | some L => exact hx i L hm
  unfold Oper.wp
  rcases hrun with hrun | ⟨hrun, rfl⟩
  · rw [hrun, Oper.upon_value]; exact hk μ' _ w' hx out R
  · rw [hrun, Oper.upon_skip]; exact hk μ' _ w' hx out R

theorem st_put {H : Heap} {i : Nat} {b : Blk} (h : ∀ i b, get H i = some b → b.st ≤ 2) (hb : b.st ≤ 2) : ∀ j x, get (puts H [(i, b)]) j = some x → x.st ≤ 2 := by
  intro j x hx
  simp only [puts, get_put] at hx
  split at hx
  · injection hx with hx; subst hx; exact hb
  · exact h j x hx
theorem updOK_put {H : Heap} {lo hi i : Nat} {b : Blk} (h1 : lo ≤ i) (h2 : i < hi) : UpdOK H [(i, b)] lo hi := by
  intro j x hx
  simp only [puts, get_put] at hx
  split at hx
  · rename_i e; subst e; exact .inl ⟨h1, h2⟩
  · by_cases h0 : x.st = 0
    · exact .inr (.inl h0)
    · exact .inr (.inr ⟨x, hx, h0⟩)
theorem updOK_store {H : Heap} {lo hi i : Nat} {b : Blk} {cs : List Value} (hb : get H i = some b) (h2 : b.st = 2) : UpdOK H (updStore i b cs) lo hi := by
  intro j x hx
  rcases get_updStore hx with rfl | ⟨rfl, rfl⟩ | ⟨_, _, hx⟩
  · exact .inr (.inl rfl)
  · exact .inr (.inr ⟨b, hb, by omega⟩)
  · by_cases h0 : x.st = 0
    · exact .inr (.inl h0)
    · exact .inr (.inr ⟨x, hx, h0⟩)
theorem updOK_app {H : Heap} {lo hi i j : Nat} {b : Blk} {vs : List Value} (hij : i ≠ j) (hb : get H i = some b) (h2 : b.st = 2) (h3 : lo ≤ j) (h4 : j < hi) : UpdOK H (updApp i j b vs) lo hi := by
  intro m x hx
  rcases get_updApp hij hx with ⟨rfl, rfl⟩ | ⟨rfl, rfl⟩ | ⟨_, _, hx⟩
  · exact .inl ⟨h3, h4⟩
  · exact .inr (.inr ⟨b, hb, by omega⟩)
  · by_cases h0 : x.st = 0
    · exact .inr (.inl h0)
    · exact .inr (.inr ⟨x, hx, h0⟩)
theorem setLoc_free {μ : Nat → Option Loc} {i lo hi : Nat} {L : Loc} (h1 : lo ≤ i) (h2 : i < hi) : ∀ j, μ j = none → (j < lo ∨ hi ≤ j) → setLoc μ i L j = none := by
  intro j hj hr
  rw [setLoc_other _ (by omega)]; exact hj

/-! ### stores -/
def effStore (P : Program) (hp : Heap) (t : TypeId) (va v : Value) : Option Eff :=
  match va with
  | .pointer (some ⟨i, o, none⟩) =>
    (get hp i).bind fun b => (sizeT P t).bind fun k =>
      if b.st = 2 ∧ (cellsOf v).length = k ∧ o + k ≤ b.cells.length ∧ (cellsOf v).all cell1 ∧ 0 < k then some { val := none, upd := updStore i b (splice b.cells (cellsOf v) o) } else none
  | _ => none
theorem store_ok {P : Program} {o : Oper} {ts : List (Nat × Value)} {hp : Heap} {t : TypeId} {x y : Operand} {va v : Value} {e : Eff} (ho : o.op = .store t x y) (hx : ev ts x = some va) (hy : ev ts y = some v) (he : effStore P hp t va v = some e) (lo hi : Nat) :
    OpOK P o ts hp lo hi e := by
  refine OpOK.mem fun B μ H ts' nt a w w0 hl hhl hH hT hst hsz hF hbel hnd => ?_
  unfold effStore at he
  split at he
  · rename_i i off
    obtain ⟨b, hb, he⟩ := Option.bind_eq_some_iff.1 he
    obtain ⟨k, hk, he⟩ := Option.bind_eq_some_iff.1 he
    split at he
    · rename_i hc
      obtain ⟨h2, hlen, hle, h1, hk0⟩ := hc
      injection he with he; subst he
      obtain ⟨L, hL, ea⟩ := (ev_ok hT (ev_le hl hx)).pointer
      have hr := ev_ok hT (ev_le hl hy)
      have hcs := hr.cells
      obtain ⟨b', hb', e1, e2, e3, e4⟩ := hhl i b hb (by omega)
      have hb2 : b'.st = 2 := by have := hst i b' hb'; omega
      have ebb : b' = b := by
        cases b; cases b'; simp only at e1 e2 e3 hb2 h2; subst e1; subst e2; subst e3; rw [hb2, h2]
      subst ebb
      have hown := hH.own i b' hb' hb2
      rcases hown with ⟨q, _⟩ | ⟨L', kk, c, ee, q1, q2, q3, q4, q5, q6⟩
      · rw [q] at hL; cases hL
      · rw [q1] at hL; injection hL with hL; subst hL
        have hl' : (a.eval y).cells.toList.length = k := by rw [← hcs.1, hlen]
        have hst2 : (storeCells ⟨kk, off, none⟩ (a.eval y).cells.toList).run P w = .ok () (w.setCells kk off (a.eval y).cells.toList) := by
          have := run_storeCells_cells (P := P) kk off (a.eval y).cells.toList 0 w
            (by
              intro j hj
              have : off + 0 + j < c.size := by omega
              simp only [World.cell?, q4]; simp; omega)
            (by intro j hj; simp [World.frozen?, q4])
            (by
              intro u hu
              obtain ⟨j, hj, rfl⟩ := List.getElem_of_mem hu
              have hjl : j < (cellsOf v).length := by rw [hcs.1]; exact hj
              have := hcs.2 j _ _ (List.getElem?_eq_getElem hjl) (List.getElem?_eq_getElem hj)
              exact this.cell1 (List.all_eq_true.1 h1 _ (List.getElem_mem hjl)))
          simpa using this
        refine ⟨μ, undef, w.setCells kk off (a.eval y).cells.toList, .inr ⟨?_, rfl⟩, (fun x hx => by cases hx), Ext.refl _, fun i h _ => h, ?_, below_setCells q3 _ _ _ hbel, by rw [size_setCells]; exact hsz, ?_, .inl (updOK_store hb' hb2)⟩
        · have hadd : L'.at_.add off = ⟨kk, off, none⟩ := by rw [q2]; exact Am.add_lit kk off
          have hsize : ¬ ((a.eval y).cells.size ≠ k) := by rw [← Array.length_toList]; omega
          simp only [execOp, ho, ea, Instr.storeAt, Instr.sureAddr, hadd, storeVar, Sem.run_bind, Sem.run_pure, Result.andThen_ok, run_sizeT hk]
          rw [Sem.run_ite, if_neg hsize, hst2]; rfl
        · exact hH.store hb' hb2 q1 q2 off _ _ hcs (fun v hv => List.all_eq_true.1 h1 v hv) (by omega)
        · intro j x hx
          rcases get_updStore hx with rfl | ⟨rfl, rfl⟩ | ⟨_, _, hx⟩
          · simp [gone]
          · show b'.st ≤ 2; omega
          · exact hst j x hx
    · cases he
  · cases he

/-! ### new blocks -/
/-- what a new block's making comes to -/
theorem new_ok {P : Program} {o : Oper} {ts : List (Nat × Value)} {hp : Heap} {lo hi : Nat} {cs : List Value} {esz : Nat} {v : Value} (hlo : lo < hi)
    (h : ∀ (B : Nat) (μ : Nat → Option Loc) (H : Heap) (ts' : List (Nat × Value)) (nt : NT) (a : Act) (w : World), TLe ts ts' → HLe hp H → HRel B μ H w → TRel μ ts' nt a →
      ∃ (c : Array Value) (e : TypeId) (v' : Value) (n : Nat), (execOp a.eval o).run P w = .ok (.value v') ((w.drewN n).alloc (.cells c e)) ∧ cs.length ≤ c.size ∧ (∀ (j : Nat) (u : Value), cs[j]? = some u → cell1 u = true ∧ ∃ u', c[j]? = some u' ∧ VRel μ u u') ∧
        VRel (setLoc μ lo ⟨⟨w.heap.size, 0, none⟩, esz, c.size⟩) v v') :
    OpOK P o ts hp lo hi { val := some v, upd := [(lo, { cells := cs, st := 2, par := [], esz := esz })] } := by
  refine OpOK.mem fun B μ H ts' nt a w w0 hl hhl hH hT hst hsz hF hbel hnd => ?_
  obtain ⟨c, e, v', n, hrun, hlen, hcs, hv⟩ := h B μ H ts' nt a w hl hhl hH hT
  have hi0 : μ lo = none := hF lo (Nat.le_refl _) hlo
  have hH' : HRel B μ H (w.drewN n) := hH.world fun _ _ => rfl
  refine ⟨setLoc μ lo ⟨⟨w.heap.size, 0, none⟩, esz, c.size⟩, v', (w.drewN n).alloc (.cells c e), .inl hrun, fun x hx => by injection hx with hx; subst hx; exact hv, setLoc_ext hi0 _, setLoc_free (Nat.le_refl _) hlo, hH'.alloc hsz hi0 c e cs esz hlen hcs [], ?_, ?_, st_put hst (Nat.le_refl _), .inl (updOK_put (Nat.le_refl _) hlo)⟩
  · have : Kept B w0 (w.drewN n) := hbel.same rfl rfl rfl rfl
    exact this.alloc hsz _
  · simp [World.size_alloc, World.drewN]; omega
theorem drewN_zero (w : World) : w.drewN 0 = w := rfl

def effAlloc (P : Program) (nx : Nat) (t : TypeId) : Option Eff :=
  (zeroOf P t).map fun z => { val := some (.pointer (some ⟨nx, 0, none⟩)), upd := [(nx, { cells := cellsOf z, st := 2, par := [], esz := 1 })] }
theorem alloc_ok {P : Program} {o : Oper} {ts : List (Nat × Value)} {hp : Heap} {t : TypeId} {nx : Nat} {e : Eff} (ho : o.op = .alloc t) (he : effAlloc P nx t = some e) : OpOK P o ts hp nx (nx + 1) e := by
  obtain ⟨z, hz, rfl⟩ := Option.map_eq_some_iff.1 he
  obtain ⟨r1, r2, _⟩ := zeroOf_ok hz
  refine new_ok (Nat.lt_succ_self _) fun B μ H ts' nt a w hl hhl hH hT => ⟨z.cells, t, .pointer (some ⟨w.heap.size, 0, none⟩), 0, ?_, ?_, fun j u hj => ?_, .ptr nx 0 _ (setLoc_same _ _ _)⟩
  · simp [execOp, ho, Instr.alloc, r1, newVar, newRow, drewN_zero]
  · rw [cellsOf_eq]; simp
  · refine ⟨scalar_cell1 (r2 u (List.mem_of_getElem? hj)), u, ?_, .flat _ (scalar_flat (r2 u (List.mem_of_getElem? hj)))⟩
    rw [cellsOf_eq] at hj; rw [← Array.getElem?_toList]; exact hj
def effBox (nx : Nat) (v : Value) : Option Eff :=
  if (cellsOf v).all cell1 then some { val := some (.pointer (some ⟨nx, 0, none⟩)), upd := [(nx, { cells := cellsOf v, st := 2, par := [], esz := 1 })] } else none
theorem box_ok {P : Program} {o : Oper} {ts : List (Nat × Value)} {hp : Heap} {t : TypeId} {x : Operand} {v : Value} {nx : Nat} {e : Eff} (ho : o.op = .box t x) (hx : ev ts x = some v) (he : effBox nx v = some e) : OpOK P o ts hp nx (nx + 1) e := by
  unfold effBox at he
  split at he
  · rename_i h1
    injection he with he; subst he
    refine new_ok (Nat.lt_succ_self _) fun B μ H ts' nt a w hl hhl hH hT => ?_
    have hr := (ev_ok hT (ev_le hl hx)).cells
    refine ⟨(a.eval x).cells, t, .pointer (some ⟨w.heap.size, 0, none⟩), 0, ?_, ?_, fun j u hj => ?_, .ptr nx 0 _ (setLoc_same _ _ _)⟩
    · simp [execOp, ho, Instr.box, newVar, newRow, drewN_zero]
    · rw [hr.1]; simp
    · obtain ⟨u', q1, q2⟩ := hr.get hj
      exact ⟨List.all_eq_true.1 h1 u (List.mem_of_getElem? hj), u', by rw [← Array.getElem?_toList]; exact q1, q2⟩
  · cases he

/-! ### parts put together -/
def fillL (place : Nat → Option (Nat × Nat)) : List Value → List (Nat × Value) → Option (List Value)
  | cells, [] => some cells
  | cells, (i, v) :: rest =>
    match place i with
    | none => none
    | some (off, size) => if (cellsOf v).length = size ∧ off + (cellsOf v).length ≤ cells.length then fillL place (splice cells (cellsOf v) off) rest else none
theorem foldl_set (off : Nat) : ∀ (vs : List Value) (m : Nat) (cells : List Value), off + m + vs.length ≤ cells.length →
    (vs.zipIdx m).foldl (fun (cs : Array Value) (c, j) => cs.setIfInBounds (off + j) c) cells.toArray = (splice cells vs (off + m)).toArray
  | [], m, cells, h => by simp [splice]
  | v :: r, m, cells, h => by
    simp only [List.zipIdx_cons, List.foldl_cons, List.setIfInBounds_toArray]
    have hl : off + (m + 1) + r.length ≤ (cells.set (off + m) v).length := by simp at h ⊢; omega
    rw [foldl_set off r (m + 1) _ hl]
    congr 1
    apply List.ext_getElem?
    intro q
    rw [splice_get hl, splice_get h]
    simp only [List.length_cons] at h ⊢
    by_cases c1 : q < off + m
    · rw [if_pos (by omega), if_pos c1, List.getElem?_set_ne (by omega)]
    · rw [if_neg c1]
      by_cases c2 : q = off + m
      · subst c2
        rw [if_pos (by omega), if_pos (by omega), List.getElem?_set_self (by omega)]; simp
      · rw [if_neg (by omega)]
        by_cases c3 : q < off + (m + 1) + r.length
        · rw [if_pos c3, if_pos (by omega)]
          have : q - (off + m) = (q - (off + (m + 1))) + 1 := by omega
          rw [this, List.getElem?_cons_succ]
        · rw [if_neg c3, if_neg (by omega), List.getElem?_set_ne (by omega)]
inductive PRel (μ : Nat → Option Loc) : List (Nat × Value) → List (Nat × Value) → Prop
  | nil : PRel μ [] []
  | cons (i : Nat) (v v' : Value) (r r' : List (Nat × Value)) (h : VRel μ v v') (hs : PRel μ r r') : PRel μ ((i, v) :: r) ((i, v') :: r')
theorem splice_rel {μ : Nat → Option Loc} {a a' b b' : List Value} (h : VRels μ a a') (k : VRels μ b b') (o : Nat) : VRels μ (splice a b o) (splice a' b' o) := by
  unfold splice
  refine ((VRels.append ?_ k).append ?_)
  · have := h.sub 0 o; simpa using this
  · rw [← k.1]
    refine ⟨by simp [h.1], fun i v v' hv hv' => ?_⟩
    rw [List.getElem?_drop] at hv hv'
    exact h.2 _ v v' hv hv'
theorem fill_ok {μ : Nat → Option Loc} (place : Nat → Option (Nat × Nat)) : ∀ {parts parts' : List (Nat × Value)} {cells cells' out : List Value}, PRel μ parts parts' → VRels μ cells cells' → fillL place cells parts = some out →
    ∃ out', Instr.fill place cells'.toArray parts' = some out'.toArray ∧ VRels μ out out' := by
  intro parts parts' cells cells' out hp
  induction hp generalizing cells cells' out with
  | nil => intro hc h; simp [fillL] at h; subst h; exact ⟨cells', rfl, hc⟩
  | cons i v v' r r' hv hs ih =>
    intro hc h
    simp only [fillL] at h
    cases hpl : place i with
    | none => simp [hpl] at h
    | some q =>
      obtain ⟨off, size⟩ := q
      simp only [hpl] at h
      split at h
      · rename_i hcond
        have hcv := hv.cells
        have l1 : v'.cells.size = size := by rw [← Array.length_toList, ← hcv.1]; exact hcond.1
        have l2 : off + v'.cells.size ≤ cells'.length := by rw [← hc.1, ← Array.length_toList, ← hcv.1]; exact hcond.2
        obtain ⟨out', q1, q2⟩ := ih (splice_rel hc hcv off) h
        refine ⟨out', ?_, q2⟩
        simp only [Instr.fill, hpl]
        rw [if_neg (by simp [l1]; omega)]
        have := foldl_set off v'.cells.toList 0 cells' (by rw [Array.length_toList]; omega)
        have e : v'.cells.zipIdx.foldl (fun (cs : Array Value) (c, j) => cs.setIfInBounds (off + j) c) cells'.toArray = (splice cells' v'.cells.toList off).toArray := by
          rw [Nat.add_zero] at this
          rw [← this, ← Array.foldl_toList, Array.toList_zipIdx]
        rw [e]; exact q1
      · cases h
theorem mapM_parts {μ : Nat → Option Loc} {ts : List (Nat × Value)} {nt : NT} {a : Act} (h : TRel μ ts nt a) : ∀ {xs : List (Nat × Operand)} {vs : List (Nat × Value)}, (xs.mapM fun p => (ev ts p.2).map fun v => (p.1, v)) = some vs → PRel μ vs (xs.map fun p => (p.1, a.eval p.2))
  | [], vs, e => by simp at e; subst e; exact .nil
  | x :: xs, vs, e => by
    simp only [List.mapM_cons, Option.bind_eq_bind, Option.bind_eq_some_iff, Option.pure_def, Option.some.injEq, Option.map_eq_some_iff] at e
    obtain ⟨_, ⟨v, hv, rfl⟩, r, hr, rfl⟩ := e
    exact .cons _ _ _ _ _ (ev_ok h hv) (mapM_parts h hr)
theorem mapM_parts_le {ts ts' : List (Nat × Value)} (hl : TLe ts ts') : ∀ {xs : List (Nat × Operand)} {vs : List (Nat × Value)}, (xs.mapM fun p => (ev ts p.2).map fun v => (p.1, v)) = some vs → (xs.mapM fun p => (ev ts' p.2).map fun v => (p.1, v)) = some vs
  | [], vs, e => e
  | x :: xs, vs, e => by
    simp only [List.mapM_cons, Option.bind_eq_bind, Option.bind_eq_some_iff, Option.pure_def, Option.some.injEq, Option.map_eq_some_iff] at e ⊢
    obtain ⟨_, ⟨v, hv, rfl⟩, r, hr, rfl⟩ := e
    exact ⟨_, ⟨v, ev_le hl hv, rfl⟩, r, mapM_parts_le hl hr, rfl⟩
def placesL (P : Program) (fields : List Field) : Option (List (Nat × Nat)) := fields.mapM fun f => (sizeT P f.type).map fun k => (f.offset, k)
theorem run_places {P : Program} : ∀ (fields : List Field) (ps : List (Nat × Nat)), placesL P fields = some ps → ∀ w : World, (fields.mapM fun f => (do pure (f.offset, ← sizeOf f.type) : Sem (Nat × Nat))).run P w = .ok ps w
  | [], ps, h, w => by simp [placesL] at h; subst h; simp
  | f :: r, ps, h, w => by
    simp only [placesL, List.mapM_cons, Option.bind_eq_bind, Option.bind_eq_some_iff, Option.pure_def, Option.some.injEq, Option.map_eq_some_iff] at h
    obtain ⟨_, ⟨k, hk, rfl⟩, q, hq, rfl⟩ := h
    have := run_places r q hq w
    simp only [List.mapM_cons, Sem.run_bind, run_sizeT hk, Result.andThen_ok, Sem.run_pure]
    rw [this]; rfl
def valBuild (P : Program) (t : TypeId) (parts : List (Nat × Value)) : Option Value :=
  (zeroOf P t).bind fun z =>
    match P.underlying t with
    | some (.struct fields) => (placesL P fields.toList).bind fun ps => (fillL (fun i => ps[i]?) (cellsOf z) parts).map fun cs => .agg cs.toArray
    | some (.array _ elem) => (sizeT P elem).bind fun k => (fillL (fun i => some (i * k, k)) (cellsOf z) parts).map fun cs => .agg cs.toArray
    | _ => none
theorem build_ok {P : Program} {o : Oper} {ts : List (Nat × Value)} {hp : Heap} {t : TypeId} {parts : Array (Nat × Operand)} {vs : List (Nat × Value)} {v : Value} (ho : o.op = .build t parts)
    (hv : (parts.toList.mapM fun p => (ev ts p.2).map fun v => (p.1, v)) = some vs) (he : valBuild P t vs = some v) (lo hi : Nat) : OpOK P o ts hp lo hi { val := some v, upd := [] } := by
  refine OpOK.pure fun μ B H ts' nt a w hl hhl hH hT hst => ?_
  have hps := mapM_parts hT (mapM_parts_le hl hv)
  obtain ⟨z, hz, he⟩ := Option.bind_eq_some_iff.1 he
  obtain ⟨r1, r2, _⟩ := zeroOf_ok hz
  have hzr : VRels μ (cellsOf z) z.cells.toList := by rw [cellsOf_eq]; exact rels_scalar (by rw [← cellsOf_eq]; exact r2)
  have eparts : (parts.map fun (i, x) => (i, a.eval x)).toList = parts.toList.map fun p => (p.1, a.eval p.2) := by simp
  split at he
  · rename_i fields hu
    obtain ⟨ps, hpl, he⟩ := Option.bind_eq_some_iff.1 he
    obtain ⟨cs, hcs, rfl⟩ := Option.map_eq_some_iff.1 he
    obtain ⟨out', q1, q2⟩ := fill_ok _ hps hzr hcs
    refine ⟨.agg out'.toArray, ?_, .mkAgg q2⟩
    have hpr := run_places fields.toList ps hpl w
    have hpr' : (fields.mapM fun f => (do pure (f.offset, ← sizeOf f.type) : Sem (Nat × Nat))).run P w = .ok ps.toArray w := by
      rw [← Array.toArray_toList (xs := fields)] 
      rw [List.mapM_toArray]
      rw [Sem.run_map, hpr]; rfl
    simp only [execOp, ho, Instr.build, Sem.run_bind, r1, Result.andThen_ok, run_underlying hu, hpr']
    rw [eparts]
    have e2 : (fun (i : Nat) => ps.toArray[i]?) = fun (i : Nat) => ps[i]? := by funext i; simp
    rw [e2]
    have e3 : z.cells.toList.toArray = z.cells := by simp
    rw [e3] at q1
    rw [q1]; rfl
  · rename_i n elem hu
    obtain ⟨k, hk, he⟩ := Option.bind_eq_some_iff.1 he
    obtain ⟨cs, hcs, rfl⟩ := Option.map_eq_some_iff.1 he
    obtain ⟨out', q1, q2⟩ := fill_ok _ hps hzr hcs
    refine ⟨.agg out'.toArray, ?_, .mkAgg q2⟩
    simp only [execOp, ho, Instr.build, Sem.run_bind, r1, Result.andThen_ok, run_underlying hu, run_sizeT hk]
    rw [eparts]
    have e3 : z.cells.toList.toArray = z.cells := by simp
    rw [e3] at q1
    rw [q1]; rfl
  · cases he
end Go.Am
