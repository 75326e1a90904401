/-
An abstract machine over the kit's wp calculus, part F: contracts of functions, calls by them, and what is told of an operation.
-/
import Derived.Test.YtbihgmehjhlojaaAmR
set_option linter.unusedVariables false
set_option linter.unusedSimpArgs false
namespace Go.Am
open Go Go.RowKit

/-- plain cells -/
def SCA (H : Heap) : Prop := ∀ p ∈ H, ∀ u ∈ p.2.cells, scalar u = true
theorem SCA.nil : SCA [] := fun p hp => by simp at hp
theorem SCA.cons {i : Nat} {b : Blk} {H : Heap} (h : ∀ v ∈ b.cells, scalar v = true) (hs : SCA H) : SCA ((i, b) :: H) := fun p hp => by
  rcases List.mem_cons.1 hp with rfl | hp
  · exact h
  · exact hs p hp
theorem SCA.rows {H : Heap} (h : SCA H) (rows : List Nat) : SCR rows H := fun p hp _ => h p hp
/-- what is made, its shape -/
def newShape (n0 k : Nat) (new : Heap) : Bool := new.all (fun p => decide (n0 ≤ p.1) && decide (p.1 < n0 + k) && decide (p.2.st = 2) && p.2.par.isEmpty) && noDup (new.map (·.1))
/-- A CONTRACT: what a function answers, of whatever rows -/
structure FnC (P : Program) (g : FuncId) (args : List Value) (H : Heap) (n0 : Nat) (v : Value) (k : Nat) (new : Heap) : Prop where
  ok : FnOK P g args H n0 v new
  has : ∃ fn c, Has P g fn c
  sc : SCA H
  scn : SCA new
  ro : roOK n0 H = true
  shv : shp (n0 + k) v = true
  nw : newShape n0 k new = true
theorem scal_shp1 {v : Value} (h : scalar v = true) (n : Nat) : shp1 n v = true := by
  have h0 : shp0 n v = true := by unfold shp0; split <;> simp_all [scalar]
  unfold shp1; split
  · simp_all [scalar]
  · exact h0
theorem scal_ren1 {v : Value} (h : scalar v = true) (ρ : Nat → Nat) : ren1 ρ v = v := by
  have : ren1 ρ v = ren0 ρ v := by unfold ren1; split; simp_all [scalar]; rfl
  rw [this, ren0_scal h]
theorem FnC.newOK {P : Program} {g : FuncId} {args : List Value} {H : Heap} {n0 : Nat} {v : Value} {k : Nat} {new : Heap} (h : FnC P g args H n0 v k new) : NewOK n0 k new := by
  have h2 := h.nw
  unfold newShape at h2
  simp only [Bool.and_eq_true] at h2
  refine ⟨List.all_eq_true.2 fun p hp => ?_, noDup_ok h2.2⟩
  have h3 := List.all_eq_true.1 h2.1 p hp
  simp only [Bool.and_eq_true, decide_eq_true_eq] at h3 ⊢
  exact ⟨⟨⟨⟨h3.1.1.1, h3.1.1.2⟩, List.all_eq_true.2 fun u hu => scal_shp1 (h.scn p hp u hu) _⟩, h3.1.2⟩, h3.2⟩
/-- a contract, by a run of the body -/
theorem FnC.run {P : Program} {m : Bool} {g : FuncId} {fn : Func} {args : List Value} {H : Heap} {n0 k : Nat} {v : Value} {new : Heap} (hm : P.follows .mixedOrders = true) (hg : Has P g fn (bodyOf fn)) (A : Anss P none fn.ntmps n0 m)
    (chk : (decide (args.length ≤ fn.ntmps) && roOK n0 H && shp (n0 + k) v && newShape n0 k new) = true)
    (h : viewFL (runX (bodyOf fn) ⟨argTs 0 args, H, n0⟩ A) fn.results.toList (new.map (·.1)) k v new = viewFR (runX (bodyOf fn) ⟨argTs 0 args, H, n0⟩ A) fn.results.toList (new.map (·.1)) k v new) (sc : SCA H) (scn : SCA new) : FnC P g args H n0 v k new := by
  simp only [Bool.and_eq_true, decide_eq_true_eq] at chk
  obtain ⟨⟨⟨c1, c2⟩, c3⟩, c4⟩ := chk
  exact ⟨FnOK.run hm hg.hfn hg.hbody c1 c2 A _ h (scn.rows _), ⟨fn, _, hg⟩, sc, scn, c2, c3, c4⟩
theorem FnC.eq {P : Program} {g : FuncId} {args : List Value} {H : Heap} {n0 : Nat} {v u : Value} {k : Nat} {new : Heap} (h : FnC P g args H n0 v k new) (e : v = u) : FnC P g args H n0 u k new := e ▸ h

/-! ### calls -/
def gCall (g : FuncId) (args0 : List Value) (H0 : Heap) (n0 : Nat) (v0 : Value) (k : Nat) (new0 : Heap) : GenF := fun ts hp nx o =>
  match o.op with
  | .call { callee := .value fo, args := aos, argTypes := _ } =>
    match ev ts fo with
    | some (.func (.func g') ⟨[]⟩ caps) =>
      match aos.toList.mapM (ev ts) with
      | some vs =>
        if g' == g then
          match mL mV3 (vs ++ caps.toList) args0 with
          | some (p, c) =>
            match mH (H0.map (·.1)) 1 hp H0 p with
            | some (pr, c2) => if prsOK 0 n0 pr then some (⟨some (ren (newIds (rhoOf pr) n0 nx) v0), new0.map fun p => (newIds (rhoOf pr) n0 nx p.1, p.2)⟩, nx + k, c ++ c2) else none
            | none => none
          | none => none
        else none
      | none => none
    | _ => none
  | _ => none
theorem gCall_ok {P : Program} {g : FuncId} {args : List Value} {H : Heap} {n0 : Nat} {v : Value} {k : Nat} {new : Heap} (h : FnC P g args H n0 v k new) : GenOK P (gCall g args H n0 v k new) := by
  intro ts hp nx o e nx' cs he hc
  unfold gCall at he
  split at he
  · rename_i fo aos ats ho
    split at he
    · rename_i g' caps hf
      split at he
      · rename_i vs hvs
        split at he
        · rename_i hg
          simp only [beq_iff_eq] at hg
          subst hg
          split at he
          · rename_i p c hL
            split at he
            · rename_i pr c2 hH
              split at he
              · rename_i hok
                simp only [Option.some.injEq, Prod.mk.injEq] at he
                obtain ⟨rfl, rfl, rfl⟩ := he
                obtain ⟨hP, _⟩ := prsOK_ok hok
                obtain ⟨q, hq⟩ := mH_mono hH
                have hPp : PIn pr n0 p := fun x hx => hP x (by rw [hq]; simp [hx])
                have hargs := mL_ok mV3_ok hL hPp hc.left
                have hBB := mH_ok hH hP hc.right (h.sc.rows _)
                obtain ⟨fn, c0, hhas⟩ := h.has
                have hro := roOK_ok h.ro
                have hcall := call_gen h.ok hhas ho hf hvs (nlOf pr) (rhoOf pr) (fun μ c hc => hargs μ c hc) (hp := hp) (fun i b hi => by
                  refine ⟨(hro i b hi).2, (hro i b hi).1, fun _ => ?_⟩
                  rcases hBB _ (get_mem hi) with g | ⟨g1, b2, g2, g3, g4, g5, g6, g7⟩
                  · exact .inl g
                  · exact .inr ⟨g1, b2, g2, g3, g5, g6, fun j u hj => by obtain ⟨r1, x, r2, r3⟩ := g7 j u hj; exact ⟨r1, x, r2, fun μ c hc => r3 μ c hc⟩⟩) nx k h.shv h.newOK
                have e2 : renHeap (newIds (rhoOf pr) n0 nx) new = new.map fun p => (newIds (rhoOf pr) n0 nx p.1, p.2) := by
                  unfold renHeap
                  refine List.map_congr_left fun x hx => ?_
                  have h3 := List.all_eq_true.1 h.newOK.1 x hx
                  simp only [Bool.and_eq_true, List.isEmpty_iff] at h3
                  obtain ⟨i, cells, st, par, esz⟩ := x
                  simp only at h3
                  have : cells.map (ren1 (newIds (rhoOf pr) n0 nx)) = cells := by
                    conv => rhs; rw [← List.map_id cells]
                    exact List.map_congr_left fun u hu => scal_ren1 (h.scn _ hx u hu) _
                  simp [renBlk, this, h3.2]
                rw [e2] at hcall
                exact ⟨hcall, Nat.le_add_right _ _⟩
              · cases he
            · cases he
          · cases he
        · cases he
      · cases he
    · cases he
  · cases he

/-- a contract with blocks whose cells are told one by one (rows: those that are told as a whole) -/
structure FnG (P : Program) (g : FuncId) (args : List Value) (H : Heap) (n0 : Nat) (v : Value) (k : Nat) (new : Heap) (rows : List Nat) : Prop where
  ok : FnOK P g args H n0 v new
  has : ∃ fn c, Has P g fn c
  sc : SCR rows H
  scn : SCR rows new
  ro : roOK n0 H = true
  shv : shp (n0 + k) v = true
  nw : newShape n0 k new = true
  cl : new.all (fun p => rows.contains p.1 || p.2.cells.all (shp1 (n0 + k))) = true
theorem FnG.newOK {P : Program} {g : FuncId} {args : List Value} {H : Heap} {n0 : Nat} {v : Value} {k : Nat} {new : Heap} {rows : List Nat} (h : FnG P g args H n0 v k new rows) : NewOK n0 k new := by
  have h2 := h.nw
  unfold newShape at h2
  simp only [Bool.and_eq_true] at h2
  refine ⟨List.all_eq_true.2 fun p hp => ?_, noDup_ok h2.2⟩
  have h3 := List.all_eq_true.1 h2.1 p hp
  have h4 := List.all_eq_true.1 h.cl p hp
  simp only [Bool.and_eq_true, decide_eq_true_eq, Bool.or_eq_true] at h3 h4 ⊢
  refine ⟨⟨⟨⟨h3.1.1.1, h3.1.1.2⟩, ?_⟩, h3.1.2⟩, h3.2⟩
  rcases h4 with h4 | h4
  · exact List.all_eq_true.2 fun u hu => scal_shp1 (h.scn p hp h4 u hu) _
  · exact h4
theorem FnG.run {P : Program} {m : Bool} {g : FuncId} {fn : Func} {args : List Value} {H : Heap} {n0 k : Nat} {v : Value} {new : Heap} {rows : List Nat} (hm : P.follows .mixedOrders = true) (hg : Has P g fn (bodyOf fn)) (A : Anss P none fn.ntmps n0 m)
    (chk : (decide (args.length ≤ fn.ntmps) && roOK n0 H && shp (n0 + k) v && newShape n0 k new && new.all (fun p => rows.contains p.1 || p.2.cells.all (shp1 (n0 + k)))) = true)
    (h : viewFL (runX (bodyOf fn) ⟨argTs 0 args, H, n0⟩ A) fn.results.toList rows k v new = viewFR (runX (bodyOf fn) ⟨argTs 0 args, H, n0⟩ A) fn.results.toList rows k v new) (sc : SCR rows H) (scn : SCR rows new) : FnG P g args H n0 v k new rows := by
  simp only [Bool.and_eq_true, decide_eq_true_eq] at chk
  obtain ⟨⟨⟨⟨c1, c2⟩, c3⟩, c4⟩, c5⟩ := chk
  exact ⟨FnOK.run hm hg.hfn hg.hbody c1 c2 A _ h scn, ⟨fn, _, hg⟩, sc, scn, c2, c3, c4, c5⟩
theorem FnG.eq {P : Program} {g : FuncId} {args : List Value} {H : Heap} {n0 : Nat} {v u : Value} {k : Nat} {new : Heap} {rows : List Nat} (h : FnG P g args H n0 v k new rows) (e : v = u) : FnG P g args H n0 u k new rows := e ▸ h
def renC (rows : List Nat) (ρ : Nat → Nat) (p : Nat × Blk) : Nat × Blk := (ρ p.1, match rows.contains p.1 with | true => p.2 | false => { p.2 with cells := p.2.cells.map (ren1 ρ) })
def gCallG (g : FuncId) (args0 : List Value) (H0 : Heap) (n0 : Nat) (v0 : Value) (k : Nat) (new0 : Heap) (rows : List Nat) : GenF := fun ts hp nx o =>
  match o.op with
  | .call { callee := .value fo, args := aos, argTypes := _ } =>
    match ev ts fo with
    | some (.func (.func g') ⟨[]⟩ caps) =>
      match aos.toList.mapM (ev ts) with
      | some vs =>
        if g' == g then
          match mL mV3 (vs ++ caps.toList) args0 with
          | some (p, c) =>
            match mH rows 1 hp H0 p with
            | some (pr, c2) => if prsOK 0 n0 pr then some (⟨some (ren (newIds (rhoOf pr) n0 nx) v0), new0.map (renC rows (newIds (rhoOf pr) n0 nx))⟩, nx + k, c ++ c2) else none
            | none => none
          | none => none
        else none
      | none => none
    | _ => none
  | _ => none
theorem gCallG_ok {P : Program} {g : FuncId} {args : List Value} {H : Heap} {n0 : Nat} {v : Value} {k : Nat} {new : Heap} {rows : List Nat} (h : FnG P g args H n0 v k new rows) : GenOK P (gCallG g args H n0 v k new rows) := by
  intro ts hp nx o e nx' cs he hc
  unfold gCallG at he
  split at he
  · rename_i fo aos ats ho
    split at he
    · rename_i g' caps hf
      split at he
      · rename_i vs hvs
        split at he
        · rename_i hg
          simp only [beq_iff_eq] at hg
          subst hg
          split at he
          · rename_i p c hL
            split at he
            · rename_i pr c2 hH
              split at he
              · rename_i hok
                simp only [Option.some.injEq, Prod.mk.injEq] at he
                obtain ⟨rfl, rfl, rfl⟩ := he
                obtain ⟨hP, _⟩ := prsOK_ok hok
                obtain ⟨q, hq⟩ := mH_mono hH
                have hPp : PIn pr n0 p := fun x hx => hP x (by rw [hq]; simp [hx])
                have hargs := mL_ok mV3_ok hL hPp hc.left
                have hBB := mH_ok hH hP hc.right h.sc
                obtain ⟨fn, c0, hhas⟩ := h.has
                have hro := roOK_ok h.ro
                have hcall := call_gen h.ok hhas ho hf hvs (nlOf pr) (rhoOf pr) (fun μ c hc => hargs μ c hc) (hp := hp) (fun i b hi => by
                  refine ⟨(hro i b hi).2, (hro i b hi).1, fun _ => ?_⟩
                  rcases hBB _ (get_mem hi) with g | ⟨g1, b2, g2, g3, g4, g5, g6, g7⟩
                  · exact .inl g
                  · exact .inr ⟨g1, b2, g2, g3, g5, g6, fun j u hj => by obtain ⟨r1, x, r2, r3⟩ := g7 j u hj; exact ⟨r1, x, r2, fun μ c hc => r3 μ c hc⟩⟩) nx k h.shv h.newOK
                have e2 : renHeap (newIds (rhoOf pr) n0 nx) new = new.map (renC rows (newIds (rhoOf pr) n0 nx)) := by
                  unfold renHeap
                  refine List.map_congr_left fun x hx => ?_
                  have h3 := List.all_eq_true.1 h.newOK.1 x hx
                  simp only [Bool.and_eq_true, List.isEmpty_iff] at h3
                  obtain ⟨i, cells, st, par, esz⟩ := x
                  simp only at h3
                  unfold renC
                  split
                  · rename_i hrow
                    have : cells.map (ren1 (newIds (rhoOf pr) n0 nx)) = cells := by
                      conv => rhs; rw [← List.map_id cells]
                      exact List.map_congr_left fun u hu => scal_ren1 (h.scn _ hx hrow u hu) _
                    simp [renBlk, this, h3.2]
                  · simp [renBlk, h3.2]
                rw [e2] at hcall
                exact ⟨hcall, Nat.le_add_right _ _⟩
              · cases he
            · cases he
          · cases he
        · cases he
      · cases he
    · cases he
  · cases he
/-- a slice of nothing that may be nil: it is nil, or it isn't -/
theorem VRel.nilsplit {μ : Nat → Option Loc} {i o : Nat} {v' : Value} (h : VRel μ (.slice (some ⟨i, o, none⟩) 0 1) v') : VRel μ (.slice none 0 0) v' ∨ VRel μ (.slice (some ⟨i, o, none⟩) 0 2) v' := by
  cases h with
  | flat _ h => simp [Am.flat, scalar] at h
  | sl _ _ _ _ L a c' hL hcc hx hcn ht ha => exact .inr (.sl i o 0 2 L a c' hL hcc (fun q => by omega) (.inr (.inr rfl)) ht ha)
  | slnil => exact .inl (.flat _ rfl)
theorem FnC.nil1 {P : Program} {g : FuncId} {ys : List Value} {i o : Nat} {H : Heap} {n0 : Nat} {v : Value} {k : Nat} {new : Heap} (h1 : FnC P g (.slice none 0 0 :: ys) H n0 v k new) (h2 : FnC P g (.slice (some ⟨i, o, none⟩) 0 2 :: ys) H n0 v k new) : FnC P g (.slice (some ⟨i, o, none⟩) 0 1 :: ys) H n0 v k new :=
  ⟨fun μ w cargs hargs hH hfree => by
    obtain ⟨u, r, rfl, hu, hr⟩ := hargs.of_cons
    rcases hu.nilsplit with q | q
    · exact h1.ok μ w (u :: r) (.cons q hr) hH hfree
    · exact h2.ok μ w (u :: r) (.cons q hr) hH hfree, h1.has, h1.sc, h1.scn, h1.ro, h1.shv, h1.nw⟩

section
variable {P : Program} {r : Option Nat} {N nI : Nat} {m : Bool}
/-- a call -/
def aC {g : FuncId} {args : List Value} {H : Heap} {n0 : Nat} {v : Value} {k : Nat} {new : Heap} (h : FnC P g args H n0 v k new) : Ans P r N nI m := .gen _ (gCall_ok h)
/-- a call that answers a truth value, which is known -/
def aCb {g : FuncId} {args : List Value} {H : Heap} {n0 : Nat} {b c : Bool} {k : Nat} {new : Heap} (h : FnC P g args H n0 (.bool b) k new) (e : b = c) : Ans P r N nI m := .gen _ (gCall_ok (h.eq (congrArg Value.bool e)))
def aG {g : FuncId} {args : List Value} {H : Heap} {n0 : Nat} {v : Value} {k : Nat} {new : Heap} {rows : List Nat} (h : FnG P g args H n0 v k new rows) : Ans P r N nI m := .gen _ (gCallG_ok h)
def aB {v b : Bool} (h : v = b) : Ans P r N nI m := .is (.bool v) (.bool b) (congrArg _ h)
def aT {p : Prop} [Decidable p] (h : p) : Ans P r N nI m := .is (.bool (decide p)) (.bool true) (by simp [h])
def aF {p : Prop} [Decidable p] (h : ¬ p) : Ans P r N nI m := .is (.bool (decide p)) (.bool false) (by simp [h])
/-- of p: it is not so -/
def aNT {p : Prop} [Decidable p] (h : p) : Ans P r N nI m := .is (.bool (!decide p)) (.bool false) (by simp [h])
def aNF {p : Prop} [Decidable p] (h : ¬ p) : Ans P r N nI m := .is (.bool (!decide p)) (.bool true) (by simp [h])
def aI (k k' : IntKind) (x y : Int) (h : k.wrap x = y) : Ans P r N nI m := .is (.int k' (k.wrap x)) (.int k' y) (by rw [h])
def aE {x y : Value} (h : x = y) : Ans P r N nI m := .is x y h
end

theorem wrap_i64 {x : Int} (h1 : -9223372036854775808 ≤ x) (h2 : x ≤ 9223372036854775807) : IntKind.i64.wrap x = x := by
  simp only [IntKind.wrap, IntKind.signed, IntKind.bits]
  simp [Int.bmod]
  split <;> omega
theorem wrap_u64 {x : Int} (h1 : 0 ≤ x) (h2 : x < 18446744073709551616) : IntKind.u64.wrap x = x := by
  simp only [IntKind.wrap, IntKind.signed, IntKind.bits]
  simp
  omega
theorem wrap_i64' {x y : Int} (e : x = y) (h1 : -9223372036854775808 ≤ y) (h2 : y ≤ 9223372036854775807) : IntKind.i64.wrap x = y := by subst e; exact wrap_i64 h1 h2
theorem wrap_u64' {x y : Int} (e : x = y) (h1 : 0 ≤ y) (h2 : y < 18446744073709551616) : IntKind.u64.wrap x = y := by subst e; exact wrap_u64 h1 h2

/-! ### rows -/
theorem flat_length {α : Type} {f : α → List Value} {k : Nat} (hf : ∀ a, (f a).length = k) : ∀ l : List α, (l.flatMap f).length = l.length * k
  | [] => by simp
  | a :: l => by simp [flat_length hf l, hf a, Nat.succ_mul]; omega
theorem flat_at {α : Type} {f : α → List Value} {k : Nat} (hf : ∀ a, (f a).length = k) (pre : List α) (s : α) (r : List α) : (((pre ++ s :: r).flatMap f).drop (pre.length * k)).take k = f s := by
  simp only [List.flatMap_append, List.flatMap_cons]
  rw [List.drop_append_of_le_length (by rw [flat_length hf]; exact Nat.le_refl _), List.drop_of_length_le (by rw [flat_length hf]; exact Nat.le_refl _)]
  simp [hf s]
theorem split_idx {α : Type} {l : List α} {i : Nat} {s : α} (h : l[i]? = some s) : l = l.take i ++ s :: l.drop (i + 1) ∧ (l.take i).length = i := by
  have hi : i < l.length := (List.getElem?_eq_some_iff.1 h).1
  refine ⟨?_, by simp; omega⟩
  have h2 : l[i] = s := (List.getElem?_eq_some_iff.1 h).2
  rw [← h2, ← List.drop_eq_getElem_cons hi, List.take_append_drop]
theorem flat_idx {α : Type} {f : α → List Value} {k : Nat} (hf : ∀ a, (f a).length = k) {l : List α} {i : Nat} {s : α} (h : l[i]? = some s) : ((l.flatMap f).drop (i * k)).take k = f s := by
  obtain ⟨e, e2⟩ := split_idx h
  have := flat_at hf (l.take i) s (l.drop (i + 1))
  rw [← e, e2] at this
  exact this
theorem drop_idx {α : Type} {l : List α} {i : Nat} {s : α} (h : l[i]? = some s) : l.drop i = s :: l.drop (i + 1) := by
  have hi : i < l.length := (List.getElem?_eq_some_iff.1 h).1
  rw [List.drop_eq_getElem_cons hi, (List.getElem?_eq_some_iff.1 h).2]
theorem flat_le {α : Type} {f : α → List Value} {k : Nat} (hf : ∀ a, (f a).length = k) {l : List α} {i : Nat} {s : α} (h : l[i]? = some s) : i * k + k ≤ (l.flatMap f).length := by
  rw [flat_length hf]
  have hi : i < l.length := (List.getElem?_eq_some_iff.1 h).1
  have := Nat.mul_le_mul_right k (show i + 1 ≤ l.length by omega)
  rw [Nat.succ_mul] at this; exact this
theorem flat_get {α : Type} {f : α → List Value} {k : Nat} (hf : ∀ a, (f a).length = k) {l : List α} {i d : Nat} {s : α} (h : l[i]? = some s) (hd : d < k) : (l.flatMap f)[i * k + d]? = (f s)[d]? := by
  rw [← flat_idx hf h, List.getElem?_take, if_pos hd, List.getElem?_drop]
theorem flat_part {α : Type} {f : α → List Value} {k : Nat} (hf : ∀ a, (f a).length = k) {l : List α} {i d m : Nat} {s : α} (h : l[i]? = some s) (hd : d + m ≤ k) : ((l.flatMap f).drop (i * k + d)).take m = ((f s).drop d).take m := by
  rw [← flat_idx hf h, List.drop_take, List.drop_drop, List.take_take]
  congr 1; omega
theorem flat_set {α : Type} {f : α → List Value} {k : Nat} (hf : ∀ a, (f a).length = k) {l : List α} {i d : Nat} {s s' : α} (h : l[i]? = some s) {vs : List Value} (hs : splice (f s) vs d = f s') (hd : d + vs.length ≤ k) : splice (l.flatMap f) vs (i * k + d) = (l.set i s').flatMap f := by
  obtain ⟨e, e2⟩ := split_idx h
  have el : l.set i s' = l.take i ++ s' :: l.drop (i + 1) := by
    have hi : i < l.length := (List.getElem?_eq_some_iff.1 h).1
    rw [List.set_eq_take_append_cons_drop, if_pos hi]
  rw [el]
  conv => lhs; rw [e]
  simp only [List.flatMap_append, List.flatMap_cons, ← hs]
  have hA : ((l.take i).flatMap f).length = i * k := by rw [flat_length hf, e2]
  generalize (l.take i).flatMap f = A at *
  generalize (l.drop (i + 1)).flatMap f = B at *
  have hfs := hf s
  generalize f s = S at *
  unfold splice
  rw [List.take_append, List.take_of_length_le (by omega), show i * k + d - A.length = d by omega, List.take_append_of_le_length (by omega), List.drop_append, List.drop_of_length_le (by omega), List.drop_append, show i * k + d + vs.length - A.length = d + vs.length by omega]
  simp only [List.nil_append, List.append_assoc]
  rw [show d + vs.length - S.length = 0 by omega]
  simp

theorem OpOK.conv {P : Program} {o : Oper} {ts : List (Nat × Value)} {hp : Heap} {lo hi : Nat} {v u : Value} {upd : Heap} (h : OpOK P o ts hp lo hi { val := some v, upd := upd }) (hw : ∀ μ c, VRel μ v c → VRel μ u c) : OpOK P o ts hp lo hi { val := some u, upd := upd } := by
  intro B w0 μ F ts' hp' nt a w next Q h1 h2 hr hF hd hk
  refine h B w0 μ F ts' hp' nt a w next Q h1 h2 hr hF hd fun μ' a' w' hx ho hr' => hk μ' a' w' hx ho ⟨⟨hr'.t.defers, hr'.t.size, fun t x hv => ?_⟩, hr'.h, hr'.below, hr'.size, hr'.free, hr'.st, hr'.dom⟩
  rw [get_putDst] at hv
  split at hv
  · rename_i e
    injection hv with hv; subst hv
    obtain ⟨v', g1, g2⟩ := hr'.t.val t v (by rw [get_putDst, if_pos e])
    exact ⟨v', g1, hw _ _ g2⟩
  · rename_i e
    exact hr'.t.val t x (by rw [get_putDst, if_neg e]; exact hv)
theorem VRel.weak {μ : Nat → Option Loc} {i o n c : Nat} {v' : Value} (h : VRel μ (.slice (some ⟨i, o, none⟩) n c) v') : VRel μ (.slice (some ⟨i, o, none⟩) n (n + 1)) v' := by
  cases h with
  | flat _ h => simp [Am.flat, scalar] at h
  | sl _ _ _ _ L a c' hL hcc hx hcn ht ha => exact .sl i o n (n + 1) L a c' hL hcc (fun q => by omega) (.inr (.inl rfl)) ht ha
  | slnil => exact .slnil i o

/-- the place of an element -/
def gX (P : Program) (i n off q k : Nat) : GenF := fun ts hp nx o =>
  match o.op with
  | .indexAddr t x ix =>
    match ev ts x, ev ts ix, P.underlying t with
    | some (.slice (some ⟨b, off', none⟩) n' _), some (.int kd z), some (.slice e) =>
      match sizeT P e with
      | some k' => if k' == k then some (val1 (.pointer (some ⟨b, q, none⟩)), nx, [(.n n', .n n), (.v (.int kd z), .v (.int kd (i : Int))), (.n off', .n off)]) else none
      | none => none
    | _, _, _ => none
  | _ => none
theorem gX_ok {P : Program} {i n off q k : Nat} (h : i < n) (hq : off + i * k = q) : GenOK P (gX P i n off q k) := by
  intro ts hp nx o e nx' cs he hc
  unfold gX at he
  split at he
  · rename_i t x ix ho
    split at he
    · rename_i b off' n' c kd z e' hx hi hu
      split at he
      · rename_i k' hs
        split at he
        · rename_i hk
          simp only [beq_iff_eq] at hk
          subst hk
          simp only [Option.some.injEq, Prod.mk.injEq] at he
          obtain ⟨rfl, rfl, rfl⟩ := he
          have e1 := hc.head
          have e2 := hc.tail.head
          have e3 := hc.tail.tail.head
          simp only [Cl.n.injEq, Cl.v.injEq, Value.int.injEq, true_and] at e1 e2 e3
          subst e1; subst e2; subst e3
          refine evalOp_ok ?_
          have hb : (0 : Int) ≤ (i : Int) ∧ (i : Int) < (n' : Int) := ⟨by omega, by omega⟩
          simp [evalOp, ho, hx, hi, valIndexAddr, hu, hs, h, hq]
        · cases he
      · cases he
    · cases he
  · cases he
/-- what stands at a place: all of an element, or a part -/
def gL {α : Type} (P : Program) (f : α → List Value) (l : List α) (i k d : Nat) (s : α) : GenF := fun ts hp nx o =>
  match o.op with
  | .load t x =>
    match ev ts x with
    | some (.pointer (some ⟨b, q, none⟩)) =>
      match get hp b, isAggT P t, sizeT P t with
      | some blk, some true, some m => if decide (1 ≤ blk.st) && decide (d + m ≤ k) then some (val1 (.agg ⟨((f s).drop d).take m⟩), nx, [(.l blk.cells, .l (l.flatMap f)), (.n q, .n (i * k + d))]) else none
      | some blk, some false, _ =>
        match (f s)[d]? with
        | some v => if decide (1 ≤ blk.st) && decide (d < k) then some (val1 v, nx, [(.l blk.cells, .l (l.flatMap f)), (.n q, .n (i * k + d))]) else none
        | none => none
      | _, _, _ => none
    | _ => none
  | _ => none
theorem gL_ok {α : Type} {P : Program} {f : α → List Value} {l : List α} {i k d : Nat} {s : α} (hf : ∀ a, (f a).length = k) (h : l[i]? = some s) : GenOK P (gL P f l i k d s) := by
  intro ts hp nx o e nx' cs he hc
  unfold gL at he
  split at he
  · rename_i t x ho
    split at he
    · rename_i b q hx
      split at he
      · rename_i blk m hb ht hs
        split at he
        · rename_i hcond
          simp only [Bool.and_eq_true, decide_eq_true_eq] at hcond
          simp only [Option.some.injEq, Prod.mk.injEq] at he
          obtain ⟨rfl, rfl, rfl⟩ := he
          have e1 := hc.head
          have e2 := hc.tail.head
          simp only [Cl.n.injEq, Cl.l.injEq] at e1 e2
          subst e2
          refine evalOp_ok ?_
          have hcell : cellsAt hp b (i * k + d) m = some (((f s).drop d).take m) := by
            unfold cellsAt
            rw [hb]
            have hl : (((f s).drop d).take m).length = m := by simp [hf s]; omega
            simp only
            rw [if_pos hcond.1, e1, flat_part hf h hcond.2, if_pos hl]
          simp [evalOp, ho, hx, valLoad, ht, hs, hcell]
        · cases he
      · rename_i blk hb ht
        split at he
        · rename_i v hv
          split at he
          · rename_i hcond
            simp only [Bool.and_eq_true, decide_eq_true_eq] at hcond
            simp only [Option.some.injEq, Prod.mk.injEq] at he
            obtain ⟨rfl, rfl, rfl⟩ := he
            have e1 := hc.head
            have e2 := hc.tail.head
            simp only [Cl.n.injEq, Cl.l.injEq] at e1 e2
            subst e2
            refine evalOp_ok ?_
            have hcell : blk.cells[i * k + d]? = some v := by rw [e1, flat_get hf h hcond.2, hv]
            simp [evalOp, ho, hx, valLoad, ht, hb, hcond.1, hcell]
          · cases he
        · cases he
      · cases he
    · cases he
  · cases he
/-- a store into an element of a row of one's own -/
def gS {α : Type} (P : Program) (f : α → List Value) (l : List α) (i k d : Nat) (s s' : α) : GenF := fun ts hp nx o =>
  match o.op with
  | .store t x y =>
    match ev ts x, ev ts y with
    | some (.pointer (some ⟨b, q, none⟩)), some v =>
      match get hp b, sizeT P t with
      | some blk, some m =>
        if decide (blk.st = 2) && decide ((cellsOf v).length = m) && decide (d + m ≤ k) && (cellsOf v).all cell1 && decide (0 < m) then
          some (⟨none, (b, { blk with cells := (l.set i s').flatMap f }) :: blk.par.map fun x => (x, gone)⟩, nx, [(.l blk.cells, .l (l.flatMap f)), (.n q, .n (i * k + d)), (.l (splice (f s) (cellsOf v) d), .l (f s'))])
        else none
      | _, _ => none
    | _, _ => none
  | _ => none
theorem gS_ok {α : Type} {P : Program} {f : α → List Value} {l : List α} {i k d : Nat} {s s' : α} (hf : ∀ a, (f a).length = k) (h : l[i]? = some s) : GenOK P (gS P f l i k d s s') := by
  intro ts hp nx o e nx' cs he hc
  unfold gS at he
  split at he
  · rename_i t x y ho
    split at he
    · rename_i b q v hx hy
      split at he
      · rename_i blk m hb hs
        split at he
        · rename_i hcond
          simp only [Bool.and_eq_true, decide_eq_true_eq] at hcond
          obtain ⟨⟨⟨⟨c1, c2⟩, c3⟩, c4⟩, c5⟩ := hcond
          simp only [Option.some.injEq, Prod.mk.injEq] at he
          obtain ⟨rfl, rfl, rfl⟩ := he
          have e1 := hc.head
          have e2 := hc.tail.head
          have e3 := hc.tail.tail.head
          simp only [Cl.n.injEq, Cl.l.injEq] at e1 e2 e3
          subst e2
          refine evalOp_ok ?_
          have hset := flat_set hf h e3 (by omega)
          rw [← e1] at hset
          have hlen := flat_le hf h
          rw [← e1] at hlen
          have hlen2 : i * k + d + m ≤ blk.cells.length := by omega
          have c4' : (cellsOf v).all cell1 = true := c4
          have : effStore P hp t (.pointer (some ⟨b, i * k + d, none⟩)) v = some ⟨none, (b, { blk with cells := (l.set i s').flatMap f }) :: blk.par.map fun x => (x, gone)⟩ := by
            unfold effStore
            simp only [hb, hs, Option.bind_some]
            rw [if_pos ⟨c1, c2, hlen2, c4', c5⟩, hset]
            rfl
          simp only [evalOp, ho, hx, hy, Option.bind_some, this, Option.map_some]
        · cases he
      · cases he
    · cases he
  · cases he
/-- elements behind a row of one's own -/
def gA {α : Type} (P : Program) (f : α → List Value) (l xs : List α) (k : Nat) : GenF := fun ts hp nx o =>
  match o.op with
  | .call { callee := .builtin .append, args := ⟨[s, x]⟩, argTypes := ⟨[t, tx]⟩ } =>
    match ev ts s, ev ts x, P.underlying t, P.underlying tx with
    | some (.slice (some ⟨i, off, none⟩) n c), some vx, some (.slice e), some (.slice _) =>
      match infoOf P e, get hp i with
      | some (k', by_), some b =>
        match srcOf hp k' vx with
        | some (m, news) =>
          if k' == k && !(by_ == 0) && !(m == 0) && off == 0 && decide (b.st = 2) && decide (b.esz = k) && decide (by_ ≤ 16384) then
            some (⟨some (.slice (some ⟨nx, 0, none⟩) (l ++ xs).length ((l ++ xs).length + 1)), [(i, { b with st := 1 }), (nx, { cells := (l ++ xs).flatMap f, st := 2, par := i :: b.par, esz := b.esz })]⟩, nx + 1, [(.n n, .n l.length), (.n c, .n (l.length + 1)), (.l b.cells, .l (l.flatMap f)), (.n m, .n xs.length), (.l news, .l (xs.flatMap f))])
          else none
        | none => none
      | _, _ => none
    | _, _, _, _ => none
  | _ => none
theorem gA_ok {α : Type} {P : Program} {f : α → List Value} {l xs : List α} {k : Nat} (hf : ∀ a, (f a).length = k) (h : l.length + xs.length ≤ 8589934592) : GenOK P (gA P f l xs k) := by
  intro ts hp nx o e nx' cs he hc
  unfold gA at he
  split at he
  · rename_i s x t tx ho
    split at he
    · rename_i i off n c vx el ex hs hx hu hux
      split at he
      · rename_i k' by_ b hinfo hb
        split at he
        · rename_i m news hsrc
          split at he
          · rename_i hcond
            simp only [Bool.and_eq_true, decide_eq_true_eq, beq_iff_eq, Bool.not_eq_true', beq_eq_false_iff_ne] at hcond
            obtain ⟨⟨⟨⟨⟨⟨rfl, c2⟩, c3⟩, rfl⟩, c5⟩, c6⟩, c7⟩ := hcond
            simp only [Option.some.injEq, Prod.mk.injEq] at he
            obtain ⟨rfl, rfl, rfl⟩ := he
            have e1 := hc.head
            have e2 := hc.tail.head
            have e3 := hc.tail.tail.head
            have e4 := hc.tail.tail.tail.head
            have e5 := hc.tail.tail.tail.tail.head
            simp only [Cl.n.injEq, Cl.l.injEq] at e1 e2 e3 e4 e5
            subst e1; subst e2
            have hfit : (l.length + m) * by_ ≤ 140737488355328 := by
              have : (l.length + m) * by_ ≤ 8589934592 * 16384 := Nat.mul_le_mul (by omega) c7
              omega
            have hlen : b.cells.length = l.length * k' := by rw [e3, flat_length hf]
            have key : effAppend P hp nx t tx (.slice (some ⟨i, 0, none⟩) l.length (l.length + 1)) vx = some { val := some (.slice (some ⟨nx, 0, none⟩) (l.length + m) (l.length + m + 2)), upd := updApp i nx b news } := by
              unfold effAppend
              simp only [hu, hux, hinfo, hsrc, hb, Option.bind_some]
              rw [if_neg c2, if_neg c3, if_pos hfit, if_neg (by omega), if_pos ⟨c5, c6, trivial, hlen⟩]
            have hop := evalOp_ok (P := P) (ts := ts) (hp := hp) (nx := nx) (nx' := nx + 1) (o := o) (e := { val := some (.slice (some ⟨nx, 0, none⟩) (l.length + m) (l.length + m + 2)), upd := updApp i nx b news }) (by
              simp [evalOp, ho, hs, hx, key])
            refine ⟨?_, hop.2⟩
            have hu2 : updApp i nx b news = [(i, { b with st := 1 }), (nx, { cells := (l ++ xs).flatMap f, st := 2, par := i :: b.par, esz := b.esz })] := by
              unfold updApp
              rw [e3, e5]
              simp
            rw [← hu2]
            refine hop.1.conv fun μ c hv => ?_
            have := hv.weak
            rwa [e4, ← List.length_append] at this
          · cases he
        · cases he
      · cases he
    · cases he
  · cases he
/-- all of a row behind nothing -/
def gAll {α : Type} (P : Program) (f : α → List Value) (l : List α) (k : Nat) : GenF := fun ts hp nx o =>
  match o.op with
  | .call { callee := .builtin .append, args := ⟨[s, x]⟩, argTypes := ⟨[t, tx]⟩ } =>
    match ev ts s, ev ts x, P.underlying t, P.underlying tx with
    | some (.slice (some ⟨i, 0, none⟩) 0 0), some (.slice (some ⟨j, 0, none⟩) m _), some (.slice e), some (.slice _) =>
      match infoOf P e, get hp i, get hp j with
      | some (k', by_), some bi, some b =>
        if k' == k && !(by_ == 0) && decide (1 ≤ bi.st) && decide (1 ≤ b.st) && decide (by_ ≤ 16384) then
          some (⟨some (.slice (some ⟨nx, 0, none⟩) l.length (l.length + 1)), [(nx, { cells := l.flatMap f, st := 2, par := [], esz := k })]⟩, nx + 1, [(.n m, .n l.length), (.l b.cells, .l (l.flatMap f))])
        else none
      | _, _, _ => none
    | _, _, _, _ => none
  | _ => none
theorem gAll_ok {α : Type} {P : Program} {f : α → List Value} {l : List α} {k : Nat} (hf : ∀ a, (f a).length = k) (h : l.length ≤ 8589934592) (h0 : 0 < l.length) : GenOK P (gAll P f l k) := by
  intro ts hp nx o e nx' cs he hc
  unfold gAll at he
  split at he
  · rename_i s x t tx ho
    split at he
    · rename_i i j m cc el ex hs hx hu hux
      split at he
      · rename_i k' by_ bi b hinfo hbi hb
        split at he
        · rename_i hcond
          simp only [Bool.and_eq_true, decide_eq_true_eq, beq_iff_eq, Bool.not_eq_true', beq_eq_false_iff_ne] at hcond
          obtain ⟨⟨⟨⟨rfl, c2⟩, c3⟩, c5⟩, c7⟩ := hcond
          simp only [Option.some.injEq, Prod.mk.injEq] at he
          obtain ⟨rfl, rfl, rfl⟩ := he
          have e1 := hc.head
          have e3 := hc.tail.head
          simp only [Cl.n.injEq, Cl.l.injEq] at e1 e3
          subst e1
          have hfit : l.length * by_ ≤ 140737488355328 := by
            have : l.length * by_ ≤ 8589934592 * 16384 := Nat.mul_le_mul h c7
            omega
          have hlen : b.cells.length = l.length * k' := by rw [e3, flat_length hf]
          have hcell : cellsAt hp j 0 (l.length * k') = some (l.flatMap f) := by
            unfold cellsAt
            rw [hb]
            simp only
            rw [if_pos c5, List.drop_zero, ← hlen, List.take_length, if_pos rfl, e3]
          have hcell0 : cellsAt hp i 0 0 = some [] := by
            unfold cellsAt
            rw [hbi]
            simp [c3]
          have key : effAppend P hp nx t tx (.slice (some ⟨i, 0, none⟩) 0 0) (.slice (some ⟨j, 0, none⟩) l.length cc) = some { val := some (.slice (some ⟨nx, 0, none⟩) l.length (l.length + 2)), upd := [(nx, ⟨l.flatMap f, 2, [], k'⟩)] } := by
            have h00 : ¬ l.length = 0 := by omega
            simp [effAppend, hu, hux, hinfo, c2, srcOf, h00, hcell, hcell0, hfit]
          have hop := evalOp_ok (P := P) (ts := ts) (hp := hp) (nx := nx) (nx' := nx + 1) (o := o) (e := { val := some (.slice (some ⟨nx, 0, none⟩) l.length (l.length + 2)), upd := [(nx, ⟨l.flatMap f, 2, [], k'⟩)] }) (by
            simp [evalOp, ho, hs, hx, key])
          exact ⟨hop.1.conv fun μ c hv => hv.weak, hop.2⟩
        · cases he
      · cases he
    · cases he
  · cases he
/-- a part of a row -/
def gSl (P : Program) (a h n off q k : Nat) : GenF := fun ts hp nx o =>
  match o.op with
  | .slice t x lo hi none =>
    match ev ts x, evOpt ts lo, evOpt ts hi, P.underlying t with
    | some (.slice (some ⟨i, off', none⟩) n' c), some l, some hh, some (.slice e) =>
      match sizeT P e, get hp i with
      | some k', some b =>
        if k' == k && decide (1 ≤ b.st) && decide (b.esz = k) then
          some (val1 (.slice (some ⟨i, q, none⟩) (h - a) (h - a + 1)), nx, [(.n off', .n off), (.n n', .n n), (match l with | none => (.n 0, .n a) | some v => (.v v, .v (.int .i64 (a : Int)))), (match hh with | none => (.n n', .n h) | some v => (.v v, .v (.int .i64 (h : Int))))])
        else none
      | _, _ => none
    | _, _, _, _ => none
  | _ => none
theorem gSl_ok {P : Program} {a h n off q k : Nat} (h1 : a ≤ h) (h2 : h ≤ n) (hq : off + a * k = q) : GenOK P (gSl P a h n off q k) := by
  intro ts hp nx o e nx' cs he hc
  unfold gSl at he
  split at he
  · rename_i t x lo hi ho
    split at he
    · rename_i i off' n' c l hh el hx hl hhi hu
      split at he
      · rename_i k' b hs hb
        split at he
        · rename_i hcond
          simp only [Bool.and_eq_true, decide_eq_true_eq, beq_iff_eq] at hcond
          obtain ⟨⟨rfl, c2⟩, c3⟩ := hcond
          simp only [Option.some.injEq, Prod.mk.injEq] at he
          obtain ⟨rfl, rfl, rfl⟩ := he
          have e1 := hc.head
          have e2 := hc.tail.head
          have e3 := hc.tail.tail.head
          have e4 := hc.tail.tail.tail.head
          simp only [Cl.n.injEq] at e1 e2
          subst e1; subst e2
          have hA : asNO 0 l = some a := by
            cases l with
            | none => simp only [Cl.n.injEq] at e3; subst e3; rfl
            | some v => simp only [Cl.v.injEq] at e3; subst e3; simp [asNO, asN]
          have hB : asNO n' hh = some h := by
            cases hh with
            | none => simp only [Cl.n.injEq] at e4; subst e4; rfl
            | some v => simp only [Cl.v.injEq] at e4; subst e4; simp [asNO, asN]
          have hop := evalOp_ok (P := P) (ts := ts) (hp := hp) (nx := nx) (nx' := nx) (o := o) (e := val1 (.slice (some ⟨i, q, none⟩) (h - a) (if c = n' ∧ h = n' then h - a else if c = n' + 1 then h - a + 1 else h - a + 2))) (by
            simp only [evalOp, ho, hx, hl, hhi, Option.bind_some, valSlice, hu, hs, hb, hA, hB]
            simp [c2, c3, h1, h2, hq, evOpt])
          exact ⟨hop.1.conv fun μ c hv => hv.weak, hop.2⟩
        · cases he
      · cases he
    · cases he
  · cases he

section
variable {P : Program} {r : Option Nat} {N nI : Nat} {m : Bool}
/-- the place of an element of a row that begins where its block does -/
def aX (i n k : Nat) (h : i < n) : Ans P r N nI m := .gen (gX P i n 0 (i * k) k) (gX_ok h (Nat.zero_add _))
def aXo (i n off q k : Nat) (h : i < n) (hq : off + i * k = q) : Ans P r N nI m := .gen (gX P i n off q k) (gX_ok h hq)
def aL {α : Type} {f : α → List Value} {k : Nat} (hf : ∀ a, (f a).length = k) {l : List α} {i : Nat} {s : α} (h : l[i]? = some s) (d : Nat := 0) : Ans P r N nI m := .gen (gL P f l i k d s) (gL_ok hf h)
def aS {α : Type} {f : α → List Value} {k : Nat} (hf : ∀ a, (f a).length = k) {l : List α} {i : Nat} {s : α} (h : l[i]? = some s) (d : Nat) (s' : α) : Ans P r N nI m := .gen (gS P f l i k d s s') (gS_ok hf h)
def aA {α : Type} {f : α → List Value} {k : Nat} (hf : ∀ a, (f a).length = k) (l xs : List α) (h : l.length + xs.length ≤ 8589934592) : Ans P r N nI m := .gen (gA P f l xs k) (gA_ok hf h)
def aAll {α : Type} {f : α → List Value} {k : Nat} (hf : ∀ a, (f a).length = k) (l : List α) (h : l.length ≤ 8589934592) (h0 : 0 < l.length) : Ans P r N nI m := .gen (gAll P f l k) (gAll_ok hf h h0)
def aSl (a h n off q k : Nat) (h1 : a ≤ h) (h2 : h ≤ n) (hq : off + a * k = q) : Ans P r N nI m := .gen (gSl P a h n off q k) (gSl_ok h1 h2 hq)
end

/-! ### loops -/
theorem le_ble {a b : Nat} (h : Nat.ble a b = true) : a ≤ b := Nat.le_of_ble_eq_true h
/-- what a round comes to: the loop's head again with less left, or a way out -/
def RK {ι : Type} (Inv : ι → Prop) (I : ι → AS) (m : ι → Nat) (K : Exit → AS → Prop) (i : ι) : Exit → AS → Prop
  | .normal, s => ∃ j, Inv j ∧ s = I j ∧ m j < m i
  | e, s => K e s
theorem Tr.again {P : Program} {r : Option Nat} {nt : NT} {nI : Nat} {c : Code} {σ : AS} {ι : Type} {Inv : ι → Prop} {I : ι → AS} {m : ι → Nat} {K : Exit → AS → Prop} {i : ι} (j : ι) (h : Tr P r nt nI c σ fun e s => e = .normal ∧ s = I j) (hj : Inv j) (hm : m j < m i) : Tr P r nt nI c σ (RK Inv I m K i) :=
  h.mono fun e s ⟨q1, q2⟩ => by subst q1; subst q2; exact ⟨j, hj, rfl, hm⟩
theorem Tr.out {P : Program} {r : Option Nat} {nt : NT} {nI : Nat} {c : Code} {σ : AS} {ι : Type} {Inv : ι → Prop} {I : ι → AS} {m : ι → Nat} {K : Exit → AS → Prop} {i : ι} {ex : Exit} {s0 : AS} (h : Tr P r nt nI c σ fun e s => e = ex ∧ s = s0) (hk : K ex s0) (hx : ex ≠ .normal) : Tr P r nt nI c σ (RK Inv I m K i) :=
  h.mono fun e s ⟨q1, q2⟩ => by
    subst q1; subst q2
    cases e with
    | normal => exact absurd rfl hx
    | _ => exact hk
theorem Tr.rounds {P : Program} {r : Option Nat} {nt : NT} {nI : Nat} {c : Code} {ι : Type} {Inv : ι → Prop} {I : ι → AS} {m : ι → Nat} {K : Exit → AS → Prop} (round : ∀ i, Inv i → Tr P r nt nI c (I i) (RK Inv I m K i)) (i : ι) (hi : Inv i) : Tr P r nt nI (.loop c) (I i) K :=
  Tr.loop (ι := { i : ι // Inv i }) (fun j => I j.1) (fun j => m j.1) (fun j => (round j.1 j.2).mono fun e s h => by
    cases e with
    | normal => obtain ⟨k, h1, h2, h3⟩ := h; exact ⟨⟨k, h1⟩, h2 ▸ Imp.refl _ _ _, h3⟩
    | _ => exact h) ⟨i, hi⟩ (Imp.refl _ _ _)
/-- of what a loop comes to one way is told -/
theorem Tr.pick {P : Program} {r : Option Nat} {nt : NT} {nI : Nat} {c : Code} {σ : AS} {K : Exit → AS → Prop} {ex : Exit} {s0 : AS} (h : Tr P r nt nI c σ K) (hk : ∀ e s, K e s → e = ex ∧ s = s0) : Tr P r nt nI c σ fun e s => e = ex ∧ s = s0 := h.mono hk

/-! ### parts of code -/
def loopsOf : Code → List Code
  | .seq a b => loopsOf a ++ loopsOf b
  | .cond _ a b => loopsOf a ++ loopsOf b
  | .block _ c => loopsOf c
  | .loop c => c :: loopsOf c
  | .scope c => loopsOf c
  | .rangeFunc _ _ a c => loopsOf a ++ loopsOf c
  | _ => []
/-- the k-th loop's round -/
def nthLoop (f : Func) (k : Nat) : Code := (loopsOf (bodyOf f)).getD k .skip
end Go.Am
