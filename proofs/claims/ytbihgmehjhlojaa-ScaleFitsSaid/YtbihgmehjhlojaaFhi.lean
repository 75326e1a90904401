/-
Package fhist: side, open, Check, Pairs, Make, From.
-/
import Derived.Test.YtbihgmehjhlojaaFit
set_option linter.unusedVariables false
set_option linter.unusedSimpArgs false
set_option maxRecDepth 100000
namespace Go.Am
open Go Go.RowKit Go.Proofs
theorem has268 : Has Try.prog 268 Try.f268 (bodyOf Try.f268) := ⟨Try.func268, by kernel_rfl, by kernel_rfl⟩
theorem has285 : Has Try.prog 285 Try.f285 (bodyOf Try.f285) := ⟨Try.func285, by kernel_rfl, by kernel_rfl⟩
theorem has224 : Has Try.prog 224 Try.f224 (bodyOf Try.f224) := ⟨Try.func224, by kernel_rfl, by kernel_rfl⟩
theorem has149 : Has Try.prog 149 Try.f149 (bodyOf Try.f149) := ⟨Try.func149, by kernel_rfl, by kernel_rfl⟩
theorem has68 : Has Try.prog 68 Try.f68 (bodyOf Try.f68) := ⟨Try.func68, by kernel_rfl, by kernel_rfl⟩
theorem has98 : Has Try.prog 98 Try.f98 (bodyOf Try.f98) := ⟨Try.func98, by kernel_rfl, by kernel_rfl⟩
theorem has101 : Has Try.prog 101 Try.f101 (bodyOf Try.f101) := ⟨Try.func101, by kernel_rfl, by kernel_rfl⟩
theorem has26 : Has Try.prog 26 Try.f26 (bodyOf Try.f26) := ⟨Try.func26, by kernel_rfl, by kernel_rfl⟩
theorem has120 : Has Try.prog 120 Try.f120 (bodyOf Try.f120) := ⟨Try.func120, by kernel_rfl, by kernel_rfl⟩
theorem has43 : Has Try.prog 43 Try.f43 (bodyOf Try.f43) := ⟨Try.func43, by kernel_rfl, by kernel_rfl⟩

def gMake (t : TypeId) (x y : Operand) (vl vc : Value) (E : Nat → Eff) : GenF := fun ts hp nx o =>
  match o.op with
  | .makeSlice t' x' y' =>
    match ev ts x', ev ts y' with
    | some a, some b => some (E nx, nx + 1, [(.p (.makeSlice t' x' y'), .p (.makeSlice t x y)), (.v a, .v vl), (.v b, .v vc)])
    | _, _ => none
  | _ => none
theorem gMake_ok {P : Program} {t : TypeId} {x y : Operand} {vl vc : Value} {E : Nat → Eff} (h : ∀ nx, effMake P nx t vl vc = some (E nx)) : GenOK P (gMake t x y vl vc E) := by
  intro ts hp nx o e nx' cs he hc
  unfold gMake at he
  split at he
  · rename_i t' x' y' ho
    split at he
    · rename_i a b ha hb
      simp only [Option.some.injEq, Prod.mk.injEq] at he
      obtain ⟨rfl, rfl, rfl⟩ := he
      have e1 := hc.head
      have e2 := hc.tail.head
      have e3 := hc.tail.tail.head
      simp only [Cl.p.injEq, Op.makeSlice.injEq, Cl.v.injEq] at e1 e2 e3
      obtain ⟨rfl, rfl, rfl⟩ := e1
      subst e2; subst e3
      refine evalOp_ok ?_
      simp [evalOp, ho, ha, hb, h]
    · cases he
  · cases he
theorem effMake0 {P : Program} {nx : Nat} {t e : TypeId} {k b c : Nat} {vl vc z : Value} (h1 : P.underlying t = some (.slice e)) (h2 : infoOf P e = some (k, b)) (h3 : zeroOf P e = some z) (h4 : asN vl = some 0) (h5 : asN vc = some c) (hb : b * c ≤ 281474976710656) (hc : c ≤ 9223372036854775807) (hz : cellsOf z ≠ []) :
    effMake P nx t vl vc = some { val := some (.slice (some ⟨nx, 0, none⟩) 0 (if c = 0 then 0 else 2)), upd := [(nx, { cells := [], st := 2, par := [], esz := k })] } := by
  unfold effMake
  rw [h1]
  simp only [h2, h3, h4, h5, Option.bind_some]
  rw [if_pos ⟨Nat.zero_le _, hb, hc, hz⟩]
  simp [zeroRow]
theorem make48 (n : Nat) (h : n ≤ 4294967296) : ∀ nx, effMake Try.prog nx 48 (.int .i64 0) (.int .i64 ((n : Nat) : Int)) = some { val := some (.slice (some ⟨nx, 0, none⟩) 0 (if n = 0 then 0 else 2)), upd := [(nx, { cells := [], st := 2, par := [], esz := 1 })] } := fun nx =>
  effMake0 (e := 22) (k := 1) (b := 8) (z := .int .u64 0) (by kernel_rfl) (by kernel_rfl) (by kernel_rfl) (by kernel_rfl) (by simp [asN]) (by omega) (by omega) (by decide)
section
variable {P : Program} {r : Option Nat} {N nI : Nat} {m : Bool}
def aMk {t : TypeId} {x y : Operand} {vl vc : Value} {E : Nat → Eff} (h : ∀ nx, effMake P nx t vl vc = some (E nx)) : Ans P r N nI m := .gen (gMake t x y vl vc E) (gMake_ok h)
end
theorem make48z {n : Nat} (h : n = 0) : ∀ nx, effMake Try.prog nx 48 (.int .i64 0) (.int .i64 ((n : Nat) : Int)) = some { val := some (.slice (some ⟨nx, 0, none⟩) 0 0), upd := [(nx, { cells := [], st := 2, par := [], esz := 1 })] } := fun nx => by
  have := make48 n (by omega) nx; rw [if_pos h] at this; exact this
theorem make48s {n : Nat} (h0 : ¬ n = 0) (h : n ≤ 4294967296) : ∀ nx, effMake Try.prog nx 48 (.int .i64 0) (.int .i64 ((n : Nat) : Int)) = some { val := some (.slice (some ⟨nx, 0, none⟩) 0 2), upd := [(nx, { cells := [], st := 2, par := [], esz := 1 })] } := fun nx => by
  have := make48 n h nx; rw [if_neg h0] at this; exact this
/-- a whole number's float -/
def fltS (n : Int) : Int := ((TP.nearest64 n.toNat : Nat) : Int)
theorem fltS_in {n : Int} (h : U64 n) : FOK (fltS n) := by
  have := TP.nearest64_lt (n := n.toNat) (by unfold U64 at h; omega)
  unfold fltS FOK; omega
theorem flt_val {n : Int} (h : 0 ≤ n) : Value.float .f64 (FloatKind.f64.nearest n) = .float .f64 (fltS n).toNat := by
  have e : (decide (n < 0)) = false := by simp; omega
  have e2 : n.natAbs = n.toNat := by omega
  unfold FloatKind.nearest fltS TP.nearest64
  rw [e, e2]
  rfl
def fsideE (l : List Sp) (c : List Int) : Int := if checkS l ≠ 0 then checkS l else if countS l ≠ c.length then 23 else if c.any (fun v : Int => !thrS v) then 22 else 0
def fsideR (l : List Sp) (c : List Int) : List (Int × Int) := if fsideE l c = 0 then (places l).zip c else []
theorem fsideE_zero {l : List Sp} {c : List Int} : fsideE l c = 0 ↔ checkS l = 0 ∧ countS l = c.length ∧ c.any (fun v : Int => !thrS v) = false := by
  unfold fsideE
  split
  · rename_i h; constructor
    · intro q; exact absurd q h
    · intro q; exact absurd q.1 h
  · rename_i h
    split
    · rename_i h2; constructor
      · intro q; cases q
      · intro q; exact absurd q.2.1 h2
    · rename_i h2
      cases h3 : c.any (fun v : Int => !thrS v)
      · simp at h h2 ⊢; exact ⟨h, h2⟩
      · simp
theorem fsideR_len (l : List Sp) (c : List Int) : (fsideR l c).length ≤ 4096 := by
  unfold fsideR
  split
  · have h1 := places_length l
    have h2 := countS_le l
    simp [List.length_zip]
    omega
  · simp
theorem fsideR_wok {l : List Sp} {c : List Int} (h : ∀ x ∈ c, U64 x) : WOK FOK (fsideR l c) := by
  intro x hx
  unfold fsideR at hx
  split at hx
  · rename_i hz
    have h1 := places_in (List.of_mem_zip hx).1
    have hm := (List.of_mem_zip hx).2
    have h2 := (fsideE_zero.1 hz).2.2
    rw [List.any_eq_false] at h2
    have h3 := h2 _ hm
    have h4 := h _ hm
    simp [thrS] at h3
    unfold U64 at h4
    exact ⟨by unfold I64; omega, by unfold FOK; omega⟩
  · simp at hx
structure HF where
  schema : Int
  zero : Int
  zc : Int
  count : Int
  sum : Int
  pos : List Sp
  neg : List Sp
  pc : List Int
  nc : List Int
structure FWf (h : HF) : Prop where
  schema : I64 h.schema
  zero : U64 h.zero
  zc : U64 h.zc
  count : U64 h.count
  sum : U64 h.sum
  pc : ∀ x ∈ h.pc, U64 x
  nc : ∀ x ∈ h.nc, U64 x
  np : h.pc.length ≤ 4294967296
  nn : h.nc.length ≤ 4294967296
structure FNum (h : HF) : Prop where
  schema : I64 h.schema
  zero : U64 h.zero
  zc : U64 h.zc
  count : U64 h.count
  sum : U64 h.sum
theorem FWf.num {h : HF} (w : FWf h) : FNum h := ⟨w.schema, w.zero, w.zc, w.count, w.sum⟩
def fheadE (h : HF) : Int := if headE h.schema h.zero ≠ 0 then headE h.schema h.zero else if thrS h.zc = false ∨ thrS h.count = false then 22 else 0
def fopE (h : HF) : Int := if fheadE h ≠ 0 then fheadE h else if fsideE h.pos h.pc ≠ 0 then fsideE h.pos h.pc else fsideE h.neg h.nc
def fposR (h : HF) : List (Int × Int) := if fopE h = 0 then fsideR h.pos h.pc else []
def fnegR (h : HF) : List (Int × Int) := if fopE h = 0 then fsideR h.neg h.nc else []
theorem fposR_bad {h : HF} (e : fopE h ≠ 0) : fposR h = [] := by unfold fposR; rw [if_neg e]
theorem fnegR_bad {h : HF} (e : fopE h ≠ 0) : fnegR h = [] := by unfold fnegR; rw [if_neg e]
theorem fposR_len (h : HF) : (fposR h).length ≤ 4096 := by unfold fposR; split; exact fsideR_len _ _; simp
theorem fnegR_len (h : HF) : (fnegR h).length ≤ 4096 := by unfold fnegR; split; exact fsideR_len _ _; simp
theorem fposR_wok {h : HF} (w : FWf h) : WOK FOK (fposR h) := by unfold fposR; split; exact fsideR_wok w.pc; intro x hx; simp at hx
theorem fnegR_wok {h : HF} (w : FWf h) : WOK FOK (fnegR h) := by unfold fnegR; split; exact fsideR_wok w.nc; intro x hx; simp at hx
abbrev idxthr_I (l : List Int) (i : Nat) : AS := ⟨[(0, .slice (some ⟨0, 0, none⟩) l.length (l.length + 1)), (1, .func (.func 223) #[] #[]), (7, .int .i64 ((l.length : Nat) : Int)), (8, .int .i64 ((i : Nat) : Int))], [(0, ⟨(l).flatMap encW, 1, [], 1⟩)], 1⟩
abbrev idxthr_inv (l : List Int) (i : Nat) : Prop := i ≤ l.length ∧ ∀ x ∈ l.take i, (fun v : Int => !thrS v) x = false
def idxthr_K (l : List Int) : Exit → AS → Prop := fun e s => (l.any (fun v : Int => !thrS v) = false ∧ e = .exit 0 ∧ s = ⟨[], [], 1⟩) ∨ (l.any (fun v : Int => !thrS v) = true ∧ e = .ret ∧ s = ⟨[(4, .int .i64 ((l.findIdx (fun v : Int => !thrS v) : Nat) : Int))], [], 1⟩)
abbrev idxthr_Iu (l : List Int) : Nat → AS := fun x => idxthr_I l x
abbrev idxthr_vu (l : List Int) : Nat → Prop := fun x => idxthr_inv l x
abbrev idxthr_m (l : List Int) : Nat → Nat := fun x => (fun (i : Nat) => l.length - i) x
theorem idxthr_round (l : List Int) (h_n : l.length ≤ 140737488355328) (i : Nat) (hinv : idxthr_inv l i) {ds : List Deferred} : Tr Try.prog none ⟨19, ds⟩ 1 (nthLoop Try.f285 0) (idxthr_I l i) (RK (idxthr_vu l) (idxthr_Iu l) (idxthr_m l) (idxthr_K l) i) := by
  obtain ⟨hi0, hx⟩ := hinv
  by_cases h2000 : (((i : Nat) : Int) < ((l.length : Nat) : Int))
  · skip
    obtain ⟨s1, hs1⟩ : ∃ s, l[i]? = some s := ⟨_, List.getElem?_eq_getElem (by omega)⟩
    cases h4005 : ((fun v : Int => !thrS v) s1) with
    | true =>
      obtain ⟨hi, hn⟩ := idx_found (p := (fun v : Int => !thrS v)) hx hs1 h4005
      exact Tr.out (I := (idxthr_Iu l)) (m := (idxthr_m l)) (Tr.run follows_mixed (A := [(2000, aT h2000), (4003, aX i l.length 1 (by omega)), (4004, aL encW_k hs1), (4005, aCb (fwrong_ok s1) h4005), (5000, aE (x := .int .i64 ((i : Nat) : Int)) (y := .int .i64 ((l.findIdx (fun v : Int => !thrS v) : Nat) : Int)) (by rw [← hi]))]) (rows := []) (by kernel_rfl) .nil (le_ble rfl)) (.inr ⟨hn, rfl, rfl⟩) (by simp)
    | false =>
      exact Tr.again (Inv := (idxthr_vu l)) (I := (idxthr_Iu l)) (m := (idxthr_m l)) (i + 1) (Tr.run follows_mixed (A := [(2000, aT h2000), (4003, aX i l.length 1 (by omega)), (4004, aL encW_k hs1), (4005, aCb (fwrong_ok s1) h4005), (6000, aI .i64 .i64 (((i : Nat) : Int) + 1) (((i + 1 : Nat) : Int)) (wrap_i64' (by omega) (by omega) (by omega)))]) (rows := [0]) (by kernel_rfl) (.cons (fun _ => encW_sc _) .nil) (le_ble rfl)) (show idxthr_inv l (i + 1) from ⟨by omega, idx_step hx hs1 h4005⟩) (by show l.length - (i + 1) < l.length - i; omega)
  · skip
    have hn : l.any (fun v : Int => !thrS v) = false := idx_none hx (by omega)
    exact Tr.out (I := (idxthr_Iu l)) (m := (idxthr_m l)) (Tr.run follows_mixed (A := [(2000, aF h2000)]) (rows := []) (by kernel_rfl) .nil (le_ble rfl)) (.inl ⟨hn, rfl, rfl⟩) (by simp)

theorem idxthr_loop (l : List Int) (h_n : l.length ≤ 140737488355328) (i : Nat) (hinv : idxthr_inv l i) {ds : List Deferred} : Tr Try.prog none ⟨19, ds⟩ 1 (.loop (nthLoop Try.f285 0)) (idxthr_I l i) (idxthr_K l) :=
  Tr.rounds (Inv := (idxthr_vu l)) (I := (idxthr_Iu l)) (m := (idxthr_m l)) (fun x h_0 => idxthr_round l h_n x h_0) i hinv
theorem idxthr_ok (l : List Int) (h_n : l.length ≤ 140737488355328) : FnC Try.prog 285 [.slice (some ⟨0, 0, none⟩) l.length (l.length + 1), .func (.func 223) #[] #[]] [(0, ⟨(l).flatMap encW, 1, [], 1⟩)] 1 (.int .i64 (idxI (fun v : Int => !thrS v) l)) 0 [] := by
  rcases Bool.eq_false_or_eq_true (l.any (fun v : Int => !thrS v)) with hz | hz
  · skip
    exact FnC.eq (v := .int .i64 ((l.findIdx (fun v : Int => !thrS v) : Nat) : Int)) (FnC.run (m := false) follows_mixed has285 [(900000, .stmt (.loop (nthLoop Try.f285 0)) [0] (idxthr_I l 0) (.ret) ⟨[(4, .int .i64 ((l.findIdx (fun v : Int => !thrS v) : Nat) : Int))], [], 1⟩ (.cons (fun _ => encW_sc _) .nil) (fun ds => (idxthr_loop l h_n 0 ⟨by omega, by simp⟩).pick (fun e s h => by rcases h with ⟨h0, _⟩ | ⟨_, h⟩; rw [hz] at h0; cases h0; exact h)) (le_ble rfl))] (by kernel_rfl) (by kernel_rfl) (.cons (encW_sc _) .nil) .nil) (by rw [idxI_true hz])
  · skip
    exact FnC.eq (v := .int .i64 (-1)) (FnC.run (m := false) follows_mixed has285 [(900000, .stmt (.loop (nthLoop Try.f285 0)) [0] (idxthr_I l 0) (.exit 0) ⟨[], [], 1⟩ (.cons (fun _ => encW_sc _) .nil) (fun ds => (idxthr_loop l h_n 0 ⟨by omega, by simp⟩).pick (fun e s h => by rcases h with ⟨_, h⟩ | ⟨h0, _⟩; exact h; rw [hz] at h0; cases h0)) (le_ble rfl))] (by kernel_rfl) (by kernel_rfl) (.cons (encW_sc _) .nil) .nil) (by rw [idxI_false hz])
theorem idxthrc_ok (l : List Int) (h_n : l.length ≤ 140737488355328) : FnC Try.prog 268 [.slice (some ⟨0, 0, none⟩) l.length (l.length + 1), .func (.func 223) #[] #[]] [(0, ⟨(l).flatMap encW, 1, [], 1⟩)] 1 (.bool (l.any (fun v : Int => !thrS v))) 0 [] := by
  exact FnC.eq (v := .bool (decide (idxI (fun v : Int => !thrS v) l ≥ 0))) (FnC.run (m := false) follows_mixed has268 [(1002, aC (idxthr_ok l h_n))] (by kernel_rfl) (by kernel_rfl) (.cons (encW_sc _) .nil) .nil) (by rw [idxI_nonneg])
theorem fside_ok (l : List Sp) (c : List Int) (h_n : c.length ≤ 4294967296) : FnC Try.prog 224 [.slice (some ⟨0, 0, none⟩) l.length (l.length + 1), .slice (some ⟨1, 0, none⟩) c.length (c.length + 1)] [(0, ⟨(l).flatMap encS, 1, [], 2⟩), (1, ⟨(c).flatMap encW, 1, [], 1⟩)] 2 (.tuple #[.slice (some ⟨2, 0, none⟩) ((fsideR l c).length) ((fsideR l c).length + 1), .int .i64 (fsideE l c)]) 1 [(2, ⟨(fsideR l c).flatMap encU, 2, [], 2⟩)] := by
  by_cases h2001 : ((checkS l : Int) = 0)
  · skip
    by_cases h4004 : ((countS l : Int) = ((c.length : Nat) : Int))
    · skip
      cases h6001 : ((c).any (fun v : Int => !thrS v)) with
      | true =>
        have he : fsideE l c = 22 := by unfold fsideE; rw [if_neg (by simp [h2001]), if_neg (by simp [h4004]), if_pos h6001]
        have hr : fsideR l c = [] := by unfold fsideR; rw [if_neg (by rw [he]; decide)]
        rw [hr, he]
        exact FnC.run (m := false) follows_mixed has224 [(1001, aC (check_ok l)), (2001, aNT h2001), (4001, aC (count_ok l)), (4004, aNT h4004), (6001, aCb (idxthrc_ok (c) (by omega)) h6001)] (by kernel_rfl) (by kernel_rfl) (.cons (encS_sc _) (.cons (encW_sc _) .nil)) (.cons (encU_sc _) .nil)
      | false =>
        have he : fsideE l c = 0 := fsideE_zero.2 ⟨h2001, h4004, h6001⟩
        have hr : fsideR l c = (places l).zip c := by unfold fsideR; rw [if_pos he]
        rw [hr, he]
        exact FnC.run (m := false) follows_mixed has224 [(1001, aC (check_ok l)), (2001, aNT h2001), (4001, aC (count_ok l)), (4004, aNT h4004), (6001, aCb (idxthrc_ok (c) (by omega)) h6001), (8002, aC (zipU_ok (l) (c) h2001 (by have := places_length l; omega)))] (by kernel_rfl) (by kernel_rfl) (.cons (encS_sc _) (.cons (encW_sc _) .nil)) (.cons (encU_sc _) .nil)
    · skip
      have he : fsideE l c = 23 := by simp [fsideE, h2001, h4004]
      have hr : fsideR l c = [] := by unfold fsideR; rw [if_neg (by rw [he]; decide)]
      rw [hr, he]
      exact FnC.run (m := false) follows_mixed has224 [(1001, aC (check_ok l)), (2001, aNT h2001), (4001, aC (count_ok l)), (4004, aNF h4004)] (by kernel_rfl) (by kernel_rfl) (.cons (encS_sc _) (.cons (encW_sc _) .nil)) (.cons (encU_sc _) .nil)
  · skip
    have he : fsideE l c = checkS l := by simp [fsideE, h2001]
    have hr : fsideR l c = [] := by unfold fsideR; rw [if_neg (by rw [he]; assumption)]
    rw [hr, he]
    exact FnC.run (m := false) follows_mixed has224 [(1001, aC (check_ok l)), (2001, aNF h2001)] (by kernel_rfl) (by kernel_rfl) (.cons (encS_sc _) (.cons (encW_sc _) .nil)) (.cons (encU_sc _) .nil)
theorem fopen_ok (h : HF) (h_w : FWf h) : FnC Try.prog 149 [.agg #[.int .i64 h.schema, .int .u64 h.zero, .int .u64 h.zc, .int .u64 h.count, .int .u64 h.sum, .slice (some ⟨0, 0, none⟩) h.pos.length (h.pos.length + 1), .slice (some ⟨1, 0, none⟩) h.neg.length (h.neg.length + 1), .slice (some ⟨2, 0, none⟩) h.pc.length (h.pc.length + 1), .slice (some ⟨3, 0, none⟩) h.nc.length (h.nc.length + 1)]] [(0, ⟨(h.pos).flatMap encS, 1, [], 2⟩), (1, ⟨(h.neg).flatMap encS, 1, [], 2⟩), (2, ⟨(h.pc).flatMap encW, 1, [], 1⟩), (3, ⟨(h.nc).flatMap encW, 1, [], 1⟩)] 4 (.tuple #[.slice (some ⟨4, 0, none⟩) ((fposR h).length) ((fposR h).length + 1), .slice (some ⟨5, 0, none⟩) ((fnegR h).length) ((fnegR h).length + 1), .int .i64 (fopE h)]) 2 [(4, ⟨(fposR h).flatMap encU, 2, [], 2⟩), (5, ⟨(fnegR h).flatMap encU, 2, [], 2⟩)] := by
  by_cases h1002 : (h.schema < -4)
  · skip
    have he : fopE h = 21 := by simp [fopE, fheadE, headE, h1002]
    have hn : fopE h ≠ 0 := by rw [he]; decide
    rw [fposR_bad hn, fnegR_bad hn, he]
    exact FnC.run (m := false) follows_mixed has149 [(1002, aT h1002)] (by kernel_rfl) (by kernel_rfl) (.cons (encS_sc _) (.cons (encS_sc _) (.cons (encW_sc _) (.cons (encW_sc _) .nil)))) (.cons (encU_sc _) (.cons (encU_sc _) .nil))
  · skip
    by_cases h1006 : (h.schema > 8)
    · skip
      have he : fopE h = 21 := by simp [fopE, fheadE, headE, h1006]
      have hn : fopE h ≠ 0 := by rw [he]; decide
      rw [fposR_bad hn, fnegR_bad hn, he]
      exact FnC.run (m := false) follows_mixed has149 [(1002, aF h1002), (1006, aT h1006)] (by kernel_rfl) (by kernel_rfl) (.cons (encS_sc _) (.cons (encS_sc _) (.cons (encW_sc _) (.cons (encW_sc _) .nil)))) (.cons (encU_sc _) (.cons (encU_sc _) .nil))
    · skip
      cases h3002 : (thrS h.zero) with
      | true =>
        have hH : headE h.schema h.zero = 0 := by simp [headE, h3002]; omega
        cases h5002 : (!thrS h.zc) with
        | true =>
          have he : fopE h = 22 := by have hG : fheadE h = 22 := by { unfold fheadE; rw [if_neg (by rw [hH]; simp), if_pos (by simp_all)] }; simp [fopE, hG]
          have hn : fopE h ≠ 0 := by rw [he]; decide
          rw [fposR_bad hn, fnegR_bad hn, he]
          exact FnC.run (m := false) follows_mixed has149 [(1002, aF h1002), (1006, aF h1006), (3002, aCb (thr_ok h.zero) h3002), (5002, aCb (fwrong_ok (h.zc)) h5002)] (by kernel_rfl) (by kernel_rfl) (.cons (encS_sc _) (.cons (encS_sc _) (.cons (encW_sc _) (.cons (encW_sc _) .nil)))) (.cons (encU_sc _) (.cons (encU_sc _) .nil))
        | false =>
          cases h5006 : (!thrS h.count) with
          | true =>
            have he : fopE h = 22 := by have hG : fheadE h = 22 := by { unfold fheadE; rw [if_neg (by rw [hH]; simp), if_pos (by simp_all)] }; simp [fopE, hG]
            have hn : fopE h ≠ 0 := by rw [he]; decide
            rw [fposR_bad hn, fnegR_bad hn, he]
            exact FnC.run (m := false) follows_mixed has149 [(1002, aF h1002), (1006, aF h1006), (3002, aCb (thr_ok h.zero) h3002), (5002, aCb (fwrong_ok (h.zc)) h5002), (5006, aCb (fwrong_ok (h.count)) h5006)] (by kernel_rfl) (by kernel_rfl) (.cons (encS_sc _) (.cons (encS_sc _) (.cons (encW_sc _) (.cons (encW_sc _) .nil)))) (.cons (encU_sc _) (.cons (encU_sc _) .nil))
          | false =>
            have hG : fheadE h = 0 := by unfold fheadE; rw [if_neg (by rw [hH]; simp), if_neg (by simp_all)]
            by_cases h8001 : ((fsideE (h.pos) (h.pc) : Int) = 0)
            · skip
              by_cases h11001 : ((fsideE (h.neg) (h.nc) : Int) = 0)
              · skip
                have he : fopE h = 0 := by simp [fopE, hG, h8001, h11001]
                have hp : fposR h = fsideR h.pos h.pc := by unfold fposR; rw [if_pos he]
                have hq : fnegR h = fsideR h.neg h.nc := by unfold fnegR; rw [if_pos he]
                rw [hp, hq, he]
                exact FnC.run (m := false) follows_mixed has149 [(1002, aF h1002), (1006, aF h1006), (3002, aCb (thr_ok h.zero) h3002), (5002, aCb (fwrong_ok (h.zc)) h5002), (5006, aCb (fwrong_ok (h.count)) h5006), (7004, aC (fside_ok (h.pos) (h.pc) h_w.np)), (8001, aNT h8001), (10004, aC (fside_ok (h.neg) (h.nc) h_w.nn)), (11001, aNT h11001)] (by kernel_rfl) (by kernel_rfl) (.cons (encS_sc _) (.cons (encS_sc _) (.cons (encW_sc _) (.cons (encW_sc _) .nil)))) (.cons (encU_sc _) (.cons (encU_sc _) .nil))
              · skip
                have he : fopE h = fsideE h.neg h.nc := by simp [fopE, hG, h8001]
                have hn : fopE h ≠ 0 := by rw [he]; assumption
                rw [fposR_bad hn, fnegR_bad hn, he]
                exact FnC.run (m := false) follows_mixed has149 [(1002, aF h1002), (1006, aF h1006), (3002, aCb (thr_ok h.zero) h3002), (5002, aCb (fwrong_ok (h.zc)) h5002), (5006, aCb (fwrong_ok (h.count)) h5006), (7004, aC (fside_ok (h.pos) (h.pc) h_w.np)), (8001, aNT h8001), (10004, aC (fside_ok (h.neg) (h.nc) h_w.nn)), (11001, aNF h11001)] (by kernel_rfl) (by kernel_rfl) (.cons (encS_sc _) (.cons (encS_sc _) (.cons (encW_sc _) (.cons (encW_sc _) .nil)))) (.cons (encU_sc _) (.cons (encU_sc _) .nil))
            · skip
              have he : fopE h = fsideE h.pos h.pc := by simp [fopE, hG, h8001]
              have hn : fopE h ≠ 0 := by rw [he]; assumption
              rw [fposR_bad hn, fnegR_bad hn, he]
              exact FnC.run (m := false) follows_mixed has149 [(1002, aF h1002), (1006, aF h1006), (3002, aCb (thr_ok h.zero) h3002), (5002, aCb (fwrong_ok (h.zc)) h5002), (5006, aCb (fwrong_ok (h.count)) h5006), (7004, aC (fside_ok (h.pos) (h.pc) h_w.np)), (8001, aNF h8001)] (by kernel_rfl) (by kernel_rfl) (.cons (encS_sc _) (.cons (encS_sc _) (.cons (encW_sc _) (.cons (encW_sc _) .nil)))) (.cons (encU_sc _) (.cons (encU_sc _) .nil))
      | false =>
        have he : fopE h = 11 := by have hH : headE h.schema h.zero = 11 := by { unfold headE; rw [if_neg (show ¬ (h.schema < -4 ∨ h.schema > 8) by omega), h3002]; simp }; simp [fopE, fheadE, hH]
        have hn : fopE h ≠ 0 := by rw [he]; decide
        rw [fposR_bad hn, fnegR_bad hn, he]
        exact FnC.run (m := false) follows_mixed has149 [(1002, aF h1002), (1006, aF h1006), (3002, aCb (thr_ok h.zero) h3002)] (by kernel_rfl) (by kernel_rfl) (.cons (encS_sc _) (.cons (encS_sc _) (.cons (encW_sc _) (.cons (encW_sc _) .nil)))) (.cons (encU_sc _) (.cons (encU_sc _) .nil))
theorem fcheck_ok (h : HF) (h_w : FWf h) : FnC Try.prog 68 [.agg #[.int .i64 h.schema, .int .u64 h.zero, .int .u64 h.zc, .int .u64 h.count, .int .u64 h.sum, .slice (some ⟨0, 0, none⟩) h.pos.length (h.pos.length + 1), .slice (some ⟨1, 0, none⟩) h.neg.length (h.neg.length + 1), .slice (some ⟨2, 0, none⟩) h.pc.length (h.pc.length + 1), .slice (some ⟨3, 0, none⟩) h.nc.length (h.nc.length + 1)]] [(0, ⟨(h.pos).flatMap encS, 1, [], 2⟩), (1, ⟨(h.neg).flatMap encS, 1, [], 2⟩), (2, ⟨(h.pc).flatMap encW, 1, [], 1⟩), (3, ⟨(h.nc).flatMap encW, 1, [], 1⟩)] 4 (.int .i64 (fopE h)) 0 [] := by
  exact FnC.run (m := false) follows_mixed has68 [(1001, aC (fopen_ok h h_w))] (by kernel_rfl) (by kernel_rfl) (.cons (encS_sc _) (.cons (encS_sc _) (.cons (encW_sc _) (.cons (encW_sc _) .nil)))) .nil
theorem fpairs0_ok (h : HF) (h_w : FWf h) : FnC Try.prog 98 [.agg #[.int .i64 h.schema, .int .u64 h.zero, .int .u64 h.zc, .int .u64 h.count, .int .u64 h.sum, .slice (some ⟨0, 0, none⟩) h.pos.length (h.pos.length + 1), .slice (some ⟨1, 0, none⟩) h.neg.length (h.neg.length + 1), .slice (some ⟨2, 0, none⟩) h.pc.length (h.pc.length + 1), .slice (some ⟨3, 0, none⟩) h.nc.length (h.nc.length + 1)], .int .i64 0] [(0, ⟨(h.pos).flatMap encS, 1, [], 2⟩), (1, ⟨(h.neg).flatMap encS, 1, [], 2⟩), (2, ⟨(h.pc).flatMap encW, 1, [], 1⟩), (3, ⟨(h.nc).flatMap encW, 1, [], 1⟩)] 4 (.tuple #[.slice (some ⟨4, 0, none⟩) ((fposR h).length) ((fposR h).length + 1), .int .i64 (fopE h)]) 1 [(4, ⟨(fposR h).flatMap encU, 2, [], 2⟩)] := by
  exact FnC.run (m := false) follows_mixed has98 [(1001, aC (fopen_ok h h_w))] (by kernel_rfl) (by kernel_rfl) (.cons (encS_sc _) (.cons (encS_sc _) (.cons (encW_sc _) (.cons (encW_sc _) .nil)))) (.cons (encU_sc _) .nil)
theorem fpairs1_ok (h : HF) (h_w : FWf h) : FnC Try.prog 98 [.agg #[.int .i64 h.schema, .int .u64 h.zero, .int .u64 h.zc, .int .u64 h.count, .int .u64 h.sum, .slice (some ⟨0, 0, none⟩) h.pos.length (h.pos.length + 1), .slice (some ⟨1, 0, none⟩) h.neg.length (h.neg.length + 1), .slice (some ⟨2, 0, none⟩) h.pc.length (h.pc.length + 1), .slice (some ⟨3, 0, none⟩) h.nc.length (h.nc.length + 1)], .int .i64 1] [(0, ⟨(h.pos).flatMap encS, 1, [], 2⟩), (1, ⟨(h.neg).flatMap encS, 1, [], 2⟩), (2, ⟨(h.pc).flatMap encW, 1, [], 1⟩), (3, ⟨(h.nc).flatMap encW, 1, [], 1⟩)] 4 (.tuple #[.slice (some ⟨4, 0, none⟩) ((fnegR h).length) ((fnegR h).length + 1), .int .i64 (fopE h)]) 1 [(4, ⟨(fnegR h).flatMap encU, 2, [], 2⟩)] := by
  exact FnC.run (m := false) follows_mixed has98 [(1001, aC (fopen_ok h h_w))] (by kernel_rfl) (by kernel_rfl) (.cons (encS_sc _) (.cons (encS_sc _) (.cons (encW_sc _) (.cons (encW_sc _) .nil)))) (.cons (encU_sc _) .nil)
def HF0 : HF := ⟨0, 0, 0, 0, 0, [], [], [], []⟩
def flaid (h : HF) (p q : List (Int × Int)) : HF := { h with pos := fromR (fsts p), neg := fromR (fsts q), pc := unzV p, nc := unzV q }
def fmakeE (h : HF) (p q : List (Int × Int)) : Int := if fromE (fsts p) ≠ 0 then fromE (fsts p) else if fromE (fsts q) ≠ 0 then fromE (fsts q) else fopE (flaid h p q)
def fmakeH (h : HF) (p q : List (Int × Int)) : HF := if fmakeE h p q = 0 then flaid h p q else HF0
theorem fmakeH_bad {h : HF} {p q : List (Int × Int)} (e : fmakeE h p q ≠ 0) : fmakeH h p q = HF0 := by unfold fmakeH; rw [if_neg e]
theorem unzV_u64 {l : List (Int × Int)} (h : ∀ x ∈ l, U64 x.2) : ∀ x ∈ unzV l, U64 x := by
  intro x hx
  unfold unzV at hx
  split at hx
  · obtain ⟨y, hy, rfl⟩ := List.mem_map.1 hx
    exact h y hy
  · simp at hx
theorem flaid_wf {h : HF} {p q : List (Int × Int)} (w : FNum h) (hp : ∀ x ∈ p, U64 x.2) (hq : ∀ x ∈ q, U64 x.2) (lp : p.length ≤ 4294967296) (lq : q.length ≤ 4294967296) : FWf (flaid h p q) :=
  ⟨w.schema, w.zero, w.zc, w.count, w.sum, unzV_u64 hp, unzV_u64 hq, Nat.le_trans (unzV_le p) lp, Nat.le_trans (unzV_le q) lq⟩
theorem fmake_ok (h : HF) (p q : List (Int × Int)) (h_w : FNum h) (h_p : ∀ x ∈ p, U64 x.2) (h_q : ∀ x ∈ q, U64 x.2) (h_lp : p.length ≤ 4294967296) (h_lq : q.length ≤ 4294967296) : FnC Try.prog 101 [.agg #[.int .i64 h.schema, .int .u64 h.zero, .int .u64 h.zc, .int .u64 h.count, .int .u64 h.sum, .slice (some ⟨0, 0, none⟩) h.pos.length (h.pos.length + 1), .slice (some ⟨1, 0, none⟩) h.neg.length (h.neg.length + 1), .slice (some ⟨2, 0, none⟩) h.pc.length (h.pc.length + 1), .slice (some ⟨3, 0, none⟩) h.nc.length (h.nc.length + 1)], .slice (some ⟨4, 0, none⟩) p.length (p.length + 1), .slice (some ⟨5, 0, none⟩) q.length (q.length + 1)] [(4, ⟨(p).flatMap encU, 1, [], 2⟩), (5, ⟨(q).flatMap encU, 1, [], 2⟩)] 6 (.tuple #[.agg #[.int .i64 ((fmakeH h p q).schema), .int .u64 ((fmakeH h p q).zero), .int .u64 ((fmakeH h p q).zc), .int .u64 ((fmakeH h p q).count), .int .u64 ((fmakeH h p q).sum), .slice (some ⟨6, 0, none⟩) (((fmakeH h p q).pos).length) (((fmakeH h p q).pos).length + 1), .slice (some ⟨7, 0, none⟩) (((fmakeH h p q).neg).length) (((fmakeH h p q).neg).length + 1), .slice (some ⟨8, 0, none⟩) (((fmakeH h p q).pc).length) (((fmakeH h p q).pc).length + 1), .slice (some ⟨9, 0, none⟩) (((fmakeH h p q).nc).length) (((fmakeH h p q).nc).length + 1)], .int .i64 (fmakeE h p q)]) 4 [(6, ⟨((fmakeH h p q).pos).flatMap encS, 2, [], 2⟩), (7, ⟨((fmakeH h p q).neg).flatMap encS, 2, [], 2⟩), (8, ⟨((fmakeH h p q).pc).flatMap encW, 2, [], 1⟩), (9, ⟨((fmakeH h p q).nc).flatMap encW, 2, [], 1⟩)] := by
  by_cases h3001 : ((fromE (fsts (p)) : Int) = 0)
  · skip
    by_cases h6001 : ((fromE (fsts (q)) : Int) = 0)
    · skip
      by_cases h9001 : ((fopE (flaid h p q) : Int) = 0)
      · skip
        have he : fmakeE h p q = 0 := by simp [fmakeE, h3001, h6001, h9001]
        have hm : fmakeH h p q = flaid h p q := by unfold fmakeH; rw [if_pos he]
        rw [hm, he]
        exact FnC.run (m := false) follows_mixed has101 [(2001, aC (unzU_ok (p) h_lp)), (3001, aNT h3001), (5001, aC (unzU_ok (q) h_lq)), (6001, aNT h6001), (8001, aC (fcheck_ok (flaid h p q) (flaid_wf h_w h_p h_q h_lp h_lq))), (9001, aNT h9001)] (by kernel_rfl) (by kernel_rfl) (.cons (encU_sc _) (.cons (encU_sc _) .nil)) (.cons (encS_sc _) (.cons (encS_sc _) (.cons (encW_sc _) (.cons (encW_sc _) .nil))))
      · skip
        have he : fmakeE h p q = fopE (flaid h p q) := by simp [fmakeE, h3001, h6001]
        have hn : fmakeE h p q ≠ 0 := by rw [he]; exact h9001
        rw [fmakeH_bad hn, he]
        exact FnC.run (m := false) follows_mixed has101 [(2001, aC (unzU_ok (p) h_lp)), (3001, aNT h3001), (5001, aC (unzU_ok (q) h_lq)), (6001, aNT h6001), (8001, aC (fcheck_ok (flaid h p q) (flaid_wf h_w h_p h_q h_lp h_lq))), (9001, aNF h9001)] (by kernel_rfl) (by kernel_rfl) (.cons (encU_sc _) (.cons (encU_sc _) .nil)) (.cons (encS_sc _) (.cons (encS_sc _) (.cons (encW_sc _) (.cons (encW_sc _) .nil))))
    · skip
      have he : fmakeE h p q = fromE (fsts q) := by simp [fmakeE, h3001, h6001]
      have hn : fmakeE h p q ≠ 0 := by rw [he]; exact h6001
      rw [fmakeH_bad hn, he]
      exact FnC.run (m := false) follows_mixed has101 [(2001, aC (unzU_ok (p) h_lp)), (3001, aNT h3001), (5001, aC (unzU_ok (q) h_lq)), (6001, aNF h6001)] (by kernel_rfl) (by kernel_rfl) (.cons (encU_sc _) (.cons (encU_sc _) .nil)) (.cons (encS_sc _) (.cons (encS_sc _) (.cons (encW_sc _) (.cons (encW_sc _) .nil))))
  · skip
    have he : fmakeE h p q = fromE (fsts p) := by simp [fmakeE, h3001]
    have hn : fmakeE h p q ≠ 0 := by rw [he]; exact h3001
    rw [fmakeH_bad hn, he]
    exact FnC.run (m := false) follows_mixed has101 [(2001, aC (unzU_ok (p) h_lp)), (3001, aNF h3001)] (by kernel_rfl) (by kernel_rfl) (.cons (encU_sc _) (.cons (encU_sc _) .nil)) (.cons (encS_sc _) (.cons (encS_sc _) (.cons (encW_sc _) (.cons (encW_sc _) .nil))))
theorem flt26_ok (n : Int) (h_n : U64 n) : FnC Try.prog 26 [.int .u64 n] [] 0 (.int .u64 (fltS n)) 0 [] := by
  have hf := fltS_in h_n
  unfold FOK at hf
  exact FnC.run (m := false) follows_mixed has26 [(1001, aE (flt_val (n := n) (by unfold U64 at h_n; omega))), (1002, aExt (g := 97) (args := [.float .f64 ((fltS n).toNat)]) (u := .int .u64 (fltS n)) rfl (bits_val (by omega)) (fun n => rfl))] (by kernel_rfl) (by kernel_rfl) .nil .nil
def fltL (d : List Int) : List Int := (absL d).map fltS
abbrev fls_I (d : List Int) (i : Nat) (o : List Int) : AS := ⟨[(5, .slice (some ⟨2, 0, none⟩) o.length (o.length + 1)), (16, .slice (some ⟨1, 0, none⟩) ((absL d).length) ((absL d).length + 1)), (17, .int .i64 (((absL d).length : Nat) : Int)), (18, .int .i64 ((i : Nat) : Int))], [(1, ⟨(absL d).flatMap encI, 2, [], 1⟩), (2, ⟨(o).flatMap encW, 2, [], 1⟩)], 3⟩
abbrev fls_inv (d : List Int) (i : Nat) (o : List Int) : Prop := i ≤ (absL d).length ∧ o = ((absL d).take i).map fltS
def fls_K (d : List Int) : Exit → AS → Prop := fun e s => (e = .exit 0 ∧ s = ⟨[(5, .slice (some ⟨2, 0, none⟩) ((fltL d).length) ((fltL d).length + 1))], [(2, ⟨(fltL d).flatMap encW, 2, [], 1⟩)], 3⟩)
abbrev fls_Iu (d : List Int) : Nat × List Int → AS := fun x => fls_I d x.1 x.2
abbrev fls_vu (d : List Int) : Nat × List Int → Prop := fun x => fls_inv d x.1 x.2
abbrev fls_m (d : List Int) : Nat × List Int → Nat := fun x => (fun (i : Nat) (o : List Int) => (absL d).length - i) x.1 x.2
theorem fls_round (d : List Int) (h_n : d.length ≤ 4294967296) (h_p : ∀ x ∈ absL d, N63 x) (i : Nat) (o : List Int) (hinv : fls_inv d i o) {ds : List Deferred} : Tr Try.prog none ⟨30, ds⟩ 1 (nthLoop Try.f120 0) (fls_I d i o) (RK (fls_vu d) (fls_Iu d) (fls_m d) (fls_K d) (i, o)) := by
  obtain ⟨hi0, ho⟩ := hinv
  have hla := absL_le d
  have hol : o.length = i := by rw [ho]; simp; omega
  by_cases h4000 : (((i : Nat) : Int) < (((absL d).length : Nat) : Int))
  · skip
    obtain ⟨s1, hs1⟩ : ∃ s, (absL d)[i]? = some s := ⟨_, List.getElem?_eq_getElem (by omega)⟩
    have hq := h_p _ (List.mem_of_getElem? hs1)
    unfold N63 at hq
    exact Tr.again (Inv := (fls_vu d)) (I := (fls_Iu d)) (m := (fls_m d)) (i + 1, o ++ [fltS s1]) (Tr.run follows_mixed (A := [(4000, aT h4000), (5000, aX i ((absL d).length) 1 (by omega)), (5001, aL encI_k hs1), (6002, aI .u64 .u64 (s1) (s1) (wrap_u64 (by omega) (by omega))), (6003, aC (flt26_ok (s1) (by unfold U64; omega))), (6005, aA encW_k o [fltS s1] (by simp; omega)), (7000, aI .i64 .i64 (((i : Nat) : Int) + 1) (((i + 1 : Nat) : Int)) (wrap_i64' (by omega) (by omega) (by omega)))]) (rows := [1, 2]) (by kernel_rfl) (.cons (fun _ => encI_sc _) (.cons (fun _ => encW_sc _) .nil)) (le_ble rfl)) (show fls_inv d (i + 1) (o ++ [fltS s1]) from ⟨by omega, by rw [ho, take_next hs1]; simp⟩) (by show (absL d).length - (i + 1) < (absL d).length - i; omega)
  · skip
    rw [take_all (by omega)] at ho
    subst ho
    exact Tr.out (I := (fls_Iu d)) (m := (fls_m d)) (Tr.run follows_mixed (A := [(4000, aF h4000)]) (rows := [2]) (by kernel_rfl) (.cons (fun _ => encW_sc _) .nil) (le_ble rfl)) ⟨rfl, rfl⟩ (by simp)

theorem fls_loop (d : List Int) (h_n : d.length ≤ 4294967296) (h_p : ∀ x ∈ absL d, N63 x) (i : Nat) (o : List Int) (hinv : fls_inv d i o) {ds : List Deferred} : Tr Try.prog none ⟨30, ds⟩ 1 (.loop (nthLoop Try.f120 0)) (fls_I d i o) (fls_K d) :=
  Tr.rounds (Inv := (fls_vu d)) (I := (fls_Iu d)) (m := (fls_m d)) (fun x h_0 => fls_round d h_n h_p x.1 x.2 h_0) (i, o) hinv
theorem fls_ok (d : List Int) (h_d : L64 d) (h_n : d.length ≤ 4294967296) (h_p : ∀ x ∈ absL d, N63 x) : FnC Try.prog 120 [.slice (some ⟨0, 0, none⟩) d.length (d.length + 1)] [(0, ⟨(d).flatMap encI, 1, [], 1⟩)] 1 (.slice (some ⟨1, 0, none⟩) ((fltL d).length) ((fltL d).length + 1)) 1 [(1, ⟨(fltL d).flatMap encW, 2, [], 1⟩)] := by
  by_cases h2002 : ((absL d).length = 0)
  · skip
    exact FnC.run (m := false) follows_mixed has120 [(1001, aC (absolute_ok (d) h_d h_n)), (2002, aMk (t := 48) (x := (.const (.int .i64 0))) (y := (.tmp 14)) (make48z h2002)), (900000, .stmt (.loop (nthLoop Try.f120 0)) [1, 2] (fls_I d 0 []) (.exit 0) ⟨[(5, .slice (some ⟨2, 0, none⟩) ((fltL d).length) ((fltL d).length + 1))], [(2, ⟨(fltL d).flatMap encW, 2, [], 1⟩)], 3⟩ (.cons (fun _ => encI_sc _) (.cons (fun _ => encW_sc _) .nil)) (fun ds => (fls_loop d h_n h_p 0 [] ⟨by omega, by simp⟩).pick (fun e s h => h)) (le_ble rfl))] (by kernel_rfl) (by kernel_rfl) (.cons (encI_sc _) .nil) (.cons (encW_sc _) .nil)
  · skip
    exact FnC.run (m := false) follows_mixed has120 [(1001, aC (absolute_ok (d) h_d h_n)), (2002, aMk (t := 48) (x := (.const (.int .i64 0))) (y := (.tmp 14)) (make48s h2002 (by have := absL_le d; omega))), (900000, .stmt (.loop (nthLoop Try.f120 0)) [1, 2] (fls_I d 0 []) (.exit 0) ⟨[(5, .slice (some ⟨2, 0, none⟩) ((fltL d).length) ((fltL d).length + 1))], [(2, ⟨(fltL d).flatMap encW, 2, [], 1⟩)], 3⟩ (.cons (fun _ => encI_sc _) (.cons (fun _ => encW_sc _) .nil)) (fun ds => (fls_loop d h_n h_p 0 [] ⟨by omega, by simp⟩).pick (fun e s h => h)) (le_ble rfl))] (by kernel_rfl) (by kernel_rfl) (.cons (encI_sc _) .nil) (.cons (encW_sc _) .nil)
def frF (h : HI) : HF := ⟨h.schema, h.zero, fltS h.zc, fltS h.count, h.sum, h.pos, h.neg, fltL h.pd, fltL h.nd⟩
def frH (h : HI) : HF := if openE h = 0 then frF h else HF0
theorem frH_bad {h : HI} (e : openE h ≠ 0) : frH h = HF0 := by unfold frH; rw [if_neg e]
theorem openE_sides {h : HI} (e : openE h = 0) : sideE h.pos h.pd = 0 ∧ sideE h.neg h.nd = 0 := by
  have h1 := openE_head e
  unfold openE at e
  rw [if_neg (by rw [h1]; simp)] at e
  split at e
  · rename_i q; exact absurd e q
  · rename_i q1; split at e
    · rename_i q; exact absurd e q
    · rename_i q2; exact ⟨Decidable.not_not.1 q1, Decidable.not_not.1 q2⟩
theorem side_n63 {l : List Sp} {d : List Int} (e : sideE l d = 0) : ∀ x ∈ absL d, N63 x := by
  obtain ⟨_, _, _, h4⟩ := sideE_zero.1 e
  intro x hx
  have h1 := absL_in d _ hx
  simp only [List.any_eq_false, decide_eq_true_eq] at h4
  have h2 := h4 _ hx
  unfold I64 at h1; unfold N63
  omega
theorem side_count {l : List Sp} {d : List Int} (e : sideE l d = 0) : checkS l = 0 := (sideE_zero.1 e).1
theorem ffrom_ok (h : HI) (h_w : HWf h) : FnC Try.prog 43 [.agg #[.int .i64 h.schema, .int .u64 h.zero, .int .u64 h.zc, .int .u64 h.count, .int .u64 h.sum, .slice (some ⟨0, 0, none⟩) h.pos.length (h.pos.length + 1), .slice (some ⟨1, 0, none⟩) h.neg.length (h.neg.length + 1), .slice (some ⟨2, 0, none⟩) h.pd.length (h.pd.length + 1), .slice (some ⟨3, 0, none⟩) h.nd.length (h.nd.length + 1)]] [(0, ⟨(h.pos).flatMap encS, 1, [], 2⟩), (1, ⟨(h.neg).flatMap encS, 1, [], 2⟩), (2, ⟨(h.pd).flatMap encI, 1, [], 1⟩), (3, ⟨(h.nd).flatMap encI, 1, [], 1⟩)] 4 (.tuple #[.agg #[.int .i64 ((frH h).schema), .int .u64 ((frH h).zero), .int .u64 ((frH h).zc), .int .u64 ((frH h).count), .int .u64 ((frH h).sum), .slice (some ⟨4, 0, none⟩) (((frH h).pos).length) (((frH h).pos).length + 1), .slice (some ⟨5, 0, none⟩) (((frH h).neg).length) (((frH h).neg).length + 1), .slice (some ⟨6, 0, none⟩) (((frH h).pc).length) (((frH h).pc).length + 1), .slice (some ⟨7, 0, none⟩) (((frH h).nc).length) (((frH h).nc).length + 1)], .int .i64 (openE h)]) 4 [(4, ⟨((frH h).pos).flatMap encS, 2, [], 2⟩), (5, ⟨((frH h).neg).flatMap encS, 2, [], 2⟩), (6, ⟨((frH h).pc).flatMap encW, 2, [], 1⟩), (7, ⟨((frH h).nc).flatMap encW, 2, [], 1⟩)] := by
  by_cases h2001 : ((openE h : Int) = 0)
  · skip
    have hf : frH h = frF h := by unfold frH; rw [if_pos h2001]
    rw [hf, h2001]
    exact FnC.run (m := false) follows_mixed has43 [(1001, aC (hcheck_ok h h_w)), (2001, aNT h2001), (4006, aC (flt26_ok (h.zc) h_w.zc)), (4009, aC (flt26_ok (h.count) h_w.count)), (4014, aC (cloneS_ok h.pos (by have := (checkS_zero.1 (side_count (openE_sides h2001).1)).1; have := (checkS_zero.1 (side_count (openE_sides h2001).2)).1; omega))), (4017, aC (cloneS_ok h.neg (by have := (checkS_zero.1 (side_count (openE_sides h2001).1)).1; have := (checkS_zero.1 (side_count (openE_sides h2001).2)).1; omega))), (4020, aC (fls_ok (h.pd) h_w.pd h_w.np (side_n63 (openE_sides h2001).1))), (4023, aC (fls_ok (h.nd) h_w.nd h_w.nn (side_n63 (openE_sides h2001).2)))] (by kernel_rfl) (by kernel_rfl) (.cons (encS_sc _) (.cons (encS_sc _) (.cons (encI_sc _) (.cons (encI_sc _) .nil)))) (.cons (encS_sc _) (.cons (encS_sc _) (.cons (encW_sc _) (.cons (encW_sc _) .nil))))
  · skip
    rw [frH_bad h2001]
    exact FnC.run (m := false) follows_mixed has43 [(1001, aC (hcheck_ok h h_w)), (2001, aNF h2001)] (by kernel_rfl) (by kernel_rfl) (.cons (encS_sc _) (.cons (encS_sc _) (.cons (encI_sc _) (.cons (encI_sc _) .nil)))) (.cons (encS_sc _) (.cons (encS_sc _) (.cons (encW_sc _) (.cons (encW_sc _) .nil))))
end Go.Am
