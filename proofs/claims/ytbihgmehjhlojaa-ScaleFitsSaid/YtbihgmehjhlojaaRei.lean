/-
The document's functions of layer 25: some, wide, Many.
-/
import Derived.Test.YtbihgmehjhlojaaReh
set_option linter.unusedVariables false
set_option linter.unusedSimpArgs false
set_option maxRecDepth 100000
namespace Go.Am
open Go Go.RowKit Go.Proofs
theorem has152 : Has Try.prog 152 Try.f152 (bodyOf Try.f152) := ⟨Try.func152, by kernel_rfl, by kernel_rfl⟩
theorem has151 : Has Try.prog 151 Try.f151 (bodyOf Try.f151) := ⟨Try.func151, by kernel_rfl, by kernel_rfl⟩
theorem has71 : Has Try.prog 71 Try.f71 (bodyOf Try.f71) := ⟨Try.func71, by kernel_rfl, by kernel_rfl⟩
def posP (x : Int × Int) : Bool := decide (x.2 > 0)
def someS (P C : List Int) : List Int := fsts ((P.zip C).filter posP)
theorem some_step {P C : List Int} {i : Nat} {x y : Int} (hx : P[i]? = some x) (hy : C[i]? = some y) : someS (P.take (i + 1)) (C.take (i + 1)) = someS (P.take i) (C.take i) ++ (if y > 0 then [x] else []) := by
  have h1 : i < P.length := (List.getElem?_eq_some_iff.1 hx).1
  have h2 : i < C.length := (List.getElem?_eq_some_iff.1 hy).1
  unfold someS
  rw [take_next hx, take_next hy, List.zip_append (by simp; omega), List.filter_append]
  by_cases c : y > 0
  · simp [posP, c, fsts]
  · simp [posP, c, fsts]
theorem some_len (P C : List Int) : (someS P C).length ≤ P.length := by
  unfold someS
  rw [fsts_len]
  exact Nat.le_trans (List.length_filter_le _ _) (by simp [List.length_zip]; omega)
def widStepP (b : Int) (o : List Int) (p : Int) : List Int := if o = [] ∨ o.getD (o.length - 1) 0 ≠ placeS p b then o ++ [placeS p b] else o
def wideS (b : Int) (l : List Int) : List Int := l.foldl (widStepP b) []
theorem wideS_next {b : Int} {l : List Int} {i : Nat} {s : Int} (h : l[i]? = some s) : wideS b (l.take (i + 1)) = widStepP b (wideS b (l.take i)) s := by
  unfold wideS; rw [take_next h, List.foldl_append]; rfl
theorem wideS_len (b : Int) (l : List Int) : ∀ i, i ≤ l.length → (wideS b (l.take i)).length ≤ i
  | 0, _ => by simp [wideS]
  | i + 1, hi => by
    have h := wideS_len b l i (by omega)
    rw [wideS_next (List.getElem?_eq_getElem (by omega : i < l.length))]
    unfold widStepP
    split
    · simp; omega
    · omega
abbrev smp_I (P C : List Int) (i : Nat) (o : List Int) : AS := ⟨[(0, .slice (some ⟨0, 0, none⟩) P.length (P.length + 1)), (1, .slice (some ⟨1, 0, none⟩) C.length (C.length + 1)), (5, .slice (some ⟨2, 0, none⟩) o.length (o.length + 1)), (6, .int .i64 ((i : Nat) : Int))], [(0, ⟨(P).flatMap encI, 1, [], 1⟩), (1, ⟨(C).flatMap encI, 1, [], 1⟩), (2, ⟨(o).flatMap encI, 2, [], 1⟩)], 3⟩
abbrev smp_inv (P C : List Int) (i : Nat) (o : List Int) : Prop := i ≤ P.length ∧ o = someS (P.take i) (C.take i)
def smp_K (P C : List Int) : Exit → AS → Prop := fun e s => (e = .exit 0 ∧ s = ⟨[(5, .slice (some ⟨2, 0, none⟩) ((someS P C).length) ((someS P C).length + 1))], [(2, ⟨(someS P C).flatMap encI, 2, [], 1⟩)], 3⟩)
abbrev smp_Iu (P C : List Int) : Nat × List Int → AS := fun x => smp_I P C x.1 x.2
abbrev smp_vu (P C : List Int) : Nat × List Int → Prop := fun x => smp_inv P C x.1 x.2
abbrev smp_m (P C : List Int) : Nat × List Int → Nat := fun x => (fun (i : Nat) (o : List Int) => P.length - i) x.1 x.2
theorem smp_round (P C : List Int) (h_n : P.length ≤ 4294967296) (h_e : P.length = C.length) (i : Nat) (o : List Int) (hinv : smp_inv P C i o) {ds : List Deferred} : Tr Try.prog none ⟨26, ds⟩ 2 (nthLoop Try.f152 0) (smp_I P C i o) (RK (smp_vu P C) (smp_Iu P C) (smp_m P C) (smp_K P C) (i, o)) := by
  obtain ⟨hi0, ho⟩ := hinv
  have hol := some_len (P.take i) (C.take i)
  rw [← ho, List.length_take] at hol
  by_cases h3003 : (((i : Nat) : Int) < ((P.length : Nat) : Int))
  · skip
    obtain ⟨s1, hs1⟩ : ∃ s, C[i]? = some s := ⟨_, List.getElem?_eq_getElem (by omega)⟩
    by_cases h5004 : (s1 > 0)
    · skip
      obtain ⟨s2, hs2⟩ : ∃ s, P[i]? = some s := ⟨_, List.getElem?_eq_getElem (by omega)⟩
      exact Tr.again (Inv := (smp_vu P C)) (I := (smp_Iu P C)) (m := (smp_m P C)) (i + 1, o ++ [s2]) (Tr.run follows_mixed (A := [(3003, aT h3003), (5002, aX i C.length 1 (by omega)), (5003, aL encI_k hs1), (5004, aT h5004), (6003, aX i P.length 1 (by omega)), (6004, aL encI_k hs2), (6006, aA encI_k o [s2] (by simp; omega)), (4001, aI .i64 .i64 (((i : Nat) : Int) + 1) (((i + 1 : Nat) : Int)) (wrap_i64' (by omega) (by omega) (by omega)))]) (rows := [0, 1, 2]) (by kernel_rfl) (.cons (fun _ => encI_sc _) (.cons (fun _ => encI_sc _) (.cons (fun _ => encI_sc _) .nil))) (le_ble rfl)) (show smp_inv P C (i + 1) (o ++ [s2]) from ⟨by omega, by rw [ho, some_step hs2 hs1, if_pos h5004]⟩) (by show P.length - (i + 1) < P.length - i; omega)
    · skip
      obtain ⟨q, hq⟩ : ∃ q, P[i]? = some q := ⟨_, List.getElem?_eq_getElem (by omega)⟩
      exact Tr.again (Inv := (smp_vu P C)) (I := (smp_Iu P C)) (m := (smp_m P C)) (i + 1, o) (Tr.run follows_mixed (A := [(3003, aT h3003), (5002, aX i C.length 1 (by omega)), (5003, aL encI_k hs1), (5004, aF h5004), (4001, aI .i64 .i64 (((i : Nat) : Int) + 1) (((i + 1 : Nat) : Int)) (wrap_i64' (by omega) (by omega) (by omega)))]) (rows := [0, 1, 2]) (by kernel_rfl) (.cons (fun _ => encI_sc _) (.cons (fun _ => encI_sc _) (.cons (fun _ => encI_sc _) .nil))) (le_ble rfl)) (show smp_inv P C (i + 1) o from ⟨by omega, by rw [ho, some_step hq hs1, if_neg h5004]; simp⟩) (by show P.length - (i + 1) < P.length - i; omega)
  · skip
    rw [take_all (by omega), take_all (by omega)] at ho
    subst ho
    exact Tr.out (I := (smp_Iu P C)) (m := (smp_m P C)) (Tr.run follows_mixed (A := [(3003, aF h3003)]) (rows := [2]) (by kernel_rfl) (.cons (fun _ => encI_sc _) .nil) (le_ble rfl)) ⟨rfl, rfl⟩ (by simp)

theorem smp_loop (P C : List Int) (h_n : P.length ≤ 4294967296) (h_e : P.length = C.length) (i : Nat) (o : List Int) (hinv : smp_inv P C i o) {ds : List Deferred} : Tr Try.prog none ⟨26, ds⟩ 2 (.loop (nthLoop Try.f152 0)) (smp_I P C i o) (smp_K P C) :=
  Tr.rounds (Inv := (smp_vu P C)) (I := (smp_Iu P C)) (m := (smp_m P C)) (fun x h_0 => smp_round P C h_n h_e x.1 x.2 h_0) (i, o) hinv
theorem some_ok (P C : List Int) (h_n : P.length ≤ 4294967296) (h_e : P.length = C.length) : FnC Try.prog 152 [.slice (some ⟨0, 0, none⟩) P.length (P.length + 1), .slice (some ⟨1, 0, none⟩) C.length (C.length + 1)] [(0, ⟨(P).flatMap encI, 1, [], 1⟩), (1, ⟨(C).flatMap encI, 1, [], 1⟩)] 2 (.slice (some ⟨2, 0, none⟩) ((someS P C).length) ((someS P C).length + 1)) 1 [(2, ⟨(someS P C).flatMap encI, 2, [], 1⟩)] := by
  exact FnC.run (m := false) follows_mixed has152 [(900000, .stmt (.loop (nthLoop Try.f152 0)) [0, 1, 2] (smp_I P C 0 []) (.exit 0) ⟨[(5, .slice (some ⟨2, 0, none⟩) ((someS P C).length) ((someS P C).length + 1))], [(2, ⟨(someS P C).flatMap encI, 2, [], 1⟩)], 3⟩ (.cons (fun _ => encI_sc _) (.cons (fun _ => encI_sc _) (.cons (fun _ => encI_sc _) .nil))) (fun ds => (smp_loop P C h_n h_e 0 [] ⟨by omega, by simp [someS, fsts]⟩).pick (fun e s h => h)) (le_ble rfl))] (by kernel_rfl) (by kernel_rfl) (.cons (encI_sc _) (.cons (encI_sc _) .nil)) (.cons (encI_sc _) .nil)
theorem wide_new {b p : Int} {o : List Int} (h : o = [] ∨ o.getD (o.length - 1) 0 ≠ placeS p b) : widStepP b o p = o ++ [placeS p b] := by unfold widStepP; rw [if_pos h]
theorem wide_old {b p s : Int} {o : List Int} (hs : o[o.length - 1]? = some s) (h : s = placeS p b) : widStepP b o p = o := by
  unfold widStepP
  rw [if_neg]
  rintro (q | q)
  · rw [q] at hs; simp at hs
  · rw [List.getD_eq_getElem?_getD, hs] at q; exact q h
theorem wide_last {b p s : Int} {o : List Int} (hs : o[o.length - 1]? = some s) (h : ¬ s = placeS p b) : o = [] ∨ o.getD (o.length - 1) 0 ≠ placeS p b := .inr (by rw [List.getD_eq_getElem?_getD, hs]; exact h)
abbrev wip_I (P : List Int) (b : Int) (i : Nat) (o : List Int) (n : Nat) : AS := ⟨[(0, .slice (some ⟨0, 0, none⟩) P.length (P.length + 1)), (1, .int .i64 b), (5, .slice (some ⟨1, 0, none⟩) n (n + 1)), (6, .int .i64 ((i : Nat) : Int))], [(0, ⟨(P).flatMap encI, 1, [], 1⟩), (1, ⟨(o).flatMap encI, 2, [], 1⟩)], 2⟩
abbrev wip_inv (P : List Int) (b : Int) (i : Nat) (o : List Int) (n : Nat) : Prop := n = o.length ∧ i ≤ P.length ∧ o = wideS b (P.take i)
def wip_K (P : List Int) (b : Int) : Exit → AS → Prop := fun e s => (e = .exit 0 ∧ s = ⟨[(5, .slice (some ⟨1, 0, none⟩) ((wideS b P).length) ((wideS b P).length + 1))], [(1, ⟨(wideS b P).flatMap encI, 2, [], 1⟩)], 2⟩)
abbrev wip_Iu (P : List Int) (b : Int) : Nat × List Int × Nat → AS := fun x => wip_I P b x.1 x.2.1 x.2.2
abbrev wip_vu (P : List Int) (b : Int) : Nat × List Int × Nat → Prop := fun x => wip_inv P b x.1 x.2.1 x.2.2
abbrev wip_m (P : List Int) (b : Int) : Nat × List Int × Nat → Nat := fun x => (fun (i : Nat) (o : List Int) (n : Nat) => P.length - i) x.1 x.2.1 x.2.2
theorem wip_round (P : List Int) (b : Int) (h_n : P.length ≤ 4294967296) (h_p : L64 P) (i : Nat) (o : List Int) (n : Nat) (hinv : wip_inv P b i o n) {ds : List Deferred} : Tr Try.prog none ⟨38, ds⟩ 1 (nthLoop Try.f151 0) (wip_I P b i o n) (RK (wip_vu P b) (wip_Iu P b) (wip_m P b) (wip_K P b) (i, o, n)) := by
  obtain ⟨hnn, hi0, ho⟩ := hinv
  subst hnn
  have hol := wideS_len b P i hi0
  rw [← ho] at hol
  by_cases h3003 : (((i : Nat) : Int) < ((P.length : Nat) : Int))
  · skip
    obtain ⟨s1, hs1⟩ : ∃ s, P[i]? = some s := ⟨_, List.getElem?_eq_getElem (by omega)⟩
    by_cases h6002 : ((((o.length : Nat) : Int) : Int) = 0)
    · skip
      have hst : widStepP b o s1 = o ++ [placeS s1 b] := wide_new (.inl (List.eq_nil_of_length_eq_zero (by omega)))
      exact Tr.again (Inv := (wip_vu P b)) (I := (wip_Iu P b)) (m := (wip_m P b)) (i + 1, o ++ [placeS s1 b], (o ++ [placeS s1 b]).length) (Tr.run follows_mixed (A := [(3003, aT h3003), (5002, aX i P.length 1 (by omega)), (5003, aL encI_k hs1), (5005, aC (rplace_ok (s1) (b) (h_p.at hs1))), (6002, aT h6002), (7003, aA encI_k o [placeS s1 b] (by simp; omega)), (4001, aI .i64 .i64 (((i : Nat) : Int) + 1) (((i + 1 : Nat) : Int)) (wrap_i64' (by omega) (by omega) (by omega)))]) (rows := [0, 1]) (by kernel_rfl) (.cons (fun _ => encI_sc _) (.cons (fun _ => encI_sc _) .nil)) (le_ble rfl)) (show wip_inv P b (i + 1) (o ++ [placeS s1 b]) ((o ++ [placeS s1 b]).length) from ⟨by simp, by omega, by rw [wideS_next hs1, ← ho, hst]⟩) (by show P.length - (i + 1) < P.length - i; omega)
    · skip
      obtain ⟨s2, hs2⟩ : ∃ s, o[o.length - 1]? = some s := ⟨_, List.getElem?_eq_getElem (by omega)⟩
      by_cases h6011 : ((s2 : Int) = placeS s1 b)
      · skip
        have hst : widStepP b o s1 = o := wide_old hs2 h6011
        exact Tr.again (Inv := (wip_vu P b)) (I := (wip_Iu P b)) (m := (wip_m P b)) (i + 1, o, o.length) (Tr.run follows_mixed (A := [(3003, aT h3003), (5002, aX i P.length 1 (by omega)), (5003, aL encI_k hs1), (5005, aC (rplace_ok (s1) (b) (h_p.at hs1))), (6002, aF h6002), (6007, aI .i64 .i64 (((o.length : Nat) : Int) - 1) (((o.length - 1 : Nat) : Int)) (wrap_i64' (by omega) (by omega) (by omega))), (6008, aX (o.length - 1) o.length 1 (by omega)), (6009, aL encI_k hs2), (6011, aNT h6011), (4001, aI .i64 .i64 (((i : Nat) : Int) + 1) (((i + 1 : Nat) : Int)) (wrap_i64' (by omega) (by omega) (by omega)))]) (rows := [0, 1]) (by kernel_rfl) (.cons (fun _ => encI_sc _) (.cons (fun _ => encI_sc _) .nil)) (le_ble rfl)) (show wip_inv P b (i + 1) o o.length from ⟨by simp, by omega, by rw [wideS_next hs1, ← ho, hst]⟩) (by show P.length - (i + 1) < P.length - i; omega)
      · skip
        have hst : widStepP b o s1 = o ++ [placeS s1 b] := wide_new (wide_last hs2 h6011)
        exact Tr.again (Inv := (wip_vu P b)) (I := (wip_Iu P b)) (m := (wip_m P b)) (i + 1, o ++ [placeS s1 b], (o ++ [placeS s1 b]).length) (Tr.run follows_mixed (A := [(3003, aT h3003), (5002, aX i P.length 1 (by omega)), (5003, aL encI_k hs1), (5005, aC (rplace_ok (s1) (b) (h_p.at hs1))), (6002, aF h6002), (6007, aI .i64 .i64 (((o.length : Nat) : Int) - 1) (((o.length - 1 : Nat) : Int)) (wrap_i64' (by omega) (by omega) (by omega))), (6008, aX (o.length - 1) o.length 1 (by omega)), (6009, aL encI_k hs2), (6011, aNF h6011), (7003, aA encI_k o [placeS s1 b] (by simp; omega)), (4001, aI .i64 .i64 (((i : Nat) : Int) + 1) (((i + 1 : Nat) : Int)) (wrap_i64' (by omega) (by omega) (by omega)))]) (rows := [0, 1]) (by kernel_rfl) (.cons (fun _ => encI_sc _) (.cons (fun _ => encI_sc _) .nil)) (le_ble rfl)) (show wip_inv P b (i + 1) (o ++ [placeS s1 b]) ((o ++ [placeS s1 b]).length) from ⟨by simp, by omega, by rw [wideS_next hs1, ← ho, hst]⟩) (by show P.length - (i + 1) < P.length - i; omega)
  · skip
    rw [take_all (by omega)] at ho
    subst ho
    exact Tr.out (I := (wip_Iu P b)) (m := (wip_m P b)) (Tr.run follows_mixed (A := [(3003, aF h3003)]) (rows := [1]) (by kernel_rfl) (.cons (fun _ => encI_sc _) .nil) (le_ble rfl)) ⟨rfl, rfl⟩ (by simp)

theorem wip_loop (P : List Int) (b : Int) (h_n : P.length ≤ 4294967296) (h_p : L64 P) (i : Nat) (o : List Int) (n : Nat) (hinv : wip_inv P b i o n) {ds : List Deferred} : Tr Try.prog none ⟨38, ds⟩ 1 (.loop (nthLoop Try.f151 0)) (wip_I P b i o n) (wip_K P b) :=
  Tr.rounds (Inv := (wip_vu P b)) (I := (wip_Iu P b)) (m := (wip_m P b)) (fun x h_0 => wip_round P b h_n h_p x.1 x.2.1 x.2.2 h_0) (i, o, n) hinv
theorem wide_ok (P : List Int) (b : Int) (h_n : P.length ≤ 4294967296) (h_p : L64 P) : FnC Try.prog 151 [.slice (some ⟨0, 0, none⟩) P.length (P.length + 1), .int .i64 b] [(0, ⟨(P).flatMap encI, 1, [], 1⟩)] 1 (.slice (some ⟨1, 0, none⟩) ((wideS b P).length) ((wideS b P).length + 1)) 1 [(1, ⟨(wideS b P).flatMap encI, 2, [], 1⟩)] := by
  exact FnC.run (m := false) follows_mixed has151 [(900000, .stmt (.loop (nthLoop Try.f151 0)) [0, 1] (wip_I P b 0 [] 0) (.exit 0) ⟨[(5, .slice (some ⟨1, 0, none⟩) ((wideS b P).length) ((wideS b P).length + 1))], [(1, ⟨(wideS b P).flatMap encI, 2, [], 1⟩)], 2⟩ (.cons (fun _ => encI_sc _) (.cons (fun _ => encI_sc _) .nil)) (fun ds => (wip_loop P b h_n h_p 0 [] 0 ⟨rfl, by omega, by simp [wideS]⟩).pick (fun e s h => h)) (le_ble rfl))] (by kernel_rfl) (by kernel_rfl) (.cons (encI_sc _) .nil) (.cons (encI_sc _) .nil)
theorem pc_len (l : List Sp) (d : List Int) : (sidePl l d).length = (sideCn l d).length := by
  unfold sidePl sideCn
  by_cases h : sideE l d = 0
  · rw [if_pos h, if_pos h]; exact side_len h
  · rw [if_neg h, if_neg h]
theorem pl_le (l : List Sp) (d : List Int) : (sidePl l d).length ≤ 4096 := by
  unfold sidePl; split
  · have h1 := places_length l
    have h2 := countS_le l
    omega
  · simp
theorem some_in {P C : List Int} (h : L64 P) : L64 (someS P C) := by
  intro x hx
  obtain ⟨y, hy, rfl⟩ := List.mem_map.1 hx
  exact h _ (List.of_mem_zip (List.mem_filter.1 hy).1).1
theorem pl_in (l : List Sp) (d : List Int) : L64 (sidePl l d) := by
  unfold sidePl; split
  · intro x hx; have := places_in hx; unfold I64; omega
  · intro x hx; cases hx
def manyP (h : HI) (to : Int) : Int := (((wideS (h.schema - to) (someS (sidePl h.pos h.pd) (sideCn h.pos h.pd))).length : Nat) : Int)
def manyN (h : HI) (to : Int) : Int := (((wideS (h.schema - to) (someS (sidePl h.neg h.nd) (sideCn h.neg h.nd))).length : Nat) : Int)
theorem many_le (h : HI) (to : Int) : manyP h to ≤ 4096 ∧ manyN h to ≤ 4096 := by
  have f : ∀ (b : Int) (l : List Sp) (d : List Int), (wideS b (someS (sidePl l d) (sideCn l d))).length ≤ 4096 := fun b l d => by
    have h1 := wideS_len b (someS (sidePl l d) (sideCn l d)) _ (Nat.le_refl _)
    rw [List.take_length] at h1
    exact Nat.le_trans h1 (Nat.le_trans (some_len _ _) (pl_le l d))
  unfold manyP manyN
  have := f (h.schema - to) h.pos h.pd
  have := f (h.schema - to) h.neg h.nd
  omega
theorem many9_ok (h : HI) (to : Int) (h_w : HWf h) (h_s : -4 ≤ h.schema ∧ h.schema ≤ 8) (h_t : -9 ≤ to ∧ to ≤ 9) : FnC Try.prog 71 [.agg #[.int .i64 h.schema, .int .u64 h.zero, .int .u64 h.zc, .int .u64 h.count, .int .u64 h.sum, .slice (some ⟨0, 0, none⟩) h.pos.length (h.pos.length + 1), .slice (some ⟨1, 0, none⟩) h.neg.length (h.neg.length + 1), .slice (some ⟨2, 0, none⟩) h.pd.length (h.pd.length + 1), .slice (some ⟨3, 0, none⟩) h.nd.length (h.nd.length + 1)], .int .i64 to] [(0, ⟨(h.pos).flatMap encS, 1, [], 2⟩), (1, ⟨(h.neg).flatMap encS, 1, [], 2⟩), (2, ⟨(h.pd).flatMap encI, 1, [], 1⟩), (3, ⟨(h.nd).flatMap encI, 1, [], 1⟩)] 4 (.int .i64 (manyP h to + manyN h to)) 0 [] := by
  have hm := many_le h to
  unfold manyP manyN at hm
  exact FnC.eq (v := .int .i64 (((wideS (h.schema - to) (someS (sidePl (h.pos) (h.pd)) (sideCn (h.pos) (h.pd)))).length + (wideS (h.schema - to) (someS (sidePl (h.neg) (h.nd)) (sideCn (h.neg) (h.nd)))).length : Nat) : Int)) (FnC.run (m := false) follows_mixed has71 [(1004, aC (rside_ok (h.pos) (h.pd) h_w.pd h_w.np)), (2004, aC (rside_ok (h.neg) (h.nd) h_w.nd h_w.nn)), (3002, aC (some_ok (sidePl (h.pos) (h.pd)) (sideCn (h.pos) (h.pd)) (Nat.le_trans (pl_le _ _) (by decide)) (pc_len _ _))), (3006, aI .i64 .i64 (h.schema - to) (h.schema - to) (wrap_i64 (by omega) (by omega))), (3007, aC (wide_ok (someS (sidePl (h.pos) (h.pd)) (sideCn (h.pos) (h.pd))) (h.schema - to) (Nat.le_trans (some_len _ _) (Nat.le_trans (pl_le _ _) (by decide))) (some_in (pl_in _ _)))), (3011, aC (some_ok (sidePl (h.neg) (h.nd)) (sideCn (h.neg) (h.nd)) (Nat.le_trans (pl_le _ _) (by decide)) (pc_len _ _))), (3015, aI .i64 .i64 (h.schema - to) (h.schema - to) (wrap_i64 (by omega) (by omega))), (3016, aC (wide_ok (someS (sidePl (h.neg) (h.nd)) (sideCn (h.neg) (h.nd))) (h.schema - to) (Nat.le_trans (some_len _ _) (Nat.le_trans (pl_le _ _) (by decide))) (some_in (pl_in _ _)))), (3018, aI .i64 .i64 ((((wideS (h.schema - to) (someS (sidePl (h.pos) (h.pd)) (sideCn (h.pos) (h.pd)))).length : Nat) : Int) + (((wideS (h.schema - to) (someS (sidePl (h.neg) (h.nd)) (sideCn (h.neg) (h.nd)))).length : Nat) : Int)) ((((wideS (h.schema - to) (someS (sidePl (h.pos) (h.pd)) (sideCn (h.pos) (h.pd)))).length + (wideS (h.schema - to) (someS (sidePl (h.neg) (h.nd)) (sideCn (h.neg) (h.nd)))).length : Nat) : Int)) (wrap_i64' (by omega) (by omega) (by omega)))] (by kernel_rfl) (by kernel_rfl) (.cons (encS_sc _) (.cons (encS_sc _) (.cons (encI_sc _) (.cons (encI_sc _) .nil)))) .nil) (by rfl)
end Go.Am
