/-
The document's functions of layers 7 and 9: sums, a side, a histogram: they tell the same as the program's.
-/
import Derived.Test.YtbihgmehjhlojaaRef
set_option linter.unusedVariables false
set_option linter.unusedSimpArgs false
set_option maxRecDepth 100000
namespace Go.Am
open Go Go.RowKit Go.Proofs
theorem has122 : Has Try.prog 122 Try.f122 (bodyOf Try.f122) := ⟨Try.func122, by kernel_rfl, by kernel_rfl⟩
theorem rfits_ok (x y : Int) (h_x : I64 x) (h_y : I64 y) : FnC Try.prog 124 [.int .i64 x, .int .i64 y] [] 0 (.bool (fits64 (x + y))) 0 [] := by
  unfold I64 at h_x h_y
  by_cases h1001 : (y ≥ 0)
  · skip
    exact FnC.eq (v := .bool (decide (x ≤ 9223372036854775807 - y))) (FnC.run (m := false) follows_mixed has124 [(1001, aT h1001), (2002, aI .i64 .i64 (9223372036854775807 - y) (9223372036854775807 - y) (wrap_i64 (by omega) (by omega)))] (by kernel_rfl) (by kernel_rfl) .nil .nil) (by congr 1; rw [Bool.eq_iff_iff, fits64_iff, decide_eq_true_iff]; unfold I64; omega)
  · skip
    exact FnC.eq (v := .bool (decide (x ≥ (-9223372036854775808) - y))) (FnC.run (m := false) follows_mixed has124 [(1001, aF h1001), (3002, aI .i64 .i64 ((-9223372036854775808) - y) ((-9223372036854775808) - y) (wrap_i64 (by omega) (by omega)))] (by kernel_rfl) (by kernel_rfl) .nil .nil) (by congr 1; rw [Bool.eq_iff_iff, fits64_iff, decide_eq_true_iff]; unfold I64; omega)
abbrev rab_I (d : List Int) (i : Nat) (a : Int) (out : List Int) : AS := ⟨[(0, .slice (some ⟨0, 0, none⟩) d.length (d.length + 1)), (4, .slice (some ⟨1, 0, none⟩) out.length (out.length + 1)), (5, .int .i64 a), (6, .int .i64 ((i : Nat) : Int))], [(0, ⟨(d).flatMap encI, 1, [], 1⟩), (1, ⟨(out).flatMap encI, 2, [], 1⟩)], 2⟩
abbrev rab_inv (d : List Int) (i : Nat) (a : Int) (out : List Int) : Prop := i ≤ d.length ∧ I64 a ∧ out.length = i ∧ absS d = (absGo a (d.drop i)).map (out ++ ·)
def rab_K (d : List Int) : Exit → AS → Prop := fun e s => (absE d = 0 ∧ e = .exit 0 ∧ s = ⟨[(4, .slice (some ⟨1, 0, none⟩) ((absL d).length) ((absL d).length + 1))], [(1, ⟨(absL d).flatMap encI, 2, [], 1⟩)], 2⟩) ∨ (absE d = 28 ∧ e = .ret ∧ s = ⟨[(2, .slice none 0 0), (3, .int .i64 1)], [], 2⟩)
abbrev rab_Iu (d : List Int) : Nat × Int × List Int → AS := fun x => rab_I d x.1 x.2.1 x.2.2
abbrev rab_vu (d : List Int) : Nat × Int × List Int → Prop := fun x => rab_inv d x.1 x.2.1 x.2.2
abbrev rab_m (d : List Int) : Nat × Int × List Int → Nat := fun x => (fun (i : Nat) (a : Int) (out : List Int) => d.length - i) x.1 x.2.1 x.2.2
theorem rab_round (d : List Int) (h_d : L64 d) (h_n : d.length ≤ 4294967296) (i : Nat) (a : Int) (out : List Int) (hinv : rab_inv d i a out) {ds : List Deferred} : Tr Try.prog none ⟨31, ds⟩ 1 (nthLoop Try.f51 0) (rab_I d i a out) (RK (rab_vu d) (rab_Iu d) (rab_m d) (rab_K d) (i, a, out)) := by
  obtain ⟨hi0, ha, ho, hg⟩ := hinv
  by_cases h4003 : (((i : Nat) : Int) < ((d.length : Nat) : Int))
  · skip
    obtain ⟨s1, hs1⟩ : ∃ s, d[i]? = some s := ⟨_, List.getElem?_eq_getElem (by omega)⟩
    cases h6005 : (fits64 (a + s1)) with
    | true =>
      have hf := fits64_iff.1 h6005
      have hw : IntKind.i64.wrap (a + s1) = a + s1 := wrap_i64 hf.1 hf.2
      exact Tr.again (Inv := (rab_vu d)) (I := (rab_Iu d)) (m := (rab_m d)) (i + 1, a + s1, out ++ [a + s1]) (Tr.run follows_mixed (A := [(4003, aT h4003), (6003, aX i d.length 1 (by omega)), (6004, aL encI_k hs1), (6005, aCb (rfits_ok (a) (s1) ha (h_d.at hs1)) h6005), (8003, aX i d.length 1 (by omega)), (8004, aL encI_k hs1), (8005, aI .i64 .i64 (a + s1) (a + s1) hw), (9003, aA encI_k out [a + s1] (by simp; omega)), (5001, aI .i64 .i64 (((i : Nat) : Int) + 1) (((i + 1 : Nat) : Int)) (wrap_i64' (by omega) (by omega) (by omega)))]) (rows := [0, 1]) (by kernel_rfl) (.cons (fun _ => encI_sc _) (.cons (fun _ => encI_sc _) .nil)) (le_ble rfl)) (show rab_inv d (i + 1) (a + s1) (out ++ [a + s1]) from ⟨by omega, hf, by simp [ho], by rw [hg, drop_idx hs1, absGo, if_pos h6005]; cases absGo (a + s1) (d.drop (i + 1)) <;> simp⟩) (by show d.length - (i + 1) < d.length - i; omega)
    | false =>
      have he : absE d = 28 := by rw [absE, hg, drop_idx hs1, absGo]; simp [h6005]
      exact Tr.out (I := (rab_Iu d)) (m := (rab_m d)) (Tr.run follows_mixed (A := [(4003, aT h4003), (6003, aX i d.length 1 (by omega)), (6004, aL encI_k hs1), (6005, aCb (rfits_ok (a) (s1) ha (h_d.at hs1)) h6005)]) (rows := []) (by kernel_rfl) .nil (le_ble rfl)) (.inr ⟨he, rfl, rfl⟩) (by simp)
  · skip
    have hd : d.drop i = [] := drop_none (by omega)
    rw [hd] at hg
    simp [absGo] at hg
    have he : absE d = 0 := by simp [absE, hg]
    have hl : out = absL d := by simp [absL, hg]
    subst hl
    exact Tr.out (I := (rab_Iu d)) (m := (rab_m d)) (Tr.run follows_mixed (A := [(4003, aF h4003)]) (rows := [1]) (by kernel_rfl) (.cons (fun _ => encI_sc _) .nil) (le_ble rfl)) (.inl ⟨he, rfl, rfl⟩) (by simp)

theorem rab_loop (d : List Int) (h_d : L64 d) (h_n : d.length ≤ 4294967296) (i : Nat) (a : Int) (out : List Int) (hinv : rab_inv d i a out) {ds : List Deferred} : Tr Try.prog none ⟨31, ds⟩ 1 (.loop (nthLoop Try.f51 0)) (rab_I d i a out) (rab_K d) :=
  Tr.rounds (Inv := (rab_vu d)) (I := (rab_Iu d)) (m := (rab_m d)) (fun x h_0 => rab_round d h_d h_n x.1 x.2.1 x.2.2 h_0) (i, a, out) hinv
theorem rabs_ok (d : List Int) (h_d : L64 d) (h_n : d.length ≤ 4294967296) : FnC Try.prog 51 [.slice (some ⟨0, 0, none⟩) d.length (d.length + 1)] [(0, ⟨(d).flatMap encI, 1, [], 1⟩)] 1 (.tuple #[.slice (some ⟨1, 0, none⟩) ((absL d).length) ((absL d).length + 1), .int .i64 (if absE d = 0 then 0 else 1)]) 1 [(1, ⟨(absL d).flatMap encI, 2, [], 1⟩)] := by
  by_cases hz : (absE d = 0)
  · skip
    rw [if_pos hz]
    exact FnC.run (m := false) follows_mixed has51 [(900000, .stmt (.loop (nthLoop Try.f51 0)) [0, 1] (rab_I d 0 0 []) (.exit 0) ⟨[(4, .slice (some ⟨1, 0, none⟩) ((absL d).length) ((absL d).length + 1))], [(1, ⟨(absL d).flatMap encI, 2, [], 1⟩)], 2⟩ (.cons (fun _ => encI_sc _) (.cons (fun _ => encI_sc _) .nil)) (fun ds => (rab_loop d h_d h_n 0 0 [] ⟨by omega, by unfold I64; omega, rfl, by rw [absS]; simp⟩).pick (fun e s h => by rcases h with ⟨_, h⟩ | ⟨h0, _⟩; exact h; omega)) (le_ble rfl))] (by kernel_rfl) (by kernel_rfl) (.cons (encI_sc _) .nil) (.cons (encI_sc _) .nil)
  · skip
    rw [if_neg hz]
    have hz8 : absE d = 28 := (absE_cases d).resolve_left hz
    have hl : absL d = [] := by unfold absL; cases h : absS d; rfl; simp [absE, h] at hz
    rw [hl]
    exact FnC.run (m := false) follows_mixed has51 [(900000, .stmt (.loop (nthLoop Try.f51 0)) [0, 1] (rab_I d 0 0 []) (.ret) ⟨[(2, .slice none 0 0), (3, .int .i64 1)], [], 2⟩ (.cons (fun _ => encI_sc _) (.cons (fun _ => encI_sc _) .nil)) (fun ds => (rab_loop d h_d h_n 0 0 [] ⟨by omega, by unfold I64; omega, rfl, by rw [absS]; simp⟩).pick (fun e s h => by rcases h with ⟨h0, _⟩ | ⟨_, h⟩; omega; exact h)) (le_ble rfl))] (by kernel_rfl) (by kernel_rfl) (.cons (encI_sc _) .nil) (.cons (encI_sc _) .nil)
theorem rnan_ok (v : Int) (h_v : U64 v) : FnC Try.prog 209 [.int .u64 v] [] 0 (.bool (nanS v)) 0 [] := by
  unfold U64 at h_v
  by_cases h1001 : (v ≥ 9223372036854775808)
  · skip
    exact FnC.eq (v := .bool (decide (v - 9223372036854775808 > 9218868437227405312))) (FnC.run (m := false) follows_mixed has209 [(1001, aT h1001), (2001, aI .u64 .u64 (v - 9223372036854775808) (v - 9223372036854775808) (wrap_u64 (by omega) (by omega)))] (by kernel_rfl) (by kernel_rfl) .nil .nil) (by congr 1; unfold nanS; rw [Bool.eq_iff_iff, decide_eq_true_iff, decide_eq_true_iff]; omega)
  · skip
    exact FnC.eq (v := .bool (decide (v > 9218868437227405312))) (FnC.run (m := false) follows_mixed has209 [(1001, aF h1001)] (by kernel_rfl) (by kernel_rfl) .nil .nil) (by congr 1; unfold nanS; rw [Bool.eq_iff_iff, decide_eq_true_iff, decide_eq_true_iff]; omega)
theorem rhead_ok (s z : Int) : FnC Try.prog 121 [.int .i64 s, .int .u64 z] [] 0 (.int .i64 (headE s z)) 0 [] := by
  by_cases h1001 : (s < -4)
  · skip
    exact FnC.eq (v := .int .i64 21) (FnC.run (m := false) follows_mixed has121 [(1001, aT h1001)] (by kernel_rfl) (by kernel_rfl) .nil .nil) (by simp_all [headE, thrS] <;> omega)
  · skip
    by_cases h1004 : (s > 8)
    · skip
      exact FnC.eq (v := .int .i64 21) (FnC.run (m := false) follows_mixed has121 [(1001, aF h1001), (1004, aT h1004)] (by kernel_rfl) (by kernel_rfl) .nil .nil) (by simp_all [headE, thrS] <;> omega)
    · skip
      by_cases h3001 : (z ≥ 9218868437227405312)
      · skip
        exact FnC.eq (v := .int .i64 11) (FnC.run (m := false) follows_mixed has121 [(1001, aF h1001), (1004, aF h1004), (3001, aT h3001)] (by kernel_rfl) (by kernel_rfl) .nil .nil) (by simp_all [headE, thrS] <;> omega)
      · skip
        exact FnC.eq (v := .int .i64 0) (FnC.run (m := false) follows_mixed has121 [(1001, aF h1001), (1004, aF h1004), (3001, aF h3001)] (by kernel_rfl) (by kernel_rfl) .nil .nil) (by simp_all [headE, thrS] <;> omega)
def sidePl (l : List Sp) (d : List Int) : List Int := if sideE l d = 0 then places l else []
def sideCn (l : List Sp) (d : List Int) : List Int := if sideE l d = 0 then absL d else []
theorem sideR_pc (l : List Sp) (d : List Int) : sideR l d = (sidePl l d).zip (sideCn l d) := by unfold sideR sidePl sideCn; split <;> rfl
abbrev rsd_I (l : List Sp) (d : List Int) (i : Nat) : AS := ⟨[(8, .slice (some ⟨2, 0, none⟩) ((places l).length) ((places l).length + 1)), (9, .slice (some ⟨3, 0, none⟩) ((absL d).length) ((absL d).length + 1)), (11, .int .i64 ((i : Nat) : Int))], [(2, ⟨(places l).flatMap encI, 2, [], 1⟩), (3, ⟨(absL d).flatMap encI, 2, [], 1⟩)], 4⟩
abbrev rsd_inv (l : List Sp) (d : List Int) (i : Nat) : Prop := i ≤ (absL d).length ∧ ∀ x ∈ (absL d).take i, (fun n : Int => decide (n < 0)) x = false
def rsd_K (l : List Sp) (d : List Int) : Exit → AS → Prop := fun e s => ((absL d).any (fun n : Int => decide (n < 0)) = false ∧ e = .exit 0 ∧ s = ⟨[(8, .slice (some ⟨2, 0, none⟩) ((places l).length) ((places l).length + 1)), (9, .slice (some ⟨3, 0, none⟩) ((absL d).length) ((absL d).length + 1))], [(2, ⟨(places l).flatMap encI, 2, [], 1⟩), (3, ⟨(absL d).flatMap encI, 2, [], 1⟩)], 4⟩) ∨ ((absL d).any (fun n : Int => decide (n < 0)) = true ∧ e = .ret ∧ s = ⟨[(4, .slice none 0 0), (5, .slice none 0 0), (6, .int .i64 22)], [], 4⟩)
abbrev rsd_Iu (l : List Sp) (d : List Int) : Nat → AS := fun x => rsd_I l d x
abbrev rsd_vu (l : List Sp) (d : List Int) : Nat → Prop := fun x => rsd_inv l d x
abbrev rsd_m (l : List Sp) (d : List Int) : Nat → Nat := fun x => (fun (i : Nat) => (absL d).length - i) x
theorem rsd_round (l : List Sp) (d : List Int) (h_n : d.length ≤ 4294967296) (i : Nat) (hinv : rsd_inv l d i) {ds : List Deferred} : Tr Try.prog none ⟨44, ds⟩ 2 (nthLoop Try.f122 0) (rsd_I l d i) (RK (rsd_vu l d) (rsd_Iu l d) (rsd_m l d) (rsd_K l d) i) := by
  obtain ⟨hi0, hx⟩ := hinv
  have hla := absL_le d
  by_cases h11003 : (((i : Nat) : Int) < (((absL d).length : Nat) : Int))
  · skip
    obtain ⟨s1, hs1⟩ : ∃ s, (absL d)[i]? = some s := ⟨_, List.getElem?_eq_getElem (by omega)⟩
    by_cases h13004 : (s1 < 0)
    · skip
      obtain ⟨hi, hn⟩ := idx_found (p := fun n : Int => decide (n < 0)) hx hs1 (decide_eq_true h13004)
      exact Tr.out (I := (rsd_Iu l d)) (m := (rsd_m l d)) (Tr.run follows_mixed (A := [(11003, aT h11003), (13002, aX i ((absL d).length) 1 (by omega)), (13003, aL encI_k hs1), (13004, aT h13004)]) (rows := []) (by kernel_rfl) .nil (le_ble rfl)) (.inr ⟨hn, rfl, rfl⟩) (by simp)
    · skip
      exact Tr.again (Inv := (rsd_vu l d)) (I := (rsd_Iu l d)) (m := (rsd_m l d)) (i + 1) (Tr.run follows_mixed (A := [(11003, aT h11003), (13002, aX i ((absL d).length) 1 (by omega)), (13003, aL encI_k hs1), (13004, aF h13004), (12001, aI .i64 .i64 (((i : Nat) : Int) + 1) (((i + 1 : Nat) : Int)) (wrap_i64' (by omega) (by omega) (by omega)))]) (rows := [2, 3]) (by kernel_rfl) (.cons (fun _ => encI_sc _) (.cons (fun _ => encI_sc _) .nil)) (le_ble rfl)) (show rsd_inv l d (i + 1) from ⟨by omega, idx_step hx hs1 (decide_eq_false h13004)⟩) (by show (absL d).length - (i + 1) < (absL d).length - i; omega)
  · skip
    exact Tr.out (I := (rsd_Iu l d)) (m := (rsd_m l d)) (Tr.run follows_mixed (A := [(11003, aF h11003)]) (rows := [2, 3]) (by kernel_rfl) (.cons (fun _ => encI_sc _) (.cons (fun _ => encI_sc _) .nil)) (le_ble rfl)) (.inl ⟨(idx_none hx (by omega)), rfl, rfl⟩) (by simp)

theorem rsd_loop (l : List Sp) (d : List Int) (h_n : d.length ≤ 4294967296) (i : Nat) (hinv : rsd_inv l d i) {ds : List Deferred} : Tr Try.prog none ⟨44, ds⟩ 2 (.loop (nthLoop Try.f122 0)) (rsd_I l d i) (rsd_K l d) :=
  Tr.rounds (Inv := (rsd_vu l d)) (I := (rsd_Iu l d)) (m := (rsd_m l d)) (fun x h_0 => rsd_round l d h_n x h_0) i hinv
theorem rside_ok (l : List Sp) (d : List Int) (h_d : L64 d) (h_n : d.length ≤ 4294967296) : FnC Try.prog 122 [.slice (some ⟨0, 0, none⟩) l.length (l.length + 1), .slice (some ⟨1, 0, none⟩) d.length (d.length + 1)] [(0, ⟨(l).flatMap encS, 1, [], 2⟩), (1, ⟨(d).flatMap encI, 1, [], 1⟩)] 2 (.tuple #[.slice (some ⟨2, 0, none⟩) ((sidePl l d).length) ((sidePl l d).length + 1), .slice (some ⟨3, 0, none⟩) ((sideCn l d).length) ((sideCn l d).length + 1), .int .i64 (sideE l d)]) 2 [(2, ⟨(sidePl l d).flatMap encI, 2, [], 1⟩), (3, ⟨(sideCn l d).flatMap encI, 2, [], 1⟩)] := by
  rcases Bool.eq_false_or_eq_true ((absL d).any (fun n : Int => decide (n < 0))) with hz | hz
  · skip
    by_cases h2001 : ((checkS l : Int) = 0)
    · skip
      by_cases h5004 : (((((places (l)).length : Nat) : Int) : Int) = ((d.length : Nat) : Int))
      · skip
        by_cases h8001 : ((if absE d = 0 then 0 else 1 : Int) = 1)
        · skip
          have hb : absE d ≠ 0 := fun q => by rw [if_pos q] at h8001; cases h8001
          have h28 := (absE_cases d).resolve_left hb
          have he : sideE l d = 28 := by have := places_length l; unfold sideE; rw [if_neg (by simp [h2001]), if_neg (by omega), if_pos hb, h28]
          have hp : sidePl l d = [] := by unfold sidePl; rw [if_neg (by rw [he]; decide)]
          have hq : sideCn l d = [] := by unfold sideCn; rw [if_neg (by rw [he]; decide)]
          rw [hp, hq, he]
          exact FnC.run (m := false) follows_mixed has122 [(1001, aC (rcheck_ok l)), (2001, aNT h2001), (4001, aC (rplaces_ok (l) h2001)), (5004, aNT h5004), (7001, aC (rabs_ok (d) h_d h_n)), (8001, aT h8001)] (by kernel_rfl) (by kernel_rfl) (.cons (encS_sc _) (.cons (encI_sc _) .nil)) (.cons (encI_sc _) (.cons (encI_sc _) .nil))
        · skip
          have hb : absE d = 0 := Classical.byContradiction fun q => h8001 (if_neg q)
          have he : sideE l d = 22 := by have := places_length l; unfold sideE; rw [if_neg (by simp [h2001]), if_neg (by omega), if_neg (by simp [hb]), if_pos hz]
          have hp : sidePl l d = [] := by unfold sidePl; rw [if_neg (by rw [he]; decide)]
          have hq : sideCn l d = [] := by unfold sideCn; rw [if_neg (by rw [he]; decide)]
          rw [hp, hq, he]
          exact FnC.run (m := false) follows_mixed has122 [(1001, aC (rcheck_ok l)), (2001, aNT h2001), (4001, aC (rplaces_ok (l) h2001)), (5004, aNT h5004), (7001, aC (rabs_ok (d) h_d h_n)), (8001, aF h8001), (900000, .stmt (.loop (nthLoop Try.f122 0)) [2, 3] (rsd_I l d 0) (.ret) ⟨[(4, .slice none 0 0), (5, .slice none 0 0), (6, .int .i64 22)], [], 4⟩ (.cons (fun _ => encI_sc _) (.cons (fun _ => encI_sc _) .nil)) (fun ds => (rsd_loop l d h_n 0 ⟨by omega, by simp⟩).pick (fun e s h => by rcases h with ⟨h0, _⟩ | ⟨_, h⟩; rw [hz] at h0; cases h0; exact h)) (le_ble rfl))] (by kernel_rfl) (by kernel_rfl) (.cons (encS_sc _) (.cons (encI_sc _) .nil)) (.cons (encI_sc _) (.cons (encI_sc _) .nil))
      · skip
        have he : sideE l d = 23 := by have := places_length l; unfold sideE; rw [if_neg (by simp [h2001]), if_pos (by omega)]
        have hp : sidePl l d = [] := by unfold sidePl; rw [if_neg (by rw [he]; decide)]
        have hq : sideCn l d = [] := by unfold sideCn; rw [if_neg (by rw [he]; decide)]
        rw [hp, hq, he]
        exact FnC.run (m := false) follows_mixed has122 [(1001, aC (rcheck_ok l)), (2001, aNT h2001), (4001, aC (rplaces_ok (l) h2001)), (5004, aNF h5004)] (by kernel_rfl) (by kernel_rfl) (.cons (encS_sc _) (.cons (encI_sc _) .nil)) (.cons (encI_sc _) (.cons (encI_sc _) .nil))
    · skip
      have he : sideE l d = checkS l := by simp [sideE, h2001]
      have hp : sidePl l d = [] := by unfold sidePl; rw [if_neg (by rw [he]; assumption)]
      have hq : sideCn l d = [] := by unfold sideCn; rw [if_neg (by rw [he]; assumption)]
      rw [hp, hq, he]
      exact FnC.run (m := false) follows_mixed has122 [(1001, aC (rcheck_ok l)), (2001, aNF h2001)] (by kernel_rfl) (by kernel_rfl) (.cons (encS_sc _) (.cons (encI_sc _) .nil)) (.cons (encI_sc _) (.cons (encI_sc _) .nil))
  · skip
    by_cases h2001 : ((checkS l : Int) = 0)
    · skip
      by_cases h5004 : (((((places (l)).length : Nat) : Int) : Int) = ((d.length : Nat) : Int))
      · skip
        by_cases h8001 : ((if absE d = 0 then 0 else 1 : Int) = 1)
        · skip
          have hb : absE d ≠ 0 := fun q => by rw [if_pos q] at h8001; cases h8001
          have h28 := (absE_cases d).resolve_left hb
          have he : sideE l d = 28 := by have := places_length l; unfold sideE; rw [if_neg (by simp [h2001]), if_neg (by omega), if_pos hb, h28]
          have hp : sidePl l d = [] := by unfold sidePl; rw [if_neg (by rw [he]; decide)]
          have hq : sideCn l d = [] := by unfold sideCn; rw [if_neg (by rw [he]; decide)]
          rw [hp, hq, he]
          exact FnC.run (m := false) follows_mixed has122 [(1001, aC (rcheck_ok l)), (2001, aNT h2001), (4001, aC (rplaces_ok (l) h2001)), (5004, aNT h5004), (7001, aC (rabs_ok (d) h_d h_n)), (8001, aT h8001)] (by kernel_rfl) (by kernel_rfl) (.cons (encS_sc _) (.cons (encI_sc _) .nil)) (.cons (encI_sc _) (.cons (encI_sc _) .nil))
        · skip
          have hb : absE d = 0 := Classical.byContradiction fun q => h8001 (if_neg q)
          have he : sideE l d = 0 := sideE_zero.2 ⟨h2001, by have := places_length l; omega, hb, hz⟩
          have hp : sidePl l d = places l := by unfold sidePl; rw [if_pos he]
          have hq : sideCn l d = absL d := by unfold sideCn; rw [if_pos he]
          rw [hp, hq, he]
          exact FnC.run (m := false) follows_mixed has122 [(1001, aC (rcheck_ok l)), (2001, aNT h2001), (4001, aC (rplaces_ok (l) h2001)), (5004, aNT h5004), (7001, aC (rabs_ok (d) h_d h_n)), (8001, aF h8001), (900000, .stmt (.loop (nthLoop Try.f122 0)) [2, 3] (rsd_I l d 0) (.exit 0) ⟨[(8, .slice (some ⟨2, 0, none⟩) ((places l).length) ((places l).length + 1)), (9, .slice (some ⟨3, 0, none⟩) ((absL d).length) ((absL d).length + 1))], [(2, ⟨(places l).flatMap encI, 2, [], 1⟩), (3, ⟨(absL d).flatMap encI, 2, [], 1⟩)], 4⟩ (.cons (fun _ => encI_sc _) (.cons (fun _ => encI_sc _) .nil)) (fun ds => (rsd_loop l d h_n 0 ⟨by omega, by simp⟩).pick (fun e s h => by rcases h with ⟨_, h⟩ | ⟨h0, _⟩; exact h; rw [hz] at h0; cases h0)) (le_ble rfl))] (by kernel_rfl) (by kernel_rfl) (.cons (encS_sc _) (.cons (encI_sc _) .nil)) (.cons (encI_sc _) (.cons (encI_sc _) .nil))
      · skip
        have he : sideE l d = 23 := by have := places_length l; unfold sideE; rw [if_neg (by simp [h2001]), if_pos (by omega)]
        have hp : sidePl l d = [] := by unfold sidePl; rw [if_neg (by rw [he]; decide)]
        have hq : sideCn l d = [] := by unfold sideCn; rw [if_neg (by rw [he]; decide)]
        rw [hp, hq, he]
        exact FnC.run (m := false) follows_mixed has122 [(1001, aC (rcheck_ok l)), (2001, aNT h2001), (4001, aC (rplaces_ok (l) h2001)), (5004, aNF h5004)] (by kernel_rfl) (by kernel_rfl) (.cons (encS_sc _) (.cons (encI_sc _) .nil)) (.cons (encI_sc _) (.cons (encI_sc _) .nil))
    · skip
      have he : sideE l d = checkS l := by simp [sideE, h2001]
      have hp : sidePl l d = [] := by unfold sidePl; rw [if_neg (by rw [he]; assumption)]
      have hq : sideCn l d = [] := by unfold sideCn; rw [if_neg (by rw [he]; assumption)]
      rw [hp, hq, he]
      exact FnC.run (m := false) follows_mixed has122 [(1001, aC (rcheck_ok l)), (2001, aNF h2001)] (by kernel_rfl) (by kernel_rfl) (.cons (encS_sc _) (.cons (encI_sc _) .nil)) (.cons (encI_sc _) (.cons (encI_sc _) .nil))
end Go.Am
