/-
Package pairs, and what of slices it uses: sums, the first that is so, places with values.
-/
import Derived.Test.YtbihgmehjhlojaaBas
set_option linter.unusedVariables false
set_option linter.unusedSimpArgs false
set_option maxRecDepth 100000
namespace Go.Am
open Go Go.RowKit Go.Proofs
theorem has260 : Has Try.prog 260 Try.f260 (bodyOf Try.f260) := ⟨Try.func260, by kernel_rfl, by kernel_rfl⟩
theorem has208 : Has Try.prog 208 Try.f208 (bodyOf Try.f208) := ⟨Try.func208, by kernel_rfl, by kernel_rfl⟩
theorem has263 : Has Try.prog 263 Try.f263 (bodyOf Try.f263) := ⟨Try.func263, by kernel_rfl, by kernel_rfl⟩
theorem has262 : Has Try.prog 262 Try.f262 (bodyOf Try.f262) := ⟨Try.func262, by kernel_rfl, by kernel_rfl⟩
theorem has282 : Has Try.prog 282 Try.f282 (bodyOf Try.f282) := ⟨Try.func282, by kernel_rfl, by kernel_rfl⟩
theorem has261 : Has Try.prog 261 Try.f261 (bodyOf Try.f261) := ⟨Try.func261, by kernel_rfl, by kernel_rfl⟩
theorem has188 : Has Try.prog 188 Try.f188 (bodyOf Try.f188) := ⟨Try.func188, by kernel_rfl, by kernel_rfl⟩
theorem has212 : Has Try.prog 212 Try.f212 (bodyOf Try.f212) := ⟨Try.func212, by kernel_rfl, by kernel_rfl⟩
theorem has210 : Has Try.prog 210 Try.f210 (bodyOf Try.f210) := ⟨Try.func210, by kernel_rfl, by kernel_rfl⟩
theorem add_ok (x y : Int) (h_x : I64 x) (h_y : I64 y) : FnC Try.prog 260 [.int .i64 x, .int .i64 y] [] 0 (.tuple #[.int .i64 (IntKind.i64.wrap (x + y)), .bool (fits64 (x + y))]) 0 [] := by
  unfold I64 at h_x h_y
  by_cases h2003 : (IntKind.i64.wrap (x + y) > x)
  · skip
    by_cases h2005 : (y > 0)
    · skip
      exact FnC.eq (v := .tuple #[.int .i64 (IntKind.i64.wrap (x + y)), .bool true]) (FnC.run (m := false) follows_mixed has260 [(2003, aT h2003), (2005, aT h2005)] (by kernel_rfl) (by kernel_rfl) .nil .nil) (by congr 5; rcases wrap_i64_cases (x := x + y) (by omega) (by omega) with ⟨hw, ew⟩ | ⟨hw, ew⟩ | ⟨hw, ew⟩ <;> simp only [ew, I64, fits64] at * <;> simp <;> omega)
    · skip
      exact FnC.eq (v := .tuple #[.int .i64 (IntKind.i64.wrap (x + y)), .bool false]) (FnC.run (m := false) follows_mixed has260 [(2003, aT h2003), (2005, aF h2005)] (by kernel_rfl) (by kernel_rfl) .nil .nil) (by congr 5; rcases wrap_i64_cases (x := x + y) (by omega) (by omega) with ⟨hw, ew⟩ | ⟨hw, ew⟩ | ⟨hw, ew⟩ <;> simp only [ew, I64, fits64] at * <;> simp <;> omega)
  · skip
    by_cases h2005 : (y > 0)
    · skip
      exact FnC.eq (v := .tuple #[.int .i64 (IntKind.i64.wrap (x + y)), .bool false]) (FnC.run (m := false) follows_mixed has260 [(2003, aF h2003), (2005, aT h2005)] (by kernel_rfl) (by kernel_rfl) .nil .nil) (by congr 5; rcases wrap_i64_cases (x := x + y) (by omega) (by omega) with ⟨hw, ew⟩ | ⟨hw, ew⟩ | ⟨hw, ew⟩ <;> simp only [ew, I64, fits64] at * <;> simp <;> omega)
    · skip
      exact FnC.eq (v := .tuple #[.int .i64 (IntKind.i64.wrap (x + y)), .bool true]) (FnC.run (m := false) follows_mixed has260 [(2003, aF h2003), (2005, aF h2005)] (by kernel_rfl) (by kernel_rfl) .nil .nil) (by congr 5; rcases wrap_i64_cases (x := x + y) (by omega) (by omega) with ⟨hw, ew⟩ | ⟨hw, ew⟩ | ⟨hw, ew⟩ <;> simp only [ew, I64, fits64] at * <;> simp <;> omega)
abbrev abs_I (d : List Int) (i : Nat) (a : Int) (out : List Int) : AS := ⟨[(4, .slice (some ⟨1, 0, none⟩) out.length (out.length + 1)), (5, .int .i64 a), (9, .slice (some ⟨0, 0, none⟩) d.length (d.length + 1)), (10, .int .i64 ((d.length : Nat) : Int)), (11, .int .i64 ((i : Nat) : Int))], [(0, ⟨(d).flatMap encI, 1, [], 1⟩), (1, ⟨(out).flatMap encI, 2, [], 1⟩)], 2⟩
abbrev abs_inv (d : List Int) (i : Nat) (a : Int) (out : List Int) : Prop := i ≤ d.length ∧ I64 a ∧ out.length = i ∧ absS d = (absGo a (d.drop i)).map (out ++ ·)
def abs_K (d : List Int) : Exit → AS → Prop := fun e s => (absE d = 0 ∧ e = .exit 0 ∧ s = ⟨[(4, .slice (some ⟨1, 0, none⟩) ((absL d).length) ((absL d).length + 1))], [(1, ⟨(absL d).flatMap encI, 2, [], 1⟩)], 2⟩) ∨ (absE d = 28 ∧ e = .ret ∧ s = ⟨[(2, .slice none 0 0), (3, .int .i64 28)], [], 2⟩)
abbrev abs_Iu (d : List Int) : Nat × Int × List Int → AS := fun x => abs_I d x.1 x.2.1 x.2.2
abbrev abs_vu (d : List Int) : Nat × Int × List Int → Prop := fun x => abs_inv d x.1 x.2.1 x.2.2
abbrev abs_m (d : List Int) : Nat × Int × List Int → Nat := fun x => (fun (i : Nat) (a : Int) (out : List Int) => d.length - i) x.1 x.2.1 x.2.2
theorem abs_round (d : List Int) (h_d : L64 d) (h_n : d.length ≤ 4294967296) (i : Nat) (a : Int) (out : List Int) (hinv : abs_inv d i a out) {ds : List Deferred} : Tr Try.prog none ⟨29, ds⟩ 1 (nthLoop Try.f208 0) (abs_I d i a out) (RK (abs_vu d) (abs_Iu d) (abs_m d) (abs_K d) (i, a, out)) := by
  obtain ⟨hi0, ha, ho, hg⟩ := hinv
  by_cases h4000 : (((i : Nat) : Int) < ((d.length : Nat) : Int))
  · skip
    obtain ⟨s1, hs1⟩ : ∃ s, d[i]? = some s := ⟨_, List.getElem?_eq_getElem (by omega)⟩
    cases h6005 : (fits64 (a + s1)) with
    | true =>
      have hf := fits64_iff.1 h6005
      have hw : IntKind.i64.wrap (a + s1) = a + s1 := wrap_i64 hf.1 hf.2
      exact Tr.again (Inv := (abs_vu d)) (I := (abs_Iu d)) (m := (abs_m d)) (i + 1, a + s1, out ++ [a + s1]) (Tr.run follows_mixed (A := [(4000, aT h4000), (5000, aX i d.length 1 (by omega)), (5001, aL encI_k hs1), (6002, aC (add_ok (a) (s1) ha (h_d.at hs1))), (6004, aI .i64 .i64 (a + s1) (a + s1) hw), (6005, aB h6005), (9003, aA encI_k out [a + s1] (by simp; omega)), (10000, aI .i64 .i64 (((i : Nat) : Int) + 1) (((i + 1 : Nat) : Int)) (wrap_i64' (by omega) (by omega) (by omega)))]) (rows := [0, 1]) (by kernel_rfl) (.cons (fun _ => encI_sc _) (.cons (fun _ => encI_sc _) .nil)) (le_ble rfl)) (show abs_inv d (i + 1) (a + s1) (out ++ [a + s1]) from ⟨by omega, hf, by simp [ho], by rw [hg, drop_idx hs1, absGo, if_pos h6005]; cases absGo (a + s1) (d.drop (i + 1)) <;> simp⟩) (by show d.length - (i + 1) < d.length - i; omega)
    | false =>
      have he : absE d = 28 := by rw [absE, hg, drop_idx hs1, absGo]; simp [h6005]
      exact Tr.out (I := (abs_Iu d)) (m := (abs_m d)) (Tr.run follows_mixed (A := [(4000, aT h4000), (5000, aX i d.length 1 (by omega)), (5001, aL encI_k hs1), (6002, aC (add_ok (a) (s1) ha (h_d.at hs1))), (6005, aB h6005)]) (rows := []) (by kernel_rfl) .nil (le_ble rfl)) (.inr ⟨he, rfl, rfl⟩) (by simp)
  · skip
    have hd : d.drop i = [] := drop_none (by omega)
    rw [hd] at hg
    simp [absGo] at hg
    have he : absE d = 0 := by simp [absE, hg]
    have hl : out = absL d := by simp [absL, hg]
    subst hl
    exact Tr.out (I := (abs_Iu d)) (m := (abs_m d)) (Tr.run follows_mixed (A := [(4000, aF h4000)]) (rows := [1]) (by kernel_rfl) (.cons (fun _ => encI_sc _) .nil) (le_ble rfl)) (.inl ⟨he, rfl, rfl⟩) (by simp)

theorem abs_loop (d : List Int) (h_d : L64 d) (h_n : d.length ≤ 4294967296) (i : Nat) (a : Int) (out : List Int) (hinv : abs_inv d i a out) {ds : List Deferred} : Tr Try.prog none ⟨29, ds⟩ 1 (.loop (nthLoop Try.f208 0)) (abs_I d i a out) (abs_K d) :=
  Tr.rounds (Inv := (abs_vu d)) (I := (abs_Iu d)) (m := (abs_m d)) (fun x h => abs_round d h_d h_n x.1 x.2.1 x.2.2 h) (i, a, out) hinv
theorem absE_cases (d : List Int) : absE d = 0 ∨ absE d = 28 := by unfold absE; split <;> simp
theorem absolute_ok (d : List Int) (h_d : L64 d) (h_n : d.length ≤ 4294967296) : FnC Try.prog 208 [.slice (some ⟨0, 0, none⟩) d.length (d.length + 1)] [(0, ⟨(d).flatMap encI, 1, [], 1⟩)] 1 (.tuple #[.slice (some ⟨1, 0, none⟩) ((absL d).length) ((absL d).length + 1), .int .i64 (absE d)]) 1 [(1, ⟨(absL d).flatMap encI, 2, [], 1⟩)] := by
  by_cases hz : (absE d = 0)
  · skip
    rw [hz]
    exact FnC.run (m := false) follows_mixed has208 [(900000, .stmt (.loop (nthLoop Try.f208 0)) [0, 1] (abs_I d 0 0 []) (.exit 0) ⟨[(4, .slice (some ⟨1, 0, none⟩) ((absL d).length) ((absL d).length + 1))], [(1, ⟨(absL d).flatMap encI, 2, [], 1⟩)], 2⟩ (.cons (fun _ => encI_sc _) (.cons (fun _ => encI_sc _) .nil)) (fun ds => (abs_loop d h_d h_n 0 0 [] ⟨by omega, by unfold I64; omega, rfl, by rw [absS]; simp⟩).pick (fun e s h => by rcases h with ⟨_, h⟩ | ⟨h0, _⟩; exact h; omega)) (le_ble rfl))] (by kernel_rfl) (by kernel_rfl) (.cons (encI_sc _) .nil) (.cons (encI_sc _) .nil)
  · skip
    have hz8 : absE d = 28 := (absE_cases d).resolve_left hz
    have hl : absL d = [] := by unfold absL; cases h : absS d; rfl; simp [absE, h] at hz
    rw [hl, hz8]
    exact FnC.run (m := false) follows_mixed has208 [(900000, .stmt (.loop (nthLoop Try.f208 0)) [0, 1] (abs_I d 0 0 []) (.ret) ⟨[(2, .slice none 0 0), (3, .int .i64 28)], [], 2⟩ (.cons (fun _ => encI_sc _) (.cons (fun _ => encI_sc _) .nil)) (fun ds => (abs_loop d h_d h_n 0 0 [] ⟨by omega, by unfold I64; omega, rfl, by rw [absS]; simp⟩).pick (fun e s h => by rcases h with ⟨h0, _⟩ | ⟨_, h⟩; omega; exact h)) (le_ble rfl))] (by kernel_rfl) (by kernel_rfl) (.cons (encI_sc _) .nil) (.cons (encI_sc _) .nil)
theorem neg_ok (n : Int) : FnC Try.prog 262 [.int .i64 n] [] 0 (.bool (decide (n < 0))) 0 [] := by
  exact FnC.eq (v := .bool (decide (n < 0))) (FnC.run (m := false) follows_mixed has262 [] (by kernel_rfl) (by kernel_rfl) .nil .nil) (by simp_all)
abbrev idxneg_I (l : List Int) (i : Nat) : AS := ⟨[(0, .slice (some ⟨0, 0, none⟩) l.length (l.length + 1)), (1, .func (.func 262) #[] #[]), (7, .int .i64 ((l.length : Nat) : Int)), (8, .int .i64 ((i : Nat) : Int))], [(0, ⟨(l).flatMap encI, 1, [], 1⟩)], 1⟩
abbrev idxneg_inv (l : List Int) (i : Nat) : Prop := i ≤ l.length ∧ ∀ x ∈ l.take i, (fun n : Int => decide (n < 0)) x = false
def idxneg_K (l : List Int) : Exit → AS → Prop := fun e s => (l.any (fun n : Int => decide (n < 0)) = false ∧ e = .exit 0 ∧ s = ⟨[], [], 1⟩) ∨ (l.any (fun n : Int => decide (n < 0)) = true ∧ e = .ret ∧ s = ⟨[(4, .int .i64 ((l.findIdx (fun n : Int => decide (n < 0)) : Nat) : Int))], [], 1⟩)
abbrev idxneg_Iu (l : List Int) : Nat → AS := fun x => idxneg_I l x
abbrev idxneg_vu (l : List Int) : Nat → Prop := fun x => idxneg_inv l x
abbrev idxneg_m (l : List Int) : Nat → Nat := fun x => (fun (i : Nat) => l.length - i) x
theorem idxneg_round (l : List Int) (h_n : l.length ≤ 140737488355328) (i : Nat) (hinv : idxneg_inv l i) {ds : List Deferred} : Tr Try.prog none ⟨19, ds⟩ 1 (nthLoop Try.f282 0) (idxneg_I l i) (RK (idxneg_vu l) (idxneg_Iu l) (idxneg_m l) (idxneg_K l) i) := by
  obtain ⟨hi0, hx⟩ := hinv
  by_cases h2000 : (((i : Nat) : Int) < ((l.length : Nat) : Int))
  · skip
    obtain ⟨s1, hs1⟩ : ∃ s, l[i]? = some s := ⟨_, List.getElem?_eq_getElem (by omega)⟩
    cases h4005 : ((fun n : Int => decide (n < 0)) s1) with
    | true =>
      obtain ⟨hi, hn⟩ := idx_found (p := (fun n : Int => decide (n < 0))) hx hs1 h4005
      exact Tr.out (I := (idxneg_Iu l)) (m := (idxneg_m l)) (Tr.run follows_mixed (A := [(2000, aT h2000), (4003, aX i l.length 1 (by omega)), (4004, aL encI_k hs1), (4005, aCb (neg_ok s1) h4005), (5000, aE (x := .int .i64 ((i : Nat) : Int)) (y := .int .i64 ((l.findIdx (fun n : Int => decide (n < 0)) : Nat) : Int)) (by rw [← hi]))]) (rows := []) (by kernel_rfl) .nil (le_ble rfl)) (.inr ⟨hn, rfl, rfl⟩) (by simp)
    | false =>
      exact Tr.again (Inv := (idxneg_vu l)) (I := (idxneg_Iu l)) (m := (idxneg_m l)) (i + 1) (Tr.run follows_mixed (A := [(2000, aT h2000), (4003, aX i l.length 1 (by omega)), (4004, aL encI_k hs1), (4005, aCb (neg_ok s1) h4005), (6000, aI .i64 .i64 (((i : Nat) : Int) + 1) (((i + 1 : Nat) : Int)) (wrap_i64' (by omega) (by omega) (by omega)))]) (rows := [0]) (by kernel_rfl) (.cons (fun _ => encI_sc _) .nil) (le_ble rfl)) (show idxneg_inv l (i + 1) from ⟨by omega, idx_step hx hs1 h4005⟩) (by show l.length - (i + 1) < l.length - i; omega)
  · skip
    have hn : l.any (fun n : Int => decide (n < 0)) = false := idx_none hx (by omega)
    exact Tr.out (I := (idxneg_Iu l)) (m := (idxneg_m l)) (Tr.run follows_mixed (A := [(2000, aF h2000)]) (rows := []) (by kernel_rfl) .nil (le_ble rfl)) (.inl ⟨hn, rfl, rfl⟩) (by simp)

theorem idxneg_loop (l : List Int) (h_n : l.length ≤ 140737488355328) (i : Nat) (hinv : idxneg_inv l i) {ds : List Deferred} : Tr Try.prog none ⟨19, ds⟩ 1 (.loop (nthLoop Try.f282 0)) (idxneg_I l i) (idxneg_K l) :=
  Tr.rounds (Inv := (idxneg_vu l)) (I := (idxneg_Iu l)) (m := (idxneg_m l)) (fun x h => idxneg_round l h_n x h) i hinv
theorem idxneg_ok (l : List Int) (h_n : l.length ≤ 140737488355328) : FnC Try.prog 282 [.slice (some ⟨0, 0, none⟩) l.length (l.length + 1), .func (.func 262) #[] #[]] [(0, ⟨(l).flatMap encI, 1, [], 1⟩)] 1 (.int .i64 (idxI (fun n : Int => decide (n < 0)) l)) 0 [] := by
  rcases Bool.eq_false_or_eq_true (l.any (fun n : Int => decide (n < 0))) with hz | hz
  · skip
    exact FnC.eq (v := .int .i64 ((l.findIdx (fun n : Int => decide (n < 0)) : Nat) : Int)) (FnC.run (m := false) follows_mixed has282 [(900000, .stmt (.loop (nthLoop Try.f282 0)) [0] (idxneg_I l 0) (.ret) ⟨[(4, .int .i64 ((l.findIdx (fun n : Int => decide (n < 0)) : Nat) : Int))], [], 1⟩ (.cons (fun _ => encI_sc _) .nil) (fun ds => (idxneg_loop l h_n 0 ⟨by omega, by simp⟩).pick (fun e s h => by rcases h with ⟨h0, _⟩ | ⟨_, h⟩; rw [hz] at h0; cases h0; exact h)) (le_ble rfl))] (by kernel_rfl) (by kernel_rfl) (.cons (encI_sc _) .nil) .nil) (by rw [idxI_true hz])
  · skip
    exact FnC.eq (v := .int .i64 (-1)) (FnC.run (m := false) follows_mixed has282 [(900000, .stmt (.loop (nthLoop Try.f282 0)) [0] (idxneg_I l 0) (.exit 0) ⟨[], [], 1⟩ (.cons (fun _ => encI_sc _) .nil) (fun ds => (idxneg_loop l h_n 0 ⟨by omega, by simp⟩).pick (fun e s h => by rcases h with ⟨_, h⟩ | ⟨h0, _⟩; exact h; rw [hz] at h0; cases h0)) (le_ble rfl))] (by kernel_rfl) (by kernel_rfl) (.cons (encI_sc _) .nil) .nil) (by rw [idxI_false hz])
theorem idxnegc_ok (l : List Int) (h_n : l.length ≤ 140737488355328) : FnC Try.prog 261 [.slice (some ⟨0, 0, none⟩) l.length (l.length + 1), .func (.func 262) #[] #[]] [(0, ⟨(l).flatMap encI, 1, [], 1⟩)] 1 (.bool (l.any (fun n : Int => decide (n < 0)))) 0 [] := by
  exact FnC.eq (v := .bool (decide (idxI (fun n : Int => decide (n < 0)) l ≥ 0))) (FnC.run (m := false) follows_mixed has261 [(1002, aC (idxneg_ok l h_n))] (by kernel_rfl) (by kernel_rfl) (.cons (encI_sc _) .nil) .nil) (by rw [idxI_nonneg])
theorem thr_ok (v : Int) : FnC Try.prog 188 [.int .u64 v] [] 0 (.bool (thrS v)) 0 [] := by
  exact FnC.eq (v := .bool (decide (v < 9218868437227405312))) (FnC.run (m := false) follows_mixed has188 [] (by kernel_rfl) (by kernel_rfl) .nil .nil) (by simp [thrS] <;> omega)
theorem nan_ok (v : Int) (h_v : U64 v) : FnC Try.prog 212 [.int .u64 v] [] 0 (.bool (nanS v)) 0 [] := by
  exact FnC.eq (v := .bool (decide (v % 9223372036854775808 > 9218868437227405312))) (FnC.run (m := false) follows_mixed has212 [(1001, aE (x := .int .u64 (IntKind.u64.wrap (((BitVec.ofInt 64 (v) &&& ~~~BitVec.ofInt 64 9223372036854775808).toNat : Nat) : Int))) (y := .int .u64 (v % 9223372036854775808)) (by rw [andNot63 h_v]))] (by kernel_rfl) (by kernel_rfl) .nil .nil) (by simp [nanS] <;> omega)
abbrev zipI_I (l : List Sp) (v : List Int) (i : Nat) (out : List (Int × Int)) : AS := ⟨[(1, .slice (some ⟨1, 0, none⟩) v.length (v.length + 1)), (8, .slice (some ⟨3, 0, none⟩) out.length (out.length + 1)), (26, .slice (some ⟨2, 0, none⟩) ((places l).length) ((places l).length + 1)), (27, .int .i64 (((places l).length : Nat) : Int)), (28, .int .i64 ((i : Nat) : Int))], [(1, ⟨(v).flatMap encI, 1, [], 1⟩), (2, ⟨(places l).flatMap encI, 2, [], 1⟩), (3, ⟨(out).flatMap encS, 2, [], 2⟩)], 4⟩
abbrev zipI_inv (l : List Sp) (v : List Int) (i : Nat) (out : List (Int × Int)) : Prop := i ≤ (places l).length ∧ out = ((places l).take i).zip (v.take i)
def zipI_K (l : List Sp) (v : List Int) : Exit → AS → Prop := fun e s => (e = .exit 1 ∧ s = ⟨[(8, .slice (some ⟨3, 0, none⟩) (((places l).zip v).length) (((places l).zip v).length + 1))], [(3, ⟨((places l).zip v).flatMap encS, 2, [], 2⟩)], 4⟩)
abbrev zipI_Iu (l : List Sp) (v : List Int) : Nat × List (Int × Int) → AS := fun x => zipI_I l v x.1 x.2
abbrev zipI_vu (l : List Sp) (v : List Int) : Nat × List (Int × Int) → Prop := fun x => zipI_inv l v x.1 x.2
abbrev zipI_m (l : List Sp) (v : List Int) : Nat × List (Int × Int) → Nat := fun x => (fun (i : Nat) (out : List (Int × Int)) => (places l).length - i) x.1 x.2
theorem zipI_round (l : List Sp) (v : List Int) (h_n : (places l).length = v.length) (h_b : (places l).length ≤ 4096) (i : Nat) (out : List (Int × Int)) (hinv : zipI_inv l v i out) {ds : List Deferred} : Tr Try.prog none ⟨44, ds⟩ 2 (nthLoop Try.f263 0) (zipI_I l v i out) (RK (zipI_vu l v) (zipI_Iu l v) (zipI_m l v) (zipI_K l v) (i, out)) := by
  obtain ⟨hi0, ho⟩ := hinv
  have hol : out.length = i := by rw [ho]; simp; omega
  by_cases h8000 : (((i : Nat) : Int) < (((places l).length : Nat) : Int))
  · skip
    obtain ⟨s1, hs1⟩ : ∃ s, (places l)[i]? = some s := ⟨_, List.getElem?_eq_getElem (by omega)⟩
    obtain ⟨s2, hs2⟩ : ∃ s, v[i]? = some s := ⟨_, List.getElem?_eq_getElem (by omega)⟩
    exact Tr.again (Inv := (zipI_vu l v)) (I := (zipI_Iu l v)) (m := (zipI_m l v)) (i + 1, out ++ [(s1, s2)]) (Tr.run follows_mixed (A := [(8000, aT h8000), (9001, aX i ((places l).length) 1 (by omega)), (9002, aL encI_k hs1), (10004, aX i v.length 1 (by omega)), (10005, aL encI_k hs2), (10008, aA encS_k out [(s1, s2)] (by simp; omega)), (11000, aI .i64 .i64 (((i : Nat) : Int) + 1) (((i + 1 : Nat) : Int)) (wrap_i64' (by omega) (by omega) (by omega)))]) (rows := [1, 2, 3]) (by kernel_rfl) (.cons (fun _ => encI_sc _) (.cons (fun _ => encI_sc _) (.cons (fun _ => encS_sc _) .nil))) (le_ble rfl)) (show zipI_inv l v (i + 1) (out ++ [(s1, s2)]) from ⟨by omega, by rw [ho, take_next hs1, take_next hs2, List.zip_append (by simp; omega)]; rfl⟩) (by show (places l).length - (i + 1) < (places l).length - i; omega)
  · skip
    rw [take_all (by omega), take_all (by omega)] at ho
    subst ho
    exact Tr.out (I := (zipI_Iu l v)) (m := (zipI_m l v)) (Tr.run follows_mixed (A := [(8000, aF h8000)]) (rows := [3]) (by kernel_rfl) (.cons (fun _ => encS_sc _) .nil) (le_ble rfl)) ⟨rfl, rfl⟩ (by simp)

theorem zipI_loop (l : List Sp) (v : List Int) (h_n : (places l).length = v.length) (h_b : (places l).length ≤ 4096) (i : Nat) (out : List (Int × Int)) (hinv : zipI_inv l v i out) {ds : List Deferred} : Tr Try.prog none ⟨44, ds⟩ 2 (.loop (nthLoop Try.f263 0)) (zipI_I l v i out) (zipI_K l v) :=
  Tr.rounds (Inv := (zipI_vu l v)) (I := (zipI_Iu l v)) (m := (zipI_m l v)) (fun x h => zipI_round l v h_n h_b x.1 x.2 h) (i, out) hinv

theorem zipI_ok (l : List Sp) (v : List Int) (h_c : checkS l = 0) (h_n : (places l).length = v.length) : FnC Try.prog 263 [.slice (some ⟨0, 0, none⟩) l.length (l.length + 1), .slice (some ⟨1, 0, none⟩) v.length (v.length + 1)] [(0, ⟨(l).flatMap encS, 1, [], 2⟩), (1, ⟨(v).flatMap encI, 1, [], 1⟩)] 2 (.tuple #[.slice (some ⟨2, 0, none⟩) (((places l).zip v).length) (((places l).zip v).length + 1), .int .i64 0]) 1 [(2, ⟨((places l).zip v).flatMap encS, 2, [], 2⟩)] := by
  have h_b : (places l).length ≤ 4096 := by have := places_length l; have := countS_le l; omega
  by_cases h2001 : ((checkS l : Int) = 0)
  · skip
    by_cases h4004 : (((((places l).length : Nat) : Int) : Int) = ((v.length : Nat) : Int))
    · skip
      exact FnC.run (m := false) follows_mixed has263 [(1001, aC (places_ok l)), (2001, aNT h2001), (4004, aNT h4004), (900000, .stmt (.loop (nthLoop Try.f263 0)) [1, 2, 3] (zipI_I l v 0 []) (.exit 1) ⟨[(8, .slice (some ⟨3, 0, none⟩) (((places l).zip v).length) (((places l).zip v).length + 1))], [(3, ⟨((places l).zip v).flatMap encS, 2, [], 2⟩)], 4⟩ (.cons (fun _ => encI_sc _) (.cons (fun _ => encI_sc _) (.cons (fun _ => encS_sc _) .nil))) (fun ds => (zipI_loop l v h_n h_b 0 [] ⟨by omega, by simp⟩).pick (fun e s h => h)) (le_ble rfl))] (by kernel_rfl) (by kernel_rfl) (.cons (encS_sc _) (.cons (encI_sc _) .nil)) (.cons (encS_sc _) .nil)
    · skip
      exact absurd (by omega) h4004
  · skip
    exact absurd h_c h2001
theorem has269 : Has Try.prog 269 Try.f269 (bodyOf Try.f269) := ⟨Try.func269, by kernel_rfl, by kernel_rfl⟩
abbrev zipU_I (l : List Sp) (v : List Int) (i : Nat) (out : List (Int × Int)) : AS := ⟨[(1, .slice (some ⟨1, 0, none⟩) v.length (v.length + 1)), (8, .slice (some ⟨3, 0, none⟩) out.length (out.length + 1)), (26, .slice (some ⟨2, 0, none⟩) ((places l).length) ((places l).length + 1)), (27, .int .i64 (((places l).length : Nat) : Int)), (28, .int .i64 ((i : Nat) : Int))], [(1, ⟨(v).flatMap encW, 1, [], 1⟩), (2, ⟨(places l).flatMap encI, 2, [], 1⟩), (3, ⟨(out).flatMap encU, 2, [], 2⟩)], 4⟩
abbrev zipU_inv (l : List Sp) (v : List Int) (i : Nat) (out : List (Int × Int)) : Prop := i ≤ (places l).length ∧ out = ((places l).take i).zip (v.take i)
def zipU_K (l : List Sp) (v : List Int) : Exit → AS → Prop := fun e s => (e = .exit 1 ∧ s = ⟨[(8, .slice (some ⟨3, 0, none⟩) (((places l).zip v).length) (((places l).zip v).length + 1))], [(3, ⟨((places l).zip v).flatMap encU, 2, [], 2⟩)], 4⟩)
abbrev zipU_Iu (l : List Sp) (v : List Int) : Nat × List (Int × Int) → AS := fun x => zipU_I l v x.1 x.2
abbrev zipU_vu (l : List Sp) (v : List Int) : Nat × List (Int × Int) → Prop := fun x => zipU_inv l v x.1 x.2
abbrev zipU_m (l : List Sp) (v : List Int) : Nat × List (Int × Int) → Nat := fun x => (fun (i : Nat) (out : List (Int × Int)) => (places l).length - i) x.1 x.2
theorem zipU_round (l : List Sp) (v : List Int) (h_n : (places l).length = v.length) (h_b : (places l).length ≤ 4096) (i : Nat) (out : List (Int × Int)) (hinv : zipU_inv l v i out) {ds : List Deferred} : Tr Try.prog none ⟨44, ds⟩ 2 (nthLoop Try.f269 0) (zipU_I l v i out) (RK (zipU_vu l v) (zipU_Iu l v) (zipU_m l v) (zipU_K l v) (i, out)) := by
  obtain ⟨hi0, ho⟩ := hinv
  have hol : out.length = i := by rw [ho]; simp; omega
  by_cases h8000 : (((i : Nat) : Int) < (((places l).length : Nat) : Int))
  · skip
    obtain ⟨s1, hs1⟩ : ∃ s, (places l)[i]? = some s := ⟨_, List.getElem?_eq_getElem (by omega)⟩
    obtain ⟨s2, hs2⟩ : ∃ s, v[i]? = some s := ⟨_, List.getElem?_eq_getElem (by omega)⟩
    exact Tr.again (Inv := (zipU_vu l v)) (I := (zipU_Iu l v)) (m := (zipU_m l v)) (i + 1, out ++ [(s1, s2)]) (Tr.run follows_mixed (A := [(8000, aT h8000), (9001, aX i ((places l).length) 1 (by omega)), (9002, aL encI_k hs1), (10004, aX i v.length 1 (by omega)), (10005, aL encW_k hs2), (10008, aA encU_k out [(s1, s2)] (by simp; omega)), (11000, aI .i64 .i64 (((i : Nat) : Int) + 1) (((i + 1 : Nat) : Int)) (wrap_i64' (by omega) (by omega) (by omega)))]) (rows := [1, 2, 3]) (by kernel_rfl) (.cons (fun _ => encW_sc _) (.cons (fun _ => encI_sc _) (.cons (fun _ => encU_sc _) .nil))) (le_ble rfl)) (show zipU_inv l v (i + 1) (out ++ [(s1, s2)]) from ⟨by omega, by rw [ho, take_next hs1, take_next hs2, List.zip_append (by simp; omega)]; rfl⟩) (by show (places l).length - (i + 1) < (places l).length - i; omega)
  · skip
    rw [take_all (by omega), take_all (by omega)] at ho
    subst ho
    exact Tr.out (I := (zipU_Iu l v)) (m := (zipU_m l v)) (Tr.run follows_mixed (A := [(8000, aF h8000)]) (rows := [3]) (by kernel_rfl) (.cons (fun _ => encU_sc _) .nil) (le_ble rfl)) ⟨rfl, rfl⟩ (by simp)

theorem zipU_loop (l : List Sp) (v : List Int) (h_n : (places l).length = v.length) (h_b : (places l).length ≤ 4096) (i : Nat) (out : List (Int × Int)) (hinv : zipU_inv l v i out) {ds : List Deferred} : Tr Try.prog none ⟨44, ds⟩ 2 (.loop (nthLoop Try.f269 0)) (zipU_I l v i out) (zipU_K l v) :=
  Tr.rounds (Inv := (zipU_vu l v)) (I := (zipU_Iu l v)) (m := (zipU_m l v)) (fun x h => zipU_round l v h_n h_b x.1 x.2 h) (i, out) hinv

theorem zipU_ok (l : List Sp) (v : List Int) (h_c : checkS l = 0) (h_n : (places l).length = v.length) : FnC Try.prog 269 [.slice (some ⟨0, 0, none⟩) l.length (l.length + 1), .slice (some ⟨1, 0, none⟩) v.length (v.length + 1)] [(0, ⟨(l).flatMap encS, 1, [], 2⟩), (1, ⟨(v).flatMap encW, 1, [], 1⟩)] 2 (.tuple #[.slice (some ⟨2, 0, none⟩) (((places l).zip v).length) (((places l).zip v).length + 1), .int .i64 0]) 1 [(2, ⟨((places l).zip v).flatMap encU, 2, [], 2⟩)] := by
  have h_b : (places l).length ≤ 4096 := by have := places_length l; have := countS_le l; omega
  by_cases h2001 : ((checkS l : Int) = 0)
  · skip
    by_cases h4004 : (((((places l).length : Nat) : Int) : Int) = ((v.length : Nat) : Int))
    · skip
      exact FnC.run (m := false) follows_mixed has269 [(1001, aC (places_ok l)), (2001, aNT h2001), (4004, aNT h4004), (900000, .stmt (.loop (nthLoop Try.f269 0)) [1, 2, 3] (zipU_I l v 0 []) (.exit 1) ⟨[(8, .slice (some ⟨3, 0, none⟩) (((places l).zip v).length) (((places l).zip v).length + 1))], [(3, ⟨((places l).zip v).flatMap encU, 2, [], 2⟩)], 4⟩ (.cons (fun _ => encW_sc _) (.cons (fun _ => encI_sc _) (.cons (fun _ => encU_sc _) .nil))) (fun ds => (zipU_loop l v h_n h_b 0 [] ⟨by omega, by simp⟩).pick (fun e s h => h)) (le_ble rfl))] (by kernel_rfl) (by kernel_rfl) (.cons (encS_sc _) (.cons (encW_sc _) .nil)) (.cons (encU_sc _) .nil)
    · skip
      exact absurd (by omega) h4004
  · skip
    exact absurd h_c h2001
theorem side_ok (l : List Sp) (d : List Int) (h_d : L64 d) (h_n : d.length ≤ 4294967296) : FnC Try.prog 210 [.slice (some ⟨0, 0, none⟩) l.length (l.length + 1), .slice (some ⟨1, 0, none⟩) d.length (d.length + 1)] [(0, ⟨(l).flatMap encS, 1, [], 2⟩), (1, ⟨(d).flatMap encI, 1, [], 1⟩)] 2 (.tuple #[.slice (some ⟨2, 0, none⟩) ((sideR l d).length) ((sideR l d).length + 1), .int .i64 (sideE l d)]) 1 [(2, ⟨(sideR l d).flatMap encS, 2, [], 2⟩)] := by
  by_cases h2001 : ((checkS l : Int) = 0)
  · skip
    have hz1 := h2001
    by_cases h4004 : ((countS l : Int) = ((d.length : Nat) : Int))
    · skip
      by_cases h7001 : ((absE d : Int) = 0)
      · skip
        cases h9001 : ((absL d).any (fun n : Int => decide (n < 0))) with
        | true =>
          have he : sideE l d = 22 := by unfold sideE; rw [if_neg (by simp [h2001]), if_neg (by simp [h4004]), if_neg (by simp [h7001]), if_pos h9001]
          have hr : sideR l d = [] := by unfold sideR; rw [if_neg (by rw [he]; decide)]
          rw [hr, he]
          exact FnC.run (m := false) follows_mixed has210 [(1001, aC (check_ok l)), (2001, aNT h2001), (4001, aC (count_ok l)), (4004, aNT h4004), (6001, aC (absolute_ok (d) h_d h_n)), (7001, aNT h7001), (9001, aCb (idxnegc_ok (absL d) (by have := absL_le d; omega)) h9001)] (by kernel_rfl) (by kernel_rfl) (.cons (encS_sc _) (.cons (encI_sc _) .nil)) (.cons (encS_sc _) .nil)
        | false =>
          have he : sideE l d = 0 := sideE_zero.2 ⟨h2001, h4004, h7001, h9001⟩
          have hr : sideR l d = (places l).zip (absL d) := by unfold sideR; rw [if_pos he]
          rw [hr, he]
          exact FnC.run (m := false) follows_mixed has210 [(1001, aC (check_ok l)), (2001, aNT h2001), (4001, aC (count_ok l)), (4004, aNT h4004), (6001, aC (absolute_ok (d) h_d h_n)), (7001, aNT h7001), (9001, aCb (idxnegc_ok (absL d) (by have := absL_le d; omega)) h9001), (11002, aC (zipI_ok (l) (absL d) hz1 (by have := places_length l; have := absE_len h7001; omega)))] (by kernel_rfl) (by kernel_rfl) (.cons (encS_sc _) (.cons (encI_sc _) .nil)) (.cons (encS_sc _) .nil)
      · skip
        have he : sideE l d = absE d := by simp [sideE, h2001, h4004, h7001]
        have hr : sideR l d = [] := by unfold sideR; rw [if_neg (by rw [he]; exact h7001)]
        rw [hr, he]
        exact FnC.run (m := false) follows_mixed has210 [(1001, aC (check_ok l)), (2001, aNT h2001), (4001, aC (count_ok l)), (4004, aNT h4004), (6001, aC (absolute_ok (d) h_d h_n)), (7001, aNF h7001)] (by kernel_rfl) (by kernel_rfl) (.cons (encS_sc _) (.cons (encI_sc _) .nil)) (.cons (encS_sc _) .nil)
    · skip
      have he : sideE l d = 23 := by simp [sideE, h2001, h4004]
      have hr : sideR l d = [] := by unfold sideR; rw [if_neg (by rw [he]; decide)]
      rw [hr, he]
      exact FnC.run (m := false) follows_mixed has210 [(1001, aC (check_ok l)), (2001, aNT h2001), (4001, aC (count_ok l)), (4004, aNF h4004)] (by kernel_rfl) (by kernel_rfl) (.cons (encS_sc _) (.cons (encI_sc _) .nil)) (.cons (encS_sc _) .nil)
  · skip
    have he : sideE l d = checkS l := by simp [sideE, h2001]
    have hr : sideR l d = [] := by unfold sideR; rw [if_neg (by rw [he]; exact h2001)]
    rw [hr, he]
    exact FnC.run (m := false) follows_mixed has210 [(1001, aC (check_ok l)), (2001, aNF h2001)] (by kernel_rfl) (by kernel_rfl) (.cons (encS_sc _) (.cons (encI_sc _) .nil)) (.cons (encS_sc _) .nil)
end Go.Am
