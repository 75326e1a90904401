/-
Package span: what its functions answer, of whatever list of spans.
-/
import Derived.Test.YtbihgmehjhlojaaAmI
import Derived.Test.YtbihgmehjhlojaaAm16
set_option linter.unusedVariables false
set_option linter.unusedSimpArgs false
set_option maxRecDepth 100000
namespace Go.Am
open Go Go.RowKit Go.Proofs

abbrev Sp := Int × Int
def encS (s : Sp) : List Value := [.int .i64 s.1, .int .i64 s.2]
theorem encS_k (s : Sp) : (encS s).length = 2 := rfl
theorem encS_sc (l : List Sp) : ∀ v ∈ l.flatMap encS, scalar v = true := by
  intro v hv
  obtain ⟨s, _, hs⟩ := List.mem_flatMap.1 hv
  simp [encS] at hs
  rcases hs with rfl | rfl <;> rfl
def encI (n : Int) : List Value := [.int .i64 n]
theorem encI_k (n : Int) : (encI n).length = 1 := rfl
theorem encI_sc (l : List Int) : ∀ v ∈ l.flatMap encI, scalar v = true := by
  intro v hv
  obtain ⟨s, _, hs⟩ := List.mem_flatMap.1 hv
  simp [encI] at hs
  subst hs; rfl
def inPlace (n : Int) : Bool := decide (n ≥ -1048576) && decide (n ≤ 1048576)
theorem inPlace_iff {n : Int} : inPlace n = true ↔ -1048576 ≤ n ∧ n ≤ 1048576 := by simp [inPlace]
theorem inPlace_not {n : Int} : inPlace n = false ↔ n < -1048576 ∨ 1048576 < n := by
  rw [← Bool.not_eq_true, inPlace_iff]; omega

theorem has273 : Has Try.prog 273 Try.f273 (bodyOf Try.f273) := ⟨Try.func273, by kernel_rfl, by kernel_rfl⟩
theorem has245 : Has Try.prog 245 Try.f245 (bodyOf Try.f245) := ⟨Try.func245, by kernel_rfl, by kernel_rfl⟩
theorem has192 : Has Try.prog 192 Try.f192 (bodyOf Try.f192) := ⟨Try.func192, by kernel_rfl, by kernel_rfl⟩
theorem has115 : Has Try.prog 115 Try.f115 (bodyOf Try.f115) := ⟨Try.func115, by kernel_rfl, by kernel_rfl⟩
theorem has246 : Has Try.prog 246 Try.f246 (bodyOf Try.f246) := ⟨Try.func246, by kernel_rfl, by kernel_rfl⟩
theorem in_ok (n : Int) : FnC Try.prog 273 [.int .i64 n] [] 0 (.bool (inPlace n)) 0 [] := by
  by_cases h1001 : (n ≥ -1048576)
  · skip
    exact FnC.eq (v := .bool (decide (n ≤ 1048576))) (FnC.run (m := false) follows_mixed has273 [(1001, aT h1001)] (by kernel_rfl) (by kernel_rfl) .nil .nil) (by simp [inPlace]; omega)
  · skip
    exact FnC.eq (v := .bool false) (FnC.run (m := false) follows_mixed has273 [(1001, aF h1001)] (by kernel_rfl) (by kernel_rfl) .nil .nil) (by simp [inPlace]; omega)

/-! ### right -/
def bad1 (first : Bool) (o l : Int) : Bool := decide (o > 2097152) || decide (l < 0) || decide (l > 4096) || (decide (o < 0) && (!first || !inPlace o))
def bad2 (a1 n1 l : Int) : Bool := !inPlace a1 || !inPlace (a1 + max (l - 1) 0) || decide (n1 > 4096)
def rightGo : List Sp → Bool → Int → Int → Bool
  | [], _, _, _ => true
  | s :: r, first, a, n => if bad1 first s.1 s.2 then false else if bad2 (a + s.1) (n + s.2) s.2 then false else rightGo r false (a + s.1 + s.2) (n + s.2)
theorem rightGo_cons (s : Sp) (r : List Sp) (f : Bool) (a n : Int) : rightGo (s :: r) f a n = if bad1 f s.1 s.2 then false else if bad2 (a + s.1) (n + s.2) s.2 then false else rightGo r false (a + s.1 + s.2) (n + s.2) := rfl
def right (l : List Sp) : Bool := rightGo l true 0 0

abbrev right_I (l : List Sp) (i : Nat) (a : Int) (n : Int) : AS := ⟨[(3, .int .i64 a), (4, .int .i64 n), (7, .slice (some ⟨0, 0, none⟩) l.length (l.length + 1)), (8, .int .i64 ((l.length : Nat) : Int)), (9, .int .i64 ((i : Nat) : Int))], [(0, ⟨(l).flatMap encS, 1, [], 2⟩)], 1⟩
abbrev right_inv (l : List Sp) (i : Nat) (a : Int) (n : Int) : Prop := i ≤ l.length ∧ right l = rightGo (l.drop i) (i == 0) a n ∧ -1048576 ≤ a ∧ a ≤ 1052672 ∧ 0 ≤ n ∧ n ≤ 4096
def right_K (l : List Sp) : Exit → AS → Prop := fun e s => (right l = true ∧ e = .exit 0 ∧ s = ⟨[], [], 1⟩) ∨ (right l = false ∧ e = .ret ∧ s = ⟨[(2, .bool false)], [], 1⟩)
abbrev right_Iu (l : List Sp) : Nat × Int × Int → AS := fun x => right_I l x.1 x.2.1 x.2.2
abbrev right_vu (l : List Sp) : Nat × Int × Int → Prop := fun x => right_inv l x.1 x.2.1 x.2.2
abbrev right_m (l : List Sp) : Nat × Int × Int → Nat := fun x => (fun (i : Nat) (a : Int) (n : Int) => l.length - i) x.1 x.2.1 x.2.2
theorem right_round (l : List Sp) (h_l : l.length ≤ 1024) (i : Nat) (a : Int) (n : Int) (hinv : right_inv l i a n) {ds : List Deferred} : Tr Try.prog none ⟨72, ds⟩ 1 (nthLoop Try.f245 0) (right_I l i a n) (RK (right_vu l) (right_Iu l) (right_m l) (right_K l) (i, a, n)) := by
  obtain ⟨hi0, hg, ha1, ha2, hn1, hn2⟩ := hinv
  by_cases h3000 : (((i : Nat) : Int) < ((l.length : Nat) : Int))
  · skip
    obtain ⟨s1, hs1⟩ : ∃ s, l[i]? = some s := ⟨_, List.getElem?_eq_getElem (by omega)⟩
    rw [drop_idx hs1] at hg
    by_cases h5002 : (s1.1 > 2097152)
    · skip
      have hr : right l = false := by
        rw [hg, rightGo_cons]
        simp [bad1, bad2, inPlace] at *
        omega
      exact Tr.out (I := (right_Iu l)) (m := (right_m l)) (Tr.run follows_mixed (A := [(3000, aT h3000), (4001, aX i l.length 2 (by omega)), (4002, aL encS_k hs1), (5002, aT h5002)]) (rows := []) (by kernel_rfl) .nil (le_ble rfl)) (.inr ⟨hr, rfl, rfl⟩) (by simp)
    · skip
      by_cases h5006 : (s1.2 < 0)
      · skip
        have hr : right l = false := by
          rw [hg, rightGo_cons]
          simp [bad1, bad2, inPlace] at *
          omega
        exact Tr.out (I := (right_Iu l)) (m := (right_m l)) (Tr.run follows_mixed (A := [(3000, aT h3000), (4001, aX i l.length 2 (by omega)), (4002, aL encS_k hs1), (5002, aF h5002), (5006, aT h5006)]) (rows := []) (by kernel_rfl) .nil (le_ble rfl)) (.inr ⟨hr, rfl, rfl⟩) (by simp)
      · skip
        by_cases h5011 : (s1.2 > 4096)
        · skip
          have hr : right l = false := by
            rw [hg, rightGo_cons]
            simp [bad1, bad2, inPlace] at *
            omega
          exact Tr.out (I := (right_Iu l)) (m := (right_m l)) (Tr.run follows_mixed (A := [(3000, aT h3000), (4001, aX i l.length 2 (by omega)), (4002, aL encS_k hs1), (5002, aF h5002), (5006, aF h5006), (5011, aT h5011)]) (rows := []) (by kernel_rfl) .nil (le_ble rfl)) (.inr ⟨hr, rfl, rfl⟩) (by simp)
        · skip
          by_cases h5016 : (s1.1 < 0)
          · skip
            by_cases h5019 : (((i : Nat) : Int) > 0)
            · skip
              have hr : right l = false := by
                rw [hg, rightGo_cons]
                simp [bad1, bad2, inPlace] at *
                omega
              exact Tr.out (I := (right_Iu l)) (m := (right_m l)) (Tr.run follows_mixed (A := [(3000, aT h3000), (4001, aX i l.length 2 (by omega)), (4002, aL encS_k hs1), (5002, aF h5002), (5006, aF h5006), (5011, aF h5011), (5016, aT h5016), (5019, aT h5019)]) (rows := []) (by kernel_rfl) .nil (le_ble rfl)) (.inr ⟨hr, rfl, rfl⟩) (by simp)
            · skip
              cases h5023 : (inPlace (s1.1)) with
              | true =>
                have g5023 := inPlace_iff.1 h5023
                cases h9001 : (inPlace (a + s1.1)) with
                | true =>
                  have g9001 := inPlace_iff.1 h9001
                  cases h9010 : (inPlace (a + s1.1 + (max (s1.2 - 1) (0)))) with
                  | true =>
                    have g9010 := inPlace_iff.1 h9010
                    by_cases h9015 : (n + s1.2 > 4096)
                    · skip
                      have hr : right l = false := by
                        rw [hg, rightGo_cons]
                        simp [bad1, bad2, inPlace] at *
                        omega
                      exact Tr.out (I := (right_Iu l)) (m := (right_m l)) (Tr.run follows_mixed (A := [(3000, aT h3000), (4001, aX i l.length 2 (by omega)), (4002, aL encS_k hs1), (5002, aF h5002), (5006, aF h5006), (5011, aF h5011), (5016, aT h5016), (5019, aF h5019), (5023, aCb (in_ok (s1.1)) h5023), (7003, aI .i64 .i64 (a + s1.1) (a + s1.1) (wrap_i64 (by omega) (by omega))), (8003, aI .i64 .i64 (n + s1.2) (n + s1.2) (wrap_i64 (by omega) (by omega))), (9001, aCb (in_ok (a + s1.1)) h9001), (9007, aI .i64 .i64 (s1.2 - 1) (s1.2 - 1) (wrap_i64 (by omega) (by omega))), (9008, aE (x := .int .i64 (if s1.2 - 1 < 0 then 0 else s1.2 - 1)) (y := .int .i64 (max (s1.2 - 1) (0))) (by congr 1; omega)), (9009, aI .i64 .i64 (a + s1.1 + (max (s1.2 - 1) (0))) (a + s1.1 + (max (s1.2 - 1) (0))) (wrap_i64 (by omega) (by omega))), (9010, aCb (in_ok (a + s1.1 + (max (s1.2 - 1) (0)))) h9010), (9015, aT h9015)]) (rows := []) (by kernel_rfl) .nil (le_ble rfl)) (.inr ⟨hr, rfl, rfl⟩) (by simp)
                    · skip
                      have e1 : bad1 (i == 0) s1.1 s1.2 = false := by simp [bad1, inPlace]; omega
                      have e2 : bad2 (a + s1.1) (n + s1.2) s1.2 = false := by simp [bad2, inPlace]; omega
                      exact Tr.again (Inv := (right_vu l)) (I := (right_Iu l)) (m := (right_m l)) (i + 1, a + s1.1 + s1.2, n + s1.2) (Tr.run follows_mixed (A := [(3000, aT h3000), (4001, aX i l.length 2 (by omega)), (4002, aL encS_k hs1), (5002, aF h5002), (5006, aF h5006), (5011, aF h5011), (5016, aT h5016), (5019, aF h5019), (5023, aCb (in_ok (s1.1)) h5023), (7003, aI .i64 .i64 (a + s1.1) (a + s1.1) (wrap_i64 (by omega) (by omega))), (8003, aI .i64 .i64 (n + s1.2) (n + s1.2) (wrap_i64 (by omega) (by omega))), (9001, aCb (in_ok (a + s1.1)) h9001), (9007, aI .i64 .i64 (s1.2 - 1) (s1.2 - 1) (wrap_i64 (by omega) (by omega))), (9008, aE (x := .int .i64 (if s1.2 - 1 < 0 then 0 else s1.2 - 1)) (y := .int .i64 (max (s1.2 - 1) (0))) (by congr 1; omega)), (9009, aI .i64 .i64 (a + s1.1 + (max (s1.2 - 1) (0))) (a + s1.1 + (max (s1.2 - 1) (0))) (wrap_i64 (by omega) (by omega))), (9010, aCb (in_ok (a + s1.1 + (max (s1.2 - 1) (0)))) h9010), (9015, aF h9015), (11003, aI .i64 .i64 (a + s1.1 + s1.2) (a + s1.1 + s1.2) (wrap_i64 (by omega) (by omega))), (12000, aI .i64 .i64 (((i : Nat) : Int) + 1) (((i + 1 : Nat) : Int)) (wrap_i64' (by omega) (by omega) (by omega)))]) (rows := [0]) (by kernel_rfl) (.cons (fun _ => encS_sc _) .nil) (le_ble rfl)) (show right_inv l (i + 1) (a + s1.1 + s1.2) (n + s1.2) from ⟨by omega, by rw [hg, rightGo_cons]; simp [e1, e2], by omega, by omega, by omega, by omega⟩) (by show l.length - (i + 1) < l.length - i; omega)
                  | false =>
                    have g9010 := inPlace_not.1 h9010
                    have hr : right l = false := by
                      rw [hg, rightGo_cons]
                      simp [bad1, bad2, inPlace] at *
                      omega
                    exact Tr.out (I := (right_Iu l)) (m := (right_m l)) (Tr.run follows_mixed (A := [(3000, aT h3000), (4001, aX i l.length 2 (by omega)), (4002, aL encS_k hs1), (5002, aF h5002), (5006, aF h5006), (5011, aF h5011), (5016, aT h5016), (5019, aF h5019), (5023, aCb (in_ok (s1.1)) h5023), (7003, aI .i64 .i64 (a + s1.1) (a + s1.1) (wrap_i64 (by omega) (by omega))), (8003, aI .i64 .i64 (n + s1.2) (n + s1.2) (wrap_i64 (by omega) (by omega))), (9001, aCb (in_ok (a + s1.1)) h9001), (9007, aI .i64 .i64 (s1.2 - 1) (s1.2 - 1) (wrap_i64 (by omega) (by omega))), (9008, aE (x := .int .i64 (if s1.2 - 1 < 0 then 0 else s1.2 - 1)) (y := .int .i64 (max (s1.2 - 1) (0))) (by congr 1; omega)), (9009, aI .i64 .i64 (a + s1.1 + (max (s1.2 - 1) (0))) (a + s1.1 + (max (s1.2 - 1) (0))) (wrap_i64 (by omega) (by omega))), (9010, aCb (in_ok (a + s1.1 + (max (s1.2 - 1) (0)))) h9010)]) (rows := []) (by kernel_rfl) .nil (le_ble rfl)) (.inr ⟨hr, rfl, rfl⟩) (by simp)
                | false =>
                  have g9001 := inPlace_not.1 h9001
                  have hr : right l = false := by
                    rw [hg, rightGo_cons]
                    simp [bad1, bad2, inPlace] at *
                    omega
                  exact Tr.out (I := (right_Iu l)) (m := (right_m l)) (Tr.run follows_mixed (A := [(3000, aT h3000), (4001, aX i l.length 2 (by omega)), (4002, aL encS_k hs1), (5002, aF h5002), (5006, aF h5006), (5011, aF h5011), (5016, aT h5016), (5019, aF h5019), (5023, aCb (in_ok (s1.1)) h5023), (7003, aI .i64 .i64 (a + s1.1) (a + s1.1) (wrap_i64 (by omega) (by omega))), (8003, aI .i64 .i64 (n + s1.2) (n + s1.2) (wrap_i64 (by omega) (by omega))), (9001, aCb (in_ok (a + s1.1)) h9001)]) (rows := []) (by kernel_rfl) .nil (le_ble rfl)) (.inr ⟨hr, rfl, rfl⟩) (by simp)
              | false =>
                have g5023 := inPlace_not.1 h5023
                have hr : right l = false := by
                  rw [hg, rightGo_cons]
                  simp [bad1, bad2, inPlace] at *
                  omega
                exact Tr.out (I := (right_Iu l)) (m := (right_m l)) (Tr.run follows_mixed (A := [(3000, aT h3000), (4001, aX i l.length 2 (by omega)), (4002, aL encS_k hs1), (5002, aF h5002), (5006, aF h5006), (5011, aF h5011), (5016, aT h5016), (5019, aF h5019), (5023, aCb (in_ok (s1.1)) h5023)]) (rows := []) (by kernel_rfl) .nil (le_ble rfl)) (.inr ⟨hr, rfl, rfl⟩) (by simp)
          · skip
            cases h9001 : (inPlace (a + s1.1)) with
            | true =>
              have g9001 := inPlace_iff.1 h9001
              cases h9010 : (inPlace (a + s1.1 + (max (s1.2 - 1) (0)))) with
              | true =>
                have g9010 := inPlace_iff.1 h9010
                by_cases h9015 : (n + s1.2 > 4096)
                · skip
                  have hr : right l = false := by
                    rw [hg, rightGo_cons]
                    simp [bad1, bad2, inPlace] at *
                    omega
                  exact Tr.out (I := (right_Iu l)) (m := (right_m l)) (Tr.run follows_mixed (A := [(3000, aT h3000), (4001, aX i l.length 2 (by omega)), (4002, aL encS_k hs1), (5002, aF h5002), (5006, aF h5006), (5011, aF h5011), (5016, aF h5016), (7003, aI .i64 .i64 (a + s1.1) (a + s1.1) (wrap_i64 (by omega) (by omega))), (8003, aI .i64 .i64 (n + s1.2) (n + s1.2) (wrap_i64 (by omega) (by omega))), (9001, aCb (in_ok (a + s1.1)) h9001), (9007, aI .i64 .i64 (s1.2 - 1) (s1.2 - 1) (wrap_i64 (by omega) (by omega))), (9008, aE (x := .int .i64 (if s1.2 - 1 < 0 then 0 else s1.2 - 1)) (y := .int .i64 (max (s1.2 - 1) (0))) (by congr 1; omega)), (9009, aI .i64 .i64 (a + s1.1 + (max (s1.2 - 1) (0))) (a + s1.1 + (max (s1.2 - 1) (0))) (wrap_i64 (by omega) (by omega))), (9010, aCb (in_ok (a + s1.1 + (max (s1.2 - 1) (0)))) h9010), (9015, aT h9015)]) (rows := []) (by kernel_rfl) .nil (le_ble rfl)) (.inr ⟨hr, rfl, rfl⟩) (by simp)
                · skip
                  have e1 : bad1 (i == 0) s1.1 s1.2 = false := by simp [bad1, inPlace]; omega
                  have e2 : bad2 (a + s1.1) (n + s1.2) s1.2 = false := by simp [bad2, inPlace]; omega
                  exact Tr.again (Inv := (right_vu l)) (I := (right_Iu l)) (m := (right_m l)) (i + 1, a + s1.1 + s1.2, n + s1.2) (Tr.run follows_mixed (A := [(3000, aT h3000), (4001, aX i l.length 2 (by omega)), (4002, aL encS_k hs1), (5002, aF h5002), (5006, aF h5006), (5011, aF h5011), (5016, aF h5016), (7003, aI .i64 .i64 (a + s1.1) (a + s1.1) (wrap_i64 (by omega) (by omega))), (8003, aI .i64 .i64 (n + s1.2) (n + s1.2) (wrap_i64 (by omega) (by omega))), (9001, aCb (in_ok (a + s1.1)) h9001), (9007, aI .i64 .i64 (s1.2 - 1) (s1.2 - 1) (wrap_i64 (by omega) (by omega))), (9008, aE (x := .int .i64 (if s1.2 - 1 < 0 then 0 else s1.2 - 1)) (y := .int .i64 (max (s1.2 - 1) (0))) (by congr 1; omega)), (9009, aI .i64 .i64 (a + s1.1 + (max (s1.2 - 1) (0))) (a + s1.1 + (max (s1.2 - 1) (0))) (wrap_i64 (by omega) (by omega))), (9010, aCb (in_ok (a + s1.1 + (max (s1.2 - 1) (0)))) h9010), (9015, aF h9015), (11003, aI .i64 .i64 (a + s1.1 + s1.2) (a + s1.1 + s1.2) (wrap_i64 (by omega) (by omega))), (12000, aI .i64 .i64 (((i : Nat) : Int) + 1) (((i + 1 : Nat) : Int)) (wrap_i64' (by omega) (by omega) (by omega)))]) (rows := [0]) (by kernel_rfl) (.cons (fun _ => encS_sc _) .nil) (le_ble rfl)) (show right_inv l (i + 1) (a + s1.1 + s1.2) (n + s1.2) from ⟨by omega, by rw [hg, rightGo_cons]; simp [e1, e2], by omega, by omega, by omega, by omega⟩) (by show l.length - (i + 1) < l.length - i; omega)
              | false =>
                have g9010 := inPlace_not.1 h9010
                have hr : right l = false := by
                  rw [hg, rightGo_cons]
                  simp [bad1, bad2, inPlace] at *
                  omega
                exact Tr.out (I := (right_Iu l)) (m := (right_m l)) (Tr.run follows_mixed (A := [(3000, aT h3000), (4001, aX i l.length 2 (by omega)), (4002, aL encS_k hs1), (5002, aF h5002), (5006, aF h5006), (5011, aF h5011), (5016, aF h5016), (7003, aI .i64 .i64 (a + s1.1) (a + s1.1) (wrap_i64 (by omega) (by omega))), (8003, aI .i64 .i64 (n + s1.2) (n + s1.2) (wrap_i64 (by omega) (by omega))), (9001, aCb (in_ok (a + s1.1)) h9001), (9007, aI .i64 .i64 (s1.2 - 1) (s1.2 - 1) (wrap_i64 (by omega) (by omega))), (9008, aE (x := .int .i64 (if s1.2 - 1 < 0 then 0 else s1.2 - 1)) (y := .int .i64 (max (s1.2 - 1) (0))) (by congr 1; omega)), (9009, aI .i64 .i64 (a + s1.1 + (max (s1.2 - 1) (0))) (a + s1.1 + (max (s1.2 - 1) (0))) (wrap_i64 (by omega) (by omega))), (9010, aCb (in_ok (a + s1.1 + (max (s1.2 - 1) (0)))) h9010)]) (rows := []) (by kernel_rfl) .nil (le_ble rfl)) (.inr ⟨hr, rfl, rfl⟩) (by simp)
            | false =>
              have g9001 := inPlace_not.1 h9001
              have hr : right l = false := by
                rw [hg, rightGo_cons]
                simp [bad1, bad2, inPlace] at *
                omega
              exact Tr.out (I := (right_Iu l)) (m := (right_m l)) (Tr.run follows_mixed (A := [(3000, aT h3000), (4001, aX i l.length 2 (by omega)), (4002, aL encS_k hs1), (5002, aF h5002), (5006, aF h5006), (5011, aF h5011), (5016, aF h5016), (7003, aI .i64 .i64 (a + s1.1) (a + s1.1) (wrap_i64 (by omega) (by omega))), (8003, aI .i64 .i64 (n + s1.2) (n + s1.2) (wrap_i64 (by omega) (by omega))), (9001, aCb (in_ok (a + s1.1)) h9001)]) (rows := []) (by kernel_rfl) .nil (le_ble rfl)) (.inr ⟨hr, rfl, rfl⟩) (by simp)
  · skip
    have he : l.drop i = [] := List.drop_eq_nil_of_le (by omega)
    rw [he] at hg
    exact Tr.out (I := (right_Iu l)) (m := (right_m l)) (Tr.run follows_mixed (A := [(3000, aF h3000)]) (rows := []) (by kernel_rfl) .nil (le_ble rfl)) (.inl ⟨(by rw [hg]; rfl), rfl, rfl⟩) (by simp)

theorem right_loop (l : List Sp) (h_l : l.length ≤ 1024) (i : Nat) (a : Int) (n : Int) (hinv : right_inv l i a n) {ds : List Deferred} : Tr Try.prog none ⟨72, ds⟩ 1 (.loop (nthLoop Try.f245 0)) (right_I l i a n) (right_K l) :=
  Tr.rounds (Inv := (right_vu l)) (I := (right_Iu l)) (m := (right_m l)) (fun x h => right_round l h_l x.1 x.2.1 x.2.2 h) (i, a, n) hinv
theorem right_ok (l : List Sp) (h_l : l.length ≤ 1024) : FnC Try.prog 245 [.slice (some ⟨0, 0, none⟩) l.length (l.length + 1)] [(0, ⟨(l).flatMap encS, 1, [], 2⟩)] 1 (.bool (right l)) 0 [] := by
  cases hR : (right l) with
  | true =>
    exact FnC.run (m := false) follows_mixed has245 [(900000, .stmt (.loop (nthLoop Try.f245 0)) [0] (right_I l 0 0 0) (.exit 0) ⟨[], [], 1⟩ (.cons (fun _ => encS_sc _) .nil) (fun ds => (right_loop l h_l 0 0 0 ⟨by omega, by simp [right], by omega, by omega, by omega, by omega⟩).pick (fun e s h => by rcases h with ⟨_, h⟩ | ⟨h0, _⟩; exact h; rw [hR] at h0; cases h0)) (le_ble rfl))] (by kernel_rfl) (by kernel_rfl) (.cons (encS_sc _) .nil) .nil
  | false =>
    exact FnC.run (m := false) follows_mixed has245 [(900000, .stmt (.loop (nthLoop Try.f245 0)) [0] (right_I l 0 0 0) (.ret) ⟨[(2, .bool false)], [], 1⟩ (.cons (fun _ => encS_sc _) .nil) (fun ds => (right_loop l h_l 0 0 0 ⟨by omega, by simp [right], by omega, by omega, by omega, by omega⟩).pick (fun e s h => by rcases h with ⟨h0, _⟩ | ⟨_, h⟩; rw [hR] at h0; cases h0; exact h)) (le_ble rfl))] (by kernel_rfl) (by kernel_rfl) (.cons (encS_sc _) .nil) .nil

/-! ### Check, Count -/
def checkS (l : List Sp) : Int := if l.length > 1024 then 12 else if right l then 0 else 20

theorem check_ok (l : List Sp) : FnC Try.prog 192 [.slice (some ⟨0, 0, none⟩) l.length (l.length + 1)] [(0, ⟨(l).flatMap encS, 1, [], 2⟩)] 1 (.int .i64 (checkS l)) 0 [] := by
  by_cases h1002 : (((l.length : Nat) : Int) > 1024)
  · skip
    exact FnC.eq (v := .int .i64 12) (FnC.run (m := false) follows_mixed has192 [(1002, aT h1002)] (by kernel_rfl) (by kernel_rfl) (.cons (encS_sc _) .nil) .nil) (by simp_all [checkS] <;> omega)
  · skip
    cases h3001 : (right l) with
    | true =>
      exact FnC.eq (v := .int .i64 0) (FnC.run (m := false) follows_mixed has192 [(1002, aF h1002), (3001, aCb (right_ok (l) (by omega)) h3001)] (by kernel_rfl) (by kernel_rfl) (.cons (encS_sc _) .nil) .nil) (by simp_all [checkS] <;> omega)
    | false =>
      exact FnC.eq (v := .int .i64 20) (FnC.run (m := false) follows_mixed has192 [(1002, aF h1002), (3001, aCb (right_ok (l) (by omega)) h3001)] (by kernel_rfl) (by kernel_rfl) (.cons (encS_sc _) .nil) .nil) (by simp_all [checkS] <;> omega)

def lens (l : List Sp) : Int := (l.map (·.2)).sum
def countS (l : List Sp) : Int := if checkS l = 0 then lens l else 0
theorem checkS_zero {l : List Sp} : checkS l = 0 ↔ l.length ≤ 1024 ∧ right l = true := by
  unfold checkS
  split
  · constructor
    · intro h; cases h
    · intro h; omega
  · split
    · rename_i h1 h2; exact ⟨fun _ => ⟨by omega, h2⟩, fun _ => rfl⟩
    · rename_i h1 h2; exact ⟨fun h => (by cases h), fun h => absurd h.2 h2⟩
theorem rightGo_lens : ∀ {l : List Sp} {f : Bool} {a n : Int}, rightGo l f a n = true → ∀ i, 0 ≤ lens (l.take i) ∧ (0 < i → l ≠ [] → n + lens (l.take i) ≤ 4096) ∧ ∀ s ∈ l, 0 ≤ s.2 ∧ s.2 ≤ 4096
  | [], f, a, n, h, i => by simp [lens]
  | s :: r, f, a, n, h, i => by
    rw [rightGo_cons] at h
    split at h
    · cases h
    · rename_i h1
      split at h
      · cases h
      · rename_i h2
        simp [bad1, bad2] at h1 h2
        have ih := rightGo_lens h
        have ih0 := ih (i - 1)
        refine ⟨?_, fun hi _ => ?_, fun x hx => ?_⟩
        · cases i with
          | zero => simp [lens]
          | succ i => simp [lens] at ih0 ⊢; omega
        · cases i with
          | zero => omega
          | succ i =>
            simp [lens] at ih0 ⊢
            by_cases hr : r = []
            · subst hr; simp; omega
            · by_cases hi0 : i = 0
              · subst hi0; simp; omega
              · have := ih0.2.1 (by omega) hr; omega
        · rcases List.mem_cons.1 hx with rfl | hx
          · omega
          · exact (ih 0).2.2 x hx
theorem lens_bound {l : List Sp} (h : right l = true) (i : Nat) : 0 ≤ lens (l.take i) ∧ lens (l.take i) ≤ 4096 := by
  obtain ⟨h1, h2, _⟩ := rightGo_lens h i
  refine ⟨h1, ?_⟩
  by_cases hi : 0 < i
  · by_cases hl : l = []
    · subst hl; simp [lens]
    · have := h2 hi hl; omega
  · have : i = 0 := by omega
    subst this; simp [lens]
theorem lens_next {l : List Sp} {i : Nat} {s : Sp} (h : l[i]? = some s) : lens (l.take (i + 1)) = lens (l.take i) + s.2 := by
  unfold lens
  rw [List.take_add_one, h]
  simp

abbrev count_I (l : List Sp) (i : Nat) (n : Int) : AS := ⟨[(3, .int .i64 n), (9, .slice (some ⟨0, 0, none⟩) l.length (l.length + 1)), (10, .int .i64 ((l.length : Nat) : Int)), (11, .int .i64 ((i : Nat) : Int))], [(0, ⟨(l).flatMap encS, 1, [], 2⟩)], 1⟩
abbrev count_inv (l : List Sp) (i : Nat) (n : Int) : Prop := i ≤ l.length ∧ n = lens (l.take i)
def count_K (l : List Sp) : Exit → AS → Prop := fun e s => (e = .exit 0 ∧ s = ⟨[(3, .int .i64 (lens l))], [], 1⟩)
abbrev count_Iu (l : List Sp) : Nat × Int → AS := fun x => count_I l x.1 x.2
abbrev count_vu (l : List Sp) : Nat × Int → Prop := fun x => count_inv l x.1 x.2
abbrev count_m (l : List Sp) : Nat × Int → Nat := fun x => (fun (i : Nat) (n : Int) => l.length - i) x.1 x.2
theorem count_round (l : List Sp) (h_l : l.length ≤ 1024) (h_R : right l = true) (i : Nat) (n : Int) (hinv : count_inv l i n) {ds : List Deferred} : Tr Try.prog none ⟨21, ds⟩ 1 (nthLoop Try.f246 0) (count_I l i n) (RK (count_vu l) (count_Iu l) (count_m l) (count_K l) (i, n)) := by
  obtain ⟨hi0, hn⟩ := hinv
  have hb := lens_bound h_R i
  by_cases h5000 : (((i : Nat) : Int) < ((l.length : Nat) : Int))
  · skip
    obtain ⟨s1, hs1⟩ : ∃ s, l[i]? = some s := ⟨_, List.getElem?_eq_getElem (by omega)⟩
    have he := lens_next hs1
    have hb2 := lens_bound h_R (i + 1)
    exact Tr.again (Inv := (count_vu l)) (I := (count_Iu l)) (m := (count_m l)) (i + 1, n + s1.2) (Tr.run follows_mixed (A := [(5000, aT h5000), (6000, aX i l.length 2 (by omega)), (6001, aL encS_k hs1), (7003, aI .i64 .i64 (n + s1.2) (n + s1.2) (wrap_i64 (by omega) (by omega))), (8000, aI .i64 .i64 (((i : Nat) : Int) + 1) (((i + 1 : Nat) : Int)) (wrap_i64' (by omega) (by omega) (by omega)))]) (rows := [0]) (by kernel_rfl) (.cons (fun _ => encS_sc _) .nil) (le_ble rfl)) (show count_inv l (i + 1) (n + s1.2) from ⟨by omega, by omega⟩) (by show l.length - (i + 1) < l.length - i; omega)
  · skip
    have he : l.take i = l := List.take_of_length_le (by omega)
    rw [he] at hn
    subst hn
    exact Tr.out (I := (count_Iu l)) (m := (count_m l)) (Tr.run follows_mixed (A := [(5000, aF h5000)]) (rows := []) (by kernel_rfl) .nil (le_ble rfl)) ⟨rfl, rfl⟩ (by simp)

theorem count_loop (l : List Sp) (h_l : l.length ≤ 1024) (h_R : right l = true) (i : Nat) (n : Int) (hinv : count_inv l i n) {ds : List Deferred} : Tr Try.prog none ⟨21, ds⟩ 1 (.loop (nthLoop Try.f246 0)) (count_I l i n) (count_K l) :=
  Tr.rounds (Inv := (count_vu l)) (I := (count_Iu l)) (m := (count_m l)) (fun x h => count_round l h_l h_R x.1 x.2 h) (i, n) hinv
theorem count_ok (l : List Sp) : FnC Try.prog 246 [.slice (some ⟨0, 0, none⟩) l.length (l.length + 1)] [(0, ⟨(l).flatMap encS, 1, [], 2⟩)] 1 (.int .i64 (countS l)) 0 [] := by
  by_cases h1002 : ((checkS l : Int) = 0)
  · skip
    obtain ⟨h_l, h_R⟩ := checkS_zero.1 h1002
    exact FnC.eq (v := .int .i64 (lens l)) (FnC.run (m := false) follows_mixed has246 [(1001, aC (check_ok (l))), (1002, aNT h1002), (900000, .stmt (.loop (nthLoop Try.f246 0)) [0] (count_I l 0 0) (.exit 0) ⟨[(3, .int .i64 (lens l))], [], 1⟩ (.cons (fun _ => encS_sc _) .nil) (fun ds => (count_loop l h_l h_R 0 0 ⟨by omega, by simp [lens]⟩).pick (fun e s h => h)) (le_ble rfl))] (by kernel_rfl) (by kernel_rfl) (.cons (encS_sc _) .nil) .nil) (by simp_all [countS])
  · skip
    exact FnC.eq (v := .int .i64 0) (FnC.run (m := false) follows_mixed has246 [(1001, aC (check_ok (l))), (1002, aNF h1002)] (by kernel_rfl) (by kernel_rfl) (.cons (encS_sc _) .nil) .nil) (by simp_all [countS])
end Go.Am
