/-
Laws of layer 25: copies, and what is the same.
-/
import Derived.Test.YtbihgmehjhlojaaSml
set_option linter.unusedVariables false
set_option linter.unusedSimpArgs false
set_option maxRecDepth 100000
namespace Go.Am
open Go Go.RowKit Go.Proofs
abbrev samS_I (a b : List Sp) (i : Nat) : AS := ⟨[(0, .slice (some ⟨0, 0, none⟩) a.length (a.length + 1)), (1, .slice (some ⟨1, 0, none⟩) b.length (b.length + 1)), (12, .int .i64 ((a.length : Nat) : Int)), (13, .int .i64 ((i : Nat) : Int))], [(0, ⟨(a).flatMap encS, 1, [], 2⟩), (1, ⟨(b).flatMap encS, 1, [], 2⟩)], 2⟩
abbrev samS_inv (a b : List Sp) (i : Nat) : Prop := i ≤ a.length ∧ a.take i = b.take i
def samS_K (a b : List Sp) : Exit → AS → Prop := fun e s => (a = b ∧ e = .exit 0 ∧ s = ⟨[], [], 2⟩) ∨ (a ≠ b ∧ e = .ret ∧ s = ⟨[(4, .bool false)], [], 2⟩)
abbrev samS_Iu (a b : List Sp) : Nat → AS := fun x => samS_I a b x
abbrev samS_vu (a b : List Sp) : Nat → Prop := fun x => samS_inv a b x
abbrev samS_m (a b : List Sp) : Nat → Nat := fun x => (fun (i : Nat) => a.length - i) x
theorem samS_round (a b : List Sp) (h_n : a.length ≤ 4294967296) (h_e : a.length = b.length) (i : Nat) (hinv : samS_inv a b i) {ds : List Deferred} : Tr Try.prog none ⟨26, ds⟩ 2 (nthLoop Try.f141 0) (samS_I a b i) (RK (samS_vu a b) (samS_Iu a b) (samS_m a b) (samS_K a b) i) := by
  obtain ⟨hi0, ht⟩ := hinv
  by_cases h4000 : (((i : Nat) : Int) < ((a.length : Nat) : Int))
  · skip
    obtain ⟨s1, hs1⟩ : ∃ s, a[i]? = some s := ⟨_, List.getElem?_eq_getElem (by omega)⟩
    obtain ⟨s2, hs2⟩ : ∃ s, b[i]? = some s := ⟨_, List.getElem?_eq_getElem (by omega)⟩
    by_cases h6008 : (s1 = s2)
    · skip
      exact Tr.again (Inv := (samS_vu a b)) (I := (samS_Iu a b)) (m := (samS_m a b)) (i + 1) (Tr.run follows_mixed (A := [(4000, aT h4000), (6002, aX i a.length 2 (by omega)), (6003, aL encS_k hs1), (6006, aX i b.length 2 (by omega)), (6007, aL encS_k hs2), (6008, aBinR (spNeqV (x := (.tmp 19)) (y := (.tmp 23)) (a := s1) (b := s2) (v := false) (by simp [h6008])) rfl rfl rfl), (8000, aI .i64 .i64 (((i : Nat) : Int) + 1) (((i + 1 : Nat) : Int)) (wrap_i64' (by omega) (by omega) (by omega)))]) (rows := [0, 1]) (by kernel_rfl) (.cons (fun _ => encS_sc _) (.cons (fun _ => encS_sc _) .nil)) (le_ble rfl)) (show samS_inv a b (i + 1) from ⟨by omega, by rw [take_next hs1, take_next hs2, ht, h6008]⟩) (by show a.length - (i + 1) < a.length - i; omega)
    · skip
      exact Tr.out (I := (samS_Iu a b)) (m := (samS_m a b)) (Tr.run follows_mixed (A := [(4000, aT h4000), (6002, aX i a.length 2 (by omega)), (6003, aL encS_k hs1), (6006, aX i b.length 2 (by omega)), (6007, aL encS_k hs2), (6008, aBinR (spNeqV (x := (.tmp 19)) (y := (.tmp 23)) (a := s1) (b := s2) (v := true) (by simp [h6008])) rfl rfl rfl)]) (rows := []) (by kernel_rfl) .nil (le_ble rfl)) (.inr ⟨(same_no hs1 hs2 h6008), rfl, rfl⟩) (by simp)
  · skip
    exact Tr.out (I := (samS_Iu a b)) (m := (samS_m a b)) (Tr.run follows_mixed (A := [(4000, aF h4000)]) (rows := []) (by kernel_rfl) .nil (le_ble rfl)) (.inl ⟨(same_all ht (by omega) h_e), rfl, rfl⟩) (by simp)

theorem samS_loop (a b : List Sp) (h_n : a.length ≤ 4294967296) (h_e : a.length = b.length) (i : Nat) (hinv : samS_inv a b i) {ds : List Deferred} : Tr Try.prog none ⟨26, ds⟩ 2 (.loop (nthLoop Try.f141 0)) (samS_I a b i) (samS_K a b) :=
  Tr.rounds (Inv := (samS_vu a b)) (I := (samS_Iu a b)) (m := (samS_m a b)) (fun x h_0 => samS_round a b h_n h_e x h_0) i hinv
theorem samS_ok (a b : List Sp) (h_n : a.length ≤ 4294967296) : FnC Try.prog 141 [.slice (some ⟨0, 0, none⟩) a.length (a.length + 1), .slice (some ⟨1, 0, none⟩) b.length (b.length + 1)] [(0, ⟨(a).flatMap encS, 1, [], 2⟩), (1, ⟨(b).flatMap encS, 1, [], 2⟩)] 2 (.bool (decide (a = b))) 0 [] := by
  by_cases hz : (a = b)
  · skip
    by_cases h1004 : ((((a.length : Nat) : Int) : Int) = ((b.length : Nat) : Int))
    · skip
      have h_e : a.length = b.length := by omega
      exact FnC.eq (v := .bool true) (FnC.run (m := false) follows_mixed has141 [(1004, aNT h1004), (900000, .stmt (.loop (nthLoop Try.f141 0)) [0, 1] (samS_I a b 0) (.exit 0) ⟨[], [], 2⟩ (.cons (fun _ => encS_sc _) (.cons (fun _ => encS_sc _) .nil)) (fun ds => (samS_loop a b h_n h_e 0 ⟨by omega, by simp⟩).pick (fun e s h => by rcases h with ⟨_, h⟩ | ⟨h0, _⟩; exact h; exact absurd hz h0)) (le_ble rfl))] (by kernel_rfl) (by kernel_rfl) (.cons (encS_sc _) (.cons (encS_sc _) .nil)) .nil) (by rw [decide_eq_true hz])
    · skip
      exact absurd (by rw [hz]) h1004
  · skip
    by_cases h1004 : ((((a.length : Nat) : Int) : Int) = ((b.length : Nat) : Int))
    · skip
      have h_e : a.length = b.length := by omega
      exact FnC.eq (v := .bool false) (FnC.run (m := false) follows_mixed has141 [(1004, aNT h1004), (900000, .stmt (.loop (nthLoop Try.f141 0)) [0, 1] (samS_I a b 0) (.ret) ⟨[(4, .bool false)], [], 2⟩ (.cons (fun _ => encS_sc _) (.cons (fun _ => encS_sc _) .nil)) (fun ds => (samS_loop a b h_n h_e 0 ⟨by omega, by simp⟩).pick (fun e s h => by rcases h with ⟨h0, _⟩ | ⟨_, h⟩; exact absurd h0 hz; exact h)) (le_ble rfl))] (by kernel_rfl) (by kernel_rfl) (.cons (encS_sc _) (.cons (encS_sc _) .nil)) .nil) (by rw [decide_eq_false hz])
    · skip
      exact FnC.eq (v := .bool false) (FnC.run (m := false) follows_mixed has141 [(1004, aNF h1004)] (by kernel_rfl) (by kernel_rfl) (.cons (encS_sc _) (.cons (encS_sc _) .nil)) .nil) (by rw [decide_eq_false hz])
abbrev samI_I (a b : List Int) (i : Nat) : AS := ⟨[(0, .slice (some ⟨0, 0, none⟩) a.length (a.length + 1)), (1, .slice (some ⟨1, 0, none⟩) b.length (b.length + 1)), (12, .int .i64 ((a.length : Nat) : Int)), (13, .int .i64 ((i : Nat) : Int))], [(0, ⟨(a).flatMap encI, 1, [], 1⟩), (1, ⟨(b).flatMap encI, 1, [], 1⟩)], 2⟩
abbrev samI_inv (a b : List Int) (i : Nat) : Prop := i ≤ a.length ∧ a.take i = b.take i
def samI_K (a b : List Int) : Exit → AS → Prop := fun e s => (a = b ∧ e = .exit 0 ∧ s = ⟨[], [], 2⟩) ∨ (a ≠ b ∧ e = .ret ∧ s = ⟨[(4, .bool false)], [], 2⟩)
abbrev samI_Iu (a b : List Int) : Nat → AS := fun x => samI_I a b x
abbrev samI_vu (a b : List Int) : Nat → Prop := fun x => samI_inv a b x
abbrev samI_m (a b : List Int) : Nat → Nat := fun x => (fun (i : Nat) => a.length - i) x
theorem samI_round (a b : List Int) (h_n : a.length ≤ 4294967296) (h_e : a.length = b.length) (i : Nat) (hinv : samI_inv a b i) {ds : List Deferred} : Tr Try.prog none ⟨26, ds⟩ 2 (nthLoop Try.f142 0) (samI_I a b i) (RK (samI_vu a b) (samI_Iu a b) (samI_m a b) (samI_K a b) i) := by
  obtain ⟨hi0, ht⟩ := hinv
  by_cases h4000 : (((i : Nat) : Int) < ((a.length : Nat) : Int))
  · skip
    obtain ⟨s1, hs1⟩ : ∃ s, a[i]? = some s := ⟨_, List.getElem?_eq_getElem (by omega)⟩
    obtain ⟨s2, hs2⟩ : ∃ s, b[i]? = some s := ⟨_, List.getElem?_eq_getElem (by omega)⟩
    by_cases h6008 : ((s1 : Int) = s2)
    · skip
      exact Tr.again (Inv := (samI_vu a b)) (I := (samI_Iu a b)) (m := (samI_m a b)) (i + 1) (Tr.run follows_mixed (A := [(4000, aT h4000), (6002, aX i a.length 1 (by omega)), (6003, aL encI_k hs1), (6006, aX i b.length 1 (by omega)), (6007, aL encI_k hs2), (6008, aNT h6008), (8000, aI .i64 .i64 (((i : Nat) : Int) + 1) (((i + 1 : Nat) : Int)) (wrap_i64' (by omega) (by omega) (by omega)))]) (rows := [0, 1]) (by kernel_rfl) (.cons (fun _ => encI_sc _) (.cons (fun _ => encI_sc _) .nil)) (le_ble rfl)) (show samI_inv a b (i + 1) from ⟨by omega, by rw [take_next hs1, take_next hs2, ht, h6008]⟩) (by show a.length - (i + 1) < a.length - i; omega)
    · skip
      exact Tr.out (I := (samI_Iu a b)) (m := (samI_m a b)) (Tr.run follows_mixed (A := [(4000, aT h4000), (6002, aX i a.length 1 (by omega)), (6003, aL encI_k hs1), (6006, aX i b.length 1 (by omega)), (6007, aL encI_k hs2), (6008, aNF h6008)]) (rows := []) (by kernel_rfl) .nil (le_ble rfl)) (.inr ⟨(same_no hs1 hs2 h6008), rfl, rfl⟩) (by simp)
  · skip
    exact Tr.out (I := (samI_Iu a b)) (m := (samI_m a b)) (Tr.run follows_mixed (A := [(4000, aF h4000)]) (rows := []) (by kernel_rfl) .nil (le_ble rfl)) (.inl ⟨(same_all ht (by omega) h_e), rfl, rfl⟩) (by simp)

theorem samI_loop (a b : List Int) (h_n : a.length ≤ 4294967296) (h_e : a.length = b.length) (i : Nat) (hinv : samI_inv a b i) {ds : List Deferred} : Tr Try.prog none ⟨26, ds⟩ 2 (.loop (nthLoop Try.f142 0)) (samI_I a b i) (samI_K a b) :=
  Tr.rounds (Inv := (samI_vu a b)) (I := (samI_Iu a b)) (m := (samI_m a b)) (fun x h_0 => samI_round a b h_n h_e x h_0) i hinv
theorem samI_ok (a b : List Int) (h_n : a.length ≤ 4294967296) : FnC Try.prog 142 [.slice (some ⟨0, 0, none⟩) a.length (a.length + 1), .slice (some ⟨1, 0, none⟩) b.length (b.length + 1)] [(0, ⟨(a).flatMap encI, 1, [], 1⟩), (1, ⟨(b).flatMap encI, 1, [], 1⟩)] 2 (.bool (decide (a = b))) 0 [] := by
  by_cases hz : (a = b)
  · skip
    by_cases h1004 : ((((a.length : Nat) : Int) : Int) = ((b.length : Nat) : Int))
    · skip
      have h_e : a.length = b.length := by omega
      exact FnC.eq (v := .bool true) (FnC.run (m := false) follows_mixed has142 [(1004, aNT h1004), (900000, .stmt (.loop (nthLoop Try.f142 0)) [0, 1] (samI_I a b 0) (.exit 0) ⟨[], [], 2⟩ (.cons (fun _ => encI_sc _) (.cons (fun _ => encI_sc _) .nil)) (fun ds => (samI_loop a b h_n h_e 0 ⟨by omega, by simp⟩).pick (fun e s h => by rcases h with ⟨_, h⟩ | ⟨h0, _⟩; exact h; exact absurd hz h0)) (le_ble rfl))] (by kernel_rfl) (by kernel_rfl) (.cons (encI_sc _) (.cons (encI_sc _) .nil)) .nil) (by rw [decide_eq_true hz])
    · skip
      exact absurd (by rw [hz]) h1004
  · skip
    by_cases h1004 : ((((a.length : Nat) : Int) : Int) = ((b.length : Nat) : Int))
    · skip
      have h_e : a.length = b.length := by omega
      exact FnC.eq (v := .bool false) (FnC.run (m := false) follows_mixed has142 [(1004, aNT h1004), (900000, .stmt (.loop (nthLoop Try.f142 0)) [0, 1] (samI_I a b 0) (.ret) ⟨[(4, .bool false)], [], 2⟩ (.cons (fun _ => encI_sc _) (.cons (fun _ => encI_sc _) .nil)) (fun ds => (samI_loop a b h_n h_e 0 ⟨by omega, by simp⟩).pick (fun e s h => by rcases h with ⟨h0, _⟩ | ⟨_, h⟩; exact absurd h0 hz; exact h)) (le_ble rfl))] (by kernel_rfl) (by kernel_rfl) (.cons (encI_sc _) (.cons (encI_sc _) .nil)) .nil) (by rw [decide_eq_false hz])
    · skip
      exact FnC.eq (v := .bool false) (FnC.run (m := false) follows_mixed has142 [(1004, aNF h1004)] (by kernel_rfl) (by kernel_rfl) (.cons (encI_sc _) (.cons (encI_sc _) .nil)) .nil) (by rw [decide_eq_false hz])
abbrev samW_I (a b : List Int) (i : Nat) : AS := ⟨[(0, .slice (some ⟨0, 0, none⟩) a.length (a.length + 1)), (1, .slice (some ⟨1, 0, none⟩) b.length (b.length + 1)), (12, .int .i64 ((a.length : Nat) : Int)), (13, .int .i64 ((i : Nat) : Int))], [(0, ⟨(a).flatMap encW, 1, [], 1⟩), (1, ⟨(b).flatMap encW, 1, [], 1⟩)], 2⟩
abbrev samW_inv (a b : List Int) (i : Nat) : Prop := i ≤ a.length ∧ a.take i = b.take i
def samW_K (a b : List Int) : Exit → AS → Prop := fun e s => (a = b ∧ e = .exit 0 ∧ s = ⟨[], [], 2⟩) ∨ (a ≠ b ∧ e = .ret ∧ s = ⟨[(4, .bool false)], [], 2⟩)
abbrev samW_Iu (a b : List Int) : Nat → AS := fun x => samW_I a b x
abbrev samW_vu (a b : List Int) : Nat → Prop := fun x => samW_inv a b x
abbrev samW_m (a b : List Int) : Nat → Nat := fun x => (fun (i : Nat) => a.length - i) x
theorem samW_round (a b : List Int) (h_n : a.length ≤ 4294967296) (h_e : a.length = b.length) (i : Nat) (hinv : samW_inv a b i) {ds : List Deferred} : Tr Try.prog none ⟨26, ds⟩ 2 (nthLoop Try.f148 0) (samW_I a b i) (RK (samW_vu a b) (samW_Iu a b) (samW_m a b) (samW_K a b) i) := by
  obtain ⟨hi0, ht⟩ := hinv
  by_cases h4000 : (((i : Nat) : Int) < ((a.length : Nat) : Int))
  · skip
    obtain ⟨s1, hs1⟩ : ∃ s, a[i]? = some s := ⟨_, List.getElem?_eq_getElem (by omega)⟩
    obtain ⟨s2, hs2⟩ : ∃ s, b[i]? = some s := ⟨_, List.getElem?_eq_getElem (by omega)⟩
    by_cases h6008 : ((s1 : Int) = s2)
    · skip
      exact Tr.again (Inv := (samW_vu a b)) (I := (samW_Iu a b)) (m := (samW_m a b)) (i + 1) (Tr.run follows_mixed (A := [(4000, aT h4000), (6002, aX i a.length 1 (by omega)), (6003, aL encW_k hs1), (6006, aX i b.length 1 (by omega)), (6007, aL encW_k hs2), (6008, aNT h6008), (8000, aI .i64 .i64 (((i : Nat) : Int) + 1) (((i + 1 : Nat) : Int)) (wrap_i64' (by omega) (by omega) (by omega)))]) (rows := [0, 1]) (by kernel_rfl) (.cons (fun _ => encW_sc _) (.cons (fun _ => encW_sc _) .nil)) (le_ble rfl)) (show samW_inv a b (i + 1) from ⟨by omega, by rw [take_next hs1, take_next hs2, ht, h6008]⟩) (by show a.length - (i + 1) < a.length - i; omega)
    · skip
      exact Tr.out (I := (samW_Iu a b)) (m := (samW_m a b)) (Tr.run follows_mixed (A := [(4000, aT h4000), (6002, aX i a.length 1 (by omega)), (6003, aL encW_k hs1), (6006, aX i b.length 1 (by omega)), (6007, aL encW_k hs2), (6008, aNF h6008)]) (rows := []) (by kernel_rfl) .nil (le_ble rfl)) (.inr ⟨(same_no hs1 hs2 h6008), rfl, rfl⟩) (by simp)
  · skip
    exact Tr.out (I := (samW_Iu a b)) (m := (samW_m a b)) (Tr.run follows_mixed (A := [(4000, aF h4000)]) (rows := []) (by kernel_rfl) .nil (le_ble rfl)) (.inl ⟨(same_all ht (by omega) h_e), rfl, rfl⟩) (by simp)

theorem samW_loop (a b : List Int) (h_n : a.length ≤ 4294967296) (h_e : a.length = b.length) (i : Nat) (hinv : samW_inv a b i) {ds : List Deferred} : Tr Try.prog none ⟨26, ds⟩ 2 (.loop (nthLoop Try.f148 0)) (samW_I a b i) (samW_K a b) :=
  Tr.rounds (Inv := (samW_vu a b)) (I := (samW_Iu a b)) (m := (samW_m a b)) (fun x h_0 => samW_round a b h_n h_e x h_0) i hinv
theorem samW_ok (a b : List Int) (h_n : a.length ≤ 4294967296) : FnC Try.prog 148 [.slice (some ⟨0, 0, none⟩) a.length (a.length + 1), .slice (some ⟨1, 0, none⟩) b.length (b.length + 1)] [(0, ⟨(a).flatMap encW, 1, [], 1⟩), (1, ⟨(b).flatMap encW, 1, [], 1⟩)] 2 (.bool (decide (a = b))) 0 [] := by
  by_cases hz : (a = b)
  · skip
    by_cases h1004 : ((((a.length : Nat) : Int) : Int) = ((b.length : Nat) : Int))
    · skip
      have h_e : a.length = b.length := by omega
      exact FnC.eq (v := .bool true) (FnC.run (m := false) follows_mixed has148 [(1004, aNT h1004), (900000, .stmt (.loop (nthLoop Try.f148 0)) [0, 1] (samW_I a b 0) (.exit 0) ⟨[], [], 2⟩ (.cons (fun _ => encW_sc _) (.cons (fun _ => encW_sc _) .nil)) (fun ds => (samW_loop a b h_n h_e 0 ⟨by omega, by simp⟩).pick (fun e s h => by rcases h with ⟨_, h⟩ | ⟨h0, _⟩; exact h; exact absurd hz h0)) (le_ble rfl))] (by kernel_rfl) (by kernel_rfl) (.cons (encW_sc _) (.cons (encW_sc _) .nil)) .nil) (by rw [decide_eq_true hz])
    · skip
      exact absurd (by rw [hz]) h1004
  · skip
    by_cases h1004 : ((((a.length : Nat) : Int) : Int) = ((b.length : Nat) : Int))
    · skip
      have h_e : a.length = b.length := by omega
      exact FnC.eq (v := .bool false) (FnC.run (m := false) follows_mixed has148 [(1004, aNT h1004), (900000, .stmt (.loop (nthLoop Try.f148 0)) [0, 1] (samW_I a b 0) (.ret) ⟨[(4, .bool false)], [], 2⟩ (.cons (fun _ => encW_sc _) (.cons (fun _ => encW_sc _) .nil)) (fun ds => (samW_loop a b h_n h_e 0 ⟨by omega, by simp⟩).pick (fun e s h => by rcases h with ⟨h0, _⟩ | ⟨_, h⟩; exact absurd h0 hz; exact h)) (le_ble rfl))] (by kernel_rfl) (by kernel_rfl) (.cons (encW_sc _) (.cons (encW_sc _) .nil)) .nil) (by rw [decide_eq_false hz])
    · skip
      exact FnC.eq (v := .bool false) (FnC.run (m := false) follows_mixed has148 [(1004, aNF h1004)] (by kernel_rfl) (by kernel_rfl) (.cons (encW_sc _) (.cons (encW_sc _) .nil)) .nil) (by rw [decide_eq_false hz])
theorem lints_ok (h : HI) (h_p : h.pos.length ≤ 4294967296) (h_n : h.neg.length ≤ 4294967296) : FnC Try.prog 60 [.agg #[.int .i64 h.schema, .int .u64 h.zero, .int .u64 h.zc, .int .u64 h.count, .int .u64 h.sum, .slice (some ⟨0, 0, none⟩) h.pos.length (h.pos.length + 1), .slice (some ⟨1, 0, none⟩) h.neg.length (h.neg.length + 1), .slice (some ⟨2, 0, none⟩) h.pd.length (h.pd.length + 1), .slice (some ⟨3, 0, none⟩) h.nd.length (h.nd.length + 1)]] [(0, ⟨(h.pos).flatMap encS, 1, [], 2⟩), (1, ⟨(h.neg).flatMap encS, 1, [], 2⟩), (2, ⟨(h.pd).flatMap encI, 1, [], 1⟩), (3, ⟨(h.nd).flatMap encI, 1, [], 1⟩)] 4 (.agg #[.int .i64 h.schema, .int .u64 h.zero, .int .u64 h.zc, .int .u64 h.count, .int .u64 h.sum, .slice (some ⟨4, 0, none⟩) h.pos.length (h.pos.length + 1), .slice (some ⟨5, 0, none⟩) h.neg.length (h.neg.length + 1), .slice (some ⟨2, 0, none⟩) h.pd.length (h.pd.length + 1), .slice (some ⟨3, 0, none⟩) h.nd.length (h.nd.length + 1)]) 2 [(4, ⟨(h.pos).flatMap encS, 2, [], 2⟩), (5, ⟨(h.neg).flatMap encS, 2, [], 2⟩)] := by
  exact FnC.run (m := false) follows_mixed has60 [(1012, aC (spc_ok (h.pos) h_p)), (1015, aC (spc_ok (h.neg) h_n))] (by kernel_rfl) (by kernel_rfl) (.cons (encS_sc _) (.cons (encS_sc _) (.cons (encI_sc _) (.cons (encI_sc _) .nil)))) (.cons (encS_sc _) (.cons (encS_sc _) .nil))
def sameHI (h x : HI) : Bool := decide (h.schema = x.schema) && decide (h.zero = x.zero) && decide (h.zc = x.zc) && decide (h.count = x.count) && decide (h.sum = x.sum) && decide (h.pos = x.pos) && decide (h.neg = x.neg) && decide (h.pd = x.pd) && decide (h.nd = x.nd)
theorem sameHI_self (h : HI) : sameHI h h = true := by simp [sameHI]
structure HLow (h : HI) : Prop where
  np : h.pos.length ≤ 4294967296
  nn : h.neg.length ≤ 4294967296
  npd : h.pd.length ≤ 4294967296
  nnd : h.nd.length ≤ 4294967296
theorem isInts_ok (h x : HI) (h_l : HLow h) : FnC Try.prog 61 [.agg #[.int .i64 h.schema, .int .u64 h.zero, .int .u64 h.zc, .int .u64 h.count, .int .u64 h.sum, .slice (some ⟨0, 0, none⟩) h.pos.length (h.pos.length + 1), .slice (some ⟨1, 0, none⟩) h.neg.length (h.neg.length + 1), .slice (some ⟨2, 0, none⟩) h.pd.length (h.pd.length + 1), .slice (some ⟨3, 0, none⟩) h.nd.length (h.nd.length + 1)], .agg #[.int .i64 x.schema, .int .u64 x.zero, .int .u64 x.zc, .int .u64 x.count, .int .u64 x.sum, .slice (some ⟨4, 0, none⟩) x.pos.length (x.pos.length + 1), .slice (some ⟨5, 0, none⟩) x.neg.length (x.neg.length + 1), .slice (some ⟨6, 0, none⟩) x.pd.length (x.pd.length + 1), .slice (some ⟨7, 0, none⟩) x.nd.length (x.nd.length + 1)]] [(0, ⟨(h.pos).flatMap encS, 1, [], 2⟩), (1, ⟨(h.neg).flatMap encS, 1, [], 2⟩), (2, ⟨(h.pd).flatMap encI, 1, [], 1⟩), (3, ⟨(h.nd).flatMap encI, 1, [], 1⟩), (4, ⟨(x.pos).flatMap encS, 1, [], 2⟩), (5, ⟨(x.neg).flatMap encS, 1, [], 2⟩), (6, ⟨(x.pd).flatMap encI, 1, [], 1⟩), (7, ⟨(x.nd).flatMap encI, 1, [], 1⟩)] 8 (.bool (sameHI h x)) 0 [] := by
  by_cases h1004 : ((h.schema : Int) = x.schema)
  · skip
    by_cases h1010 : ((h.zero : Int) = x.zero)
    · skip
      by_cases h1017 : ((h.zc : Int) = x.zc)
      · skip
        by_cases h1024 : ((h.count : Int) = x.count)
        · skip
          by_cases h1031 : ((h.sum : Int) = x.sum)
          · skip
            cases h1039 : (decide ((h.pos) = (x.pos))) with
            | true =>
              cases h1047 : (decide ((h.neg) = (x.neg))) with
              | true =>
                cases h1054 : (decide ((h.pd) = (x.pd))) with
                | true =>
                  exact FnC.eq (v := .bool (decide ((h.nd) = (x.nd)))) (FnC.run (m := false) follows_mixed has61 [(1004, aT h1004), (1010, aT h1010), (1017, aT h1017), (1024, aT h1024), (1031, aT h1031), (1036, aC (spc_ok (h.pos) h_l.np)), (1039, aCb (samS_ok (h.pos) (x.pos) h_l.np) h1039), (1044, aC (spc_ok (h.neg) h_l.nn)), (1047, aCb (samS_ok (h.neg) (x.neg) h_l.nn) h1047), (1054, aCb (samI_ok (h.pd) (x.pd) h_l.npd) h1054), (1061, aC (samI_ok (h.nd) (x.nd) h_l.nnd))] (by kernel_rfl) (by kernel_rfl) (.cons (encS_sc _) (.cons (encS_sc _) (.cons (encI_sc _) (.cons (encI_sc _) (.cons (encS_sc _) (.cons (encS_sc _) (.cons (encI_sc _) (.cons (encI_sc _) .nil)))))))) .nil) (by simp_all [sameHI])
                | false =>
                  exact FnC.eq (v := .bool false) (FnC.run (m := false) follows_mixed has61 [(1004, aT h1004), (1010, aT h1010), (1017, aT h1017), (1024, aT h1024), (1031, aT h1031), (1036, aC (spc_ok (h.pos) h_l.np)), (1039, aCb (samS_ok (h.pos) (x.pos) h_l.np) h1039), (1044, aC (spc_ok (h.neg) h_l.nn)), (1047, aCb (samS_ok (h.neg) (x.neg) h_l.nn) h1047), (1054, aCb (samI_ok (h.pd) (x.pd) h_l.npd) h1054)] (by kernel_rfl) (by kernel_rfl) (.cons (encS_sc _) (.cons (encS_sc _) (.cons (encI_sc _) (.cons (encI_sc _) (.cons (encS_sc _) (.cons (encS_sc _) (.cons (encI_sc _) (.cons (encI_sc _) .nil)))))))) .nil) (by simp_all [sameHI])
              | false =>
                exact FnC.eq (v := .bool false) (FnC.run (m := false) follows_mixed has61 [(1004, aT h1004), (1010, aT h1010), (1017, aT h1017), (1024, aT h1024), (1031, aT h1031), (1036, aC (spc_ok (h.pos) h_l.np)), (1039, aCb (samS_ok (h.pos) (x.pos) h_l.np) h1039), (1044, aC (spc_ok (h.neg) h_l.nn)), (1047, aCb (samS_ok (h.neg) (x.neg) h_l.nn) h1047)] (by kernel_rfl) (by kernel_rfl) (.cons (encS_sc _) (.cons (encS_sc _) (.cons (encI_sc _) (.cons (encI_sc _) (.cons (encS_sc _) (.cons (encS_sc _) (.cons (encI_sc _) (.cons (encI_sc _) .nil)))))))) .nil) (by simp_all [sameHI])
            | false =>
              exact FnC.eq (v := .bool false) (FnC.run (m := false) follows_mixed has61 [(1004, aT h1004), (1010, aT h1010), (1017, aT h1017), (1024, aT h1024), (1031, aT h1031), (1036, aC (spc_ok (h.pos) h_l.np)), (1039, aCb (samS_ok (h.pos) (x.pos) h_l.np) h1039)] (by kernel_rfl) (by kernel_rfl) (.cons (encS_sc _) (.cons (encS_sc _) (.cons (encI_sc _) (.cons (encI_sc _) (.cons (encS_sc _) (.cons (encS_sc _) (.cons (encI_sc _) (.cons (encI_sc _) .nil)))))))) .nil) (by simp_all [sameHI])
          · skip
            exact FnC.eq (v := .bool false) (FnC.run (m := false) follows_mixed has61 [(1004, aT h1004), (1010, aT h1010), (1017, aT h1017), (1024, aT h1024), (1031, aF h1031)] (by kernel_rfl) (by kernel_rfl) (.cons (encS_sc _) (.cons (encS_sc _) (.cons (encI_sc _) (.cons (encI_sc _) (.cons (encS_sc _) (.cons (encS_sc _) (.cons (encI_sc _) (.cons (encI_sc _) .nil)))))))) .nil) (by simp_all [sameHI])
        · skip
          exact FnC.eq (v := .bool false) (FnC.run (m := false) follows_mixed has61 [(1004, aT h1004), (1010, aT h1010), (1017, aT h1017), (1024, aF h1024)] (by kernel_rfl) (by kernel_rfl) (.cons (encS_sc _) (.cons (encS_sc _) (.cons (encI_sc _) (.cons (encI_sc _) (.cons (encS_sc _) (.cons (encS_sc _) (.cons (encI_sc _) (.cons (encI_sc _) .nil)))))))) .nil) (by simp_all [sameHI])
      · skip
        exact FnC.eq (v := .bool false) (FnC.run (m := false) follows_mixed has61 [(1004, aT h1004), (1010, aT h1010), (1017, aF h1017)] (by kernel_rfl) (by kernel_rfl) (.cons (encS_sc _) (.cons (encS_sc _) (.cons (encI_sc _) (.cons (encI_sc _) (.cons (encS_sc _) (.cons (encS_sc _) (.cons (encI_sc _) (.cons (encI_sc _) .nil)))))))) .nil) (by simp_all [sameHI])
    · skip
      exact FnC.eq (v := .bool false) (FnC.run (m := false) follows_mixed has61 [(1004, aT h1004), (1010, aF h1010)] (by kernel_rfl) (by kernel_rfl) (.cons (encS_sc _) (.cons (encS_sc _) (.cons (encI_sc _) (.cons (encI_sc _) (.cons (encS_sc _) (.cons (encS_sc _) (.cons (encI_sc _) (.cons (encI_sc _) .nil)))))))) .nil) (by simp_all [sameHI])
  · skip
    exact FnC.eq (v := .bool false) (FnC.run (m := false) follows_mixed has61 [(1004, aF h1004)] (by kernel_rfl) (by kernel_rfl) (.cons (encS_sc _) (.cons (encS_sc _) (.cons (encI_sc _) (.cons (encI_sc _) (.cons (encS_sc _) (.cons (encS_sc _) (.cons (encI_sc _) (.cons (encI_sc _) .nil)))))))) .nil) (by simp_all [sameHI])
end Go.Am
