/-
Package reset.
-/
import Derived.Test.YtbihgmehjhlojaaTwi
import Derived.Test.YtbihgmehjhlojaaSml
set_option linter.unusedVariables false
set_option linter.unusedSimpArgs false
set_option maxRecDepth 100000
namespace Go.Am
open Go Go.RowKit Go.Proofs
theorem has225 : Has Try.prog 225 Try.f225 (bodyOf Try.f225) := ⟨Try.func225, by kernel_rfl, by kernel_rfl⟩
theorem has154 : Has Try.prog 154 Try.f154 (bodyOf Try.f154) := ⟨Try.func154, by kernel_rfl, by kernel_rfl⟩
theorem has155 : Has Try.prog 155 Try.f155 (bodyOf Try.f155) := ⟨Try.func155, by kernel_rfl, by kernel_rfl⟩
theorem has153 : Has Try.prog 153 Try.f153 (bodyOf Try.f153) := ⟨Try.func153, by kernel_rfl, by kernel_rfl⟩
theorem has73 : Has Try.prog 73 Try.f73 (bodyOf Try.f73) := ⟨Try.func73, by kernel_rfl, by kernel_rfl⟩
/-- the first that is not below a place -/
def dropI (b : List (Int × Int)) (q : Int) : Nat := b.findIdx fun x => !decide (x.1 < q)
theorem dropI_le (b : List (Int × Int)) (q : Int) : dropI b q ≤ b.length := List.findIdx_le_length
theorem dropI_next {b : List (Int × Int)} {q : Int} {j : Nat} {s : Int × Int} (h : j ≤ dropI b q) (hs : b[j]? = some s) (hq : s.1 < q) : j + 1 ≤ dropI b q := by
  have hj : j < b.length := (List.getElem?_eq_some_iff.1 hs).1
  refine Nat.lt_of_le_of_ne h fun e => ?_
  have hp := List.findIdx_getElem (xs := b) (p := fun x => !decide (x.1 < q)) (w := by show dropI b q < b.length; omega)
  have e2 : b[b.findIdx fun x => !decide (x.1 < q)]? = some s := by show b[dropI b q]? = some s; rw [← e]; exact hs
  rw [List.getElem?_eq_getElem (by show dropI b q < b.length; omega)] at e2
  injection e2 with e2
  rw [e2] at hp
  simp at hp; omega
theorem dropI_stop {b : List (Int × Int)} {q : Int} {j : Nat} {s : Int × Int} (h : j ≤ dropI b q) (hs : b[j]? = some s) (hq : ¬ s.1 < q) : j = dropI b q := by
  refine Nat.le_antisymm h (Nat.not_lt.1 fun hlt => ?_)
  have := List.not_of_lt_findIdx (p := fun x : Int × Int => !decide (x.1 < q)) hlt
  have hj : j < b.length := (List.getElem?_eq_some_iff.1 hs).1
  rw [List.getElem?_eq_getElem hj] at hs
  injection hs with hs
  rw [hs] at this
  simp at this; omega
theorem dropI_below {b : List (Int × Int)} {q : Int} {x : Int × Int} (h : x ∈ b.take (dropI b q)) : x.1 < q := by
  obtain ⟨k, hk, rfl⟩ := List.mem_iff_getElem.1 h
  have hk2 : k < dropI b q := by simp at hk; omega
  have := List.not_of_lt_findIdx (p := fun x : Int × Int => !decide (x.1 < q)) hk2
  simp at this ⊢
  exact this
theorem dropI_mono {b : List (Int × Int)} {q r : Int} (h : q ≤ r) : dropI b q ≤ dropI b r := by
  refine Nat.not_lt.1 fun hlt => ?_
  have hl := dropI_le b q
  have hs : b[dropI b r]? = some b[dropI b r] := List.getElem?_eq_getElem (by omega)
  have h1 : b[dropI b r].1 < q := dropI_below (b := b) (q := q) (List.mem_of_getElem? (by rw [List.getElem?_take_of_lt hlt]; exact hs))
  have := dropI_next (Nat.le_refl _) hs (show b[dropI b r].1 < r by omega)
  omega
theorem tot_at {b : List (Int × Int)} (hb : Rises b) {q : Int} {s : Int × Int} (hs : s ∈ b) (e : s.1 = q) : tot 0 q b = s.2 := by
  induction b with
  | nil => cases hs
  | cons y m ih =>
    unfold Rises at hb
    rw [List.pairwise_cons] at hb
    rw [tot_cons, placeS_zero]
    rcases List.mem_cons.1 hs with rfl | hs
    · rw [if_pos e, tot_zero fun z hz => by rw [placeS_zero]; have := hb.1 z hz; omega]; omega
    · rw [if_neg (by have := hb.1 s hs; omega), ih hb.2 hs]; omega
theorem tot_none {b : List (Int × Int)} {q : Int} (h : ∀ x ∈ b, x.1 ≠ q) : tot 0 q b = 0 := tot_zero fun x hx => by rw [placeS_zero]; exact h x hx
theorem tot_drop {b : List (Int × Int)} (hb : Rises b) {q : Int} (h : ∀ s, b[dropI b q]? = some s → s.1 ≠ q) : tot 0 q b = 0 := by
  refine tot_none fun x hx e => ?_
  rw [← List.take_append_drop (dropI b q) b] at hx
  rcases List.mem_append.1 hx with t | t
  · have := dropI_below t; omega
  · cases hd : b.drop (dropI b q) with
    | nil => rw [hd] at t; cases t
    | cons y r =>
      have hy : b[dropI b q]? = some y := by have := congrArg List.head? hd; rw [List.head?_drop] at this; simpa using this
      have hp : (b.drop (dropI b q)).Pairwise fun x y => x.1 < y.1 := List.Pairwise.drop hb
      rw [hd, List.pairwise_cons] at hp
      rw [hd] at t
      have hge : ¬ y.1 < q := fun c => by have := dropI_next (Nat.le_refl _) hy c; omega
      have hne := h y hy
      rcases List.mem_cons.1 t with rfl | t
      · exact hne e
      · have := hp.1 x t; omega
def isLess (b : List (Int × Int)) (p : Int × Int) : Bool := decide (tot 0 p.1 b < p.2)
def lessB (a b : List (Int × Int)) : Bool := a.any (isLess b)
def lessP (a b : List (Int × Int)) : Int := match a.find? (isLess b) with | some p => p.1 | none => 0
theorem less_none {a b : List (Int × Int)} {i : Nat} (h : ∀ x ∈ a.take i, isLess b x = false) (hi : a.length ≤ i) : lessB a b = false := by
  rw [take_all hi] at h
  unfold lessB; rw [List.any_eq_false]; intro x hx; rw [h x hx]; simp
theorem less_some {a b : List (Int × Int)} {i : Nat} {s : Int × Int} (h : ∀ x ∈ a.take i, isLess b x = false) (hs : a[i]? = some s) (hp : isLess b s = true) : lessB a b = true ∧ lessP a b = s.1 := by
  constructor
  · unfold lessB; rw [List.any_eq_true]; exact ⟨s, List.mem_of_getElem? hs, hp⟩
  · unfold lessP
    have e : a.find? (isLess b) = some s := by
      rw [← List.take_append_drop i a, List.find?_append, List.find?_eq_none.2 (fun x hx => by rw [h x hx]; simp), drop_idx hs]
      simp [hp]
    rw [e]
theorem less_step {a b : List (Int × Int)} {i : Nat} {s : Int × Int} (h : ∀ x ∈ a.take i, isLess b x = false) (hs : a[i]? = some s) (hp : isLess b s = false) : ∀ x ∈ a.take (i + 1), isLess b x = false := by
  intro x hx
  rw [take_next hs] at hx
  rcases List.mem_append.1 hx with t | t
  · exact h x t
  · simp at t; subst t; exact hp
abbrev lsi_I (a b : List (Int × Int)) (i : Nat) (p : Int × Int) (j : Nat) : AS := ⟨[(1, .slice (some ⟨1, j * 2, none⟩) (b.length - j) (b.length - j + 1)), (6, .int .i64 0), (8, .pointer (some ⟨2, 0, none⟩)), (10, .slice (some ⟨0, 0, none⟩) a.length (a.length + 1)), (11, .int .i64 ((a.length : Nat) : Int)), (12, .int .i64 ((i : Nat) : Int))], [(0, ⟨(a).flatMap encS, 1, [], 2⟩), (1, ⟨(b).flatMap encS, 1, [], 2⟩), (2, ⟨[.int .i64 p.1, .int .i64 p.2], 2, [], 1⟩)], 3⟩
abbrev lsi_inv (a b : List (Int × Int)) (i : Nat) (p : Int × Int) (j : Nat) : Prop := j ≤ dropI b p.1
def lsi_K (a b : List (Int × Int)) (i : Nat) (p : Int × Int) : Exit → AS → Prop := fun e s => (e = .exit 2 ∧ s = ⟨[(1, .slice (some ⟨1, (dropI b p.1) * 2, none⟩) (b.length - (dropI b p.1)) (b.length - (dropI b p.1) + 1)), (6, .int .i64 0), (8, .pointer (some ⟨2, 0, none⟩)), (10, .slice (some ⟨0, 0, none⟩) a.length (a.length + 1)), (11, .int .i64 ((a.length : Nat) : Int)), (12, .int .i64 ((i : Nat) : Int))], [(0, ⟨(a).flatMap encS, 1, [], 2⟩), (1, ⟨(b).flatMap encS, 1, [], 2⟩), (2, ⟨[.int .i64 p.1, .int .i64 p.2], 2, [], 1⟩)], 3⟩)
abbrev lsi_Iu (a b : List (Int × Int)) (i : Nat) (p : Int × Int) : Nat → AS := fun x => lsi_I a b i p x
abbrev lsi_vu (a b : List (Int × Int)) (i : Nat) (p : Int × Int) : Nat → Prop := fun x => lsi_inv a b i p x
abbrev lsi_m (a b : List (Int × Int)) (i : Nat) (p : Int × Int) : Nat → Nat := fun x => (fun (j : Nat) => b.length - j) x
theorem lsi_round (a b : List (Int × Int)) (i : Nat) (p : Int × Int) (h_b : b.length ≤ 4294967296) (j : Nat) (hinv : lsi_inv a b i p j) {ds : List Deferred} : Tr Try.prog none ⟨54, ds⟩ 2 (nthLoop Try.f225 1) (lsi_I a b i p j) (RK (lsi_vu a b i p) (lsi_Iu a b i p) (lsi_m a b i p) (lsi_K a b i p) j) := by
  have hdl := dropI_le b p.1
  by_cases h5002 : (((b.length - j : Nat) : Int) > 0)
  · skip
    obtain ⟨s1, hs1⟩ : ∃ s, b[j]? = some s := ⟨_, List.getElem?_eq_getElem (by omega)⟩
    by_cases h5010 : (s1.1 < p.1)
    · skip
      exact Tr.again (Inv := (lsi_vu a b i p)) (I := (lsi_Iu a b i p)) (m := (lsi_m a b i p)) (j + 1) (Tr.run follows_mixed (A := [(5002, aT h5002), (5005, aXo 0 (b.length - j) (j * 2) (j * 2) 2 (by omega) (by omega)), (5007, aL encS_k hs1), (5010, aT h5010), (6001, aSl 1 (b.length - j) (b.length - j) (j * 2) ((j + 1) * 2) 2 (by omega) (by omega) (by omega))]) (rows := [0, 1]) (by kernel_rfl) (.cons (fun _ => encS_sc _) (.cons (fun _ => encS_sc _) (.skip rfl .nil))) (le_ble rfl)) (show lsi_inv a b i p (j + 1) from (dropI_next hinv hs1 h5010)) (by show b.length - (j + 1) < b.length - j; omega)
    · skip
      have hj : j = dropI b p.1 := dropI_stop hinv hs1 h5010
      exact Tr.out (I := (lsi_Iu a b i p)) (m := (lsi_m a b i p)) (Tr.run follows_mixed (A := [(5002, aT h5002), (5005, aXo 0 (b.length - j) (j * 2) (j * 2) 2 (by omega) (by omega)), (5007, aL encS_k hs1), (5010, aF h5010)]) (rows := [0, 1]) (by kernel_rfl) (.cons (fun _ => encS_sc _) (.cons (fun _ => encS_sc _) (.skip rfl .nil))) (le_ble rfl)) ⟨rfl, (by rw [← hj])⟩ (by simp)
  · skip
    have hj : j = dropI b p.1 := by omega
    exact Tr.out (I := (lsi_Iu a b i p)) (m := (lsi_m a b i p)) (Tr.run follows_mixed (A := [(5002, aF h5002)]) (rows := [0, 1]) (by kernel_rfl) (.cons (fun _ => encS_sc _) (.cons (fun _ => encS_sc _) (.skip rfl .nil))) (le_ble rfl)) ⟨rfl, (by rw [← hj])⟩ (by simp)

theorem lsi_loop (a b : List (Int × Int)) (i : Nat) (p : Int × Int) (h_b : b.length ≤ 4294967296) (j : Nat) (hinv : lsi_inv a b i p j) {ds : List Deferred} : Tr Try.prog none ⟨54, ds⟩ 2 (.loop (nthLoop Try.f225 1)) (lsi_I a b i p j) (lsi_K a b i p) :=
  Tr.rounds (Inv := (lsi_vu a b i p)) (I := (lsi_Iu a b i p)) (m := (lsi_m a b i p)) (fun x h_0 => lsi_round a b i p h_b x h_0) j hinv
abbrev lso_I (a b : List (Int × Int)) (i : Nat) (j : Nat) : AS := ⟨[(1, .slice (some ⟨1, j * 2, none⟩) (b.length - j) (b.length - j + 1)), (6, .int .i64 0), (10, .slice (some ⟨0, 0, none⟩) a.length (a.length + 1)), (11, .int .i64 ((a.length : Nat) : Int)), (12, .int .i64 ((i : Nat) : Int))], [(0, ⟨(a).flatMap encS, 1, [], 2⟩), (1, ⟨(b).flatMap encS, 1, [], 2⟩)], 2⟩
abbrev lso_inv (a b : List (Int × Int)) (i : Nat) (j : Nat) : Prop := i ≤ a.length ∧ (∀ x ∈ a.take i, isLess b x = false) ∧ ∀ p ∈ a.drop i, j ≤ dropI b p.1
def lso_K (a b : List (Int × Int)) : Exit → AS → Prop := fun e s => (lessB a b = false ∧ e = .exit 0 ∧ s = ⟨[], [], 2⟩) ∨ (lessB a b = true ∧ e = .ret ∧ s = ⟨[(4, .int .i64 (lessP a b)), (5, .bool true)], [], 2⟩)
abbrev lso_Iu (a b : List (Int × Int)) : Nat × Nat → AS := fun x => lso_I a b x.1 x.2
abbrev lso_vu (a b : List (Int × Int)) : Nat × Nat → Prop := fun x => lso_inv a b x.1 x.2
abbrev lso_m (a b : List (Int × Int)) : Nat × Nat → Nat := fun x => (fun (i : Nat) (j : Nat) => a.length - i) x.1 x.2
theorem lso_round (a b : List (Int × Int)) (h_a : a.length ≤ 4294967296) (h_b : b.length ≤ 4294967296) (h_ra : Rises a) (h_rb : Rises b) (i : Nat) (j : Nat) (hinv : lso_inv a b i j) {ds : List Deferred} : Tr Try.prog none ⟨54, ds⟩ 2 (nthLoop Try.f225 0) (lso_I a b i j) (RK (lso_vu a b) (lso_Iu a b) (lso_m a b) (lso_K a b) (i, j)) := by
  obtain ⟨hi0, hx, hd⟩ := hinv
  by_cases h3000 : (((i : Nat) : Int) < ((a.length : Nat) : Int))
  · skip
    obtain ⟨s1, hs1⟩ : ∃ s, a[i]? = some s := ⟨_, List.getElem?_eq_getElem (by omega)⟩
    have hdl := dropI_le b s1.1
    by_cases h8002 : (((b.length - (dropI b s1.1) : Nat) : Int) > 0)
    · skip
      obtain ⟨s2, hs2⟩ : ∃ s, b[dropI b s1.1]? = some s := ⟨_, List.getElem?_eq_getElem (by omega)⟩
      by_cases h8010 : ((s2.1 : Int) = s1.1)
      · skip
        have ht : tot 0 s1.1 b = s2.2 := tot_at h_rb (List.mem_of_getElem? hs2) h8010
        by_cases h10003 : (s2.2 < s1.2)
        · skip
          have hl := less_some hx hs1 (by unfold isLess; rw [ht]; exact decide_eq_true h10003)
          exact Tr.out (I := (lso_Iu a b)) (m := (lso_m a b)) (Tr.run follows_mixed (A := [(3000, aT h3000), (4000, aX i a.length 2 (by omega)), (4001, aL encS_k hs1), (900000, .stmt (.loop (nthLoop Try.f225 1)) [0, 1] (lsi_I a b i s1 j) (.exit 2) ⟨[(1, .slice (some ⟨1, (dropI b s1.1) * 2, none⟩) (b.length - (dropI b s1.1)) (b.length - (dropI b s1.1) + 1)), (6, .int .i64 0), (8, .pointer (some ⟨2, 0, none⟩)), (10, .slice (some ⟨0, 0, none⟩) a.length (a.length + 1)), (11, .int .i64 ((a.length : Nat) : Int)), (12, .int .i64 ((i : Nat) : Int))], [(0, ⟨(a).flatMap encS, 1, [], 2⟩), (1, ⟨(b).flatMap encS, 1, [], 2⟩), (2, ⟨[.int .i64 s1.1, .int .i64 s1.2], 2, [], 1⟩)], 3⟩ (.cons (fun _ => encS_sc _) (.cons (fun _ => encS_sc _) (.skip rfl .nil))) (fun ds => (lsi_loop a b i s1 h_b j (hd s1 (by rw [drop_idx hs1]; simp))).pick (fun e s h => h)) (le_ble rfl)), (8002, aT h8002), (8005, aXo 0 (b.length - (dropI b s1.1)) ((dropI b s1.1) * 2) ((dropI b s1.1) * 2) 2 (by omega) (by omega)), (8007, aL encS_k hs2), (8010, aT h8010), (9001, aXo 0 (b.length - (dropI b s1.1)) ((dropI b s1.1) * 2) ((dropI b s1.1) * 2) 2 (by omega) (by omega)), (9003, aL encS_k hs2 1), (10003, aT h10003), (11002, aE (x := .int .i64 s1.1) (y := .int .i64 (lessP a b)) (by rw [hl.2]))]) (rows := []) (by kernel_rfl) .nil (le_ble rfl)) (.inr ⟨hl.1, rfl, rfl⟩) (by simp)
        · skip
          have hl := less_step hx hs1 (by unfold isLess; rw [ht]; exact decide_eq_false h10003)
          exact Tr.again (Inv := (lso_vu a b)) (I := (lso_Iu a b)) (m := (lso_m a b)) (i + 1, dropI b s1.1) (Tr.run follows_mixed (A := [(3000, aT h3000), (4000, aX i a.length 2 (by omega)), (4001, aL encS_k hs1), (900000, .stmt (.loop (nthLoop Try.f225 1)) [0, 1] (lsi_I a b i s1 j) (.exit 2) ⟨[(1, .slice (some ⟨1, (dropI b s1.1) * 2, none⟩) (b.length - (dropI b s1.1)) (b.length - (dropI b s1.1) + 1)), (6, .int .i64 0), (8, .pointer (some ⟨2, 0, none⟩)), (10, .slice (some ⟨0, 0, none⟩) a.length (a.length + 1)), (11, .int .i64 ((a.length : Nat) : Int)), (12, .int .i64 ((i : Nat) : Int))], [(0, ⟨(a).flatMap encS, 1, [], 2⟩), (1, ⟨(b).flatMap encS, 1, [], 2⟩), (2, ⟨[.int .i64 s1.1, .int .i64 s1.2], 2, [], 1⟩)], 3⟩ (.cons (fun _ => encS_sc _) (.cons (fun _ => encS_sc _) (.skip rfl .nil))) (fun ds => (lsi_loop a b i s1 h_b j (hd s1 (by rw [drop_idx hs1]; simp))).pick (fun e s h => h)) (le_ble rfl)), (8002, aT h8002), (8005, aXo 0 (b.length - (dropI b s1.1)) ((dropI b s1.1) * 2) ((dropI b s1.1) * 2) 2 (by omega) (by omega)), (8007, aL encS_k hs2), (8010, aT h8010), (9001, aXo 0 (b.length - (dropI b s1.1)) ((dropI b s1.1) * 2) ((dropI b s1.1) * 2) 2 (by omega) (by omega)), (9003, aL encS_k hs2 1), (10003, aF h10003), (12000, aI .i64 .i64 (((i : Nat) : Int) + 1) (((i + 1 : Nat) : Int)) (wrap_i64' (by omega) (by omega) (by omega)))]) (rows := [0, 1]) (by kernel_rfl) (.cons (fun _ => encS_sc _) (.cons (fun _ => encS_sc _) .nil)) (le_ble rfl)) (show lso_inv a b (i + 1) (dropI b s1.1) from ⟨by omega, hl, fun p hp => dropI_mono (by have hr : (a.drop i).Pairwise (fun x y => x.1 < y.1) := List.Pairwise.drop h_ra; rw [drop_idx hs1, List.pairwise_cons] at hr; have := hr.1 p hp; omega)⟩) (by show a.length - (i + 1) < a.length - i; omega)
      · skip
        have ht : tot 0 s1.1 b = 0 := tot_drop h_rb fun s hs => by rw [hs2] at hs; injection hs with hs; subst hs; exact h8010
        by_cases h10003 : (0 < s1.2)
        · skip
          have hl := less_some hx hs1 (by unfold isLess; rw [ht]; exact decide_eq_true h10003)
          exact Tr.out (I := (lso_Iu a b)) (m := (lso_m a b)) (Tr.run follows_mixed (A := [(3000, aT h3000), (4000, aX i a.length 2 (by omega)), (4001, aL encS_k hs1), (900000, .stmt (.loop (nthLoop Try.f225 1)) [0, 1] (lsi_I a b i s1 j) (.exit 2) ⟨[(1, .slice (some ⟨1, (dropI b s1.1) * 2, none⟩) (b.length - (dropI b s1.1)) (b.length - (dropI b s1.1) + 1)), (6, .int .i64 0), (8, .pointer (some ⟨2, 0, none⟩)), (10, .slice (some ⟨0, 0, none⟩) a.length (a.length + 1)), (11, .int .i64 ((a.length : Nat) : Int)), (12, .int .i64 ((i : Nat) : Int))], [(0, ⟨(a).flatMap encS, 1, [], 2⟩), (1, ⟨(b).flatMap encS, 1, [], 2⟩), (2, ⟨[.int .i64 s1.1, .int .i64 s1.2], 2, [], 1⟩)], 3⟩ (.cons (fun _ => encS_sc _) (.cons (fun _ => encS_sc _) (.skip rfl .nil))) (fun ds => (lsi_loop a b i s1 h_b j (hd s1 (by rw [drop_idx hs1]; simp))).pick (fun e s h => h)) (le_ble rfl)), (8002, aT h8002), (8005, aXo 0 (b.length - (dropI b s1.1)) ((dropI b s1.1) * 2) ((dropI b s1.1) * 2) 2 (by omega) (by omega)), (8007, aL encS_k hs2), (8010, aF h8010), (10003, aT h10003), (11002, aE (x := .int .i64 s1.1) (y := .int .i64 (lessP a b)) (by rw [hl.2]))]) (rows := []) (by kernel_rfl) .nil (le_ble rfl)) (.inr ⟨hl.1, rfl, rfl⟩) (by simp)
        · skip
          have hl := less_step hx hs1 (by unfold isLess; rw [ht]; exact decide_eq_false h10003)
          exact Tr.again (Inv := (lso_vu a b)) (I := (lso_Iu a b)) (m := (lso_m a b)) (i + 1, dropI b s1.1) (Tr.run follows_mixed (A := [(3000, aT h3000), (4000, aX i a.length 2 (by omega)), (4001, aL encS_k hs1), (900000, .stmt (.loop (nthLoop Try.f225 1)) [0, 1] (lsi_I a b i s1 j) (.exit 2) ⟨[(1, .slice (some ⟨1, (dropI b s1.1) * 2, none⟩) (b.length - (dropI b s1.1)) (b.length - (dropI b s1.1) + 1)), (6, .int .i64 0), (8, .pointer (some ⟨2, 0, none⟩)), (10, .slice (some ⟨0, 0, none⟩) a.length (a.length + 1)), (11, .int .i64 ((a.length : Nat) : Int)), (12, .int .i64 ((i : Nat) : Int))], [(0, ⟨(a).flatMap encS, 1, [], 2⟩), (1, ⟨(b).flatMap encS, 1, [], 2⟩), (2, ⟨[.int .i64 s1.1, .int .i64 s1.2], 2, [], 1⟩)], 3⟩ (.cons (fun _ => encS_sc _) (.cons (fun _ => encS_sc _) (.skip rfl .nil))) (fun ds => (lsi_loop a b i s1 h_b j (hd s1 (by rw [drop_idx hs1]; simp))).pick (fun e s h => h)) (le_ble rfl)), (8002, aT h8002), (8005, aXo 0 (b.length - (dropI b s1.1)) ((dropI b s1.1) * 2) ((dropI b s1.1) * 2) 2 (by omega) (by omega)), (8007, aL encS_k hs2), (8010, aF h8010), (10003, aF h10003), (12000, aI .i64 .i64 (((i : Nat) : Int) + 1) (((i + 1 : Nat) : Int)) (wrap_i64' (by omega) (by omega) (by omega)))]) (rows := [0, 1]) (by kernel_rfl) (.cons (fun _ => encS_sc _) (.cons (fun _ => encS_sc _) .nil)) (le_ble rfl)) (show lso_inv a b (i + 1) (dropI b s1.1) from ⟨by omega, hl, fun p hp => dropI_mono (by have hr : (a.drop i).Pairwise (fun x y => x.1 < y.1) := List.Pairwise.drop h_ra; rw [drop_idx hs1, List.pairwise_cons] at hr; have := hr.1 p hp; omega)⟩) (by show a.length - (i + 1) < a.length - i; omega)
    · skip
      have ht : tot 0 s1.1 b = 0 := tot_drop h_rb fun s hs => by have := (List.getElem?_eq_some_iff.1 hs).1; omega
      by_cases h10003 : (0 < s1.2)
      · skip
        have hl := less_some hx hs1 (by unfold isLess; rw [ht]; exact decide_eq_true h10003)
        exact Tr.out (I := (lso_Iu a b)) (m := (lso_m a b)) (Tr.run follows_mixed (A := [(3000, aT h3000), (4000, aX i a.length 2 (by omega)), (4001, aL encS_k hs1), (900000, .stmt (.loop (nthLoop Try.f225 1)) [0, 1] (lsi_I a b i s1 j) (.exit 2) ⟨[(1, .slice (some ⟨1, (dropI b s1.1) * 2, none⟩) (b.length - (dropI b s1.1)) (b.length - (dropI b s1.1) + 1)), (6, .int .i64 0), (8, .pointer (some ⟨2, 0, none⟩)), (10, .slice (some ⟨0, 0, none⟩) a.length (a.length + 1)), (11, .int .i64 ((a.length : Nat) : Int)), (12, .int .i64 ((i : Nat) : Int))], [(0, ⟨(a).flatMap encS, 1, [], 2⟩), (1, ⟨(b).flatMap encS, 1, [], 2⟩), (2, ⟨[.int .i64 s1.1, .int .i64 s1.2], 2, [], 1⟩)], 3⟩ (.cons (fun _ => encS_sc _) (.cons (fun _ => encS_sc _) (.skip rfl .nil))) (fun ds => (lsi_loop a b i s1 h_b j (hd s1 (by rw [drop_idx hs1]; simp))).pick (fun e s h => h)) (le_ble rfl)), (8002, aF h8002), (10003, aT h10003), (11002, aE (x := .int .i64 s1.1) (y := .int .i64 (lessP a b)) (by rw [hl.2]))]) (rows := []) (by kernel_rfl) .nil (le_ble rfl)) (.inr ⟨hl.1, rfl, rfl⟩) (by simp)
      · skip
        have hl := less_step hx hs1 (by unfold isLess; rw [ht]; exact decide_eq_false h10003)
        exact Tr.again (Inv := (lso_vu a b)) (I := (lso_Iu a b)) (m := (lso_m a b)) (i + 1, dropI b s1.1) (Tr.run follows_mixed (A := [(3000, aT h3000), (4000, aX i a.length 2 (by omega)), (4001, aL encS_k hs1), (900000, .stmt (.loop (nthLoop Try.f225 1)) [0, 1] (lsi_I a b i s1 j) (.exit 2) ⟨[(1, .slice (some ⟨1, (dropI b s1.1) * 2, none⟩) (b.length - (dropI b s1.1)) (b.length - (dropI b s1.1) + 1)), (6, .int .i64 0), (8, .pointer (some ⟨2, 0, none⟩)), (10, .slice (some ⟨0, 0, none⟩) a.length (a.length + 1)), (11, .int .i64 ((a.length : Nat) : Int)), (12, .int .i64 ((i : Nat) : Int))], [(0, ⟨(a).flatMap encS, 1, [], 2⟩), (1, ⟨(b).flatMap encS, 1, [], 2⟩), (2, ⟨[.int .i64 s1.1, .int .i64 s1.2], 2, [], 1⟩)], 3⟩ (.cons (fun _ => encS_sc _) (.cons (fun _ => encS_sc _) (.skip rfl .nil))) (fun ds => (lsi_loop a b i s1 h_b j (hd s1 (by rw [drop_idx hs1]; simp))).pick (fun e s h => h)) (le_ble rfl)), (8002, aF h8002), (10003, aF h10003), (12000, aI .i64 .i64 (((i : Nat) : Int) + 1) (((i + 1 : Nat) : Int)) (wrap_i64' (by omega) (by omega) (by omega)))]) (rows := [0, 1]) (by kernel_rfl) (.cons (fun _ => encS_sc _) (.cons (fun _ => encS_sc _) .nil)) (le_ble rfl)) (show lso_inv a b (i + 1) (dropI b s1.1) from ⟨by omega, hl, fun p hp => dropI_mono (by have hr : (a.drop i).Pairwise (fun x y => x.1 < y.1) := List.Pairwise.drop h_ra; rw [drop_idx hs1, List.pairwise_cons] at hr; have := hr.1 p hp; omega)⟩) (by show a.length - (i + 1) < a.length - i; omega)
  · skip
    exact Tr.out (I := (lso_Iu a b)) (m := (lso_m a b)) (Tr.run follows_mixed (A := [(3000, aF h3000)]) (rows := []) (by kernel_rfl) .nil (le_ble rfl)) (.inl ⟨(less_none hx (by omega)), rfl, rfl⟩) (by simp)

theorem lso_loop (a b : List (Int × Int)) (h_a : a.length ≤ 4294967296) (h_b : b.length ≤ 4294967296) (h_ra : Rises a) (h_rb : Rises b) (i : Nat) (j : Nat) (hinv : lso_inv a b i j) {ds : List Deferred} : Tr Try.prog none ⟨54, ds⟩ 2 (.loop (nthLoop Try.f225 0)) (lso_I a b i j) (lso_K a b) :=
  Tr.rounds (Inv := (lso_vu a b)) (I := (lso_Iu a b)) (m := (lso_m a b)) (fun x h_0 => lso_round a b h_a h_b h_ra h_rb x.1 x.2 h_0) (i, j) hinv
theorem less_ok2 (a b : List (Int × Int)) (h_a : a.length ≤ 4294967296) (h_b : b.length ≤ 4294967296) (h_ra : Rises a) (h_rb : Rises b) : FnC Try.prog 225 [.slice (some ⟨0, 0, none⟩) a.length (a.length + 1), .slice (some ⟨1, 0, none⟩) b.length (b.length + 1)] [(0, ⟨(a).flatMap encS, 1, [], 2⟩), (1, ⟨(b).flatMap encS, 1, [], 2⟩)] 2 (.tuple #[.int .i64 (if lessB a b then lessP a b else 0), .bool (lessB a b)]) 0 [] := by
  rcases Bool.eq_false_or_eq_true (lessB a b) with hz | hz
  · skip
    exact FnC.eq (v := .tuple #[.int .i64 (lessP a b), .bool true]) (FnC.run (m := false) follows_mixed has225 [(900000, .stmt (.loop (nthLoop Try.f225 0)) [0, 1] (lso_I a b 0 0) (.ret) ⟨[(4, .int .i64 (lessP a b)), (5, .bool true)], [], 2⟩ (.cons (fun _ => encS_sc _) (.cons (fun _ => encS_sc _) .nil)) (fun ds => (lso_loop a b h_a h_b h_ra h_rb 0 0 ⟨by omega, by simp, fun p hp => by omega⟩).pick (fun e s h => by rcases h with ⟨h0, _⟩ | ⟨_, h⟩; rw [hz] at h0; cases h0; exact h)) (le_ble rfl))] (by kernel_rfl) (by kernel_rfl) (.cons (encS_sc _) (.cons (encS_sc _) .nil)) .nil) (by rw [hz]; rfl)
  · skip
    exact FnC.eq (v := .tuple #[.int .i64 0, .bool false]) (FnC.run (m := false) follows_mixed has225 [(900000, .stmt (.loop (nthLoop Try.f225 0)) [0, 1] (lso_I a b 0 0) (.exit 0) ⟨[], [], 2⟩ (.cons (fun _ => encS_sc _) (.cons (fun _ => encS_sc _) .nil)) (fun ds => (lso_loop a b h_a h_b h_ra h_rb 0 0 ⟨by omega, by simp, fun p hp => by omega⟩).pick (fun e s h => by rcases h with ⟨_, h⟩ | ⟨h0, _⟩; exact h; rw [hz] at h0; cases h0)) (le_ble rfl))] (by kernel_rfl) (by kernel_rfl) (.cons (encS_sc _) (.cons (encS_sc _) .nil)) .nil) (by rw [hz]; rfl)
def hdS (s1 z1 c1 k1 s2 z2 c2 k2 : Int) : Int := if s1 ≠ s2 then 1 else if z1 ≠ z2 then 2 else if c2 < c1 then 3 else if k2 < k1 then 4 else 0
theorem heads_ok (s1 z1 c1 k1 s2 z2 c2 k2 : Int) : FnC Try.prog 155 [.agg #[.int .i64 s1, .int .u64 z1, .int .u64 c1, .int .u64 k1], .agg #[.int .i64 s2, .int .u64 z2, .int .u64 c2, .int .u64 k2]] [] 0 (.int .i64 (hdS s1 z1 c1 k1 s2 z2 c2 k2)) 0 [] := by
  by_cases h1004 : ((s1 : Int) = s2)
  · skip
    by_cases h3004 : ((z1 : Int) = z2)
    · skip
      by_cases h5004 : (c2 < c1)
      · skip
        exact FnC.eq (v := .int .i64 3) (FnC.run (m := false) follows_mixed has155 [(1004, aNT h1004), (3004, aNT h3004), (5004, aT h5004)] (by kernel_rfl) (by kernel_rfl) .nil .nil) (by simp_all [hdS] <;> omega)
      · skip
        by_cases h7004 : (k2 < k1)
        · skip
          exact FnC.eq (v := .int .i64 4) (FnC.run (m := false) follows_mixed has155 [(1004, aNT h1004), (3004, aNT h3004), (5004, aF h5004), (7004, aT h7004)] (by kernel_rfl) (by kernel_rfl) .nil .nil) (by simp_all [hdS] <;> omega)
        · skip
          exact FnC.eq (v := .int .i64 0) (FnC.run (m := false) follows_mixed has155 [(1004, aNT h1004), (3004, aNT h3004), (5004, aF h5004), (7004, aF h7004)] (by kernel_rfl) (by kernel_rfl) .nil .nil) (by simp_all [hdS] <;> omega)
    · skip
      exact FnC.eq (v := .int .i64 2) (FnC.run (m := false) follows_mixed has155 [(1004, aNT h1004), (3004, aNF h3004)] (by kernel_rfl) (by kernel_rfl) .nil .nil) (by simp_all [hdS] <;> omega)
  · skip
    exact FnC.eq (v := .int .i64 1) (FnC.run (m := false) follows_mixed has155 [(1004, aNF h1004)] (by kernel_rfl) (by kernel_rfl) .nil .nil) (by simp_all [hdS] <;> omega)
def verW (w : Int) (p q r s : List (Int × Int)) : Int := if w ≠ 0 then w else if lessB p r then 5 else if lessB q s then 6 else 0
def verP (w : Int) (p q r s : List (Int × Int)) : Int := if w ≠ 0 then 0 else if lessB p r then lessP p r else if lessB q s then lessP q s else 0
structure PQOK (p : List (Int × Int)) : Prop where
  len : p.length ≤ 4294967296
  up : Rises p
theorem verdict_ok (w : Int) (p q r s : List (Int × Int)) (h_p : PQOK p) (h_q : PQOK q) (h_r : PQOK r) (h_s : PQOK s) : FnC Try.prog 154 [.int .i64 w, .agg #[.slice (some ⟨0, 0, none⟩) p.length (p.length + 1), .slice (some ⟨1, 0, none⟩) q.length (q.length + 1)], .agg #[.slice (some ⟨2, 0, none⟩) r.length (r.length + 1), .slice (some ⟨3, 0, none⟩) s.length (s.length + 1)]] [(0, ⟨(p).flatMap encS, 1, [], 2⟩), (1, ⟨(q).flatMap encS, 1, [], 2⟩), (2, ⟨(r).flatMap encS, 1, [], 2⟩), (3, ⟨(s).flatMap encS, 1, [], 2⟩)] 4 (.agg #[.int .i64 (verW w p q r s), .int .i64 (verP w p q r s)]) 0 [] := by
  by_cases h1001 : ((w : Int) = 0)
  · skip
    cases h3007 : (lessB (p) (r)) with
    | true =>
      exact FnC.eq (v := .agg #[.int .i64 5, .int .i64 (if lessB (p) (r) then lessP (p) (r) else 0)]) (FnC.run (m := false) follows_mixed has154 [(1001, aNT h1001), (3004, aC (less_ok2 (p) (r) h_p.len h_r.len h_p.up h_r.up)), (3007, aB h3007)] (by kernel_rfl) (by kernel_rfl) (.cons (encS_sc _) (.cons (encS_sc _) (.cons (encS_sc _) (.cons (encS_sc _) .nil)))) .nil) (by simp_all [verW, verP])
    | false =>
      cases h6007 : (lessB (q) (s)) with
      | true =>
        exact FnC.eq (v := .agg #[.int .i64 6, .int .i64 (if lessB (q) (s) then lessP (q) (s) else 0)]) (FnC.run (m := false) follows_mixed has154 [(1001, aNT h1001), (3004, aC (less_ok2 (p) (r) h_p.len h_r.len h_p.up h_r.up)), (3007, aB h3007), (6004, aC (less_ok2 (q) (s) h_q.len h_s.len h_q.up h_s.up)), (6007, aB h6007)] (by kernel_rfl) (by kernel_rfl) (.cons (encS_sc _) (.cons (encS_sc _) (.cons (encS_sc _) (.cons (encS_sc _) .nil)))) .nil) (by simp_all [verW, verP])
      | false =>
        exact FnC.eq (v := .agg #[.int .i64 0, .int .i64 0]) (FnC.run (m := false) follows_mixed has154 [(1001, aNT h1001), (3004, aC (less_ok2 (p) (r) h_p.len h_r.len h_p.up h_r.up)), (3007, aB h3007), (6004, aC (less_ok2 (q) (s) h_q.len h_s.len h_q.up h_s.up)), (6007, aB h6007)] (by kernel_rfl) (by kernel_rfl) (.cons (encS_sc _) (.cons (encS_sc _) (.cons (encS_sc _) (.cons (encS_sc _) .nil)))) .nil) (by simp_all [verW, verP])
  · skip
    exact FnC.eq (v := .agg #[.int .i64 w, .int .i64 0]) (FnC.run (m := false) follows_mixed has154 [(1001, aNF h1001)] (by kernel_rfl) (by kernel_rfl) (.cons (encS_sc _) (.cons (encS_sc _) (.cons (encS_sc _) (.cons (encS_sc _) .nil)))) .nil) (by simp_all [verW, verP])
theorem sides_ok (h : HI) (h_w : HWf h) : FnC Try.prog 153 [.agg #[.int .i64 h.schema, .int .u64 h.zero, .int .u64 h.zc, .int .u64 h.count, .int .u64 h.sum, .slice (some ⟨0, 0, none⟩) h.pos.length (h.pos.length + 1), .slice (some ⟨1, 0, none⟩) h.neg.length (h.neg.length + 1), .slice (some ⟨2, 0, none⟩) h.pd.length (h.pd.length + 1), .slice (some ⟨3, 0, none⟩) h.nd.length (h.nd.length + 1)], .func (.func 69) #[] #[]] [(0, ⟨(h.pos).flatMap encS, 1, [], 2⟩), (1, ⟨(h.neg).flatMap encS, 1, [], 2⟩), (2, ⟨(h.pd).flatMap encI, 1, [], 1⟩), (3, ⟨(h.nd).flatMap encI, 1, [], 1⟩)] 4 (.tuple #[.agg #[.slice (some ⟨4, 0, none⟩) ((posR h).length) ((posR h).length + 1), .slice (some ⟨5, 0, none⟩) ((negR h).length) ((negR h).length + 1)], .int .i64 (openE h)]) 2 [(4, ⟨(posR h).flatMap encS, 2, [], 2⟩), (5, ⟨(negR h).flatMap encS, 2, [], 2⟩)] := by
  by_cases h4001 : ((openE h : Int) = 0)
  · skip
    exact FnC.run (m := false) follows_mixed has153 [(3002, aC (hpairs0_ok h h_w)), (4001, aT h4001), (5002, aC (hpairs1_ok h h_w))] (by kernel_rfl) (by kernel_rfl) (.cons (encS_sc _) (.cons (encS_sc _) (.cons (encI_sc _) (.cons (encI_sc _) .nil)))) (.cons (encS_sc _) (.cons (encS_sc _) .nil))
  · skip
    rw [negR_bad h4001]
    exact FnC.run (m := false) follows_mixed has153 [(3002, aC (hpairs0_ok h h_w)), (4001, aF h4001)] (by kernel_rfl) (by kernel_rfl) (.cons (encS_sc _) (.cons (encS_sc _) (.cons (encI_sc _) (.cons (encI_sc _) .nil)))) (.cons (encS_sc _) (.cons (encS_sc _) .nil))
def rsH (a b : HI) : Int := hdS a.schema a.zero a.count a.zc b.schema b.zero b.count b.zc
def rsE (a b : HI) : Int := if openE a ≠ 0 then openE a else openE b
def rsW (a b : HI) : Int := if rsE a b ≠ 0 then 0 else verW (rsH a b) (posR a) (negR a) (posR b) (negR b)
def rsP (a b : HI) : Int := if rsE a b ≠ 0 then 0 else verP (rsH a b) (posR a) (negR a) (posR b) (negR b)
theorem posR_pq (h : HI) : PQOK (posR h) := ⟨Nat.le_trans (posR_len h) (by decide), posR_rises h⟩
theorem negR_pq (h : HI) : PQOK (negR h) := ⟨Nat.le_trans (negR_len h) (by decide), negR_rises h⟩
theorem rsints_ok (a b : HI) (h_a : HWf a) (h_b : HWf b) : FnC Try.prog 73 [.agg #[.int .i64 a.schema, .int .u64 a.zero, .int .u64 a.zc, .int .u64 a.count, .int .u64 a.sum, .slice (some ⟨0, 0, none⟩) a.pos.length (a.pos.length + 1), .slice (some ⟨1, 0, none⟩) a.neg.length (a.neg.length + 1), .slice (some ⟨2, 0, none⟩) a.pd.length (a.pd.length + 1), .slice (some ⟨3, 0, none⟩) a.nd.length (a.nd.length + 1)], .agg #[.int .i64 b.schema, .int .u64 b.zero, .int .u64 b.zc, .int .u64 b.count, .int .u64 b.sum, .slice (some ⟨4, 0, none⟩) b.pos.length (b.pos.length + 1), .slice (some ⟨5, 0, none⟩) b.neg.length (b.neg.length + 1), .slice (some ⟨6, 0, none⟩) b.pd.length (b.pd.length + 1), .slice (some ⟨7, 0, none⟩) b.nd.length (b.nd.length + 1)]] [(0, ⟨(a.pos).flatMap encS, 1, [], 2⟩), (1, ⟨(a.neg).flatMap encS, 1, [], 2⟩), (2, ⟨(a.pd).flatMap encI, 1, [], 1⟩), (3, ⟨(a.nd).flatMap encI, 1, [], 1⟩), (4, ⟨(b.pos).flatMap encS, 1, [], 2⟩), (5, ⟨(b.neg).flatMap encS, 1, [], 2⟩), (6, ⟨(b.pd).flatMap encI, 1, [], 1⟩), (7, ⟨(b.nd).flatMap encI, 1, [], 1⟩)] 8 (.tuple #[.agg #[.int .i64 (rsW a b), .int .i64 (rsP a b)], .int .i64 (rsE a b)]) 0 [] := by
  by_cases h2001 : ((openE a : Int) = 0)
  · skip
    by_cases h5001 : ((openE b : Int) = 0)
    · skip
      exact FnC.eq (v := .tuple #[.agg #[.int .i64 (verW (hdS (a.schema) (a.zero) (a.count) (a.zc) (b.schema) (b.zero) (b.count) (b.zc)) (posR a) (negR a) (posR b) (negR b)), .int .i64 (verP (hdS (a.schema) (a.zero) (a.count) (a.zc) (b.schema) (b.zero) (b.count) (b.zc)) (posR a) (negR a) (posR b) (negR b))], .int .i64 0]) (FnC.run (m := false) follows_mixed has73 [(1001, aC (sides_ok a h_a)), (2001, aNT h2001), (4001, aC (sides_ok b h_b)), (5001, aNT h5001), (7018, aC (heads_ok (a.schema) (a.zero) (a.count) (a.zc) (b.schema) (b.zero) (b.count) (b.zc))), (7021, aC (verdict_ok (hdS (a.schema) (a.zero) (a.count) (a.zc) (b.schema) (b.zero) (b.count) (b.zc)) (posR a) (negR a) (posR b) (negR b) (posR_pq a) (negR_pq a) (posR_pq b) (negR_pq b)))] (by kernel_rfl) (by kernel_rfl) (.cons (encS_sc _) (.cons (encS_sc _) (.cons (encI_sc _) (.cons (encI_sc _) (.cons (encS_sc _) (.cons (encS_sc _) (.cons (encI_sc _) (.cons (encI_sc _) .nil)))))))) .nil) (by simp_all [rsW, rsP, rsE, rsH])
    · skip
      exact FnC.eq (v := .tuple #[.agg #[.int .i64 0, .int .i64 0], .int .i64 (openE b)]) (FnC.run (m := false) follows_mixed has73 [(1001, aC (sides_ok a h_a)), (2001, aNT h2001), (4001, aC (sides_ok b h_b)), (5001, aNF h5001)] (by kernel_rfl) (by kernel_rfl) (.cons (encS_sc _) (.cons (encS_sc _) (.cons (encI_sc _) (.cons (encI_sc _) (.cons (encS_sc _) (.cons (encS_sc _) (.cons (encI_sc _) (.cons (encI_sc _) .nil)))))))) .nil) (by simp_all [rsW, rsP, rsE, rsH])
  · skip
    exact FnC.eq (v := .tuple #[.agg #[.int .i64 0, .int .i64 0], .int .i64 (openE a)]) (FnC.run (m := false) follows_mixed has73 [(1001, aC (sides_ok a h_a)), (2001, aNF h2001)] (by kernel_rfl) (by kernel_rfl) (.cons (encS_sc _) (.cons (encS_sc _) (.cons (encI_sc _) (.cons (encI_sc _) (.cons (encS_sc _) (.cons (encS_sc _) (.cons (encI_sc _) (.cons (encI_sc _) .nil)))))))) .nil) (by simp_all [rsW, rsP, rsE, rsH])
end Go.Am
