/-
Package scale: the wider bucket; what has nothing left out.
-/
import Derived.Test.YtbihgmehjhlojaaPla
set_option linter.unusedVariables false
set_option linter.unusedSimpArgs false
set_option maxRecDepth 100000
namespace Go.Am
open Go Go.RowKit Go.Proofs
theorem has54 : Has Try.prog 54 Try.f54 (bodyOf Try.f54) := ⟨Try.func54, by kernel_rfl, by kernel_rfl⟩
theorem has55 : Has Try.prog 55 Try.f55 (bodyOf Try.f55) := ⟨Try.func55, by kernel_rfl, by kernel_rfl⟩
theorem has134 : Has Try.prog 134 Try.f134 (bodyOf Try.f134) := ⟨Try.func134, by kernel_rfl, by kernel_rfl⟩
theorem has132 : Has Try.prog 132 Try.f132 (bodyOf Try.f132) := ⟨Try.func132, by kernel_rfl, by kernel_rfl⟩
theorem has127 : Has Try.prog 127 Try.f127 (bodyOf Try.f127) := ⟨Try.func127, by kernel_rfl, by kernel_rfl⟩
theorem has214 : Has Try.prog 214 Try.f214 (bodyOf Try.f214) := ⟨Try.func214, by kernel_rfl, by kernel_rfl⟩
theorem has264 : Has Try.prog 264 Try.f264 (bodyOf Try.f264) := ⟨Try.func264, by kernel_rfl, by kernel_rfl⟩
theorem has215 : Has Try.prog 215 Try.f215 (bodyOf Try.f215) := ⟨Try.func215, by kernel_rfl, by kernel_rfl⟩
theorem has216 : Has Try.prog 216 Try.f216 (bodyOf Try.f216) := ⟨Try.func216, by kernel_rfl, by kernel_rfl⟩
theorem place_ok (i b : Int) (h_i : I64 i) : FnC Try.prog 54 [.int .i64 i, .int .i64 b] [] 0 (.int .i64 (placeS i b)) 0 [] := by
  by_cases h1001 : (b < 0)
  · skip
    exact FnC.eq (v := .int .i64 i) (FnC.run (m := false) follows_mixed has54 [(1001, aT h1001)] (by kernel_rfl) (by kernel_rfl) .nil .nil) (by unfold placeS; rw [if_pos (by omega)])
  · skip
    by_cases h1004 : (b > 62)
    · skip
      exact FnC.eq (v := .int .i64 i) (FnC.run (m := false) follows_mixed has54 [(1001, aF h1001), (1004, aT h1004)] (by kernel_rfl) (by kernel_rfl) .nil .nil) (by unfold placeS; rw [if_pos (by omega)])
    · skip
      have hn : b.toNat ≤ 62 := by omega
      obtain ⟨f1, f2, f3, f4, f5, f6⟩ := floor_facts h_i hn
      have hc := cdiv_floor h_i hn
      have hp : placeS i b = cdiv i (2 ^ b.toNat) := by unfold placeS; rw [if_neg (by omega)]
      have hw : IntKind.i64.wrap (i / 2 ^ b.toNat * 2 ^ b.toNat) = i / 2 ^ b.toNat * 2 ^ b.toNat := wrap_i64 f3 (by have := h_i.2; omega)
      by_cases h4004 : ((i / 2 ^ b.toNat * 2 ^ b.toNat : Int) = i)
      · skip
        exact FnC.eq (v := .int .i64 (i / 2 ^ b.toNat)) (FnC.run (m := false) follows_mixed has54 [(1001, aF h1001), (1004, aF h1004), (3002, aBin (shr_val (i := i) (b := b) (t := 3) (x := (.tmp 13)) (y := (.tmp 14)) (by omega) (by omega))), (4002, aBin (v := .int .i64 (i / 2 ^ b.toNat * 2 ^ b.toNat)) (by rw [← hw]; exact shl_val (i := i / 2 ^ b.toNat) (b := b) (t := 3) (x := (.tmp 16)) (y := (.tmp 17)) (by omega) (by omega))), (4004, aNT h4004)] (by kernel_rfl) (by kernel_rfl) .nil .nil) (by rw [hp, hc, if_pos h4004])
      · skip
        exact FnC.eq (v := .int .i64 (i / 2 ^ b.toNat + 1)) (FnC.run (m := false) follows_mixed has54 [(1001, aF h1001), (1004, aF h1004), (3002, aBin (shr_val (i := i) (b := b) (t := 3) (x := (.tmp 13)) (y := (.tmp 14)) (by omega) (by omega))), (4002, aBin (v := .int .i64 (i / 2 ^ b.toNat * 2 ^ b.toNat)) (by rw [← hw]; exact shl_val (i := i / 2 ^ b.toNat) (b := b) (t := 3) (x := (.tmp 16)) (y := (.tmp 17)) (by omega) (by omega))), (4004, aNF h4004), (5001, aI .i64 .i64 (i / 2 ^ b.toNat + 1) (i / 2 ^ b.toNat + 1) (wrap_i64 (by omega) (by omega)))] (by kernel_rfl) (by kernel_rfl) .nil .nil) (by rw [hp, hc, if_neg h4004])
abbrev rpl_I (i b : Int) (k : Nat) : AS := ⟨[(0, .int .i64 i), (1, .int .i64 b), (5, .int .i64 (2 ^ k)), (6, .int .i64 ((k : Nat) : Int))], [], 0⟩
abbrev rpl_inv (i b : Int) (k : Nat) : Prop := (k : Int) ≤ b
def rpl_K (i b : Int) : Exit → AS → Prop := fun e s => (e = .exit 0 ∧ s = ⟨[(0, .int .i64 i), (5, .int .i64 (2 ^ b.toNat))], [], 0⟩)
abbrev rpl_Iu (i b : Int) : Nat → AS := fun x => rpl_I i b x
abbrev rpl_vu (i b : Int) : Nat → Prop := fun x => rpl_inv i b x
abbrev rpl_m (i b : Int) : Nat → Nat := fun x => (fun (k : Nat) => b.toNat - k) x
theorem rpl_round (i b : Int) (h_b : 0 ≤ b) (h_c : b ≤ 62) (k : Nat) (hinv : rpl_inv i b k) {ds : List Deferred} : Tr Try.prog none ⟨37, ds⟩ 0 (nthLoop Try.f55 0) (rpl_I i b k) (RK (rpl_vu i b) (rpl_Iu i b) (rpl_m i b) (rpl_K i b) k) := by
  have hi := hinv
  by_cases h5002 : (((k : Nat) : Int) < b)
  · skip
    exact Tr.again (Inv := (rpl_vu i b)) (I := (rpl_Iu i b)) (m := (rpl_m i b)) (k + 1) (Tr.run follows_mixed (A := [(5002, aT h5002), (7001, aI .i64 .i64 ((2 ^ k) * 2) (2 ^ (k + 1)) (wrap_i64' (by rw [Int.pow_succ]) (by have := two_pow_pos (k + 1); omega) (by have := two_pow_le (n := k + 1) (by omega); omega))), (6001, aI .i64 .i64 (((k : Nat) : Int) + 1) (((k + 1 : Nat) : Int)) (wrap_i64' (by omega) (by omega) (by omega)))]) (rows := []) (by kernel_rfl) .nil (le_ble rfl)) (show rpl_inv i b (k + 1) from (by show ((k + 1 : Nat) : Int) ≤ b; omega)) (by show b.toNat - (k + 1) < b.toNat - k; omega)
  · skip
    have hk : k = b.toNat := by omega
    subst hk
    exact Tr.out (I := (rpl_Iu i b)) (m := (rpl_m i b)) (Tr.run follows_mixed (A := [(5002, aF h5002)]) (rows := []) (by kernel_rfl) .nil (le_ble rfl)) ⟨rfl, rfl⟩ (by simp)

theorem rpl_loop (i b : Int) (h_b : 0 ≤ b) (h_c : b ≤ 62) (k : Nat) (hinv : rpl_inv i b k) {ds : List Deferred} : Tr Try.prog none ⟨37, ds⟩ 0 (.loop (nthLoop Try.f55 0)) (rpl_I i b k) (rpl_K i b) :=
  Tr.rounds (Inv := (rpl_vu i b)) (I := (rpl_Iu i b)) (m := (rpl_m i b)) (fun x h => rpl_round i b h_b h_c x h) k hinv
theorem rplace_ok (i b : Int) (h_i : I64 i) : FnC Try.prog 55 [.int .i64 i, .int .i64 b] [] 0 (.int .i64 (placeS i b)) 0 [] := by
  by_cases h1001 : (b < 0)
  · skip
    exact FnC.eq (v := .int .i64 i) (FnC.run (m := false) follows_mixed has55 [(1001, aT h1001)] (by kernel_rfl) (by kernel_rfl) .nil .nil) (by unfold placeS; rw [if_pos (by omega)])
  · skip
    by_cases h1004 : (b > 62)
    · skip
      exact FnC.eq (v := .int .i64 i) (FnC.run (m := false) follows_mixed has55 [(1001, aF h1001), (1004, aT h1004)] (by kernel_rfl) (by kernel_rfl) .nil .nil) (by unfold placeS; rw [if_pos (by omega)])
    · skip
      have h_b : 0 ≤ b := by omega
      have h_c : b ≤ 62 := by omega
      have hn : b.toNat ≤ 62 := by omega
      obtain ⟨f1, f2, f3, f4, f5, f6⟩ := floor_facts h_i hn
      have ht := tdiv_in (n := b.toNat) h_i
      have hc := cdiv_tdiv h_i hn
      have hp : placeS i b = cdiv i (2 ^ b.toNat) := by unfold placeS; rw [if_neg (by omega)]
      by_cases h9001 : (i > 0)
      · skip
        have he := Int.tdiv_eq_ediv_of_nonneg (b := 2 ^ b.toNat) (show 0 ≤ i by omega)
        have hI := h_i.2
        have hb1 : 0 ≤ i.tdiv (2 ^ b.toNat) * 2 ^ b.toNat := by rw [he]; exact Int.mul_nonneg (Int.ediv_nonneg (by omega) (Int.le_of_lt (two_pow_pos _))) (Int.le_of_lt (two_pow_pos _))
        have hb2 : i.tdiv (2 ^ b.toNat) * 2 ^ b.toNat ≤ i := by rw [he]; exact f1
        by_cases h9007 : ((i.tdiv (2 ^ b.toNat) * 2 ^ b.toNat : Int) = i)
        · skip
          exact FnC.eq (v := .int .i64 (i.tdiv (2 ^ b.toNat))) (FnC.run (m := false) follows_mixed has55 [(1001, aF h1001), (1004, aF h1004), (900000, .stmt (.loop (nthLoop Try.f55 0)) [] (rpl_I i b 0) (.exit 0) ⟨[(0, .int .i64 i), (5, .int .i64 (2 ^ b.toNat))], [], 0⟩ .nil (fun ds => (rpl_loop i b h_b h_c 0 (by show ((0 : Nat) : Int) ≤ b; omega)).pick (fun e s h => h)) (le_ble rfl)), (8002, aBin (v := .int .i64 (i.tdiv (2 ^ b.toNat))) (by rw [← wrap_i64 ht.1 ht.2]; exact quo_val (i := i) (b := 2 ^ b.toNat) (t := 3) (x := (.tmp 22)) (y := (.tmp 23)) (by have := two_pow_pos b.toNat; omega))), (9001, aT h9001), (9005, aI .i64 .i64 ((i.tdiv (2 ^ b.toNat)) * (2 ^ b.toNat)) (i.tdiv (2 ^ b.toNat) * 2 ^ b.toNat) (wrap_i64 (by omega) (by omega))), (9007, aNT h9007)] (by kernel_rfl) (by kernel_rfl) .nil .nil) (by rw [hp, hc, if_neg (by intro q; exact q.2 h9007)])
        · skip
          have hne : i / 2 ^ b.toNat ≤ 4611686018427387904 := f6 (by rw [← he]; exact h9007)
          rw [← he] at hne
          have ht1 := ht.1
          exact FnC.eq (v := .int .i64 (i.tdiv (2 ^ b.toNat) + 1)) (FnC.run (m := false) follows_mixed has55 [(1001, aF h1001), (1004, aF h1004), (900000, .stmt (.loop (nthLoop Try.f55 0)) [] (rpl_I i b 0) (.exit 0) ⟨[(0, .int .i64 i), (5, .int .i64 (2 ^ b.toNat))], [], 0⟩ .nil (fun ds => (rpl_loop i b h_b h_c 0 (by show ((0 : Nat) : Int) ≤ b; omega)).pick (fun e s h => h)) (le_ble rfl)), (8002, aBin (v := .int .i64 (i.tdiv (2 ^ b.toNat))) (by rw [← wrap_i64 ht.1 ht.2]; exact quo_val (i := i) (b := 2 ^ b.toNat) (t := 3) (x := (.tmp 22)) (y := (.tmp 23)) (by have := two_pow_pos b.toNat; omega))), (9001, aT h9001), (9005, aI .i64 .i64 ((i.tdiv (2 ^ b.toNat)) * (2 ^ b.toNat)) (i.tdiv (2 ^ b.toNat) * 2 ^ b.toNat) (wrap_i64 (by omega) (by omega))), (9007, aNF h9007), (10001, aI .i64 .i64 (i.tdiv (2 ^ b.toNat) + 1) (i.tdiv (2 ^ b.toNat) + 1) (wrap_i64 (by omega) (by omega)))] (by kernel_rfl) (by kernel_rfl) .nil .nil) (by rw [hp, hc, if_pos ⟨h9001, h9007⟩])
      · skip
        exact FnC.eq (v := .int .i64 (i.tdiv (2 ^ b.toNat))) (FnC.run (m := false) follows_mixed has55 [(1001, aF h1001), (1004, aF h1004), (900000, .stmt (.loop (nthLoop Try.f55 0)) [] (rpl_I i b 0) (.exit 0) ⟨[(0, .int .i64 i), (5, .int .i64 (2 ^ b.toNat))], [], 0⟩ .nil (fun ds => (rpl_loop i b h_b h_c 0 (by show ((0 : Nat) : Int) ≤ b; omega)).pick (fun e s h => h)) (le_ble rfl)), (8002, aBin (v := .int .i64 (i.tdiv (2 ^ b.toNat))) (by rw [← wrap_i64 ht.1 ht.2]; exact quo_val (i := i) (b := 2 ^ b.toNat) (t := 3) (x := (.tmp 22)) (y := (.tmp 23)) (by have := two_pow_pos b.toNat; omega))), (9001, aF h9001)] (by kernel_rfl) (by kernel_rfl) .nil .nil) (by rw [hp, hc, if_neg (by intro q; exact h9001 q.1)])
theorem whole_ok (a b : Int) (h_a : N63 a) (h_b : N63 b) : FnC Try.prog 134 [.int .i64 a, .int .i64 b] [] 0 (.tuple #[.int .i64 (IntKind.i64.wrap (a + b)), .bool (decide (a + b ≤ 9223372036854775807))]) 0 [] := by
  unfold N63 at h_a h_b
  exact FnC.eq (v := .tuple #[.int .i64 (IntKind.i64.wrap (a + b)), .bool (decide (a ≤ 9223372036854775807 - b))]) (FnC.run (m := false) follows_mixed has134 [(1005, aI .i64 .i64 (9223372036854775807 - b) (9223372036854775807 - b) (wrap_i64 (by omega) (by omega)))] (by kernel_rfl) (by kernel_rfl) .nil .nil) (by congr 5 <;> simp <;> omega)
def wrongS (from_ to : Int) : Bool := decide (to < -4) || decide (to > from_)
theorem wrong_ok (a b : Int) : FnC Try.prog 132 [.int .i64 a, .int .i64 b] [] 0 (.bool (wrongS a b)) 0 [] := by
  by_cases h1001 : (b < -4)
  · skip
    exact FnC.eq (v := .bool true) (FnC.run (m := false) follows_mixed has132 [(1001, aT h1001)] (by kernel_rfl) (by kernel_rfl) .nil .nil) (by simp [wrongS] <;> omega)
  · skip
    exact FnC.eq (v := .bool (decide (b > a))) (FnC.run (m := false) follows_mixed has132 [(1001, aF h1001)] (by kernel_rfl) (by kernel_rfl) .nil .nil) (by simp [wrongS] <;> omega)

/-! ### without those that have nothing -/
def nz (l : List (Int × Int)) : List (Int × Int) := l.filter fun x => !decide (x.2 = 0)
abbrev z0 : Int × Int → Bool := fun x => decide (x.2 = 0)
theorem nz_next {l : List (Int × Int)} {j : Nat} {s : Int × Int} (h : l[j]? = some s) : nz (l.take (j + 1)) = nz (l.take j) ++ (if s.2 = 0 then [] else [s]) := by
  rw [take_next h]; unfold nz; rw [List.filter_append]
  by_cases hs : s.2 = 0 <;> simp [hs]
theorem nz_none {l : List (Int × Int)} (h : l.any z0 = false) : nz l = l := by
  unfold nz
  rw [List.filter_eq_self]
  simpa using h
theorem nz_first {l : List (Int × Int)} (h : l.any z0 = true) : l.findIdx z0 < l.length ∧ nz (l.take (l.findIdx z0 + 1)) = l.take (l.findIdx z0) := by
  have hi : l.findIdx z0 < l.length := List.findIdx_lt_length.2 (by simpa using h)
  refine ⟨hi, ?_⟩
  have hs : l[l.findIdx z0]? = some l[l.findIdx z0] := List.getElem?_eq_getElem hi
  have hp : z0 l[l.findIdx z0] = true := List.findIdx_getElem
  rw [nz_next hs, if_pos (by simpa using hp), List.append_nil]
  refine nz_none ?_
  rw [List.any_eq_false]
  intro x hx
  obtain ⟨k, hk, rfl⟩ := List.mem_iff_getElem.1 hx
  have hk2 : k < l.findIdx z0 := by simp at hk; omega
  have := List.not_of_lt_findIdx hk2
  simpa using this
theorem take_set {α : Type} {l : List α} {i : Nat} {s : α} (h : i < l.length) : (l.set i s).take (i + 1) = l.take i ++ [s] := by
  rw [List.take_add_one, List.take_set_of_le (Nat.le_refl _)]
  simp [h]
theorem drop_at {α : Type} {r l : List α} {j : Nat} {s : α} (h : r.drop j = l.drop j) (hs : r[j]? = some s) : l[j]? = some s := by
  have h1 : (r.drop j)[0]? = some s := by rw [List.getElem?_drop]; simpa using hs
  rw [h, List.getElem?_drop] at h1
  simpa using h1
theorem drop_next {α : Type} {r l : List α} {j : Nat} (h : r.drop j = l.drop j) : r.drop (j + 1) = l.drop (j + 1) := by
  have := congrArg (List.drop 1) h
  simpa [List.drop_drop] using this
def cmp (l : List (Int × Int)) (j : Nat) : List (Int × Int) := nz (l.take j) ++ l.drop (nz (l.take j)).length
theorem nz_le (l : List (Int × Int)) (j : Nat) : (nz (l.take j)).length ≤ j := Nat.le_trans (List.length_filter_le _ _) (by simp; omega)
theorem cmp_len {l : List (Int × Int)} {j : Nat} (h : j ≤ l.length) : (cmp l j).length = l.length := by
  have := nz_le l j
  unfold cmp; simp; omega
theorem cmp_at {l : List (Int × Int)} {j : Nat} (h : j ≤ l.length) : (cmp l j)[j]? = l[j]? := by
  have := nz_le l j
  unfold cmp
  rw [List.getElem?_append_right this, List.getElem?_drop]
  congr 1; omega
theorem cmp_all {l : List (Int × Int)} : (cmp l l.length).take (nz (l.take l.length)).length = nz l := by
  unfold cmp
  rw [List.take_left, List.take_length]
theorem cmp_drop {l : List (Int × Int)} {j : Nat} {s : Int × Int} (h : l[j]? = some s) (hs : s.2 = 0) : cmp l j = cmp l (j + 1) := by
  unfold cmp; rw [nz_next h, if_pos hs, List.append_nil]
theorem cmp_keep {l : List (Int × Int)} {j i : Nat} {s : Int × Int} (h : l[j]? = some s) (hs : ¬ s.2 = 0) (hi : i = (nz (l.take j)).length) : (cmp l j).set i (s.1, s.2) = cmp l (j + 1) := by
  have hlt := idx_lt h
  have := nz_le l j
  subst hi
  unfold cmp
  rw [nz_next h, if_neg hs, List.set_append_right _ _ (Nat.le_refl _), Nat.sub_self]
  have e : l.drop (nz (l.take j)).length = l[(nz (l.take j)).length]'(by omega) :: l.drop ((nz (l.take j)).length + 1) := List.drop_eq_getElem_cons (by omega)
  rw [e, List.set_cons_zero, List.append_assoc, List.length_append]
  rfl
theorem iszI_ok (x : Int × Int) : FnC Try.prog 216 [.agg #[.int .i64 x.1, .int .i64 x.2], .pointer (some ⟨0, 0, none⟩)] [(0, ⟨[.int .i64 0], 1, [], 1⟩)] 1 (.bool (decide (x.2 = 0))) 0 [] := by
  exact FnC.eq (v := .bool (decide ((x.2 : Int) = 0))) (FnC.run (m := false) follows_mixed has216 [] (by kernel_rfl) (by kernel_rfl) (.cons (lit_sc rfl) .nil) .nil) (by simp)
abbrev idzI_I (l : List (Int × Int)) (i : Nat) : AS := ⟨[(0, .slice (some ⟨0, 0, none⟩) l.length (l.length + 1)), (1, .func (.func 216) #[] #[.pointer (some ⟨1, 0, none⟩)]), (7, .int .i64 ((l.length : Nat) : Int)), (8, .int .i64 ((i : Nat) : Int))], [(0, ⟨(l).flatMap encS, 1, [], 2⟩), (1, ⟨[.int .i64 0], 1, [], 1⟩)], 2⟩
abbrev idzI_inv (l : List (Int × Int)) (i : Nat) : Prop := i ≤ l.length ∧ ∀ x ∈ l.take i, z0 x = false
def idzI_K (l : List (Int × Int)) : Exit → AS → Prop := fun e s => (l.any z0 = false ∧ e = .exit 0 ∧ s = ⟨[], [], 2⟩) ∨ (l.any z0 = true ∧ e = .ret ∧ s = ⟨[(4, .int .i64 ((l.findIdx z0 : Nat) : Int))], [], 2⟩)
abbrev idzI_Iu (l : List (Int × Int)) : Nat → AS := fun x => idzI_I l x
abbrev idzI_vu (l : List (Int × Int)) : Nat → Prop := fun x => idzI_inv l x
abbrev idzI_m (l : List (Int × Int)) : Nat → Nat := fun x => (fun (i : Nat) => l.length - i) x
theorem idzI_round (l : List (Int × Int)) (h_n : l.length ≤ 140737488355328) (i : Nat) (hinv : idzI_inv l i) {ds : List Deferred} : Tr Try.prog none ⟨19, ds⟩ 2 (nthLoop Try.f264 0) (idzI_I l i) (RK (idzI_vu l) (idzI_Iu l) (idzI_m l) (idzI_K l) i) := by
  obtain ⟨hi0, hx⟩ := hinv
  by_cases h2000 : (((i : Nat) : Int) < ((l.length : Nat) : Int))
  · skip
    obtain ⟨s1, hs1⟩ : ∃ s, l[i]? = some s := ⟨_, List.getElem?_eq_getElem (by omega)⟩
    cases h4005 : (z0 s1) with
    | true =>
      obtain ⟨hi, hn⟩ := idx_found (p := z0) hx hs1 h4005
      exact Tr.out (I := (idzI_Iu l)) (m := (idzI_m l)) (Tr.run follows_mixed (A := [(2000, aT h2000), (4003, aX i l.length 2 (by omega)), (4004, aL encS_k hs1), (4005, aCb (iszI_ok s1) h4005), (5000, aE (x := .int .i64 ((i : Nat) : Int)) (y := .int .i64 ((l.findIdx z0 : Nat) : Int)) (by rw [← hi]))]) (rows := []) (by kernel_rfl) .nil (le_ble rfl)) (.inr ⟨hn, rfl, rfl⟩) (by simp)
    | false =>
      exact Tr.again (Inv := (idzI_vu l)) (I := (idzI_Iu l)) (m := (idzI_m l)) (i + 1) (Tr.run follows_mixed (A := [(2000, aT h2000), (4003, aX i l.length 2 (by omega)), (4004, aL encS_k hs1), (4005, aCb (iszI_ok s1) h4005), (6000, aI .i64 .i64 (((i : Nat) : Int) + 1) (((i + 1 : Nat) : Int)) (wrap_i64' (by omega) (by omega) (by omega)))]) (rows := [0]) (by kernel_rfl) (.cons (fun _ => encS_sc _) (.skip rfl .nil)) (le_ble rfl)) (show idzI_inv l (i + 1) from ⟨by omega, idx_step hx hs1 h4005⟩) (by show l.length - (i + 1) < l.length - i; omega)
  · skip
    have hn : l.any z0 = false := idx_none hx (by omega)
    exact Tr.out (I := (idzI_Iu l)) (m := (idzI_m l)) (Tr.run follows_mixed (A := [(2000, aF h2000)]) (rows := []) (by kernel_rfl) .nil (le_ble rfl)) (.inl ⟨hn, rfl, rfl⟩) (by simp)

theorem idzI_loop (l : List (Int × Int)) (h_n : l.length ≤ 140737488355328) (i : Nat) (hinv : idzI_inv l i) {ds : List Deferred} : Tr Try.prog none ⟨19, ds⟩ 2 (.loop (nthLoop Try.f264 0)) (idzI_I l i) (idzI_K l) :=
  Tr.rounds (Inv := (idzI_vu l)) (I := (idzI_Iu l)) (m := (idzI_m l)) (fun x h => idzI_round l h_n x h) i hinv
theorem idzI_ok (l : List (Int × Int)) (h_n : l.length ≤ 140737488355328) : FnC Try.prog 264 [.slice (some ⟨0, 0, none⟩) l.length (l.length + 1), .func (.func 216) #[] #[.pointer (some ⟨1, 0, none⟩)]] [(0, ⟨(l).flatMap encS, 1, [], 2⟩), (1, ⟨[.int .i64 0], 1, [], 1⟩)] 2 (.int .i64 (idxI z0 l)) 0 [] := by
  rcases Bool.eq_false_or_eq_true (l.any z0) with hz | hz
  · skip
    exact FnC.eq (v := .int .i64 ((l.findIdx z0 : Nat) : Int)) (FnC.run (m := false) follows_mixed has264 [(900000, .stmt (.loop (nthLoop Try.f264 0)) [0] (idzI_I l 0) (.ret) ⟨[(4, .int .i64 ((l.findIdx z0 : Nat) : Int))], [], 2⟩ (.cons (fun _ => encS_sc _) (.skip rfl .nil)) (fun ds => (idzI_loop l h_n 0 ⟨by omega, by simp⟩).pick (fun e s h => by rcases h with ⟨h0, _⟩ | ⟨_, h⟩; rw [hz] at h0; cases h0; exact h)) (le_ble rfl))] (by kernel_rfl) (by kernel_rfl) (.cons (encS_sc _) (.cons (lit_sc rfl) .nil)) .nil) (by rw [idxI_true hz])
  · skip
    exact FnC.eq (v := .int .i64 (-1)) (FnC.run (m := false) follows_mixed has264 [(900000, .stmt (.loop (nthLoop Try.f264 0)) [0] (idzI_I l 0) (.exit 0) ⟨[], [], 2⟩ (.cons (fun _ => encS_sc _) (.skip rfl .nil)) (fun ds => (idzI_loop l h_n 0 ⟨by omega, by simp⟩).pick (fun e s h => by rcases h with ⟨_, h⟩ | ⟨h0, _⟩; exact h; rw [hz] at h0; cases h0)) (le_ble rfl))] (by kernel_rfl) (by kernel_rfl) (.cons (encS_sc _) (.cons (lit_sc rfl) .nil)) .nil) (by rw [idxI_false hz])
abbrev delI_I (l : List (Int × Int)) (j : Nat) (i : Nat) (r : List (Int × Int)) : AS := ⟨[(0, .slice (some ⟨2, 0, none⟩) l.length (l.length + 1)), (1, .func (.func 216) #[] #[.pointer (some ⟨1, 0, none⟩)]), (5, .int .i64 ((i : Nat) : Int)), (6, .int .i64 ((j : Nat) : Int))], [(1, ⟨[.int .i64 0], 1, [], 1⟩), (2, ⟨(r).flatMap encS, 2, [], 2⟩)], 3⟩
abbrev delI_inv (l : List (Int × Int)) (j : Nat) (i : Nat) (r : List (Int × Int)) : Prop := j ≤ l.length ∧ i < j ∧ i = (nz (l.take j)).length ∧ r = cmp l j
def delI_K (l : List (Int × Int)) : Exit → AS → Prop := fun e s => (e = .exit 0 ∧ s = ⟨[(0, .slice (some ⟨2, 0, none⟩) l.length (l.length + 1)), (5, .int .i64 (((nz (l.take l.length)).length : Nat) : Int))], [(2, ⟨(cmp l l.length).flatMap encS, 2, [], 2⟩)], 3⟩)
abbrev delI_Iu (l : List (Int × Int)) : Nat × Nat × List (Int × Int) → AS := fun x => delI_I l x.1 x.2.1 x.2.2
abbrev delI_vu (l : List (Int × Int)) : Nat × Nat × List (Int × Int) → Prop := fun x => delI_inv l x.1 x.2.1 x.2.2
abbrev delI_m (l : List (Int × Int)) : Nat × Nat × List (Int × Int) → Nat := fun x => (fun (j : Nat) (i : Nat) (r : List (Int × Int)) => l.length - j) x.1 x.2.1 x.2.2
theorem delI_round (l : List (Int × Int)) (h_n : l.length ≤ 4294967296) (j : Nat) (i : Nat) (r : List (Int × Int)) (hinv : delI_inv l j i r) {ds : List Deferred} : Tr Try.prog none ⟨42, ds⟩ 3 (nthLoop Try.f214 0) (delI_I l j i r) (RK (delI_vu l) (delI_Iu l) (delI_m l) (delI_K l) (j, i, r)) := by
  obtain ⟨hj, hij, hi, hr⟩ := hinv
  have hrl : r.length = l.length := by rw [hr]; exact cmp_len hj
  by_cases h5003 : (((j : Nat) : Int) < ((l.length : Nat) : Int))
  · skip
    obtain ⟨s1, hs1⟩ : ∃ s, r[j]? = some s := ⟨_, List.getElem?_eq_getElem (by omega)⟩
    have hl : l[j]? = some s1 := by rw [hr, cmp_at (by omega)] at hs1; exact hs1
    cases h8002 : (z0 s1) with
    | true =>
      exact Tr.again (Inv := (delI_vu l)) (I := (delI_Iu l)) (m := (delI_m l)) (j + 1, i, r) (Tr.run follows_mixed (A := [(5003, aT h5003), (7002, aX j l.length 2 (by omega)), (7003, aL encS_k hs1), (8002, aCb (iszI_ok s1) h8002), (6001, aI .i64 .i64 (((j : Nat) : Int) + 1) (((j + 1 : Nat) : Int)) (wrap_i64' (by omega) (by omega) (by omega)))]) (rows := [2]) (by kernel_rfl) (.skip rfl (.cons (fun _ => encS_sc _) .nil)) (le_ble rfl)) (show delI_inv l (j + 1) i r from ⟨by omega, by omega, by rw [nz_next hl, if_pos (by simpa using h8002), hi]; simp, by rw [hr]; exact cmp_drop hl (by simpa using h8002)⟩) (by show l.length - (j + 1) < l.length - j; omega)
    | false =>
      obtain ⟨s2, hs2⟩ : ∃ s, r[i]? = some s := ⟨_, List.getElem?_eq_getElem (by omega)⟩
      exact Tr.again (Inv := (delI_vu l)) (I := (delI_Iu l)) (m := (delI_m l)) (j + 1, i + 1, r.set i (s1.1, s1.2)) (Tr.run follows_mixed (A := [(5003, aT h5003), (7002, aX j l.length 2 (by omega)), (7003, aL encS_k hs1), (8002, aCb (iszI_ok s1) h8002), (9003, aX i l.length 2 (by omega)), (9004, aS encS_k hs2 0 (s1.1, s1.2)), (10001, aI .i64 .i64 (((i : Nat) : Int) + 1) (((i + 1 : Nat) : Int)) (wrap_i64' (by omega) (by omega) (by omega))), (6001, aI .i64 .i64 (((j : Nat) : Int) + 1) (((j + 1 : Nat) : Int)) (wrap_i64' (by omega) (by omega) (by omega)))]) (rows := [2]) (by kernel_rfl) (.skip rfl (.cons (fun _ => encS_sc _) .nil)) (le_ble rfl)) (show delI_inv l (j + 1) (i + 1) (r.set i (s1.1, s1.2)) from ⟨by omega, by omega, by rw [nz_next hl, if_neg (by simpa using h8002), hi]; simp, by rw [hr]; exact cmp_keep hl (by simpa using h8002) hi⟩) (by show l.length - (j + 1) < l.length - j; omega)
  · skip
    have hjl : j = l.length := by omega
    subst hjl
    subst hr
    subst hi
    exact Tr.out (I := (delI_Iu l)) (m := (delI_m l)) (Tr.run follows_mixed (A := [(5003, aF h5003)]) (rows := [2]) (by kernel_rfl) (.cons (fun _ => encS_sc _) .nil) (le_ble rfl)) ⟨rfl, rfl⟩ (by simp)

theorem delI_loop (l : List (Int × Int)) (h_n : l.length ≤ 4294967296) (j : Nat) (i : Nat) (r : List (Int × Int)) (hinv : delI_inv l j i r) {ds : List Deferred} : Tr Try.prog none ⟨42, ds⟩ 3 (.loop (nthLoop Try.f214 0)) (delI_I l j i r) (delI_K l) :=
  Tr.rounds (Inv := (delI_vu l)) (I := (delI_Iu l)) (m := (delI_m l)) (fun x h => delI_round l h_n x.1 x.2.1 x.2.2 h) (j, i, r) hinv
theorem delFI_ok (l : List (Int × Int)) (h_n : l.length ≤ 4294967296) {ds : List Deferred} : Tr Try.prog none ⟨42, ds⟩ 3 (bodyOf Try.f214) ⟨argTs 0 [.slice (some ⟨2, 0, none⟩) l.length (l.length + 1), .func (.func 216) #[] #[.pointer (some ⟨1, 0, none⟩)]], [(1, ⟨[.int .i64 0], 1, [], 1⟩), (2, ⟨(l).flatMap encS, 2, [], 2⟩)], 3⟩ fun e s => e = .ret ∧ s = ⟨[(4, .slice (some ⟨2, 0, none⟩) ((nz l).length) ((nz l).length + 1))], [(2, ⟨(nz l).flatMap encS, 2, [], 2⟩)], 3⟩ := by
  have hX : (nz (l.take l.length)).length ≤ l.length := by rw [List.take_length]; exact List.length_filter_le _ _
  rcases Bool.eq_false_or_eq_true (l.any z0) with hz | hz
  · have hfl := (nz_first hz).1
    by_cases h2001 : ((((l.findIdx z0 : Nat) : Int) : Int) = -1)
    · skip
      omega
    · skip
      exact (Tr.run follows_mixed (A := [(1002, aC ((idzI_ok l (by omega)).eq (by rw [idxI_true hz]))), (2001, aF h2001), (4001, aI .i64 .i64 (((l.findIdx z0 : Nat) : Int) + 1) (((l.findIdx z0 + 1 : Nat) : Int)) (wrap_i64' (by omega) (by omega) (by omega))), (900000, .stmt (.loop (nthLoop Try.f214 0)) [2] (delI_I l (l.findIdx z0 + 1) (l.findIdx z0) l) (.exit 0) ⟨[(0, .slice (some ⟨2, 0, none⟩) l.length (l.length + 1)), (5, .int .i64 (((nz (l.take l.length)).length : Nat) : Int))], [(2, ⟨(cmp l l.length).flatMap encS, 2, [], 2⟩)], 3⟩ (.skip rfl (.cons (fun _ => encS_sc _) .nil)) (fun ds => (delI_loop l h_n (l.findIdx z0 + 1) (l.findIdx z0) l ⟨by have := (nz_first hz).1; omega, by omega, by have h1 := nz_first hz; rw [h1.2, List.length_take]; omega, by have h1 := nz_first hz; unfold cmp; rw [h1.2, List.length_take, Nat.min_eq_left (by omega), List.take_append_drop]⟩).pick (fun e s h => h)) (le_ble rfl)), (11002, aSl ((nz (l.take l.length)).length) l.length l.length 0 (((nz (l.take l.length)).length) * 2) 2 (by omega) (by omega) (by omega)), (11003, aClr encS_k (cmp l l.length) (nz l) (nz (l.take l.length)).length (l.length - (nz (l.take l.length)).length) (by rw [cmp_len (Nat.le_refl _)]; omega) cmp_all), (12002, aSl 0 ((nz (l.take l.length)).length) l.length 0 0 2 (by omega) (by omega) (by omega)), (12003, aE (x := .slice (some ⟨2, 0, none⟩) ((nz (l.take l.length)).length - 0) ((nz (l.take l.length)).length - 0 + 1)) (y := .slice (some ⟨2, 0, none⟩) (nz l).length ((nz l).length + 1)) (by rw [List.take_length, Nat.sub_zero]))]) (rows := [2]) (by kernel_rfl) (.cons (fun _ => encS_sc _) .nil) (le_ble rfl))
  · rw [nz_none hz]
    exact (Tr.run follows_mixed (A := [(1002, aC ((idzI_ok l (by omega)).eq (by rw [idxI_false hz])))]) (rows := [2]) (by kernel_rfl) (.cons (fun _ => encS_sc _) .nil) (le_ble rfl))
theorem cloneI_nil : FnC Try.prog 215 [.slice none 0 0] [(0, ⟨([] : List (Int × Int)).flatMap encS, 1, [], 2⟩)] 1 (.slice (some ⟨1, 0, none⟩) 0 1) 1 [(1, ⟨([] : List (Int × Int)).flatMap encS, 2, [], 2⟩)] :=
  FnC.run (m := false) follows_mixed has215 [] (by kernel_rfl) (by kernel_rfl) (.cons (encS_sc _) .nil) (.cons (encS_sc _) .nil)
theorem cloneI_empty : FnC Try.prog 215 [.slice (some ⟨0, 0, none⟩) 0 2] [(0, ⟨([] : List (Int × Int)).flatMap encS, 1, [], 2⟩)] 1 (.slice (some ⟨1, 0, none⟩) 0 1) 1 [(1, ⟨([] : List (Int × Int)).flatMap encS, 2, [], 2⟩)] :=
  FnC.run (m := false) follows_mixed has215 [] (by kernel_rfl) (by kernel_rfl) (.cons (encS_sc _) .nil) (.cons (encS_sc _) .nil)
theorem cloneI_ok (l : List (Int × Int)) (h_l : l.length ≤ 8589934592) : FnC Try.prog 215 [.slice (some ⟨0, 0, none⟩) l.length (l.length + 1)] [(0, ⟨l.flatMap encS, 1, [], 2⟩)] 1 (.slice (some ⟨1, 0, none⟩) l.length (l.length + 1)) 1 [(1, ⟨l.flatMap encS, 2, [], 2⟩)] := by
  cases l with
  | nil => exact FnC.nil1 cloneI_nil cloneI_empty
  | cons s r => exact FnC.run (m := false) follows_mixed has215 [(3002, aAll encS_k (s :: r) h_l (by simp))] (by kernel_rfl) (by kernel_rfl) (.cons (encS_sc _) .nil) (.cons (encS_sc _) .nil)
theorem withoutI_ok (l : List (Int × Int)) (h_n : l.length ≤ 4294967296) : FnC Try.prog 127 [.slice (some ⟨0, 0, none⟩) l.length (l.length + 1), .int .i64 0] [(0, ⟨(l).flatMap encS, 1, [], 2⟩)] 1 (.slice (some ⟨1, 0, none⟩) ((nz l).length) ((nz l).length + 1)) 1 [(1, ⟨(nz l).flatMap encS, 2, [], 2⟩)] := by
  exact FnC.run (m := false) follows_mixed has127 [(1001, aC (cloneI_ok l (by omega))), (1003, .inl 214 Try.f214 has214 [.slice (some ⟨2, 0, none⟩) l.length (l.length + 1), .func (.func 216) #[] #[.pointer (some ⟨1, 0, none⟩)]] [(1, ⟨[.int .i64 0], 1, [], 1⟩), (2, ⟨(l).flatMap encS, 2, [], 2⟩)] 3 (.slice (some ⟨2, 0, none⟩) ((nz l).length) ((nz l).length + 1)) [(2, ⟨(nz l).flatMap encS, 2, [], 2⟩)] 3 (fun ds => (delFI_ok l h_n).mono fun e s ⟨q1, q2⟩ => by subst q1; subst q2; exact ⟨rfl, rfl, rfl, rfl⟩) (le_ble rfl) (le_ble rfl))] (by kernel_rfl) (by kernel_rfl) (.cons (encS_sc _) .nil) (.cons (encS_sc _) .nil)
theorem has145 : Has Try.prog 145 Try.f145 (bodyOf Try.f145) := ⟨Try.func145, by kernel_rfl, by kernel_rfl⟩
theorem has220 : Has Try.prog 220 Try.f220 (bodyOf Try.f220) := ⟨Try.func220, by kernel_rfl, by kernel_rfl⟩
theorem has267 : Has Try.prog 267 Try.f267 (bodyOf Try.f267) := ⟨Try.func267, by kernel_rfl, by kernel_rfl⟩
theorem has221 : Has Try.prog 221 Try.f221 (bodyOf Try.f221) := ⟨Try.func221, by kernel_rfl, by kernel_rfl⟩
theorem has222 : Has Try.prog 222 Try.f222 (bodyOf Try.f222) := ⟨Try.func222, by kernel_rfl, by kernel_rfl⟩
theorem iszU_ok (x : Int × Int) : FnC Try.prog 222 [.agg #[.int .i64 x.1, .int .u64 x.2], .pointer (some ⟨0, 0, none⟩)] [(0, ⟨[.int .u64 0], 1, [], 1⟩)] 1 (.bool (decide (x.2 = 0))) 0 [] := by
  exact FnC.eq (v := .bool (decide ((x.2 : Int) = 0))) (FnC.run (m := false) follows_mixed has222 [] (by kernel_rfl) (by kernel_rfl) (.cons (lit_sc rfl) .nil) .nil) (by simp)
abbrev idzU_I (l : List (Int × Int)) (i : Nat) : AS := ⟨[(0, .slice (some ⟨0, 0, none⟩) l.length (l.length + 1)), (1, .func (.func 222) #[] #[.pointer (some ⟨1, 0, none⟩)]), (7, .int .i64 ((l.length : Nat) : Int)), (8, .int .i64 ((i : Nat) : Int))], [(0, ⟨(l).flatMap encU, 1, [], 2⟩), (1, ⟨[.int .u64 0], 1, [], 1⟩)], 2⟩
abbrev idzU_inv (l : List (Int × Int)) (i : Nat) : Prop := i ≤ l.length ∧ ∀ x ∈ l.take i, z0 x = false
def idzU_K (l : List (Int × Int)) : Exit → AS → Prop := fun e s => (l.any z0 = false ∧ e = .exit 0 ∧ s = ⟨[], [], 2⟩) ∨ (l.any z0 = true ∧ e = .ret ∧ s = ⟨[(4, .int .i64 ((l.findIdx z0 : Nat) : Int))], [], 2⟩)
abbrev idzU_Iu (l : List (Int × Int)) : Nat → AS := fun x => idzU_I l x
abbrev idzU_vu (l : List (Int × Int)) : Nat → Prop := fun x => idzU_inv l x
abbrev idzU_m (l : List (Int × Int)) : Nat → Nat := fun x => (fun (i : Nat) => l.length - i) x
theorem idzU_round (l : List (Int × Int)) (h_n : l.length ≤ 140737488355328) (i : Nat) (hinv : idzU_inv l i) {ds : List Deferred} : Tr Try.prog none ⟨19, ds⟩ 2 (nthLoop Try.f267 0) (idzU_I l i) (RK (idzU_vu l) (idzU_Iu l) (idzU_m l) (idzU_K l) i) := by
  obtain ⟨hi0, hx⟩ := hinv
  by_cases h2000 : (((i : Nat) : Int) < ((l.length : Nat) : Int))
  · skip
    obtain ⟨s1, hs1⟩ : ∃ s, l[i]? = some s := ⟨_, List.getElem?_eq_getElem (by omega)⟩
    cases h4005 : (z0 s1) with
    | true =>
      obtain ⟨hi, hn⟩ := idx_found (p := z0) hx hs1 h4005
      exact Tr.out (I := (idzU_Iu l)) (m := (idzU_m l)) (Tr.run follows_mixed (A := [(2000, aT h2000), (4003, aX i l.length 2 (by omega)), (4004, aL encU_k hs1), (4005, aCb (iszU_ok s1) h4005), (5000, aE (x := .int .i64 ((i : Nat) : Int)) (y := .int .i64 ((l.findIdx z0 : Nat) : Int)) (by rw [← hi]))]) (rows := []) (by kernel_rfl) .nil (le_ble rfl)) (.inr ⟨hn, rfl, rfl⟩) (by simp)
    | false =>
      exact Tr.again (Inv := (idzU_vu l)) (I := (idzU_Iu l)) (m := (idzU_m l)) (i + 1) (Tr.run follows_mixed (A := [(2000, aT h2000), (4003, aX i l.length 2 (by omega)), (4004, aL encU_k hs1), (4005, aCb (iszU_ok s1) h4005), (6000, aI .i64 .i64 (((i : Nat) : Int) + 1) (((i + 1 : Nat) : Int)) (wrap_i64' (by omega) (by omega) (by omega)))]) (rows := [0]) (by kernel_rfl) (.cons (fun _ => encU_sc _) (.skip rfl .nil)) (le_ble rfl)) (show idzU_inv l (i + 1) from ⟨by omega, idx_step hx hs1 h4005⟩) (by show l.length - (i + 1) < l.length - i; omega)
  · skip
    have hn : l.any z0 = false := idx_none hx (by omega)
    exact Tr.out (I := (idzU_Iu l)) (m := (idzU_m l)) (Tr.run follows_mixed (A := [(2000, aF h2000)]) (rows := []) (by kernel_rfl) .nil (le_ble rfl)) (.inl ⟨hn, rfl, rfl⟩) (by simp)

theorem idzU_loop (l : List (Int × Int)) (h_n : l.length ≤ 140737488355328) (i : Nat) (hinv : idzU_inv l i) {ds : List Deferred} : Tr Try.prog none ⟨19, ds⟩ 2 (.loop (nthLoop Try.f267 0)) (idzU_I l i) (idzU_K l) :=
  Tr.rounds (Inv := (idzU_vu l)) (I := (idzU_Iu l)) (m := (idzU_m l)) (fun x h => idzU_round l h_n x h) i hinv
theorem idzU_ok (l : List (Int × Int)) (h_n : l.length ≤ 140737488355328) : FnC Try.prog 267 [.slice (some ⟨0, 0, none⟩) l.length (l.length + 1), .func (.func 222) #[] #[.pointer (some ⟨1, 0, none⟩)]] [(0, ⟨(l).flatMap encU, 1, [], 2⟩), (1, ⟨[.int .u64 0], 1, [], 1⟩)] 2 (.int .i64 (idxI z0 l)) 0 [] := by
  rcases Bool.eq_false_or_eq_true (l.any z0) with hz | hz
  · skip
    exact FnC.eq (v := .int .i64 ((l.findIdx z0 : Nat) : Int)) (FnC.run (m := false) follows_mixed has267 [(900000, .stmt (.loop (nthLoop Try.f267 0)) [0] (idzU_I l 0) (.ret) ⟨[(4, .int .i64 ((l.findIdx z0 : Nat) : Int))], [], 2⟩ (.cons (fun _ => encU_sc _) (.skip rfl .nil)) (fun ds => (idzU_loop l h_n 0 ⟨by omega, by simp⟩).pick (fun e s h => by rcases h with ⟨h0, _⟩ | ⟨_, h⟩; rw [hz] at h0; cases h0; exact h)) (le_ble rfl))] (by kernel_rfl) (by kernel_rfl) (.cons (encU_sc _) (.cons (lit_sc rfl) .nil)) .nil) (by rw [idxI_true hz])
  · skip
    exact FnC.eq (v := .int .i64 (-1)) (FnC.run (m := false) follows_mixed has267 [(900000, .stmt (.loop (nthLoop Try.f267 0)) [0] (idzU_I l 0) (.exit 0) ⟨[], [], 2⟩ (.cons (fun _ => encU_sc _) (.skip rfl .nil)) (fun ds => (idzU_loop l h_n 0 ⟨by omega, by simp⟩).pick (fun e s h => by rcases h with ⟨_, h⟩ | ⟨h0, _⟩; exact h; rw [hz] at h0; cases h0)) (le_ble rfl))] (by kernel_rfl) (by kernel_rfl) (.cons (encU_sc _) (.cons (lit_sc rfl) .nil)) .nil) (by rw [idxI_false hz])
abbrev delU_I (l : List (Int × Int)) (j : Nat) (i : Nat) (r : List (Int × Int)) : AS := ⟨[(0, .slice (some ⟨2, 0, none⟩) l.length (l.length + 1)), (1, .func (.func 222) #[] #[.pointer (some ⟨1, 0, none⟩)]), (5, .int .i64 ((i : Nat) : Int)), (6, .int .i64 ((j : Nat) : Int))], [(1, ⟨[.int .u64 0], 1, [], 1⟩), (2, ⟨(r).flatMap encU, 2, [], 2⟩)], 3⟩
abbrev delU_inv (l : List (Int × Int)) (j : Nat) (i : Nat) (r : List (Int × Int)) : Prop := j ≤ l.length ∧ i < j ∧ i = (nz (l.take j)).length ∧ r = cmp l j
def delU_K (l : List (Int × Int)) : Exit → AS → Prop := fun e s => (e = .exit 0 ∧ s = ⟨[(0, .slice (some ⟨2, 0, none⟩) l.length (l.length + 1)), (5, .int .i64 (((nz (l.take l.length)).length : Nat) : Int))], [(2, ⟨(cmp l l.length).flatMap encU, 2, [], 2⟩)], 3⟩)
abbrev delU_Iu (l : List (Int × Int)) : Nat × Nat × List (Int × Int) → AS := fun x => delU_I l x.1 x.2.1 x.2.2
abbrev delU_vu (l : List (Int × Int)) : Nat × Nat × List (Int × Int) → Prop := fun x => delU_inv l x.1 x.2.1 x.2.2
abbrev delU_m (l : List (Int × Int)) : Nat × Nat × List (Int × Int) → Nat := fun x => (fun (j : Nat) (i : Nat) (r : List (Int × Int)) => l.length - j) x.1 x.2.1 x.2.2
theorem delU_round (l : List (Int × Int)) (h_n : l.length ≤ 4294967296) (j : Nat) (i : Nat) (r : List (Int × Int)) (hinv : delU_inv l j i r) {ds : List Deferred} : Tr Try.prog none ⟨42, ds⟩ 3 (nthLoop Try.f220 0) (delU_I l j i r) (RK (delU_vu l) (delU_Iu l) (delU_m l) (delU_K l) (j, i, r)) := by
  obtain ⟨hj, hij, hi, hr⟩ := hinv
  have hrl : r.length = l.length := by rw [hr]; exact cmp_len hj
  by_cases h5003 : (((j : Nat) : Int) < ((l.length : Nat) : Int))
  · skip
    obtain ⟨s1, hs1⟩ : ∃ s, r[j]? = some s := ⟨_, List.getElem?_eq_getElem (by omega)⟩
    have hl : l[j]? = some s1 := by rw [hr, cmp_at (by omega)] at hs1; exact hs1
    cases h8002 : (z0 s1) with
    | true =>
      exact Tr.again (Inv := (delU_vu l)) (I := (delU_Iu l)) (m := (delU_m l)) (j + 1, i, r) (Tr.run follows_mixed (A := [(5003, aT h5003), (7002, aX j l.length 2 (by omega)), (7003, aL encU_k hs1), (8002, aCb (iszU_ok s1) h8002), (6001, aI .i64 .i64 (((j : Nat) : Int) + 1) (((j + 1 : Nat) : Int)) (wrap_i64' (by omega) (by omega) (by omega)))]) (rows := [2]) (by kernel_rfl) (.skip rfl (.cons (fun _ => encU_sc _) .nil)) (le_ble rfl)) (show delU_inv l (j + 1) i r from ⟨by omega, by omega, by rw [nz_next hl, if_pos (by simpa using h8002), hi]; simp, by rw [hr]; exact cmp_drop hl (by simpa using h8002)⟩) (by show l.length - (j + 1) < l.length - j; omega)
    | false =>
      obtain ⟨s2, hs2⟩ : ∃ s, r[i]? = some s := ⟨_, List.getElem?_eq_getElem (by omega)⟩
      exact Tr.again (Inv := (delU_vu l)) (I := (delU_Iu l)) (m := (delU_m l)) (j + 1, i + 1, r.set i (s1.1, s1.2)) (Tr.run follows_mixed (A := [(5003, aT h5003), (7002, aX j l.length 2 (by omega)), (7003, aL encU_k hs1), (8002, aCb (iszU_ok s1) h8002), (9003, aX i l.length 2 (by omega)), (9004, aS encU_k hs2 0 (s1.1, s1.2)), (10001, aI .i64 .i64 (((i : Nat) : Int) + 1) (((i + 1 : Nat) : Int)) (wrap_i64' (by omega) (by omega) (by omega))), (6001, aI .i64 .i64 (((j : Nat) : Int) + 1) (((j + 1 : Nat) : Int)) (wrap_i64' (by omega) (by omega) (by omega)))]) (rows := [2]) (by kernel_rfl) (.skip rfl (.cons (fun _ => encU_sc _) .nil)) (le_ble rfl)) (show delU_inv l (j + 1) (i + 1) (r.set i (s1.1, s1.2)) from ⟨by omega, by omega, by rw [nz_next hl, if_neg (by simpa using h8002), hi]; simp, by rw [hr]; exact cmp_keep hl (by simpa using h8002) hi⟩) (by show l.length - (j + 1) < l.length - j; omega)
  · skip
    have hjl : j = l.length := by omega
    subst hjl
    subst hr
    subst hi
    exact Tr.out (I := (delU_Iu l)) (m := (delU_m l)) (Tr.run follows_mixed (A := [(5003, aF h5003)]) (rows := [2]) (by kernel_rfl) (.cons (fun _ => encU_sc _) .nil) (le_ble rfl)) ⟨rfl, rfl⟩ (by simp)

theorem delU_loop (l : List (Int × Int)) (h_n : l.length ≤ 4294967296) (j : Nat) (i : Nat) (r : List (Int × Int)) (hinv : delU_inv l j i r) {ds : List Deferred} : Tr Try.prog none ⟨42, ds⟩ 3 (.loop (nthLoop Try.f220 0)) (delU_I l j i r) (delU_K l) :=
  Tr.rounds (Inv := (delU_vu l)) (I := (delU_Iu l)) (m := (delU_m l)) (fun x h => delU_round l h_n x.1 x.2.1 x.2.2 h) (j, i, r) hinv
theorem delFU_ok (l : List (Int × Int)) (h_n : l.length ≤ 4294967296) {ds : List Deferred} : Tr Try.prog none ⟨42, ds⟩ 3 (bodyOf Try.f220) ⟨argTs 0 [.slice (some ⟨2, 0, none⟩) l.length (l.length + 1), .func (.func 222) #[] #[.pointer (some ⟨1, 0, none⟩)]], [(1, ⟨[.int .u64 0], 1, [], 1⟩), (2, ⟨(l).flatMap encU, 2, [], 2⟩)], 3⟩ fun e s => e = .ret ∧ s = ⟨[(4, .slice (some ⟨2, 0, none⟩) ((nz l).length) ((nz l).length + 1))], [(2, ⟨(nz l).flatMap encU, 2, [], 2⟩)], 3⟩ := by
  have hX : (nz (l.take l.length)).length ≤ l.length := by rw [List.take_length]; exact List.length_filter_le _ _
  rcases Bool.eq_false_or_eq_true (l.any z0) with hz | hz
  · have hfl := (nz_first hz).1
    by_cases h2001 : ((((l.findIdx z0 : Nat) : Int) : Int) = -1)
    · skip
      omega
    · skip
      exact (Tr.run follows_mixed (A := [(1002, aC ((idzU_ok l (by omega)).eq (by rw [idxI_true hz]))), (2001, aF h2001), (4001, aI .i64 .i64 (((l.findIdx z0 : Nat) : Int) + 1) (((l.findIdx z0 + 1 : Nat) : Int)) (wrap_i64' (by omega) (by omega) (by omega))), (900000, .stmt (.loop (nthLoop Try.f220 0)) [2] (delU_I l (l.findIdx z0 + 1) (l.findIdx z0) l) (.exit 0) ⟨[(0, .slice (some ⟨2, 0, none⟩) l.length (l.length + 1)), (5, .int .i64 (((nz (l.take l.length)).length : Nat) : Int))], [(2, ⟨(cmp l l.length).flatMap encU, 2, [], 2⟩)], 3⟩ (.skip rfl (.cons (fun _ => encU_sc _) .nil)) (fun ds => (delU_loop l h_n (l.findIdx z0 + 1) (l.findIdx z0) l ⟨by have := (nz_first hz).1; omega, by omega, by have h1 := nz_first hz; rw [h1.2, List.length_take]; omega, by have h1 := nz_first hz; unfold cmp; rw [h1.2, List.length_take, Nat.min_eq_left (by omega), List.take_append_drop]⟩).pick (fun e s h => h)) (le_ble rfl)), (11002, aSl ((nz (l.take l.length)).length) l.length l.length 0 (((nz (l.take l.length)).length) * 2) 2 (by omega) (by omega) (by omega)), (11003, aClr encU_k (cmp l l.length) (nz l) (nz (l.take l.length)).length (l.length - (nz (l.take l.length)).length) (by rw [cmp_len (Nat.le_refl _)]; omega) cmp_all), (12002, aSl 0 ((nz (l.take l.length)).length) l.length 0 0 2 (by omega) (by omega) (by omega)), (12003, aE (x := .slice (some ⟨2, 0, none⟩) ((nz (l.take l.length)).length - 0) ((nz (l.take l.length)).length - 0 + 1)) (y := .slice (some ⟨2, 0, none⟩) (nz l).length ((nz l).length + 1)) (by rw [List.take_length, Nat.sub_zero]))]) (rows := [2]) (by kernel_rfl) (.cons (fun _ => encU_sc _) .nil) (le_ble rfl))
  · rw [nz_none hz]
    exact (Tr.run follows_mixed (A := [(1002, aC ((idzU_ok l (by omega)).eq (by rw [idxI_false hz])))]) (rows := [2]) (by kernel_rfl) (.cons (fun _ => encU_sc _) .nil) (le_ble rfl))
theorem cloneU_nil : FnC Try.prog 221 [.slice none 0 0] [(0, ⟨([] : List (Int × Int)).flatMap encU, 1, [], 2⟩)] 1 (.slice (some ⟨1, 0, none⟩) 0 1) 1 [(1, ⟨([] : List (Int × Int)).flatMap encU, 2, [], 2⟩)] :=
  FnC.run (m := false) follows_mixed has221 [] (by kernel_rfl) (by kernel_rfl) (.cons (encU_sc _) .nil) (.cons (encU_sc _) .nil)
theorem cloneU_empty : FnC Try.prog 221 [.slice (some ⟨0, 0, none⟩) 0 2] [(0, ⟨([] : List (Int × Int)).flatMap encU, 1, [], 2⟩)] 1 (.slice (some ⟨1, 0, none⟩) 0 1) 1 [(1, ⟨([] : List (Int × Int)).flatMap encU, 2, [], 2⟩)] :=
  FnC.run (m := false) follows_mixed has221 [] (by kernel_rfl) (by kernel_rfl) (.cons (encU_sc _) .nil) (.cons (encU_sc _) .nil)
theorem cloneU_ok (l : List (Int × Int)) (h_l : l.length ≤ 8589934592) : FnC Try.prog 221 [.slice (some ⟨0, 0, none⟩) l.length (l.length + 1)] [(0, ⟨l.flatMap encU, 1, [], 2⟩)] 1 (.slice (some ⟨1, 0, none⟩) l.length (l.length + 1)) 1 [(1, ⟨l.flatMap encU, 2, [], 2⟩)] := by
  cases l with
  | nil => exact FnC.nil1 cloneU_nil cloneU_empty
  | cons s r => exact FnC.run (m := false) follows_mixed has221 [(3002, aAll encU_k (s :: r) h_l (by simp))] (by kernel_rfl) (by kernel_rfl) (.cons (encU_sc _) .nil) (.cons (encU_sc _) .nil)
theorem withoutU_ok (l : List (Int × Int)) (h_n : l.length ≤ 4294967296) : FnC Try.prog 145 [.slice (some ⟨0, 0, none⟩) l.length (l.length + 1), .int .u64 0] [(0, ⟨(l).flatMap encU, 1, [], 2⟩)] 1 (.slice (some ⟨1, 0, none⟩) ((nz l).length) ((nz l).length + 1)) 1 [(1, ⟨(nz l).flatMap encU, 2, [], 2⟩)] := by
  exact FnC.run (m := false) follows_mixed has145 [(1001, aC (cloneU_ok l (by omega))), (1003, .inl 220 Try.f220 has220 [.slice (some ⟨2, 0, none⟩) l.length (l.length + 1), .func (.func 222) #[] #[.pointer (some ⟨1, 0, none⟩)]] [(1, ⟨[.int .u64 0], 1, [], 1⟩), (2, ⟨(l).flatMap encU, 2, [], 2⟩)] 3 (.slice (some ⟨2, 0, none⟩) ((nz l).length) ((nz l).length + 1)) [(2, ⟨(nz l).flatMap encU, 2, [], 2⟩)] 3 (fun ds => (delFU_ok l h_n).mono fun e s ⟨q1, q2⟩ => by subst q1; subst q2; exact ⟨rfl, rfl, rfl, rfl⟩) (le_ble rfl) (le_ble rfl))] (by kernel_rfl) (by kernel_rfl) (.cons (encU_sc _) .nil) (.cons (encU_sc _) .nil)
end Go.Am
