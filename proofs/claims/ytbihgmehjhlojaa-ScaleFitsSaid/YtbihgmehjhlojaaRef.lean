/-
The document's functions of layers 6, 7 and 9: spans, sums, a side, a histogram: they tell the same as the program's.
-/
import Derived.Test.YtbihgmehjhlojaaTwi
import Derived.Test.YtbihgmehjhlojaaSml
set_option linter.unusedVariables false
set_option linter.unusedSimpArgs false
set_option maxRecDepth 100000
namespace Go.Am
open Go Go.RowKit Go.Proofs
theorem has207 : Has Try.prog 207 Try.f207 (bodyOf Try.f207) := ⟨Try.func207, by kernel_rfl, by kernel_rfl⟩
theorem has147 : Has Try.prog 147 Try.f147 (bodyOf Try.f147) := ⟨Try.func147, by kernel_rfl, by kernel_rfl⟩
theorem has124 : Has Try.prog 124 Try.f124 (bodyOf Try.f124) := ⟨Try.func124, by kernel_rfl, by kernel_rfl⟩
theorem has51 : Has Try.prog 51 Try.f51 (bodyOf Try.f51) := ⟨Try.func51, by kernel_rfl, by kernel_rfl⟩
theorem has209 : Has Try.prog 209 Try.f209 (bodyOf Try.f209) := ⟨Try.func209, by kernel_rfl, by kernel_rfl⟩
theorem has121 : Has Try.prog 121 Try.f121 (bodyOf Try.f121) := ⟨Try.func121, by kernel_rfl, by kernel_rfl⟩
theorem seg_len : ∀ (k : Nat) (a : Int), (seg a k).length = k
  | 0, a => rfl
  | k + 1, a => by simp [seg, seg_len k]
def okIn (a1 l : Int) : Bool := decide (l ≤ 0) || decide (a1 + l - 1 ≤ 1048576)
theorem okIn_yes {a1 l : Int} : okIn a1 l = true ↔ l ≤ 0 ∨ a1 + l - 1 ≤ 1048576 := by simp [okIn]
theorem okIn_no {a1 l : Int} : okIn a1 l = false ↔ 0 < l ∧ 1048576 < a1 + l - 1 := by simp [okIn]
theorem right_bad1 {s : Sp} {r : List Sp} {f : Bool} {a n : Int} (h : bad1 f s.1 s.2 = true) : rightGo (s :: r) f a n = false := by rw [rightGo_cons, if_pos h]
theorem right_bad2 {s : Sp} {r : List Sp} {f : Bool} {a n : Int} (h : bad2 (a + s.1) (n + s.2) s.2 = true) : rightGo (s :: r) f a n = false := by rw [rightGo_cons, if_pos h]; split <;> rfl
theorem right_good {s : Sp} {r : List Sp} {f : Bool} {a n : Int} (h1 : bad1 f s.1 s.2 = false) (h2 : bad2 (a + s.1) (n + s.2) s.2 = false) : rightGo (s :: r) f a n = rightGo r false (a + s.1 + s.2) (n + s.2) := by rw [rightGo_cons, if_neg (by rw [h1]; simp), if_neg (by rw [h2]; simp)]
abbrev rck_in_I (l : List Sp) (i : Nat) (p : Sp) (a1 n0 : Int) (k : Nat) (x : Int) (y : Int) : AS := ⟨[(0, .slice (some ⟨0, 0, none⟩) l.length (l.length + 1)), (3, .int .i64 x), (4, .int .i64 y), (5, .int .i64 ((i : Nat) : Int)), (6, .pointer (some ⟨1, 0, none⟩)), (7, .int .i64 ((k : Nat) : Int))], [(0, ⟨(l).flatMap encS, 1, [], 2⟩), (1, ⟨[.int .i64 p.1, .int .i64 p.2], 2, [], 1⟩)], 2⟩
abbrev rck_in_inv (l : List Sp) (i : Nat) (p : Sp) (a1 n0 : Int) (k : Nat) (x : Int) (y : Int) : Prop := (k : Int) ≤ p.2 ∧ a1 + (k : Int) ≤ 1048577 ∧ x = a1 + (k : Int) ∧ y = n0 + (k : Int)
def rck_in_K (l : List Sp) (i : Nat) (p : Sp) (a1 n0 : Int) : Exit → AS → Prop := fun e s => (okIn a1 p.2 = true ∧ e = .exit 2 ∧ s = ⟨[(0, .slice (some ⟨0, 0, none⟩) l.length (l.length + 1)), (3, .int .i64 (a1 + p.2)), (4, .int .i64 (n0 + p.2)), (5, .int .i64 ((i : Nat) : Int))], [(0, ⟨(l).flatMap encS, 1, [], 2⟩)], 2⟩) ∨ (okIn a1 p.2 = false ∧ e = .ret ∧ s = ⟨[(2, .int .i64 20)], [], 2⟩)
abbrev rck_in_Iu (l : List Sp) (i : Nat) (p : Sp) (a1 n0 : Int) : Nat × Int × Int → AS := fun x => rck_in_I l i p a1 n0 x.1 x.2.1 x.2.2
abbrev rck_in_vu (l : List Sp) (i : Nat) (p : Sp) (a1 n0 : Int) : Nat × Int × Int → Prop := fun x => rck_in_inv l i p a1 n0 x.1 x.2.1 x.2.2
abbrev rck_in_m (l : List Sp) (i : Nat) (p : Sp) (a1 n0 : Int) : Nat × Int × Int → Nat := fun x => (fun (k : Nat) (x : Int) (y : Int) => (p.2 - (k : Int)).toNat) x.1 x.2.1 x.2.2
theorem rck_in_round (l : List Sp) (i : Nat) (p : Sp) (a1 n0 : Int) (h_s : 0 ≤ p.2 ∧ p.2 ≤ 4096) (h_a : -1048576 ≤ a1 ∧ a1 ≤ 1048576) (h_n : 0 ≤ n0 ∧ n0 ≤ 4096) (k : Nat) (x : Int) (y : Int) (hinv : rck_in_inv l i p a1 n0 k x y) {ds : List Deferred} : Tr Try.prog none ⟨81, ds⟩ 1 (nthLoop Try.f207 1) (rck_in_I l i p a1 n0 k x y) (RK (rck_in_vu l i p a1 n0) (rck_in_Iu l i p a1 n0) (rck_in_m l i p a1 n0) (rck_in_K l i p a1 n0) (k, x, y)) := by
  obtain ⟨hk1, hk2, hx, hy⟩ := hinv
  by_cases h14003 : (((k : Nat) : Int) < p.2)
  · skip
    by_cases h16001 : (x > 1048576)
    · skip
      exact Tr.out (I := (rck_in_Iu l i p a1 n0)) (m := (rck_in_m l i p a1 n0)) (Tr.run follows_mixed (A := [(14003, aT h14003), (16001, aT h16001)]) (rows := []) (by kernel_rfl) .nil (le_ble rfl)) (.inr ⟨(okIn_no.2 (by omega)), rfl, rfl⟩) (by simp)
    · skip
      exact Tr.again (Inv := (rck_in_vu l i p a1 n0)) (I := (rck_in_Iu l i p a1 n0)) (m := (rck_in_m l i p a1 n0)) (k + 1, x + 1, y + 1) (Tr.run follows_mixed (A := [(14003, aT h14003), (16001, aF h16001), (18001, aI .i64 .i64 (x + 1) (x + 1) (wrap_i64 (by omega) (by omega))), (19001, aI .i64 .i64 (y + 1) (y + 1) (wrap_i64 (by omega) (by omega))), (15001, aI .i64 .i64 (((k : Nat) : Int) + 1) (((k + 1 : Nat) : Int)) (wrap_i64' (by omega) (by omega) (by omega)))]) (rows := [0]) (by kernel_rfl) (.cons (fun _ => encS_sc _) (.skip rfl .nil)) (le_ble rfl)) (show rck_in_inv l i p a1 n0 (k + 1) (x + 1) (y + 1) from ⟨by omega, by omega, by omega, by omega⟩) (by show (p.2 - ((k + 1 : Nat) : Int)).toNat < (p.2 - (k : Int)).toNat; omega)
  · skip
    have hx2 : x = a1 + p.2 := by omega
    have hy2 : y = n0 + p.2 := by omega
    exact Tr.out (I := (rck_in_Iu l i p a1 n0)) (m := (rck_in_m l i p a1 n0)) (s0 := ⟨[(0, .slice (some ⟨0, 0, none⟩) l.length (l.length + 1)), (3, .int .i64 x), (4, .int .i64 y), (5, .int .i64 ((i : Nat) : Int))], [(0, ⟨(l).flatMap encS, 1, [], 2⟩)], 2⟩) (Tr.run follows_mixed (A := [(14003, aF h14003)]) (rows := [0]) (by kernel_rfl) (.cons (fun _ => encS_sc _) .nil) (le_ble rfl)) (.inl ⟨(okIn_yes.2 (by omega)), rfl, (by rw [hx2, hy2])⟩) (by simp)

theorem rck_in_loop (l : List Sp) (i : Nat) (p : Sp) (a1 n0 : Int) (h_s : 0 ≤ p.2 ∧ p.2 ≤ 4096) (h_a : -1048576 ≤ a1 ∧ a1 ≤ 1048576) (h_n : 0 ≤ n0 ∧ n0 ≤ 4096) (k : Nat) (x : Int) (y : Int) (hinv : rck_in_inv l i p a1 n0 k x y) {ds : List Deferred} : Tr Try.prog none ⟨81, ds⟩ 1 (.loop (nthLoop Try.f207 1)) (rck_in_I l i p a1 n0 k x y) (rck_in_K l i p a1 n0) :=
  Tr.rounds (Inv := (rck_in_vu l i p a1 n0)) (I := (rck_in_Iu l i p a1 n0)) (m := (rck_in_m l i p a1 n0)) (fun x h_0 => rck_in_round l i p a1 n0 h_s h_a h_n x.1 x.2.1 x.2.2 h_0) (k, x, y) hinv
abbrev rck_I (l : List Sp) (i : Nat) (a : Int) (n : Int) : AS := ⟨[(0, .slice (some ⟨0, 0, none⟩) l.length (l.length + 1)), (3, .int .i64 a), (4, .int .i64 n), (5, .int .i64 ((i : Nat) : Int))], [(0, ⟨(l).flatMap encS, 1, [], 2⟩)], 1⟩
abbrev rck_inv (l : List Sp) (i : Nat) (a : Int) (n : Int) : Prop := i ≤ l.length ∧ right l = rightGo (l.drop i) (i == 0) a n ∧ -1048576 ≤ a ∧ a ≤ 1048577 ∧ 0 ≤ n ∧ n ≤ 4096 ∧ (i = 0 → a = 0)
def rck_K (l : List Sp) : Exit → AS → Prop := fun e s => (right l = true ∧ e = .exit 0 ∧ s = ⟨[], [], 1⟩) ∨ (right l = false ∧ e = .ret ∧ s = ⟨[(2, .int .i64 20)], [], 1⟩)
abbrev rck_Iu (l : List Sp) : Nat × Int × Int → AS := fun x => rck_I l x.1 x.2.1 x.2.2
abbrev rck_vu (l : List Sp) : Nat × Int × Int → Prop := fun x => rck_inv l x.1 x.2.1 x.2.2
abbrev rck_m (l : List Sp) : Nat × Int × Int → Nat := fun x => (fun (i : Nat) (a : Int) (n : Int) => l.length - i) x.1 x.2.1 x.2.2
theorem rck_round (l : List Sp) (h_l : l.length ≤ 1024) (i : Nat) (a : Int) (n : Int) (hinv : rck_inv l i a n) {ds : List Deferred} : Tr Try.prog none ⟨81, ds⟩ 1 (nthLoop Try.f207 0) (rck_I l i a n) (RK (rck_vu l) (rck_Iu l) (rck_m l) (rck_K l) (i, a, n)) := by
  obtain ⟨hi0, hg, ha1, ha2, hn1, hn2, ha0⟩ := hinv
  by_cases h5003 : (((i : Nat) : Int) < ((l.length : Nat) : Int))
  · skip
    obtain ⟨s1, hs1⟩ : ∃ s, l[i]? = some s := ⟨_, List.getElem?_eq_getElem (by omega)⟩
    by_cases h8002 : (s1.1 < -1048576)
    · skip
      have hb : right l = false := by rw [hg, drop_idx hs1]; exact right_bad1 (by have hi : (i == 0) = decide ((i : Int) = 0) := (by by_cases q : i = 0 <;> simp [q] <;> omega); rw [hi]; simp [bad1, inPlace]; omega)
      exact Tr.out (I := (rck_Iu l)) (m := (rck_m l)) (Tr.run follows_mixed (A := [(5003, aT h5003), (7002, aX i l.length 2 (by omega)), (7003, aL encS_k hs1), (8002, aT h8002)]) (rows := []) (by kernel_rfl) .nil (le_ble rfl)) (.inr ⟨hb, rfl, rfl⟩) (by simp)
    · skip
      by_cases h8006 : (s1.1 > 2097152)
      · skip
        have hb : right l = false := by rw [hg, drop_idx hs1]; exact right_bad1 (by have hi : (i == 0) = decide ((i : Int) = 0) := (by by_cases q : i = 0 <;> simp [q] <;> omega); rw [hi]; simp [bad1, inPlace]; omega)
        exact Tr.out (I := (rck_Iu l)) (m := (rck_m l)) (Tr.run follows_mixed (A := [(5003, aT h5003), (7002, aX i l.length 2 (by omega)), (7003, aL encS_k hs1), (8002, aF h8002), (8006, aT h8006)]) (rows := []) (by kernel_rfl) .nil (le_ble rfl)) (.inr ⟨hb, rfl, rfl⟩) (by simp)
      · skip
        by_cases h8010 : ((((i : Nat) : Int) : Int) = 0)
        · skip
          by_cases h8014 : (s1.1 > 1048576)
          · skip
            have hb : right l = false := by rw [hg, drop_idx hs1]; exact right_bad2 (by simp [bad2, inPlace]; omega)
            exact Tr.out (I := (rck_Iu l)) (m := (rck_m l)) (Tr.run follows_mixed (A := [(5003, aT h5003), (7002, aX i l.length 2 (by omega)), (7003, aL encS_k hs1), (8002, aF h8002), (8006, aF h8006), (8010, aT h8010), (8014, aT h8014)]) (rows := []) (by kernel_rfl) .nil (le_ble rfl)) (.inr ⟨hb, rfl, rfl⟩) (by simp)
          · skip
            by_cases h8019 : (((i : Nat) : Int) > 0)
            · skip
              by_cases h8023 : (s1.1 < 0)
              · skip
                have hb : right l = false := by rw [hg, drop_idx hs1]; exact right_bad1 (by have hi : (i == 0) = decide ((i : Int) = 0) := (by by_cases q : i = 0 <;> simp [q] <;> omega); rw [hi]; simp [bad1, inPlace]; omega)
                exact Tr.out (I := (rck_Iu l)) (m := (rck_m l)) (Tr.run follows_mixed (A := [(5003, aT h5003), (7002, aX i l.length 2 (by omega)), (7003, aL encS_k hs1), (8002, aF h8002), (8006, aF h8006), (8010, aT h8010), (8014, aF h8014), (8019, aT h8019), (8023, aT h8023)]) (rows := []) (by kernel_rfl) .nil (le_ble rfl)) (.inr ⟨hb, rfl, rfl⟩) (by simp)
              · skip
                by_cases h8029 : (s1.2 < 0)
                · skip
                  have hb : right l = false := by rw [hg, drop_idx hs1]; exact right_bad1 (by have hi : (i == 0) = decide ((i : Int) = 0) := (by by_cases q : i = 0 <;> simp [q] <;> omega); rw [hi]; simp [bad1, inPlace]; omega)
                  exact Tr.out (I := (rck_Iu l)) (m := (rck_m l)) (Tr.run follows_mixed (A := [(5003, aT h5003), (7002, aX i l.length 2 (by omega)), (7003, aL encS_k hs1), (8002, aF h8002), (8006, aF h8006), (8010, aT h8010), (8014, aF h8014), (8019, aT h8019), (8023, aF h8023), (8029, aT h8029)]) (rows := []) (by kernel_rfl) .nil (le_ble rfl)) (.inr ⟨hb, rfl, rfl⟩) (by simp)
                · skip
                  by_cases h8034 : (s1.2 > 4096)
                  · skip
                    have hb : right l = false := by rw [hg, drop_idx hs1]; exact right_bad1 (by have hi : (i == 0) = decide ((i : Int) = 0) := (by by_cases q : i = 0 <;> simp [q] <;> omega); rw [hi]; simp [bad1, inPlace]; omega)
                    exact Tr.out (I := (rck_Iu l)) (m := (rck_m l)) (Tr.run follows_mixed (A := [(5003, aT h5003), (7002, aX i l.length 2 (by omega)), (7003, aL encS_k hs1), (8002, aF h8002), (8006, aF h8006), (8010, aT h8010), (8014, aF h8014), (8019, aT h8019), (8023, aF h8023), (8029, aF h8029), (8034, aT h8034)]) (rows := []) (by kernel_rfl) .nil (le_ble rfl)) (.inr ⟨hb, rfl, rfl⟩) (by simp)
                  · skip
                    by_cases h11001 : (a + s1.1 < -1048576)
                    · skip
                      have hb : right l = false := by rw [hg, drop_idx hs1]; exact right_bad2 (by simp [bad2, inPlace]; omega)
                      exact Tr.out (I := (rck_Iu l)) (m := (rck_m l)) (Tr.run follows_mixed (A := [(5003, aT h5003), (7002, aX i l.length 2 (by omega)), (7003, aL encS_k hs1), (8002, aF h8002), (8006, aF h8006), (8010, aT h8010), (8014, aF h8014), (8019, aT h8019), (8023, aF h8023), (8029, aF h8029), (8034, aF h8034), (10003, aI .i64 .i64 (a + s1.1) (a + s1.1) (wrap_i64 (by omega) (by omega))), (11001, aT h11001)]) (rows := []) (by kernel_rfl) .nil (le_ble rfl)) (.inr ⟨hb, rfl, rfl⟩) (by simp)
                    · skip
                      by_cases h11004 : (a + s1.1 > 1048576)
                      · skip
                        have hb : right l = false := by rw [hg, drop_idx hs1]; exact right_bad2 (by simp [bad2, inPlace]; omega)
                        exact Tr.out (I := (rck_Iu l)) (m := (rck_m l)) (Tr.run follows_mixed (A := [(5003, aT h5003), (7002, aX i l.length 2 (by omega)), (7003, aL encS_k hs1), (8002, aF h8002), (8006, aF h8006), (8010, aT h8010), (8014, aF h8014), (8019, aT h8019), (8023, aF h8023), (8029, aF h8029), (8034, aF h8034), (10003, aI .i64 .i64 (a + s1.1) (a + s1.1) (wrap_i64 (by omega) (by omega))), (11001, aF h11001), (11004, aT h11004)]) (rows := []) (by kernel_rfl) .nil (le_ble rfl)) (.inr ⟨hb, rfl, rfl⟩) (by simp)
                      · skip
                        cases h7777 : (okIn (a + s1.1) s1.2) with
                        | true =>
                          by_cases h20001 : (n + s1.2 > 4096)
                          · skip
                            have hb : right l = false := by rw [hg, drop_idx hs1]; exact right_bad2 (by simp [bad2, inPlace]; omega)
                            exact Tr.out (I := (rck_Iu l)) (m := (rck_m l)) (Tr.run follows_mixed (A := [(5003, aT h5003), (7002, aX i l.length 2 (by omega)), (7003, aL encS_k hs1), (8002, aF h8002), (8006, aF h8006), (8010, aT h8010), (8014, aF h8014), (8019, aT h8019), (8023, aF h8023), (8029, aF h8029), (8034, aF h8034), (10003, aI .i64 .i64 (a + s1.1) (a + s1.1) (wrap_i64 (by omega) (by omega))), (11001, aF h11001), (11004, aF h11004), (900000, .stmt (.loop (nthLoop Try.f207 1)) [0] (rck_in_I l i s1 (a + s1.1) n 0 (a + s1.1) n) (.exit 2) ⟨[(0, .slice (some ⟨0, 0, none⟩) l.length (l.length + 1)), (3, .int .i64 (a + s1.1 + s1.2)), (4, .int .i64 (n + s1.2)), (5, .int .i64 ((i : Nat) : Int))], [(0, ⟨(l).flatMap encS, 1, [], 2⟩)], 2⟩ (.cons (fun _ => encS_sc _) (.skip rfl .nil)) (fun ds => (rck_in_loop l i s1 (a + s1.1) n (by omega) (by omega) (by omega) 0 (a + s1.1) n ⟨by omega, by omega, by omega, by omega⟩).pick (fun e s h => by rcases h with ⟨_, h⟩ | ⟨h0, _⟩; exact h; rw [h7777] at h0; cases h0)) (le_ble rfl)), (20001, aT h20001)]) (rows := []) (by kernel_rfl) .nil (le_ble rfl)) (.inr ⟨hb, rfl, rfl⟩) (by simp)
                          · skip
                            exact Tr.again (Inv := (rck_vu l)) (I := (rck_Iu l)) (m := (rck_m l)) (i + 1, a + s1.1 + s1.2, n + s1.2) (Tr.run follows_mixed (A := [(5003, aT h5003), (7002, aX i l.length 2 (by omega)), (7003, aL encS_k hs1), (8002, aF h8002), (8006, aF h8006), (8010, aT h8010), (8014, aF h8014), (8019, aT h8019), (8023, aF h8023), (8029, aF h8029), (8034, aF h8034), (10003, aI .i64 .i64 (a + s1.1) (a + s1.1) (wrap_i64 (by omega) (by omega))), (11001, aF h11001), (11004, aF h11004), (900000, .stmt (.loop (nthLoop Try.f207 1)) [0] (rck_in_I l i s1 (a + s1.1) n 0 (a + s1.1) n) (.exit 2) ⟨[(0, .slice (some ⟨0, 0, none⟩) l.length (l.length + 1)), (3, .int .i64 (a + s1.1 + s1.2)), (4, .int .i64 (n + s1.2)), (5, .int .i64 ((i : Nat) : Int))], [(0, ⟨(l).flatMap encS, 1, [], 2⟩)], 2⟩ (.cons (fun _ => encS_sc _) (.skip rfl .nil)) (fun ds => (rck_in_loop l i s1 (a + s1.1) n (by omega) (by omega) (by omega) 0 (a + s1.1) n ⟨by omega, by omega, by omega, by omega⟩).pick (fun e s h => by rcases h with ⟨_, h⟩ | ⟨h0, _⟩; exact h; rw [h7777] at h0; cases h0)) (le_ble rfl)), (20001, aF h20001), (6001, aI .i64 .i64 (((i : Nat) : Int) + 1) (((i + 1 : Nat) : Int)) (wrap_i64' (by omega) (by omega) (by omega)))]) (rows := [0]) (by kernel_rfl) (.cons (fun _ => encS_sc _) .nil) (le_ble rfl)) (show rck_inv l (i + 1) (a + s1.1 + s1.2) (n + s1.2) from ⟨by omega, by rw [hg, drop_idx hs1, right_good (by have hi : (i == 0) = decide ((i : Int) = 0) := (by by_cases q : i = 0 <;> simp [q] <;> omega); rw [hi]; simp [bad1, inPlace]; omega) (by have ho := okIn_yes.1 h7777; simp [bad2, inPlace]; omega)]; simp, by omega, by have ho := okIn_yes.1 h7777; omega, by omega, by omega, by omega⟩) (by show l.length - (i + 1) < l.length - i; omega)
                        | false =>
                          have ho := okIn_no.1 h7777
                          have hb : right l = false := by rw [hg, drop_idx hs1]; exact right_bad2 (by simp [bad2, inPlace]; omega)
                          exact Tr.out (I := (rck_Iu l)) (m := (rck_m l)) (Tr.run follows_mixed (A := [(5003, aT h5003), (7002, aX i l.length 2 (by omega)), (7003, aL encS_k hs1), (8002, aF h8002), (8006, aF h8006), (8010, aT h8010), (8014, aF h8014), (8019, aT h8019), (8023, aF h8023), (8029, aF h8029), (8034, aF h8034), (10003, aI .i64 .i64 (a + s1.1) (a + s1.1) (wrap_i64 (by omega) (by omega))), (11001, aF h11001), (11004, aF h11004), (900000, .stmt (.loop (nthLoop Try.f207 1)) [0] (rck_in_I l i s1 (a + s1.1) n 0 (a + s1.1) n) (.ret) ⟨[(2, .int .i64 20)], [], 2⟩ (.cons (fun _ => encS_sc _) (.skip rfl .nil)) (fun ds => (rck_in_loop l i s1 (a + s1.1) n (by omega) (by omega) (by omega) 0 (a + s1.1) n ⟨by omega, by omega, by omega, by omega⟩).pick (fun e s h => by rcases h with ⟨h0, _⟩ | ⟨_, h⟩; rw [h7777] at h0; cases h0; exact h)) (le_ble rfl))]) (rows := []) (by kernel_rfl) .nil (le_ble rfl)) (.inr ⟨hb, rfl, rfl⟩) (by simp)
            · skip
              by_cases h8029 : (s1.2 < 0)
              · skip
                have hb : right l = false := by rw [hg, drop_idx hs1]; exact right_bad1 (by have hi : (i == 0) = decide ((i : Int) = 0) := (by by_cases q : i = 0 <;> simp [q] <;> omega); rw [hi]; simp [bad1, inPlace]; omega)
                exact Tr.out (I := (rck_Iu l)) (m := (rck_m l)) (Tr.run follows_mixed (A := [(5003, aT h5003), (7002, aX i l.length 2 (by omega)), (7003, aL encS_k hs1), (8002, aF h8002), (8006, aF h8006), (8010, aT h8010), (8014, aF h8014), (8019, aF h8019), (8029, aT h8029)]) (rows := []) (by kernel_rfl) .nil (le_ble rfl)) (.inr ⟨hb, rfl, rfl⟩) (by simp)
              · skip
                by_cases h8034 : (s1.2 > 4096)
                · skip
                  have hb : right l = false := by rw [hg, drop_idx hs1]; exact right_bad1 (by have hi : (i == 0) = decide ((i : Int) = 0) := (by by_cases q : i = 0 <;> simp [q] <;> omega); rw [hi]; simp [bad1, inPlace]; omega)
                  exact Tr.out (I := (rck_Iu l)) (m := (rck_m l)) (Tr.run follows_mixed (A := [(5003, aT h5003), (7002, aX i l.length 2 (by omega)), (7003, aL encS_k hs1), (8002, aF h8002), (8006, aF h8006), (8010, aT h8010), (8014, aF h8014), (8019, aF h8019), (8029, aF h8029), (8034, aT h8034)]) (rows := []) (by kernel_rfl) .nil (le_ble rfl)) (.inr ⟨hb, rfl, rfl⟩) (by simp)
                · skip
                  by_cases h11001 : (a + s1.1 < -1048576)
                  · skip
                    have hb : right l = false := by rw [hg, drop_idx hs1]; exact right_bad2 (by simp [bad2, inPlace]; omega)
                    exact Tr.out (I := (rck_Iu l)) (m := (rck_m l)) (Tr.run follows_mixed (A := [(5003, aT h5003), (7002, aX i l.length 2 (by omega)), (7003, aL encS_k hs1), (8002, aF h8002), (8006, aF h8006), (8010, aT h8010), (8014, aF h8014), (8019, aF h8019), (8029, aF h8029), (8034, aF h8034), (10003, aI .i64 .i64 (a + s1.1) (a + s1.1) (wrap_i64 (by omega) (by omega))), (11001, aT h11001)]) (rows := []) (by kernel_rfl) .nil (le_ble rfl)) (.inr ⟨hb, rfl, rfl⟩) (by simp)
                  · skip
                    by_cases h11004 : (a + s1.1 > 1048576)
                    · skip
                      have hb : right l = false := by rw [hg, drop_idx hs1]; exact right_bad2 (by simp [bad2, inPlace]; omega)
                      exact Tr.out (I := (rck_Iu l)) (m := (rck_m l)) (Tr.run follows_mixed (A := [(5003, aT h5003), (7002, aX i l.length 2 (by omega)), (7003, aL encS_k hs1), (8002, aF h8002), (8006, aF h8006), (8010, aT h8010), (8014, aF h8014), (8019, aF h8019), (8029, aF h8029), (8034, aF h8034), (10003, aI .i64 .i64 (a + s1.1) (a + s1.1) (wrap_i64 (by omega) (by omega))), (11001, aF h11001), (11004, aT h11004)]) (rows := []) (by kernel_rfl) .nil (le_ble rfl)) (.inr ⟨hb, rfl, rfl⟩) (by simp)
                    · skip
                      cases h7777 : (okIn (a + s1.1) s1.2) with
                      | true =>
                        by_cases h20001 : (n + s1.2 > 4096)
                        · skip
                          have hb : right l = false := by rw [hg, drop_idx hs1]; exact right_bad2 (by simp [bad2, inPlace]; omega)
                          exact Tr.out (I := (rck_Iu l)) (m := (rck_m l)) (Tr.run follows_mixed (A := [(5003, aT h5003), (7002, aX i l.length 2 (by omega)), (7003, aL encS_k hs1), (8002, aF h8002), (8006, aF h8006), (8010, aT h8010), (8014, aF h8014), (8019, aF h8019), (8029, aF h8029), (8034, aF h8034), (10003, aI .i64 .i64 (a + s1.1) (a + s1.1) (wrap_i64 (by omega) (by omega))), (11001, aF h11001), (11004, aF h11004), (900000, .stmt (.loop (nthLoop Try.f207 1)) [0] (rck_in_I l i s1 (a + s1.1) n 0 (a + s1.1) n) (.exit 2) ⟨[(0, .slice (some ⟨0, 0, none⟩) l.length (l.length + 1)), (3, .int .i64 (a + s1.1 + s1.2)), (4, .int .i64 (n + s1.2)), (5, .int .i64 ((i : Nat) : Int))], [(0, ⟨(l).flatMap encS, 1, [], 2⟩)], 2⟩ (.cons (fun _ => encS_sc _) (.skip rfl .nil)) (fun ds => (rck_in_loop l i s1 (a + s1.1) n (by omega) (by omega) (by omega) 0 (a + s1.1) n ⟨by omega, by omega, by omega, by omega⟩).pick (fun e s h => by rcases h with ⟨_, h⟩ | ⟨h0, _⟩; exact h; rw [h7777] at h0; cases h0)) (le_ble rfl)), (20001, aT h20001)]) (rows := []) (by kernel_rfl) .nil (le_ble rfl)) (.inr ⟨hb, rfl, rfl⟩) (by simp)
                        · skip
                          exact Tr.again (Inv := (rck_vu l)) (I := (rck_Iu l)) (m := (rck_m l)) (i + 1, a + s1.1 + s1.2, n + s1.2) (Tr.run follows_mixed (A := [(5003, aT h5003), (7002, aX i l.length 2 (by omega)), (7003, aL encS_k hs1), (8002, aF h8002), (8006, aF h8006), (8010, aT h8010), (8014, aF h8014), (8019, aF h8019), (8029, aF h8029), (8034, aF h8034), (10003, aI .i64 .i64 (a + s1.1) (a + s1.1) (wrap_i64 (by omega) (by omega))), (11001, aF h11001), (11004, aF h11004), (900000, .stmt (.loop (nthLoop Try.f207 1)) [0] (rck_in_I l i s1 (a + s1.1) n 0 (a + s1.1) n) (.exit 2) ⟨[(0, .slice (some ⟨0, 0, none⟩) l.length (l.length + 1)), (3, .int .i64 (a + s1.1 + s1.2)), (4, .int .i64 (n + s1.2)), (5, .int .i64 ((i : Nat) : Int))], [(0, ⟨(l).flatMap encS, 1, [], 2⟩)], 2⟩ (.cons (fun _ => encS_sc _) (.skip rfl .nil)) (fun ds => (rck_in_loop l i s1 (a + s1.1) n (by omega) (by omega) (by omega) 0 (a + s1.1) n ⟨by omega, by omega, by omega, by omega⟩).pick (fun e s h => by rcases h with ⟨_, h⟩ | ⟨h0, _⟩; exact h; rw [h7777] at h0; cases h0)) (le_ble rfl)), (20001, aF h20001), (6001, aI .i64 .i64 (((i : Nat) : Int) + 1) (((i + 1 : Nat) : Int)) (wrap_i64' (by omega) (by omega) (by omega)))]) (rows := [0]) (by kernel_rfl) (.cons (fun _ => encS_sc _) .nil) (le_ble rfl)) (show rck_inv l (i + 1) (a + s1.1 + s1.2) (n + s1.2) from ⟨by omega, by rw [hg, drop_idx hs1, right_good (by have hi : (i == 0) = decide ((i : Int) = 0) := (by by_cases q : i = 0 <;> simp [q] <;> omega); rw [hi]; simp [bad1, inPlace]; omega) (by have ho := okIn_yes.1 h7777; simp [bad2, inPlace]; omega)]; simp, by omega, by have ho := okIn_yes.1 h7777; omega, by omega, by omega, by omega⟩) (by show l.length - (i + 1) < l.length - i; omega)
                      | false =>
                        have ho := okIn_no.1 h7777
                        have hb : right l = false := by rw [hg, drop_idx hs1]; exact right_bad2 (by simp [bad2, inPlace]; omega)
                        exact Tr.out (I := (rck_Iu l)) (m := (rck_m l)) (Tr.run follows_mixed (A := [(5003, aT h5003), (7002, aX i l.length 2 (by omega)), (7003, aL encS_k hs1), (8002, aF h8002), (8006, aF h8006), (8010, aT h8010), (8014, aF h8014), (8019, aF h8019), (8029, aF h8029), (8034, aF h8034), (10003, aI .i64 .i64 (a + s1.1) (a + s1.1) (wrap_i64 (by omega) (by omega))), (11001, aF h11001), (11004, aF h11004), (900000, .stmt (.loop (nthLoop Try.f207 1)) [0] (rck_in_I l i s1 (a + s1.1) n 0 (a + s1.1) n) (.ret) ⟨[(2, .int .i64 20)], [], 2⟩ (.cons (fun _ => encS_sc _) (.skip rfl .nil)) (fun ds => (rck_in_loop l i s1 (a + s1.1) n (by omega) (by omega) (by omega) 0 (a + s1.1) n ⟨by omega, by omega, by omega, by omega⟩).pick (fun e s h => by rcases h with ⟨h0, _⟩ | ⟨_, h⟩; rw [h7777] at h0; cases h0; exact h)) (le_ble rfl))]) (rows := []) (by kernel_rfl) .nil (le_ble rfl)) (.inr ⟨hb, rfl, rfl⟩) (by simp)
        · skip
          by_cases h8019 : (((i : Nat) : Int) > 0)
          · skip
            by_cases h8023 : (s1.1 < 0)
            · skip
              have hb : right l = false := by rw [hg, drop_idx hs1]; exact right_bad1 (by have hi : (i == 0) = decide ((i : Int) = 0) := (by by_cases q : i = 0 <;> simp [q] <;> omega); rw [hi]; simp [bad1, inPlace]; omega)
              exact Tr.out (I := (rck_Iu l)) (m := (rck_m l)) (Tr.run follows_mixed (A := [(5003, aT h5003), (7002, aX i l.length 2 (by omega)), (7003, aL encS_k hs1), (8002, aF h8002), (8006, aF h8006), (8010, aF h8010), (8019, aT h8019), (8023, aT h8023)]) (rows := []) (by kernel_rfl) .nil (le_ble rfl)) (.inr ⟨hb, rfl, rfl⟩) (by simp)
            · skip
              by_cases h8029 : (s1.2 < 0)
              · skip
                have hb : right l = false := by rw [hg, drop_idx hs1]; exact right_bad1 (by have hi : (i == 0) = decide ((i : Int) = 0) := (by by_cases q : i = 0 <;> simp [q] <;> omega); rw [hi]; simp [bad1, inPlace]; omega)
                exact Tr.out (I := (rck_Iu l)) (m := (rck_m l)) (Tr.run follows_mixed (A := [(5003, aT h5003), (7002, aX i l.length 2 (by omega)), (7003, aL encS_k hs1), (8002, aF h8002), (8006, aF h8006), (8010, aF h8010), (8019, aT h8019), (8023, aF h8023), (8029, aT h8029)]) (rows := []) (by kernel_rfl) .nil (le_ble rfl)) (.inr ⟨hb, rfl, rfl⟩) (by simp)
              · skip
                by_cases h8034 : (s1.2 > 4096)
                · skip
                  have hb : right l = false := by rw [hg, drop_idx hs1]; exact right_bad1 (by have hi : (i == 0) = decide ((i : Int) = 0) := (by by_cases q : i = 0 <;> simp [q] <;> omega); rw [hi]; simp [bad1, inPlace]; omega)
                  exact Tr.out (I := (rck_Iu l)) (m := (rck_m l)) (Tr.run follows_mixed (A := [(5003, aT h5003), (7002, aX i l.length 2 (by omega)), (7003, aL encS_k hs1), (8002, aF h8002), (8006, aF h8006), (8010, aF h8010), (8019, aT h8019), (8023, aF h8023), (8029, aF h8029), (8034, aT h8034)]) (rows := []) (by kernel_rfl) .nil (le_ble rfl)) (.inr ⟨hb, rfl, rfl⟩) (by simp)
                · skip
                  by_cases h11001 : (a + s1.1 < -1048576)
                  · skip
                    have hb : right l = false := by rw [hg, drop_idx hs1]; exact right_bad2 (by simp [bad2, inPlace]; omega)
                    exact Tr.out (I := (rck_Iu l)) (m := (rck_m l)) (Tr.run follows_mixed (A := [(5003, aT h5003), (7002, aX i l.length 2 (by omega)), (7003, aL encS_k hs1), (8002, aF h8002), (8006, aF h8006), (8010, aF h8010), (8019, aT h8019), (8023, aF h8023), (8029, aF h8029), (8034, aF h8034), (10003, aI .i64 .i64 (a + s1.1) (a + s1.1) (wrap_i64 (by omega) (by omega))), (11001, aT h11001)]) (rows := []) (by kernel_rfl) .nil (le_ble rfl)) (.inr ⟨hb, rfl, rfl⟩) (by simp)
                  · skip
                    by_cases h11004 : (a + s1.1 > 1048576)
                    · skip
                      have hb : right l = false := by rw [hg, drop_idx hs1]; exact right_bad2 (by simp [bad2, inPlace]; omega)
                      exact Tr.out (I := (rck_Iu l)) (m := (rck_m l)) (Tr.run follows_mixed (A := [(5003, aT h5003), (7002, aX i l.length 2 (by omega)), (7003, aL encS_k hs1), (8002, aF h8002), (8006, aF h8006), (8010, aF h8010), (8019, aT h8019), (8023, aF h8023), (8029, aF h8029), (8034, aF h8034), (10003, aI .i64 .i64 (a + s1.1) (a + s1.1) (wrap_i64 (by omega) (by omega))), (11001, aF h11001), (11004, aT h11004)]) (rows := []) (by kernel_rfl) .nil (le_ble rfl)) (.inr ⟨hb, rfl, rfl⟩) (by simp)
                    · skip
                      cases h7777 : (okIn (a + s1.1) s1.2) with
                      | true =>
                        by_cases h20001 : (n + s1.2 > 4096)
                        · skip
                          have hb : right l = false := by rw [hg, drop_idx hs1]; exact right_bad2 (by simp [bad2, inPlace]; omega)
                          exact Tr.out (I := (rck_Iu l)) (m := (rck_m l)) (Tr.run follows_mixed (A := [(5003, aT h5003), (7002, aX i l.length 2 (by omega)), (7003, aL encS_k hs1), (8002, aF h8002), (8006, aF h8006), (8010, aF h8010), (8019, aT h8019), (8023, aF h8023), (8029, aF h8029), (8034, aF h8034), (10003, aI .i64 .i64 (a + s1.1) (a + s1.1) (wrap_i64 (by omega) (by omega))), (11001, aF h11001), (11004, aF h11004), (900000, .stmt (.loop (nthLoop Try.f207 1)) [0] (rck_in_I l i s1 (a + s1.1) n 0 (a + s1.1) n) (.exit 2) ⟨[(0, .slice (some ⟨0, 0, none⟩) l.length (l.length + 1)), (3, .int .i64 (a + s1.1 + s1.2)), (4, .int .i64 (n + s1.2)), (5, .int .i64 ((i : Nat) : Int))], [(0, ⟨(l).flatMap encS, 1, [], 2⟩)], 2⟩ (.cons (fun _ => encS_sc _) (.skip rfl .nil)) (fun ds => (rck_in_loop l i s1 (a + s1.1) n (by omega) (by omega) (by omega) 0 (a + s1.1) n ⟨by omega, by omega, by omega, by omega⟩).pick (fun e s h => by rcases h with ⟨_, h⟩ | ⟨h0, _⟩; exact h; rw [h7777] at h0; cases h0)) (le_ble rfl)), (20001, aT h20001)]) (rows := []) (by kernel_rfl) .nil (le_ble rfl)) (.inr ⟨hb, rfl, rfl⟩) (by simp)
                        · skip
                          exact Tr.again (Inv := (rck_vu l)) (I := (rck_Iu l)) (m := (rck_m l)) (i + 1, a + s1.1 + s1.2, n + s1.2) (Tr.run follows_mixed (A := [(5003, aT h5003), (7002, aX i l.length 2 (by omega)), (7003, aL encS_k hs1), (8002, aF h8002), (8006, aF h8006), (8010, aF h8010), (8019, aT h8019), (8023, aF h8023), (8029, aF h8029), (8034, aF h8034), (10003, aI .i64 .i64 (a + s1.1) (a + s1.1) (wrap_i64 (by omega) (by omega))), (11001, aF h11001), (11004, aF h11004), (900000, .stmt (.loop (nthLoop Try.f207 1)) [0] (rck_in_I l i s1 (a + s1.1) n 0 (a + s1.1) n) (.exit 2) ⟨[(0, .slice (some ⟨0, 0, none⟩) l.length (l.length + 1)), (3, .int .i64 (a + s1.1 + s1.2)), (4, .int .i64 (n + s1.2)), (5, .int .i64 ((i : Nat) : Int))], [(0, ⟨(l).flatMap encS, 1, [], 2⟩)], 2⟩ (.cons (fun _ => encS_sc _) (.skip rfl .nil)) (fun ds => (rck_in_loop l i s1 (a + s1.1) n (by omega) (by omega) (by omega) 0 (a + s1.1) n ⟨by omega, by omega, by omega, by omega⟩).pick (fun e s h => by rcases h with ⟨_, h⟩ | ⟨h0, _⟩; exact h; rw [h7777] at h0; cases h0)) (le_ble rfl)), (20001, aF h20001), (6001, aI .i64 .i64 (((i : Nat) : Int) + 1) (((i + 1 : Nat) : Int)) (wrap_i64' (by omega) (by omega) (by omega)))]) (rows := [0]) (by kernel_rfl) (.cons (fun _ => encS_sc _) .nil) (le_ble rfl)) (show rck_inv l (i + 1) (a + s1.1 + s1.2) (n + s1.2) from ⟨by omega, by rw [hg, drop_idx hs1, right_good (by have hi : (i == 0) = decide ((i : Int) = 0) := (by by_cases q : i = 0 <;> simp [q] <;> omega); rw [hi]; simp [bad1, inPlace]; omega) (by have ho := okIn_yes.1 h7777; simp [bad2, inPlace]; omega)]; simp, by omega, by have ho := okIn_yes.1 h7777; omega, by omega, by omega, by omega⟩) (by show l.length - (i + 1) < l.length - i; omega)
                      | false =>
                        have ho := okIn_no.1 h7777
                        have hb : right l = false := by rw [hg, drop_idx hs1]; exact right_bad2 (by simp [bad2, inPlace]; omega)
                        exact Tr.out (I := (rck_Iu l)) (m := (rck_m l)) (Tr.run follows_mixed (A := [(5003, aT h5003), (7002, aX i l.length 2 (by omega)), (7003, aL encS_k hs1), (8002, aF h8002), (8006, aF h8006), (8010, aF h8010), (8019, aT h8019), (8023, aF h8023), (8029, aF h8029), (8034, aF h8034), (10003, aI .i64 .i64 (a + s1.1) (a + s1.1) (wrap_i64 (by omega) (by omega))), (11001, aF h11001), (11004, aF h11004), (900000, .stmt (.loop (nthLoop Try.f207 1)) [0] (rck_in_I l i s1 (a + s1.1) n 0 (a + s1.1) n) (.ret) ⟨[(2, .int .i64 20)], [], 2⟩ (.cons (fun _ => encS_sc _) (.skip rfl .nil)) (fun ds => (rck_in_loop l i s1 (a + s1.1) n (by omega) (by omega) (by omega) 0 (a + s1.1) n ⟨by omega, by omega, by omega, by omega⟩).pick (fun e s h => by rcases h with ⟨h0, _⟩ | ⟨_, h⟩; rw [h7777] at h0; cases h0; exact h)) (le_ble rfl))]) (rows := []) (by kernel_rfl) .nil (le_ble rfl)) (.inr ⟨hb, rfl, rfl⟩) (by simp)
          · skip
            by_cases h8029 : (s1.2 < 0)
            · skip
              have hb : right l = false := by rw [hg, drop_idx hs1]; exact right_bad1 (by have hi : (i == 0) = decide ((i : Int) = 0) := (by by_cases q : i = 0 <;> simp [q] <;> omega); rw [hi]; simp [bad1, inPlace]; omega)
              exact Tr.out (I := (rck_Iu l)) (m := (rck_m l)) (Tr.run follows_mixed (A := [(5003, aT h5003), (7002, aX i l.length 2 (by omega)), (7003, aL encS_k hs1), (8002, aF h8002), (8006, aF h8006), (8010, aF h8010), (8019, aF h8019), (8029, aT h8029)]) (rows := []) (by kernel_rfl) .nil (le_ble rfl)) (.inr ⟨hb, rfl, rfl⟩) (by simp)
            · skip
              by_cases h8034 : (s1.2 > 4096)
              · skip
                have hb : right l = false := by rw [hg, drop_idx hs1]; exact right_bad1 (by have hi : (i == 0) = decide ((i : Int) = 0) := (by by_cases q : i = 0 <;> simp [q] <;> omega); rw [hi]; simp [bad1, inPlace]; omega)
                exact Tr.out (I := (rck_Iu l)) (m := (rck_m l)) (Tr.run follows_mixed (A := [(5003, aT h5003), (7002, aX i l.length 2 (by omega)), (7003, aL encS_k hs1), (8002, aF h8002), (8006, aF h8006), (8010, aF h8010), (8019, aF h8019), (8029, aF h8029), (8034, aT h8034)]) (rows := []) (by kernel_rfl) .nil (le_ble rfl)) (.inr ⟨hb, rfl, rfl⟩) (by simp)
              · skip
                by_cases h11001 : (a + s1.1 < -1048576)
                · skip
                  have hb : right l = false := by rw [hg, drop_idx hs1]; exact right_bad2 (by simp [bad2, inPlace]; omega)
                  exact Tr.out (I := (rck_Iu l)) (m := (rck_m l)) (Tr.run follows_mixed (A := [(5003, aT h5003), (7002, aX i l.length 2 (by omega)), (7003, aL encS_k hs1), (8002, aF h8002), (8006, aF h8006), (8010, aF h8010), (8019, aF h8019), (8029, aF h8029), (8034, aF h8034), (10003, aI .i64 .i64 (a + s1.1) (a + s1.1) (wrap_i64 (by omega) (by omega))), (11001, aT h11001)]) (rows := []) (by kernel_rfl) .nil (le_ble rfl)) (.inr ⟨hb, rfl, rfl⟩) (by simp)
                · skip
                  by_cases h11004 : (a + s1.1 > 1048576)
                  · skip
                    have hb : right l = false := by rw [hg, drop_idx hs1]; exact right_bad2 (by simp [bad2, inPlace]; omega)
                    exact Tr.out (I := (rck_Iu l)) (m := (rck_m l)) (Tr.run follows_mixed (A := [(5003, aT h5003), (7002, aX i l.length 2 (by omega)), (7003, aL encS_k hs1), (8002, aF h8002), (8006, aF h8006), (8010, aF h8010), (8019, aF h8019), (8029, aF h8029), (8034, aF h8034), (10003, aI .i64 .i64 (a + s1.1) (a + s1.1) (wrap_i64 (by omega) (by omega))), (11001, aF h11001), (11004, aT h11004)]) (rows := []) (by kernel_rfl) .nil (le_ble rfl)) (.inr ⟨hb, rfl, rfl⟩) (by simp)
                  · skip
                    cases h7777 : (okIn (a + s1.1) s1.2) with
                    | true =>
                      by_cases h20001 : (n + s1.2 > 4096)
                      · skip
                        have hb : right l = false := by rw [hg, drop_idx hs1]; exact right_bad2 (by simp [bad2, inPlace]; omega)
                        exact Tr.out (I := (rck_Iu l)) (m := (rck_m l)) (Tr.run follows_mixed (A := [(5003, aT h5003), (7002, aX i l.length 2 (by omega)), (7003, aL encS_k hs1), (8002, aF h8002), (8006, aF h8006), (8010, aF h8010), (8019, aF h8019), (8029, aF h8029), (8034, aF h8034), (10003, aI .i64 .i64 (a + s1.1) (a + s1.1) (wrap_i64 (by omega) (by omega))), (11001, aF h11001), (11004, aF h11004), (900000, .stmt (.loop (nthLoop Try.f207 1)) [0] (rck_in_I l i s1 (a + s1.1) n 0 (a + s1.1) n) (.exit 2) ⟨[(0, .slice (some ⟨0, 0, none⟩) l.length (l.length + 1)), (3, .int .i64 (a + s1.1 + s1.2)), (4, .int .i64 (n + s1.2)), (5, .int .i64 ((i : Nat) : Int))], [(0, ⟨(l).flatMap encS, 1, [], 2⟩)], 2⟩ (.cons (fun _ => encS_sc _) (.skip rfl .nil)) (fun ds => (rck_in_loop l i s1 (a + s1.1) n (by omega) (by omega) (by omega) 0 (a + s1.1) n ⟨by omega, by omega, by omega, by omega⟩).pick (fun e s h => by rcases h with ⟨_, h⟩ | ⟨h0, _⟩; exact h; rw [h7777] at h0; cases h0)) (le_ble rfl)), (20001, aT h20001)]) (rows := []) (by kernel_rfl) .nil (le_ble rfl)) (.inr ⟨hb, rfl, rfl⟩) (by simp)
                      · skip
                        exact Tr.again (Inv := (rck_vu l)) (I := (rck_Iu l)) (m := (rck_m l)) (i + 1, a + s1.1 + s1.2, n + s1.2) (Tr.run follows_mixed (A := [(5003, aT h5003), (7002, aX i l.length 2 (by omega)), (7003, aL encS_k hs1), (8002, aF h8002), (8006, aF h8006), (8010, aF h8010), (8019, aF h8019), (8029, aF h8029), (8034, aF h8034), (10003, aI .i64 .i64 (a + s1.1) (a + s1.1) (wrap_i64 (by omega) (by omega))), (11001, aF h11001), (11004, aF h11004), (900000, .stmt (.loop (nthLoop Try.f207 1)) [0] (rck_in_I l i s1 (a + s1.1) n 0 (a + s1.1) n) (.exit 2) ⟨[(0, .slice (some ⟨0, 0, none⟩) l.length (l.length + 1)), (3, .int .i64 (a + s1.1 + s1.2)), (4, .int .i64 (n + s1.2)), (5, .int .i64 ((i : Nat) : Int))], [(0, ⟨(l).flatMap encS, 1, [], 2⟩)], 2⟩ (.cons (fun _ => encS_sc _) (.skip rfl .nil)) (fun ds => (rck_in_loop l i s1 (a + s1.1) n (by omega) (by omega) (by omega) 0 (a + s1.1) n ⟨by omega, by omega, by omega, by omega⟩).pick (fun e s h => by rcases h with ⟨_, h⟩ | ⟨h0, _⟩; exact h; rw [h7777] at h0; cases h0)) (le_ble rfl)), (20001, aF h20001), (6001, aI .i64 .i64 (((i : Nat) : Int) + 1) (((i + 1 : Nat) : Int)) (wrap_i64' (by omega) (by omega) (by omega)))]) (rows := [0]) (by kernel_rfl) (.cons (fun _ => encS_sc _) .nil) (le_ble rfl)) (show rck_inv l (i + 1) (a + s1.1 + s1.2) (n + s1.2) from ⟨by omega, by rw [hg, drop_idx hs1, right_good (by have hi : (i == 0) = decide ((i : Int) = 0) := (by by_cases q : i = 0 <;> simp [q] <;> omega); rw [hi]; simp [bad1, inPlace]; omega) (by have ho := okIn_yes.1 h7777; simp [bad2, inPlace]; omega)]; simp, by omega, by have ho := okIn_yes.1 h7777; omega, by omega, by omega, by omega⟩) (by show l.length - (i + 1) < l.length - i; omega)
                    | false =>
                      have ho := okIn_no.1 h7777
                      have hb : right l = false := by rw [hg, drop_idx hs1]; exact right_bad2 (by simp [bad2, inPlace]; omega)
                      exact Tr.out (I := (rck_Iu l)) (m := (rck_m l)) (Tr.run follows_mixed (A := [(5003, aT h5003), (7002, aX i l.length 2 (by omega)), (7003, aL encS_k hs1), (8002, aF h8002), (8006, aF h8006), (8010, aF h8010), (8019, aF h8019), (8029, aF h8029), (8034, aF h8034), (10003, aI .i64 .i64 (a + s1.1) (a + s1.1) (wrap_i64 (by omega) (by omega))), (11001, aF h11001), (11004, aF h11004), (900000, .stmt (.loop (nthLoop Try.f207 1)) [0] (rck_in_I l i s1 (a + s1.1) n 0 (a + s1.1) n) (.ret) ⟨[(2, .int .i64 20)], [], 2⟩ (.cons (fun _ => encS_sc _) (.skip rfl .nil)) (fun ds => (rck_in_loop l i s1 (a + s1.1) n (by omega) (by omega) (by omega) 0 (a + s1.1) n ⟨by omega, by omega, by omega, by omega⟩).pick (fun e s h => by rcases h with ⟨h0, _⟩ | ⟨_, h⟩; rw [h7777] at h0; cases h0; exact h)) (le_ble rfl))]) (rows := []) (by kernel_rfl) .nil (le_ble rfl)) (.inr ⟨hb, rfl, rfl⟩) (by simp)
  · skip
    rw [drop_none (by omega), rightGo] at hg
    exact Tr.out (I := (rck_Iu l)) (m := (rck_m l)) (Tr.run follows_mixed (A := [(5003, aF h5003)]) (rows := []) (by kernel_rfl) .nil (le_ble rfl)) (.inl ⟨hg, rfl, rfl⟩) (by simp)

theorem rck_loop (l : List Sp) (h_l : l.length ≤ 1024) (i : Nat) (a : Int) (n : Int) (hinv : rck_inv l i a n) {ds : List Deferred} : Tr Try.prog none ⟨81, ds⟩ 1 (.loop (nthLoop Try.f207 0)) (rck_I l i a n) (rck_K l) :=
  Tr.rounds (Inv := (rck_vu l)) (I := (rck_Iu l)) (m := (rck_m l)) (fun x h_0 => rck_round l h_l x.1 x.2.1 x.2.2 h_0) (i, a, n) hinv
theorem rcheck_ok (l : List Sp) : FnC Try.prog 207 [.slice (some ⟨0, 0, none⟩) l.length (l.length + 1)] [(0, ⟨(l).flatMap encS, 1, [], 2⟩)] 1 (.int .i64 (checkS l)) 0 [] := by
  rcases Bool.eq_false_or_eq_true (right l) with hz | hz
  · skip
    by_cases h1002 : (((l.length : Nat) : Int) > 1024)
    · skip
      exact FnC.eq (v := .int .i64 12) (FnC.run (m := false) follows_mixed has207 [(1002, aT h1002)] (by kernel_rfl) (by kernel_rfl) (.cons (encS_sc _) .nil) .nil) (by unfold checkS; rw [if_pos (by omega)])
    · skip
      have h_l : l.length ≤ 1024 := by omega
      exact FnC.eq (v := .int .i64 0) (FnC.run (m := false) follows_mixed has207 [(1002, aF h1002), (900000, .stmt (.loop (nthLoop Try.f207 0)) [0] (rck_I l 0 0 0) (.exit 0) ⟨[], [], 1⟩ (.cons (fun _ => encS_sc _) .nil) (fun ds => (rck_loop l h_l 0 0 0 ⟨by omega, rfl, by omega, by omega, by omega, by omega, fun _ => rfl⟩).pick (fun e s h => by rcases h with ⟨_, h⟩ | ⟨h0, _⟩; exact h; rw [hz] at h0; cases h0)) (le_ble rfl))] (by kernel_rfl) (by kernel_rfl) (.cons (encS_sc _) .nil) .nil) (by unfold checkS; rw [if_neg (by omega), hz]; rfl)
  · skip
    by_cases h1002 : (((l.length : Nat) : Int) > 1024)
    · skip
      exact FnC.eq (v := .int .i64 12) (FnC.run (m := false) follows_mixed has207 [(1002, aT h1002)] (by kernel_rfl) (by kernel_rfl) (.cons (encS_sc _) .nil) .nil) (by unfold checkS; rw [if_pos (by omega)])
    · skip
      have h_l : l.length ≤ 1024 := by omega
      exact FnC.eq (v := .int .i64 20) (FnC.run (m := false) follows_mixed has207 [(1002, aF h1002), (900000, .stmt (.loop (nthLoop Try.f207 0)) [0] (rck_I l 0 0 0) (.ret) ⟨[(2, .int .i64 20)], [], 1⟩ (.cons (fun _ => encS_sc _) .nil) (fun ds => (rck_loop l h_l 0 0 0 ⟨by omega, rfl, by omega, by omega, by omega, by omega, fun _ => rfl⟩).pick (fun e s h => by rcases h with ⟨h0, _⟩ | ⟨_, h⟩; rw [hz] at h0; cases h0; exact h)) (le_ble rfl))] (by kernel_rfl) (by kernel_rfl) (.cons (encS_sc _) .nil) .nil) (by unfold checkS; rw [if_neg (by omega), hz]; rfl)
theorem pl_len {l : List Sp} (h : checkS l = 0) : (plGo l 0).length ≤ 4096 := by
  have h1 := places_length l
  have h2 := countS_le l
  rw [places_pl h] at h1
  omega
abbrev rpl_in_I (l : List Sp) (i : Nat) (p : Sp) (a1 : Int) (o0 r : List Int) (k : Nat) (x : Int) (o : List Int) : AS := ⟨[(0, .slice (some ⟨0, 0, none⟩) l.length (l.length + 1)), (3, .slice (some ⟨1, 0, none⟩) o.length (o.length + 1)), (4, .int .i64 x), (5, .int .i64 ((i : Nat) : Int)), (6, .int .i64 ((k : Nat) : Int))], [(0, ⟨(l).flatMap encS, 1, [], 2⟩), (1, ⟨(o).flatMap encI, 2, [], 1⟩)], 2⟩
abbrev rpl_in_inv (l : List Sp) (i : Nat) (p : Sp) (a1 : Int) (o0 r : List Int) (k : Nat) (x : Int) (o : List Int) : Prop := (k : Int) ≤ p.2 ∧ x = a1 + (k : Int) ∧ o = o0 ++ seg a1 k
def rpl_in_K (l : List Sp) (i : Nat) (p : Sp) (a1 : Int) (o0 r : List Int) : Exit → AS → Prop := fun e s => (e = .exit 2 ∧ s = ⟨[(0, .slice (some ⟨0, 0, none⟩) l.length (l.length + 1)), (3, .slice (some ⟨1, 0, none⟩) ((o0 ++ seg a1 p.2.toNat).length) ((o0 ++ seg a1 p.2.toNat).length + 1)), (4, .int .i64 (a1 + p.2)), (5, .int .i64 ((i : Nat) : Int))], [(0, ⟨(l).flatMap encS, 1, [], 2⟩), (1, ⟨(o0 ++ seg a1 p.2.toNat).flatMap encI, 2, [], 1⟩)], 2⟩)
abbrev rpl_in_Iu (l : List Sp) (i : Nat) (p : Sp) (a1 : Int) (o0 r : List Int) : Nat × Int × List Int → AS := fun x => rpl_in_I l i p a1 o0 r x.1 x.2.1 x.2.2
abbrev rpl_in_vu (l : List Sp) (i : Nat) (p : Sp) (a1 : Int) (o0 r : List Int) : Nat × Int × List Int → Prop := fun x => rpl_in_inv l i p a1 o0 r x.1 x.2.1 x.2.2
abbrev rpl_in_m (l : List Sp) (i : Nat) (p : Sp) (a1 : Int) (o0 r : List Int) : Nat × Int × List Int → Nat := fun x => (fun (k : Nat) (x : Int) (o : List Int) => (p.2 - (k : Int)).toNat) x.1 x.2.1 x.2.2
theorem rpl_in_round (l : List Sp) (i : Nat) (p : Sp) (a1 : Int) (o0 r : List Int) (h_i : l[i]? = some p) (h_s : 0 ≤ p.2 ∧ p.2 ≤ 4096) (h_a : -1048576 ≤ a1 ∧ a1 ≤ 1048576) (h_e : o0 ++ (seg a1 p.2.toNat ++ r) = plGo l 0) (h_n : (plGo l 0).length ≤ 4096) (h_l : l.length ≤ 1024) (k : Nat) (x : Int) (o : List Int) (hinv : rpl_in_inv l i p a1 o0 r k x o) {ds : List Deferred} : Tr Try.prog none ⟨36, ds⟩ 1 (nthLoop Try.f147 1) (rpl_in_I l i p a1 o0 r k x o) (RK (rpl_in_vu l i p a1 o0 r) (rpl_in_Iu l i p a1 o0 r) (rpl_in_m l i p a1 o0 r) (rpl_in_K l i p a1 o0 r) (k, x, o)) := by
  obtain ⟨hk1, hx, ho⟩ := hinv
  have hil := (List.getElem?_eq_some_iff.1 h_i).1
  have hlen := congrArg List.length h_e
  have hol := congrArg List.length ho
  simp only [List.length_append, seg_len] at hlen hol
  by_cases h8006 : (((k : Nat) : Int) < p.2)
  · skip
    exact Tr.again (Inv := (rpl_in_vu l i p a1 o0 r)) (I := (rpl_in_Iu l i p a1 o0 r)) (m := (rpl_in_m l i p a1 o0 r)) (k + 1, x + 1, o ++ [x]) (Tr.run follows_mixed (A := [(8003, aX i l.length 2 (by omega)), (8005, aL encS_k h_i 1), (8006, aT h8006), (10003, aA encI_k o [x] (by simp; omega)), (11001, aI .i64 .i64 (x + 1) (x + 1) (wrap_i64 (by omega) (by omega))), (9001, aI .i64 .i64 (((k : Nat) : Int) + 1) (((k + 1 : Nat) : Int)) (wrap_i64' (by omega) (by omega) (by omega)))]) (rows := [0, 1]) (by kernel_rfl) (.cons (fun _ => encS_sc _) (.cons (fun _ => encI_sc _) .nil)) (le_ble rfl)) (show rpl_in_inv l i p a1 o0 r (k + 1) (x + 1) (o ++ [x]) from ⟨by omega, by omega, by rw [ho, seg_succ, List.append_assoc, hx]⟩) (by show (p.2 - ((k + 1 : Nat) : Int)).toNat < (p.2 - (k : Int)).toNat; omega)
  · skip
    have hx2 : x = a1 + p.2 := by omega
    have hk2 : k = p.2.toNat := by omega
    have ho2 : o = o0 ++ seg a1 p.2.toNat := by rw [ho, hk2]
    exact Tr.out (I := (rpl_in_Iu l i p a1 o0 r)) (m := (rpl_in_m l i p a1 o0 r)) (s0 := ⟨[(0, .slice (some ⟨0, 0, none⟩) l.length (l.length + 1)), (3, .slice (some ⟨1, 0, none⟩) o.length (o.length + 1)), (4, .int .i64 x), (5, .int .i64 ((i : Nat) : Int))], [(0, ⟨(l).flatMap encS, 1, [], 2⟩), (1, ⟨(o).flatMap encI, 2, [], 1⟩)], 2⟩) (Tr.run follows_mixed (A := [(8003, aX i l.length 2 (by omega)), (8005, aL encS_k h_i 1), (8006, aF h8006)]) (rows := [0, 1]) (by kernel_rfl) (.cons (fun _ => encS_sc _) (.cons (fun _ => encI_sc _) .nil)) (le_ble rfl)) ⟨rfl, (by rw [hx2, ho2])⟩ (by simp)

theorem rpl_in_loop (l : List Sp) (i : Nat) (p : Sp) (a1 : Int) (o0 r : List Int) (h_i : l[i]? = some p) (h_s : 0 ≤ p.2 ∧ p.2 ≤ 4096) (h_a : -1048576 ≤ a1 ∧ a1 ≤ 1048576) (h_e : o0 ++ (seg a1 p.2.toNat ++ r) = plGo l 0) (h_n : (plGo l 0).length ≤ 4096) (h_l : l.length ≤ 1024) (k : Nat) (x : Int) (o : List Int) (hinv : rpl_in_inv l i p a1 o0 r k x o) {ds : List Deferred} : Tr Try.prog none ⟨36, ds⟩ 1 (.loop (nthLoop Try.f147 1)) (rpl_in_I l i p a1 o0 r k x o) (rpl_in_K l i p a1 o0 r) :=
  Tr.rounds (Inv := (rpl_in_vu l i p a1 o0 r)) (I := (rpl_in_Iu l i p a1 o0 r)) (m := (rpl_in_m l i p a1 o0 r)) (fun x h_0 => rpl_in_round l i p a1 o0 r h_i h_s h_a h_e h_n h_l x.1 x.2.1 x.2.2 h_0) (k, x, o) hinv
abbrev rpl__I (l : List Sp) (i : Nat) (a : Int) (n : Int) (o : List Int) : AS := ⟨[(0, .slice (some ⟨0, 0, none⟩) l.length (l.length + 1)), (3, .slice (some ⟨1, 0, none⟩) o.length (o.length + 1)), (4, .int .i64 a), (5, .int .i64 ((i : Nat) : Int))], [(0, ⟨(l).flatMap encS, 1, [], 2⟩), (1, ⟨(o).flatMap encI, 2, [], 1⟩)], 2⟩
abbrev rpl__inv (l : List Sp) (i : Nat) (a : Int) (n : Int) (o : List Int) : Prop := i ≤ l.length ∧ rightGo (l.drop i) (i == 0) a n = true ∧ o ++ plGo (l.drop i) a = plGo l 0 ∧ -1048576 ≤ a ∧ a ≤ 1048577
def rpl__K (l : List Sp) : Exit → AS → Prop := fun e s => (e = .exit 0 ∧ s = ⟨[(3, .slice (some ⟨1, 0, none⟩) ((plGo l 0).length) ((plGo l 0).length + 1))], [(1, ⟨(plGo l 0).flatMap encI, 2, [], 1⟩)], 2⟩)
abbrev rpl__Iu (l : List Sp) : Nat × Int × Int × List Int → AS := fun x => rpl__I l x.1 x.2.1 x.2.2.1 x.2.2.2
abbrev rpl__vu (l : List Sp) : Nat × Int × Int × List Int → Prop := fun x => rpl__inv l x.1 x.2.1 x.2.2.1 x.2.2.2
abbrev rpl__m (l : List Sp) : Nat × Int × Int × List Int → Nat := fun x => (fun (i : Nat) (a : Int) (n : Int) (o : List Int) => l.length - i) x.1 x.2.1 x.2.2.1 x.2.2.2
theorem rpl__round (l : List Sp) (h_n : (plGo l 0).length ≤ 4096) (h_l : l.length ≤ 1024) (i : Nat) (a : Int) (n : Int) (o : List Int) (hinv : rpl__inv l i a n o) {ds : List Deferred} : Tr Try.prog none ⟨36, ds⟩ 1 (nthLoop Try.f147 0) (rpl__I l i a n o) (RK (rpl__vu l) (rpl__Iu l) (rpl__m l) (rpl__K l) (i, a, n, o)) := by
  obtain ⟨hi0, hg, he, ha1, ha2⟩ := hinv
  by_cases h4003 : (((i : Nat) : Int) < ((l.length : Nat) : Int))
  · skip
    obtain ⟨s1, hs1⟩ : ∃ s, l[i]? = some s := ⟨_, List.getElem?_eq_getElem (by omega)⟩
    rw [drop_idx hs1] at hg he
    obtain ⟨b1, b2, b3, b4, b5, b6, h2⟩ := rightGo_at (l := l.drop (i + 1)) hg rfl
    have he2 : o ++ (seg (a + s1.1) s1.2.toNat ++ plGo (l.drop (i + 1)) (a + s1.1 + s1.2)) = plGo l 0 := he
    exact Tr.again (Inv := (rpl__vu l)) (I := (rpl__Iu l)) (m := (rpl__m l)) (i + 1, a + s1.1 + s1.2, n + s1.2, o ++ seg (a + s1.1) s1.2.toNat) (Tr.run follows_mixed (A := [(4003, aT h4003), (6003, aX i l.length 2 (by omega)), (6005, aL encS_k hs1), (6006, aI .i64 .i64 (a + s1.1) (a + s1.1) (wrap_i64 (by omega) (by omega))), (900000, .stmt (.loop (nthLoop Try.f147 1)) [0, 1] (rpl_in_I l i s1 (a + s1.1) o (plGo (l.drop (i + 1)) (a + s1.1 + s1.2)) 0 (a + s1.1) o) (.exit 2) ⟨[(0, .slice (some ⟨0, 0, none⟩) l.length (l.length + 1)), (3, .slice (some ⟨1, 0, none⟩) ((o ++ seg (a + s1.1) s1.2.toNat).length) ((o ++ seg (a + s1.1) s1.2.toNat).length + 1)), (4, .int .i64 (a + s1.1 + s1.2)), (5, .int .i64 ((i : Nat) : Int))], [(0, ⟨(l).flatMap encS, 1, [], 2⟩), (1, ⟨(o ++ seg (a + s1.1) s1.2.toNat).flatMap encI, 2, [], 1⟩)], 2⟩ (.cons (fun _ => encS_sc _) (.cons (fun _ => encI_sc _) .nil)) (fun ds => (rpl_in_loop l i s1 (a + s1.1) o (plGo (l.drop (i + 1)) (a + s1.1 + s1.2)) hs1 (by omega) (by omega) he2 h_n h_l 0 (a + s1.1) o ⟨by omega, by omega, by simp [seg]⟩).pick (fun e s h => h)) (le_ble rfl)), (5001, aI .i64 .i64 (((i : Nat) : Int) + 1) (((i + 1 : Nat) : Int)) (wrap_i64' (by omega) (by omega) (by omega)))]) (rows := [0, 1]) (by kernel_rfl) (.cons (fun _ => encS_sc _) (.cons (fun _ => encI_sc _) .nil)) (le_ble rfl)) (show rpl__inv l (i + 1) (a + s1.1 + s1.2) (n + s1.2) (o ++ seg (a + s1.1) s1.2.toNat) from ⟨by omega, by simpa using h2, by rw [List.append_assoc]; exact he2, by omega, by omega⟩) (by show l.length - (i + 1) < l.length - i; omega)
  · skip
    rw [drop_none (by omega), plGo, List.append_nil] at he
    exact Tr.out (I := (rpl__Iu l)) (m := (rpl__m l)) (s0 := ⟨[(3, .slice (some ⟨1, 0, none⟩) o.length (o.length + 1))], [(1, ⟨(o).flatMap encI, 2, [], 1⟩)], 2⟩) (Tr.run follows_mixed (A := [(4003, aF h4003)]) (rows := [1]) (by kernel_rfl) (.cons (fun _ => encI_sc _) .nil) (le_ble rfl)) ⟨rfl, (by rw [he])⟩ (by simp)

theorem rpl__loop (l : List Sp) (h_n : (plGo l 0).length ≤ 4096) (h_l : l.length ≤ 1024) (i : Nat) (a : Int) (n : Int) (o : List Int) (hinv : rpl__inv l i a n o) {ds : List Deferred} : Tr Try.prog none ⟨36, ds⟩ 1 (.loop (nthLoop Try.f147 0)) (rpl__I l i a n o) (rpl__K l) :=
  Tr.rounds (Inv := (rpl__vu l)) (I := (rpl__Iu l)) (m := (rpl__m l)) (fun x h_0 => rpl__round l h_n h_l x.1 x.2.1 x.2.2.1 x.2.2.2 h_0) (i, a, n, o) hinv
theorem rplaces_ok (l : List Sp) (h_c : checkS l = 0) : FnC Try.prog 147 [.slice (some ⟨0, 0, none⟩) l.length (l.length + 1)] [(0, ⟨(l).flatMap encS, 1, [], 2⟩)] 1 (.slice (some ⟨1, 0, none⟩) ((places l).length) ((places l).length + 1)) 1 [(1, ⟨(places l).flatMap encI, 2, [], 1⟩)] := by
  have h_n := pl_len h_c
  have h_l := (checkS_zero.1 h_c).1
  rw [places_pl h_c]
  exact FnC.run (m := false) follows_mixed has147 [(900000, .stmt (.loop (nthLoop Try.f147 0)) [0, 1] (rpl__I l 0 0 0 []) (.exit 0) ⟨[(3, .slice (some ⟨1, 0, none⟩) ((plGo l 0).length) ((plGo l 0).length + 1))], [(1, ⟨(plGo l 0).flatMap encI, 2, [], 1⟩)], 2⟩ (.cons (fun _ => encS_sc _) (.cons (fun _ => encI_sc _) .nil)) (fun ds => (rpl__loop l h_n h_l 0 0 0 [] ⟨by omega, (checkS_zero.1 h_c).2, rfl, by omega, by omega⟩).pick (fun e s h => h)) (le_ble rfl))] (by kernel_rfl) (by kernel_rfl) (.cons (encS_sc _) .nil) (.cons (encI_sc _) .nil)
end Go.Am
