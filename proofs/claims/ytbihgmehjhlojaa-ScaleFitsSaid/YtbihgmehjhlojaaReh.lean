/-
The document's Fits and Check of layer 9.
-/
import Derived.Test.YtbihgmehjhlojaaReg
set_option linter.unusedVariables false
set_option linter.unusedSimpArgs false
set_option maxRecDepth 100000
namespace Go.Am
open Go Go.RowKit Go.Proofs
theorem has123 : Has Try.prog 123 Try.f123 (bodyOf Try.f123) := ⟨Try.func123, by kernel_rfl, by kernel_rfl⟩
theorem has48 : Has Try.prog 48 Try.f48 (bodyOf Try.f48) := ⟨Try.func48, by kernel_rfl, by kernel_rfl⟩
def NRow (l : List Int) : Prop := ∀ x ∈ l, N63 x
theorem sumI_next {l : List Int} {i : Nat} {s : Int} (h : l[i]? = some s) : (l.take (i + 1)).sum = (l.take i).sum + s := by rw [take_next h]; simp
theorem sumI_nonneg : ∀ {l : List Int}, NRow l → 0 ≤ l.sum
  | [], _ => by simp
  | a :: l, h => by
    have h1 := h a (List.mem_cons_self ..)
    have h2 := sumI_nonneg (l := l) fun x hx => h x (List.mem_cons_of_mem _ hx)
    unfold N63 at h1
    simp; omega
theorem sumI_take {l : List Int} (h : NRow l) (i : Nat) : 0 ≤ (l.take i).sum ∧ (l.take i).sum ≤ l.sum := by
  have h1 := sumI_nonneg (l := l.take i) fun x hx => h x (List.mem_of_mem_take hx)
  have h2 := sumI_nonneg (l := l.drop i) fun x hx => h x (List.mem_of_mem_drop hx)
  have h3 : (l.take i ++ l.drop i).sum = (l.take i).sum + (l.drop i).sum := List.sum_append
  rw [List.take_append_drop] at h3
  omega
def fitsL (zc count sum : Int) (P Q : List Int) : Int := if zc + P.sum + Q.sum > count ∨ (zc + P.sum + Q.sum < count ∧ nanS sum = false) then 22 else 0
abbrev rft0_I (P Q : List Int) (sum c0 : Int) (i : Nat) (x : Int) : AS := ⟨[(2, .int .u64 sum), (3, .slice (some ⟨0, 0, none⟩) P.length (P.length + 1)), (4, .slice (some ⟨1, 0, none⟩) Q.length (Q.length + 1)), (11, .int .u64 x), (12, .int .i64 0), (13, .slice (some ⟨0, 0, none⟩) P.length (P.length + 1)), (14, .int .i64 ((i : Nat) : Int))], [(0, ⟨(P).flatMap encI, 1, [], 1⟩), (1, ⟨(Q).flatMap encI, 1, [], 1⟩)], 2⟩
abbrev rft0_inv (P Q : List Int) (sum c0 : Int) (i : Nat) (x : Int) : Prop := i ≤ P.length ∧ x = c0 - (P.take i).sum ∧ 0 ≤ x
def rft0_K (P Q : List Int) (sum c0 : Int) : Exit → AS → Prop := fun e s => (P.sum ≤ c0 ∧ e = .exit 2 ∧ s = ⟨[(2, .int .u64 sum), (3, .slice (some ⟨0, 0, none⟩) P.length (P.length + 1)), (4, .slice (some ⟨1, 0, none⟩) Q.length (Q.length + 1)), (11, .int .u64 (c0 - P.sum)), (12, .int .i64 0)], [(0, ⟨(P).flatMap encI, 1, [], 1⟩), (1, ⟨(Q).flatMap encI, 1, [], 1⟩)], 2⟩) ∨ (¬ P.sum ≤ c0 ∧ e = .ret ∧ s = ⟨[(10, .int .i64 22)], [], 2⟩)
abbrev rft0_Iu (P Q : List Int) (sum c0 : Int) : Nat × Int → AS := fun x => rft0_I P Q sum c0 x.1 x.2
abbrev rft0_vu (P Q : List Int) (sum c0 : Int) : Nat × Int → Prop := fun x => rft0_inv P Q sum c0 x.1 x.2
abbrev rft0_m (P Q : List Int) (sum c0 : Int) : Nat × Int → Nat := fun x => (fun (i : Nat) (x : Int) => P.length - i) x.1 x.2
theorem rft0_round (P Q : List Int) (sum c0 : Int) (h_p : NRow P) (h_q : NRow Q) (h_lp : P.length ≤ 4294967296) (h_lq : Q.length ≤ 4294967296) (h_c : 0 ≤ c0 ∧ c0 < 18446744073709551616) (i : Nat) (x : Int) (hinv : rft0_inv P Q sum c0 i x) {ds : List Deferred} : Tr Try.prog none ⟨63, ds⟩ 2 (nthLoop Try.f123 1) (rft0_I P Q sum c0 i x) (RK (rft0_vu P Q sum c0) (rft0_Iu P Q sum c0) (rft0_m P Q sum c0) (rft0_K P Q sum c0) (i, x)) := by
  obtain ⟨hi0, hx, hx0⟩ := hinv
  have hb := sumI_take h_p (i + 1)
  have hb0 := sumI_take h_p i
  by_cases h11003 : (((i : Nat) : Int) < ((P.length : Nat) : Int))
  · skip
    obtain ⟨s1, hs1⟩ : ∃ s, P[i]? = some s := ⟨_, List.getElem?_eq_getElem (by omega)⟩
    have hn := h_p _ (List.mem_of_getElem? hs1)
    unfold N63 at hn
    have hs := sumI_next hs1
    by_cases h13004 : (s1 < 0)
    · skip
      exact absurd h13004 (by omega)
    · skip
      by_cases h13012 : (s1 > x)
      · skip
        exact Tr.out (I := (rft0_Iu P Q sum c0)) (m := (rft0_m P Q sum c0)) (Tr.run follows_mixed (A := [(11003, aT h11003), (13002, aX i P.length 1 (by omega)), (13003, aL encI_k hs1), (13004, aF h13004), (13008, aX i P.length 1 (by omega)), (13009, aL encI_k hs1), (13010, aI .u64 .u64 (s1) (s1) (wrap_u64 (by omega) (by omega))), (13012, aT h13012)]) (rows := []) (by kernel_rfl) .nil (le_ble rfl)) (.inr ⟨(by omega), rfl, rfl⟩) (by simp)
      · skip
        exact Tr.again (Inv := (rft0_vu P Q sum c0)) (I := (rft0_Iu P Q sum c0)) (m := (rft0_m P Q sum c0)) (i + 1, x - s1) (Tr.run follows_mixed (A := [(11003, aT h11003), (13002, aX i P.length 1 (by omega)), (13003, aL encI_k hs1), (13004, aF h13004), (13008, aX i P.length 1 (by omega)), (13009, aL encI_k hs1), (13010, aI .u64 .u64 (s1) (s1) (wrap_u64 (by omega) (by omega))), (13012, aF h13012), (15003, aX i P.length 1 (by omega)), (15004, aL encI_k hs1), (15005, aI .u64 .u64 (s1) (s1) (wrap_u64 (by omega) (by omega))), (15006, aI .u64 .u64 (x - s1) (x - s1) (wrap_u64 (by omega) (by omega))), (12001, aI .i64 .i64 (((i : Nat) : Int) + 1) (((i + 1 : Nat) : Int)) (wrap_i64' (by omega) (by omega) (by omega)))]) (rows := [0, 1]) (by kernel_rfl) (.cons (fun _ => encI_sc _) (.cons (fun _ => encI_sc _) .nil)) (le_ble rfl)) (show rft0_inv P Q sum c0 (i + 1) (x - s1) from ⟨by omega, by omega, by omega⟩) (by show P.length - (i + 1) < P.length - i; omega)
  · skip
    rw [take_all (by omega)] at hx
    subst hx
    exact Tr.out (I := (rft0_Iu P Q sum c0)) (m := (rft0_m P Q sum c0)) (Tr.run follows_mixed (A := [(11003, aF h11003)]) (rows := [0, 1]) (by kernel_rfl) (.cons (fun _ => encI_sc _) (.cons (fun _ => encI_sc _) .nil)) (le_ble rfl)) (.inl ⟨(by omega), rfl, rfl⟩) (by simp)

theorem rft0_loop (P Q : List Int) (sum c0 : Int) (h_p : NRow P) (h_q : NRow Q) (h_lp : P.length ≤ 4294967296) (h_lq : Q.length ≤ 4294967296) (h_c : 0 ≤ c0 ∧ c0 < 18446744073709551616) (i : Nat) (x : Int) (hinv : rft0_inv P Q sum c0 i x) {ds : List Deferred} : Tr Try.prog none ⟨63, ds⟩ 2 (.loop (nthLoop Try.f123 1)) (rft0_I P Q sum c0 i x) (rft0_K P Q sum c0) :=
  Tr.rounds (Inv := (rft0_vu P Q sum c0)) (I := (rft0_Iu P Q sum c0)) (m := (rft0_m P Q sum c0)) (fun x h_0 => rft0_round P Q sum c0 h_p h_q h_lp h_lq h_c x.1 x.2 h_0) (i, x) hinv
theorem rfs0a (P Q : List Int) (sum c0 : Int) (h_p : NRow P) (h_q : NRow Q) (h_lp : P.length ≤ 4294967296) (h_lq : Q.length ≤ 4294967296) (h_c : 0 ≤ c0 ∧ c0 < 18446744073709551616) (hc : P.sum ≤ c0) {ds : List Deferred} : Tr Try.prog none ⟨63, ds⟩ 2 (nthLoop Try.f123 0) ⟨[(2, .int .u64 sum), (3, .slice (some ⟨0, 0, none⟩) P.length (P.length + 1)), (4, .slice (some ⟨1, 0, none⟩) Q.length (Q.length + 1)), (11, .int .u64 c0), (12, .int .i64 0)], [(0, ⟨(P).flatMap encI, 1, [], 1⟩), (1, ⟨(Q).flatMap encI, 1, [], 1⟩)], 2⟩ fun e s => e = .normal ∧ s = ⟨[(2, .int .u64 sum), (3, .slice (some ⟨0, 0, none⟩) P.length (P.length + 1)), (4, .slice (some ⟨1, 0, none⟩) Q.length (Q.length + 1)), (11, .int .u64 (c0 - P.sum)), (12, .int .i64 1)], [(0, ⟨(P).flatMap encI, 1, [], 1⟩), (1, ⟨(Q).flatMap encI, 1, [], 1⟩)], 2⟩ := by
  exact (Tr.run follows_mixed (A := [(900000, .stmt (.loop (nthLoop Try.f123 1)) [0, 1] (rft0_I P Q sum c0 0 c0) (.exit 2) ⟨[(2, .int .u64 sum), (3, .slice (some ⟨0, 0, none⟩) P.length (P.length + 1)), (4, .slice (some ⟨1, 0, none⟩) Q.length (Q.length + 1)), (11, .int .u64 (c0 - P.sum)), (12, .int .i64 0)], [(0, ⟨(P).flatMap encI, 1, [], 1⟩), (1, ⟨(Q).flatMap encI, 1, [], 1⟩)], 2⟩ (.cons (fun _ => encI_sc _) (.cons (fun _ => encI_sc _) .nil)) (fun ds => (rft0_loop P Q sum c0 h_p h_q h_lp h_lq h_c 0 c0 ⟨by omega, by simp, by omega⟩).pick (fun e s h => by rcases h with ⟨_, h⟩ | ⟨h0, _⟩; exact h; exact absurd hc h0)) (le_ble rfl))]) (rows := [0, 1]) (by kernel_rfl) (.cons (fun _ => encI_sc _) (.cons (fun _ => encI_sc _) .nil)) (le_ble rfl))
theorem rfs0b (P Q : List Int) (sum c0 : Int) (h_p : NRow P) (h_q : NRow Q) (h_lp : P.length ≤ 4294967296) (h_lq : Q.length ≤ 4294967296) (h_c : 0 ≤ c0 ∧ c0 < 18446744073709551616) (hc : ¬ P.sum ≤ c0) {ds : List Deferred} : Tr Try.prog none ⟨63, ds⟩ 2 (nthLoop Try.f123 0) ⟨[(2, .int .u64 sum), (3, .slice (some ⟨0, 0, none⟩) P.length (P.length + 1)), (4, .slice (some ⟨1, 0, none⟩) Q.length (Q.length + 1)), (11, .int .u64 c0), (12, .int .i64 0)], [(0, ⟨(P).flatMap encI, 1, [], 1⟩), (1, ⟨(Q).flatMap encI, 1, [], 1⟩)], 2⟩ fun e s => e = .ret ∧ s = ⟨[(10, .int .i64 22)], [], 2⟩ := by
  exact (Tr.run follows_mixed (A := [(900000, .stmt (.loop (nthLoop Try.f123 1)) [0, 1] (rft0_I P Q sum c0 0 c0) (.ret) ⟨[(10, .int .i64 22)], [], 2⟩ (.cons (fun _ => encI_sc _) (.cons (fun _ => encI_sc _) .nil)) (fun ds => (rft0_loop P Q sum c0 h_p h_q h_lp h_lq h_c 0 c0 ⟨by omega, by simp, by omega⟩).pick (fun e s h => by rcases h with ⟨h0, _⟩ | ⟨_, h⟩; exact absurd h0 hc; exact h)) (le_ble rfl))]) (rows := []) (by kernel_rfl) .nil (le_ble rfl))
abbrev rft1_I (P Q : List Int) (sum c0 : Int) (i : Nat) (x : Int) : AS := ⟨[(2, .int .u64 sum), (3, .slice (some ⟨0, 0, none⟩) P.length (P.length + 1)), (4, .slice (some ⟨1, 0, none⟩) Q.length (Q.length + 1)), (11, .int .u64 x), (12, .int .i64 1), (13, .slice (some ⟨1, 0, none⟩) Q.length (Q.length + 1)), (14, .int .i64 ((i : Nat) : Int))], [(0, ⟨(P).flatMap encI, 1, [], 1⟩), (1, ⟨(Q).flatMap encI, 1, [], 1⟩)], 2⟩
abbrev rft1_inv (P Q : List Int) (sum c0 : Int) (i : Nat) (x : Int) : Prop := i ≤ Q.length ∧ x = c0 - (Q.take i).sum ∧ 0 ≤ x
def rft1_K (P Q : List Int) (sum c0 : Int) : Exit → AS → Prop := fun e s => (Q.sum ≤ c0 ∧ e = .exit 2 ∧ s = ⟨[(2, .int .u64 sum), (3, .slice (some ⟨0, 0, none⟩) P.length (P.length + 1)), (4, .slice (some ⟨1, 0, none⟩) Q.length (Q.length + 1)), (11, .int .u64 (c0 - Q.sum)), (12, .int .i64 1)], [(0, ⟨(P).flatMap encI, 1, [], 1⟩), (1, ⟨(Q).flatMap encI, 1, [], 1⟩)], 2⟩) ∨ (¬ Q.sum ≤ c0 ∧ e = .ret ∧ s = ⟨[(10, .int .i64 22)], [], 2⟩)
abbrev rft1_Iu (P Q : List Int) (sum c0 : Int) : Nat × Int → AS := fun x => rft1_I P Q sum c0 x.1 x.2
abbrev rft1_vu (P Q : List Int) (sum c0 : Int) : Nat × Int → Prop := fun x => rft1_inv P Q sum c0 x.1 x.2
abbrev rft1_m (P Q : List Int) (sum c0 : Int) : Nat × Int → Nat := fun x => (fun (i : Nat) (x : Int) => Q.length - i) x.1 x.2
theorem rft1_round (P Q : List Int) (sum c0 : Int) (h_p : NRow P) (h_q : NRow Q) (h_lp : P.length ≤ 4294967296) (h_lq : Q.length ≤ 4294967296) (h_c : 0 ≤ c0 ∧ c0 < 18446744073709551616) (i : Nat) (x : Int) (hinv : rft1_inv P Q sum c0 i x) {ds : List Deferred} : Tr Try.prog none ⟨63, ds⟩ 2 (nthLoop Try.f123 1) (rft1_I P Q sum c0 i x) (RK (rft1_vu P Q sum c0) (rft1_Iu P Q sum c0) (rft1_m P Q sum c0) (rft1_K P Q sum c0) (i, x)) := by
  obtain ⟨hi0, hx, hx0⟩ := hinv
  have hb := sumI_take h_q (i + 1)
  have hb0 := sumI_take h_q i
  by_cases h11003 : (((i : Nat) : Int) < ((Q.length : Nat) : Int))
  · skip
    obtain ⟨s1, hs1⟩ : ∃ s, Q[i]? = some s := ⟨_, List.getElem?_eq_getElem (by omega)⟩
    have hn := h_q _ (List.mem_of_getElem? hs1)
    unfold N63 at hn
    have hs := sumI_next hs1
    by_cases h13004 : (s1 < 0)
    · skip
      exact absurd h13004 (by omega)
    · skip
      by_cases h13012 : (s1 > x)
      · skip
        exact Tr.out (I := (rft1_Iu P Q sum c0)) (m := (rft1_m P Q sum c0)) (Tr.run follows_mixed (A := [(11003, aT h11003), (13002, aX i Q.length 1 (by omega)), (13003, aL encI_k hs1), (13004, aF h13004), (13008, aX i Q.length 1 (by omega)), (13009, aL encI_k hs1), (13010, aI .u64 .u64 (s1) (s1) (wrap_u64 (by omega) (by omega))), (13012, aT h13012)]) (rows := []) (by kernel_rfl) .nil (le_ble rfl)) (.inr ⟨(by omega), rfl, rfl⟩) (by simp)
      · skip
        exact Tr.again (Inv := (rft1_vu P Q sum c0)) (I := (rft1_Iu P Q sum c0)) (m := (rft1_m P Q sum c0)) (i + 1, x - s1) (Tr.run follows_mixed (A := [(11003, aT h11003), (13002, aX i Q.length 1 (by omega)), (13003, aL encI_k hs1), (13004, aF h13004), (13008, aX i Q.length 1 (by omega)), (13009, aL encI_k hs1), (13010, aI .u64 .u64 (s1) (s1) (wrap_u64 (by omega) (by omega))), (13012, aF h13012), (15003, aX i Q.length 1 (by omega)), (15004, aL encI_k hs1), (15005, aI .u64 .u64 (s1) (s1) (wrap_u64 (by omega) (by omega))), (15006, aI .u64 .u64 (x - s1) (x - s1) (wrap_u64 (by omega) (by omega))), (12001, aI .i64 .i64 (((i : Nat) : Int) + 1) (((i + 1 : Nat) : Int)) (wrap_i64' (by omega) (by omega) (by omega)))]) (rows := [0, 1]) (by kernel_rfl) (.cons (fun _ => encI_sc _) (.cons (fun _ => encI_sc _) .nil)) (le_ble rfl)) (show rft1_inv P Q sum c0 (i + 1) (x - s1) from ⟨by omega, by omega, by omega⟩) (by show Q.length - (i + 1) < Q.length - i; omega)
  · skip
    rw [take_all (by omega)] at hx
    subst hx
    exact Tr.out (I := (rft1_Iu P Q sum c0)) (m := (rft1_m P Q sum c0)) (Tr.run follows_mixed (A := [(11003, aF h11003)]) (rows := [0, 1]) (by kernel_rfl) (.cons (fun _ => encI_sc _) (.cons (fun _ => encI_sc _) .nil)) (le_ble rfl)) (.inl ⟨(by omega), rfl, rfl⟩) (by simp)

theorem rft1_loop (P Q : List Int) (sum c0 : Int) (h_p : NRow P) (h_q : NRow Q) (h_lp : P.length ≤ 4294967296) (h_lq : Q.length ≤ 4294967296) (h_c : 0 ≤ c0 ∧ c0 < 18446744073709551616) (i : Nat) (x : Int) (hinv : rft1_inv P Q sum c0 i x) {ds : List Deferred} : Tr Try.prog none ⟨63, ds⟩ 2 (.loop (nthLoop Try.f123 1)) (rft1_I P Q sum c0 i x) (rft1_K P Q sum c0) :=
  Tr.rounds (Inv := (rft1_vu P Q sum c0)) (I := (rft1_Iu P Q sum c0)) (m := (rft1_m P Q sum c0)) (fun x h_0 => rft1_round P Q sum c0 h_p h_q h_lp h_lq h_c x.1 x.2 h_0) (i, x) hinv
theorem rfs1a (P Q : List Int) (sum c0 : Int) (h_p : NRow P) (h_q : NRow Q) (h_lp : P.length ≤ 4294967296) (h_lq : Q.length ≤ 4294967296) (h_c : 0 ≤ c0 ∧ c0 < 18446744073709551616) (hc : Q.sum ≤ c0) {ds : List Deferred} : Tr Try.prog none ⟨63, ds⟩ 2 (nthLoop Try.f123 0) ⟨[(2, .int .u64 sum), (3, .slice (some ⟨0, 0, none⟩) P.length (P.length + 1)), (4, .slice (some ⟨1, 0, none⟩) Q.length (Q.length + 1)), (11, .int .u64 c0), (12, .int .i64 1)], [(0, ⟨(P).flatMap encI, 1, [], 1⟩), (1, ⟨(Q).flatMap encI, 1, [], 1⟩)], 2⟩ fun e s => e = .normal ∧ s = ⟨[(2, .int .u64 sum), (3, .slice (some ⟨0, 0, none⟩) P.length (P.length + 1)), (4, .slice (some ⟨1, 0, none⟩) Q.length (Q.length + 1)), (11, .int .u64 (c0 - Q.sum)), (12, .int .i64 2)], [(0, ⟨(P).flatMap encI, 1, [], 1⟩), (1, ⟨(Q).flatMap encI, 1, [], 1⟩)], 2⟩ := by
  exact (Tr.run follows_mixed (A := [(900000, .stmt (.loop (nthLoop Try.f123 1)) [0, 1] (rft1_I P Q sum c0 0 c0) (.exit 2) ⟨[(2, .int .u64 sum), (3, .slice (some ⟨0, 0, none⟩) P.length (P.length + 1)), (4, .slice (some ⟨1, 0, none⟩) Q.length (Q.length + 1)), (11, .int .u64 (c0 - Q.sum)), (12, .int .i64 1)], [(0, ⟨(P).flatMap encI, 1, [], 1⟩), (1, ⟨(Q).flatMap encI, 1, [], 1⟩)], 2⟩ (.cons (fun _ => encI_sc _) (.cons (fun _ => encI_sc _) .nil)) (fun ds => (rft1_loop P Q sum c0 h_p h_q h_lp h_lq h_c 0 c0 ⟨by omega, by simp, by omega⟩).pick (fun e s h => by rcases h with ⟨_, h⟩ | ⟨h0, _⟩; exact h; exact absurd hc h0)) (le_ble rfl))]) (rows := [0, 1]) (by kernel_rfl) (.cons (fun _ => encI_sc _) (.cons (fun _ => encI_sc _) .nil)) (le_ble rfl))
theorem rfs1b (P Q : List Int) (sum c0 : Int) (h_p : NRow P) (h_q : NRow Q) (h_lp : P.length ≤ 4294967296) (h_lq : Q.length ≤ 4294967296) (h_c : 0 ≤ c0 ∧ c0 < 18446744073709551616) (hc : ¬ Q.sum ≤ c0) {ds : List Deferred} : Tr Try.prog none ⟨63, ds⟩ 2 (nthLoop Try.f123 0) ⟨[(2, .int .u64 sum), (3, .slice (some ⟨0, 0, none⟩) P.length (P.length + 1)), (4, .slice (some ⟨1, 0, none⟩) Q.length (Q.length + 1)), (11, .int .u64 c0), (12, .int .i64 1)], [(0, ⟨(P).flatMap encI, 1, [], 1⟩), (1, ⟨(Q).flatMap encI, 1, [], 1⟩)], 2⟩ fun e s => e = .ret ∧ s = ⟨[(10, .int .i64 22)], [], 2⟩ := by
  exact (Tr.run follows_mixed (A := [(900000, .stmt (.loop (nthLoop Try.f123 1)) [0, 1] (rft1_I P Q sum c0 0 c0) (.ret) ⟨[(10, .int .i64 22)], [], 2⟩ (.cons (fun _ => encI_sc _) (.cons (fun _ => encI_sc _) .nil)) (fun ds => (rft1_loop P Q sum c0 h_p h_q h_lp h_lq h_c 0 c0 ⟨by omega, by simp, by omega⟩).pick (fun e s h => by rcases h with ⟨h0, _⟩ | ⟨_, h⟩; exact absurd h0 hc; exact h)) (le_ble rfl))]) (rows := []) (by kernel_rfl) .nil (le_ble rfl))
theorem rfs2 (P Q : List Int) (sum c0 : Int) (h_p : NRow P) (h_q : NRow Q) (h_lp : P.length ≤ 4294967296) (h_lq : Q.length ≤ 4294967296) (h_c : 0 ≤ c0 ∧ c0 < 18446744073709551616) {ds : List Deferred} : Tr Try.prog none ⟨63, ds⟩ 2 (nthLoop Try.f123 0) ⟨[(2, .int .u64 sum), (3, .slice (some ⟨0, 0, none⟩) P.length (P.length + 1)), (4, .slice (some ⟨1, 0, none⟩) Q.length (Q.length + 1)), (11, .int .u64 c0), (12, .int .i64 2)], [(0, ⟨(P).flatMap encI, 1, [], 1⟩), (1, ⟨(Q).flatMap encI, 1, [], 1⟩)], 2⟩ fun e s => e = .exit 0 ∧ s = ⟨[(2, .int .u64 sum), (11, .int .u64 c0)], [], 2⟩ := by
  exact (Tr.run follows_mixed (A := []) (rows := []) (by kernel_rfl) .nil (le_ble rfl))
abbrev rfS (P Q : List Int) (sum c0 : Int) : Nat → AS
  | 0 => ⟨[(2, .int .u64 sum), (3, .slice (some ⟨0, 0, none⟩) P.length (P.length + 1)), (4, .slice (some ⟨1, 0, none⟩) Q.length (Q.length + 1)), (11, .int .u64 c0), (12, .int .i64 0)], [(0, ⟨(P).flatMap encI, 1, [], 1⟩), (1, ⟨(Q).flatMap encI, 1, [], 1⟩)], 2⟩
  | 1 => ⟨[(2, .int .u64 sum), (3, .slice (some ⟨0, 0, none⟩) P.length (P.length + 1)), (4, .slice (some ⟨1, 0, none⟩) Q.length (Q.length + 1)), (11, .int .u64 (c0 - P.sum)), (12, .int .i64 1)], [(0, ⟨(P).flatMap encI, 1, [], 1⟩), (1, ⟨(Q).flatMap encI, 1, [], 1⟩)], 2⟩
  | _ => ⟨[(2, .int .u64 sum), (3, .slice (some ⟨0, 0, none⟩) P.length (P.length + 1)), (4, .slice (some ⟨1, 0, none⟩) Q.length (Q.length + 1)), (11, .int .u64 (c0 - P.sum - Q.sum)), (12, .int .i64 2)], [(0, ⟨(P).flatMap encI, 1, [], 1⟩), (1, ⟨(Q).flatMap encI, 1, [], 1⟩)], 2⟩
theorem rf_loop_ok (P Q : List Int) (sum c0 : Int) (h_p : NRow P) (h_q : NRow Q) (h_lp : P.length ≤ 4294967296) (h_lq : Q.length ≤ 4294967296) (h_c : 0 ≤ c0 ∧ c0 < 18446744073709551616) {ds : List Deferred} (hc : P.sum + Q.sum ≤ c0) : Tr Try.prog none ⟨63, ds⟩ 2 (.loop (nthLoop Try.f123 0)) (rfS P Q sum c0 0) fun e s => e = .exit 0 ∧ s = ⟨[(2, .int .u64 sum), (11, .int .u64 (c0 - P.sum - Q.sum))], [], 2⟩ := by
  have hp0 := sumI_nonneg h_p
  have hq0 := sumI_nonneg h_q
  refine Tr.seqLoop (rfS P Q sum c0) 2 (fun k hk => ?_) ((rfs2 P Q sum (c0 - P.sum - Q.sum) h_p h_q h_lp h_lq (by omega)).mono fun e s ⟨q1, q2⟩ => ⟨by rw [q1]; simp, q1, q2⟩)
  match k, hk with
  | 0, _ => exact rfs0a P Q sum c0 h_p h_q h_lp h_lq h_c (by omega)
  | 1, _ => exact rfs1a P Q sum (c0 - P.sum) h_p h_q h_lp h_lq (by omega) (by omega)
theorem rf_loop_no (P Q : List Int) (sum c0 : Int) (h_p : NRow P) (h_q : NRow Q) (h_lp : P.length ≤ 4294967296) (h_lq : Q.length ≤ 4294967296) (h_c : 0 ≤ c0 ∧ c0 < 18446744073709551616) {ds : List Deferred} (hc : ¬ P.sum + Q.sum ≤ c0) : Tr Try.prog none ⟨63, ds⟩ 2 (.loop (nthLoop Try.f123 0)) (rfS P Q sum c0 0) fun e s => e = .ret ∧ s = ⟨[(10, .int .i64 22)], [], 2⟩ := by
  have hp0 := sumI_nonneg h_p
  have hq0 := sumI_nonneg h_q
  by_cases h1 : P.sum ≤ c0
  · refine Tr.seqLoop (rfS P Q sum c0) 1 (fun k hk => ?_) ((rfs1b P Q sum (c0 - P.sum) h_p h_q h_lp h_lq (by omega) (by omega)).mono fun e s ⟨q1, q2⟩ => ⟨by rw [q1]; simp, q1, q2⟩)
    match k, hk with
    | 0, _ => exact rfs0a P Q sum c0 h_p h_q h_lp h_lq h_c h1
  · exact Tr.seqLoop (rfS P Q sum c0) 0 (fun k hk => absurd hk (by omega)) ((rfs0b P Q sum c0 h_p h_q h_lp h_lq h_c h1).mono fun e s ⟨q1, q2⟩ => ⟨by rw [q1]; simp, q1, q2⟩)
theorem rfits9_ok (zc count sum : Int) (P Q : List Int) (h_z : U64 zc) (h_t : U64 count) (h_s : U64 sum) (h_p : NRow P) (h_q : NRow Q) (h_lp : P.length ≤ 4294967296) (h_lq : Q.length ≤ 4294967296) : FnC Try.prog 123 [.int .u64 zc, .int .u64 count, .int .u64 sum, .slice (some ⟨0, 0, none⟩) P.length (P.length + 1), .slice (some ⟨1, 0, none⟩) Q.length (Q.length + 1)] [(0, ⟨(P).flatMap encI, 1, [], 1⟩), (1, ⟨(Q).flatMap encI, 1, [], 1⟩)] 2 (.int .i64 (fitsL zc count sum P Q)) 0 [] := by
  have hp0 := sumI_nonneg h_p
  have hq0 := sumI_nonneg h_q
  by_cases hc : (zc + P.sum + Q.sum ≤ count)
  · skip
    by_cases h1002 : (zc > count)
    · skip
      exact absurd h1002 (by omega)
    · skip
      by_cases h16001 : (count - zc - P.sum - Q.sum > 0)
      · skip
        cases h16004 : (nanS sum) with
        | true =>
          exact FnC.eq (v := .int .i64 0) (FnC.run (m := false) follows_mixed has123 [(1002, aF h1002), (3002, aI .u64 .u64 (count - zc) (count - zc) (wrap_u64 (by unfold U64 at *; omega) (by unfold U64 at *; omega))), (900000, .stmt (.loop (nthLoop Try.f123 0)) [0, 1] (rfS P Q sum (count - zc) 0) (.exit 0) ⟨[(2, .int .u64 sum), (11, .int .u64 (count - zc - P.sum - Q.sum))], [], 2⟩ (.cons (fun _ => encI_sc _) (.cons (fun _ => encI_sc _) .nil)) (fun ds => rf_loop_ok P Q sum (count - zc) h_p h_q h_lp h_lq (by unfold U64 at *; omega) (by omega)) (le_ble rfl)), (16001, aT h16001), (16004, aCb (rnan_ok (sum) h_s) h16004)] (by kernel_rfl) (by kernel_rfl) (.cons (encI_sc _) (.cons (encI_sc _) .nil)) .nil) (by unfold fitsL; simp_all <;> omega)
        | false =>
          exact FnC.eq (v := .int .i64 22) (FnC.run (m := false) follows_mixed has123 [(1002, aF h1002), (3002, aI .u64 .u64 (count - zc) (count - zc) (wrap_u64 (by unfold U64 at *; omega) (by unfold U64 at *; omega))), (900000, .stmt (.loop (nthLoop Try.f123 0)) [0, 1] (rfS P Q sum (count - zc) 0) (.exit 0) ⟨[(2, .int .u64 sum), (11, .int .u64 (count - zc - P.sum - Q.sum))], [], 2⟩ (.cons (fun _ => encI_sc _) (.cons (fun _ => encI_sc _) .nil)) (fun ds => rf_loop_ok P Q sum (count - zc) h_p h_q h_lp h_lq (by unfold U64 at *; omega) (by omega)) (le_ble rfl)), (16001, aT h16001), (16004, aCb (rnan_ok (sum) h_s) h16004)] (by kernel_rfl) (by kernel_rfl) (.cons (encI_sc _) (.cons (encI_sc _) .nil)) .nil) (by unfold fitsL; simp_all <;> omega)
      · skip
        exact FnC.eq (v := .int .i64 0) (FnC.run (m := false) follows_mixed has123 [(1002, aF h1002), (3002, aI .u64 .u64 (count - zc) (count - zc) (wrap_u64 (by unfold U64 at *; omega) (by unfold U64 at *; omega))), (900000, .stmt (.loop (nthLoop Try.f123 0)) [0, 1] (rfS P Q sum (count - zc) 0) (.exit 0) ⟨[(2, .int .u64 sum), (11, .int .u64 (count - zc - P.sum - Q.sum))], [], 2⟩ (.cons (fun _ => encI_sc _) (.cons (fun _ => encI_sc _) .nil)) (fun ds => rf_loop_ok P Q sum (count - zc) h_p h_q h_lp h_lq (by unfold U64 at *; omega) (by omega)) (le_ble rfl)), (16001, aF h16001)] (by kernel_rfl) (by kernel_rfl) (.cons (encI_sc _) (.cons (encI_sc _) .nil)) .nil) (by unfold fitsL; simp_all <;> omega)
  · skip
    by_cases h1002 : (zc > count)
    · skip
      exact FnC.eq (v := .int .i64 22) (FnC.run (m := false) follows_mixed has123 [(1002, aT h1002)] (by kernel_rfl) (by kernel_rfl) (.cons (encI_sc _) (.cons (encI_sc _) .nil)) .nil) (by unfold fitsL; simp_all <;> omega)
    · skip
      exact FnC.eq (v := .int .i64 22) (FnC.run (m := false) follows_mixed has123 [(1002, aF h1002), (3002, aI .u64 .u64 (count - zc) (count - zc) (wrap_u64 (by unfold U64 at *; omega) (by unfold U64 at *; omega))), (900000, .stmt (.loop (nthLoop Try.f123 0)) [0, 1] (rfS P Q sum (count - zc) 0) (.ret) ⟨[(10, .int .i64 22)], [], 2⟩ (.cons (fun _ => encI_sc _) (.cons (fun _ => encI_sc _) .nil)) (fun ds => rf_loop_no P Q sum (count - zc) h_p h_q h_lp h_lq (by unfold U64 at *; omega) (by omega)) (le_ble rfl))] (by kernel_rfl) (by kernel_rfl) (.cons (encI_sc _) (.cons (encI_sc _) .nil)) .nil) (by unfold fitsL; simp_all <;> omega)
theorem cn_row (l : List Sp) (d : List Int) : NRow (sideCn l d) := by
  unfold sideCn; split
  · rename_i h; exact side_n63 h
  · intro x hx; cases hx
theorem cn_len (l : List Sp) {d : List Int} (h : d.length ≤ 4294967296) : (sideCn l d).length ≤ 4294967296 := by
  unfold sideCn; split
  · exact Nat.le_trans (absL_le d) h
  · simp
theorem zip_sum : ∀ {a b : List Int}, a.length = b.length → sumV (a.zip b) = b.sum
  | [], [], _ => rfl
  | x :: a, y :: b, h => by
    have := zip_sum (a := a) (b := b) (by simpa using h)
    simp [sumV] at this ⊢
    omega
theorem side_len {l : List Sp} {d : List Int} (h : sideE l d = 0) : (places l).length = (absL d).length := by
  obtain ⟨h1, h2, h3, h4⟩ := sideE_zero.1 h
  have := places_length l
  have := absE_len h3
  omega
theorem side_sum (l : List Sp) (d : List Int) : sumV (sideR l d) = (sideCn l d).sum := by
  unfold sideR sideCn
  by_cases h : sideE l d = 0
  · rw [if_pos h, if_pos h]; exact zip_sum (side_len h)
  · rw [if_neg h, if_neg h]; rfl
theorem fits_same (h : HI) : fitsL h.zc h.count h.sum (sideCn h.pos h.pd) (sideCn h.neg h.nd) = fitsE h.zc h.count h.sum (sideR h.pos h.pd) (sideR h.neg h.nd) := by
  unfold fitsL fitsE; rw [side_sum, side_sum]
theorem rcheck9_ok (h : HI) (h_w : HWf h) : FnC Try.prog 48 [.agg #[.int .i64 h.schema, .int .u64 h.zero, .int .u64 h.zc, .int .u64 h.count, .int .u64 h.sum, .slice (some ⟨0, 0, none⟩) h.pos.length (h.pos.length + 1), .slice (some ⟨1, 0, none⟩) h.neg.length (h.neg.length + 1), .slice (some ⟨2, 0, none⟩) h.pd.length (h.pd.length + 1), .slice (some ⟨3, 0, none⟩) h.nd.length (h.nd.length + 1)]] [(0, ⟨(h.pos).flatMap encS, 1, [], 2⟩), (1, ⟨(h.neg).flatMap encS, 1, [], 2⟩), (2, ⟨(h.pd).flatMap encI, 1, [], 1⟩), (3, ⟨(h.nd).flatMap encI, 1, [], 1⟩)] 4 (.int .i64 (openE h)) 0 [] := by
  by_cases h2001 : ((headE h.schema h.zero : Int) = 0)
  · skip
    by_cases h5001 : ((sideE (h.pos) (h.pd) : Int) = 0)
    · skip
      by_cases h8001 : ((sideE (h.neg) (h.nd) : Int) = 0)
      · skip
        exact FnC.eq (v := .int .i64 (fitsL (h.zc) (h.count) (h.sum) (sideCn (h.pos) (h.pd)) (sideCn (h.neg) (h.nd)))) (FnC.run (m := false) follows_mixed has48 [(1004, aC (rhead_ok (h.schema) (h.zero))), (2001, aNT h2001), (4004, aC (rside_ok (h.pos) (h.pd) h_w.pd h_w.np)), (5001, aNT h5001), (7004, aC (rside_ok (h.neg) (h.nd) h_w.nd h_w.nn)), (8001, aNT h8001), (10008, aC (rfits9_ok (h.zc) (h.count) (h.sum) (sideCn (h.pos) (h.pd)) (sideCn (h.neg) (h.nd)) h_w.zc h_w.count h_w.sum (cn_row _ _) (cn_row _ _) (cn_len _ h_w.np) (cn_len _ h_w.nn)))] (by kernel_rfl) (by kernel_rfl) (.cons (encS_sc _) (.cons (encS_sc _) (.cons (encI_sc _) (.cons (encI_sc _) .nil)))) .nil) (by unfold openE; simp_all [fits_same])
      · skip
        exact FnC.eq (v := .int .i64 (sideE (h.neg) (h.nd))) (FnC.run (m := false) follows_mixed has48 [(1004, aC (rhead_ok (h.schema) (h.zero))), (2001, aNT h2001), (4004, aC (rside_ok (h.pos) (h.pd) h_w.pd h_w.np)), (5001, aNT h5001), (7004, aC (rside_ok (h.neg) (h.nd) h_w.nd h_w.nn)), (8001, aNF h8001)] (by kernel_rfl) (by kernel_rfl) (.cons (encS_sc _) (.cons (encS_sc _) (.cons (encI_sc _) (.cons (encI_sc _) .nil)))) .nil) (by unfold openE; simp_all [fits_same])
    · skip
      exact FnC.eq (v := .int .i64 (sideE (h.pos) (h.pd))) (FnC.run (m := false) follows_mixed has48 [(1004, aC (rhead_ok (h.schema) (h.zero))), (2001, aNT h2001), (4004, aC (rside_ok (h.pos) (h.pd) h_w.pd h_w.np)), (5001, aNF h5001)] (by kernel_rfl) (by kernel_rfl) (.cons (encS_sc _) (.cons (encS_sc _) (.cons (encI_sc _) (.cons (encI_sc _) .nil)))) .nil) (by unfold openE; simp_all [fits_same])
  · skip
    exact FnC.eq (v := .int .i64 (headE h.schema h.zero)) (FnC.run (m := false) follows_mixed has48 [(1004, aC (rhead_ok (h.schema) (h.zero))), (2001, aNF h2001)] (by kernel_rfl) (by kernel_rfl) (.cons (encS_sc _) (.cons (encS_sc _) (.cons (encI_sc _) (.cons (encI_sc _) .nil)))) .nil) (by unfold openE; simp_all [fits_same])
end Go.Am
