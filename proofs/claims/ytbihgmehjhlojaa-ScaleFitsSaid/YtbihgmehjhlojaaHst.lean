/-
Package hist: open, Check, Pairs.
-/
import Derived.Test.YtbihgmehjhlojaaPrs
set_option linter.unusedVariables false
set_option linter.unusedSimpArgs false
set_option maxRecDepth 100000
namespace Go.Am
open Go Go.RowKit Go.Proofs
theorem has211 : Has Try.prog 211 Try.f211 (bodyOf Try.f211) := ⟨Try.func211, by kernel_rfl, by kernel_rfl⟩
theorem has125 : Has Try.prog 125 Try.f125 (bodyOf Try.f125) := ⟨Try.func125, by kernel_rfl, by kernel_rfl⟩
theorem has62 : Has Try.prog 62 Try.f62 (bodyOf Try.f62) := ⟨Try.func62, by kernel_rfl, by kernel_rfl⟩
theorem has69 : Has Try.prog 69 Try.f69 (bodyOf Try.f69) := ⟨Try.func69, by kernel_rfl, by kernel_rfl⟩
structure HI where
  schema : Int
  zero : Int
  zc : Int
  count : Int
  sum : Int
  pos : List Sp
  neg : List Sp
  pd : List Int
  nd : List Int
structure HWf (h : HI) : Prop where
  schema : I64 h.schema
  zero : U64 h.zero
  zc : U64 h.zc
  count : U64 h.count
  sum : U64 h.sum
  pd : L64 h.pd
  nd : L64 h.nd
  np : h.pd.length ≤ 4294967296
  nn : h.nd.length ≤ 4294967296
def sumV (l : List (Int × Int)) : Int := (l.map (·.2)).sum
def PRow (l : List (Int × Int)) : Prop := ∀ x ∈ l, 0 ≤ x.2 ∧ x.2 ≤ 9223372036854775807
theorem sumV_next {l : List (Int × Int)} {i : Nat} {s : Int × Int} (h : l[i]? = some s) : sumV (l.take (i + 1)) = sumV (l.take i) + s.2 := by
  unfold sumV; rw [take_next h]; simp
theorem sumV_nonneg : ∀ {l : List (Int × Int)}, PRow l → 0 ≤ sumV l
  | [], _ => by simp [sumV]
  | a :: l, h => by
    have h1 := h a (List.mem_cons_self ..)
    have h2 := sumV_nonneg (l := l) fun x hx => h x (List.mem_cons_of_mem _ hx)
    simp [sumV] at h2 ⊢; omega
theorem sumV_app (a b : List (Int × Int)) : sumV (a ++ b) = sumV a + sumV b := by simp [sumV]
theorem sumV_take {l : List (Int × Int)} (h : PRow l) (i : Nat) : 0 ≤ sumV (l.take i) ∧ sumV (l.take i) ≤ sumV l := by
  have h1 := sumV_nonneg (l := l.take i) fun x hx => h x (List.mem_of_mem_take hx)
  have h2 := sumV_nonneg (l := l.drop i) fun x hx => h x (List.mem_of_mem_drop hx)
  have h3 := sumV_app (l.take i) (l.drop i)
  rw [List.take_append_drop] at h3
  omega

abbrev totp_I (p q : List (Int × Int)) (n0 : Int) (j : Nat) (n : Int) : AS := ⟨[(6, .int .u64 n), (14, .slice (some ⟨4, 0, none⟩) 2 3), (15, .int .i64 2), (16, .int .i64 0), (20, .slice (some ⟨5, 0, none⟩) p.length (p.length + 1)), (21, .int .i64 ((p.length : Nat) : Int)), (22, .int .i64 ((j : Nat) : Int))], [(4, ⟨[.slice (some ⟨5, 0, none⟩) p.length (p.length + 1), .slice (some ⟨6, 0, none⟩) q.length (q.length + 1)], 1, [], 1⟩), (5, ⟨(p).flatMap encS, 1, [], 2⟩), (6, ⟨(q).flatMap encS, 1, [], 2⟩)], 7⟩
abbrev totp_inv (p q : List (Int × Int)) (n0 : Int) (j : Nat) (n : Int) : Prop := j ≤ p.length ∧ n = n0 + sumV (p.take j) ∧ n < 18446744073709551616
def totp_K (p q : List (Int × Int)) (n0 : Int) : Exit → AS → Prop := fun e s => (n0 + sumV p < 18446744073709551616 ∧ e = .exit 2 ∧ s = ⟨[(6, .int .u64 (n0 + sumV p)), (14, .slice (some ⟨4, 0, none⟩) 2 3), (15, .int .i64 2), (16, .int .i64 0)], [(4, ⟨[.slice (some ⟨5, 0, none⟩) p.length (p.length + 1), .slice (some ⟨6, 0, none⟩) q.length (q.length + 1)], 1, [], 1⟩), (5, ⟨(p).flatMap encS, 1, [], 2⟩), (6, ⟨(q).flatMap encS, 1, [], 2⟩)], 7⟩) ∨ (¬ n0 + sumV p < 18446744073709551616 ∧ e = .ret ∧ s = ⟨[(4, .int .u64 0), (5, .bool false)], [], 7⟩)
abbrev totp_Iu (p q : List (Int × Int)) (n0 : Int) : Nat × Int → AS := fun x => totp_I p q n0 x.1 x.2
abbrev totp_vu (p q : List (Int × Int)) (n0 : Int) : Nat × Int → Prop := fun x => totp_inv p q n0 x.1 x.2
abbrev totp_m (p q : List (Int × Int)) (n0 : Int) : Nat × Int → Nat := fun x => (fun (j : Nat) (n : Int) => p.length - j) x.1 x.2
theorem totp_round (p q : List (Int × Int)) (n0 : Int) (h_n : 0 ≤ n0 ∧ n0 < 18446744073709551616) (h_p : PRow p) (h_l : p.length ≤ 4294967296) (j : Nat) (n : Int) (hinv : totp_inv p q n0 j n) {ds : List Deferred} : Tr Try.prog none ⟨39, ds⟩ 7 (nthLoop Try.f211 1) (totp_I p q n0 j n) (RK (totp_vu p q n0) (totp_Iu p q n0) (totp_m p q n0) (totp_K p q n0) (j, n)) := by
  obtain ⟨hj0, hn, hlt⟩ := hinv
  have hb := sumV_take h_p j
  by_cases h6000 : (((j : Nat) : Int) < ((p.length : Nat) : Int))
  · skip
    obtain ⟨s1, hs1⟩ : ∃ s, p[j]? = some s := ⟨_, List.getElem?_eq_getElem (by omega)⟩
    have hs2 := sumV_next hs1
    have hp1 := h_p _ (List.mem_of_getElem? hs1)
    by_cases h8888 : (n + s1.2 < 18446744073709551616)
    · skip
      exact Tr.again (Inv := (totp_vu p q n0)) (I := (totp_Iu p q n0)) (m := (totp_m p q n0)) (j + 1, n + s1.2) (Tr.run follows_mixed (A := [(6000, aT h6000), (7000, aX j p.length 2 (by omega)), (7001, aL encS_k hs1), (8003, aI .u64 .u64 (s1.2) (s1.2) (wrap_u64 (by omega) (by omega))), (8004, aExt (g := 232) (args := [.int .u64 n, .int .u64 s1.2, .int .u64 0]) (u := .tuple #[.int .u64 (if n + s1.2 < 18446744073709551616 then n + s1.2 else n + s1.2 - 18446744073709551616), .int .u64 (if n + s1.2 < 18446744073709551616 then 0 else 1)]) rfl (add64_ext (by unfold U64; omega) (by unfold U64; omega)) (fun n => rfl)), (8006, aE (x := .int .u64 (if n + s1.2 < 18446744073709551616 then n + s1.2 else n + s1.2 - 18446744073709551616)) (y := .int .u64 (n + s1.2)) (by rw [if_pos h8888])), (8007, aE (x := .int .u64 (if n + s1.2 < 18446744073709551616 then 0 else 1)) (y := .int .u64 0) (by rw [if_pos h8888])), (11000, aI .i64 .i64 (((j : Nat) : Int) + 1) (((j + 1 : Nat) : Int)) (wrap_i64' (by omega) (by omega) (by omega)))]) (rows := [5, 6]) (by kernel_rfl) (.skip rfl (.cons (fun _ => encS_sc _) (.cons (fun _ => encS_sc _) .nil))) (le_ble rfl)) (show totp_inv p q n0 (j + 1) (n + s1.2) from ⟨by omega, by omega, by omega⟩) (by show p.length - (j + 1) < p.length - j; omega)
    · skip
      have h3 := sumV_take h_p (j + 1)
      exact Tr.out (I := (totp_Iu p q n0)) (m := (totp_m p q n0)) (Tr.run follows_mixed (A := [(6000, aT h6000), (7000, aX j p.length 2 (by omega)), (7001, aL encS_k hs1), (8003, aI .u64 .u64 (s1.2) (s1.2) (wrap_u64 (by omega) (by omega))), (8004, aExt (g := 232) (args := [.int .u64 n, .int .u64 s1.2, .int .u64 0]) (u := .tuple #[.int .u64 (if n + s1.2 < 18446744073709551616 then n + s1.2 else n + s1.2 - 18446744073709551616), .int .u64 (if n + s1.2 < 18446744073709551616 then 0 else 1)]) rfl (add64_ext (by unfold U64; omega) (by unfold U64; omega)) (fun n => rfl)), (8007, aE (x := .int .u64 (if n + s1.2 < 18446744073709551616 then 0 else 1)) (y := .int .u64 1) (by rw [if_neg h8888]))]) (rows := []) (by kernel_rfl) .nil (le_ble rfl)) (.inr ⟨(by omega), rfl, rfl⟩) (by simp)
  · skip
    have he := take_all (l := p) (i := j) (by omega)
    rw [he] at hn
    subst hn
    exact Tr.out (I := (totp_Iu p q n0)) (m := (totp_m p q n0)) (Tr.run follows_mixed (A := [(6000, aF h6000)]) (rows := [5, 6]) (by kernel_rfl) (.skip rfl (.cons (fun _ => encS_sc _) (.cons (fun _ => encS_sc _) .nil))) (le_ble rfl)) (.inl ⟨(by omega), rfl, rfl⟩) (by simp)

theorem totp_loop (p q : List (Int × Int)) (n0 : Int) (h_n : 0 ≤ n0 ∧ n0 < 18446744073709551616) (h_p : PRow p) (h_l : p.length ≤ 4294967296) (j : Nat) (n : Int) (hinv : totp_inv p q n0 j n) {ds : List Deferred} : Tr Try.prog none ⟨39, ds⟩ 7 (.loop (nthLoop Try.f211 1)) (totp_I p q n0 j n) (totp_K p q n0) :=
  Tr.rounds (Inv := (totp_vu p q n0)) (I := (totp_Iu p q n0)) (m := (totp_m p q n0)) (fun x h => totp_round p q n0 h_n h_p h_l x.1 x.2 h) (j, n) hinv
abbrev totq_I (p q : List (Int × Int)) (n0 : Int) (j : Nat) (n : Int) : AS := ⟨[(6, .int .u64 n), (14, .slice (some ⟨4, 0, none⟩) 2 3), (15, .int .i64 2), (16, .int .i64 1), (20, .slice (some ⟨6, 0, none⟩) q.length (q.length + 1)), (21, .int .i64 ((q.length : Nat) : Int)), (22, .int .i64 ((j : Nat) : Int))], [(4, ⟨[.slice (some ⟨5, 0, none⟩) p.length (p.length + 1), .slice (some ⟨6, 0, none⟩) q.length (q.length + 1)], 1, [], 1⟩), (6, ⟨(q).flatMap encS, 1, [], 2⟩), (5, ⟨(p).flatMap encS, 1, [], 2⟩)], 7⟩
abbrev totq_inv (p q : List (Int × Int)) (n0 : Int) (j : Nat) (n : Int) : Prop := j ≤ q.length ∧ n = n0 + sumV (q.take j) ∧ n < 18446744073709551616
def totq_K (p q : List (Int × Int)) (n0 : Int) : Exit → AS → Prop := fun e s => (n0 + sumV q < 18446744073709551616 ∧ e = .exit 2 ∧ s = ⟨[(6, .int .u64 (n0 + sumV q)), (14, .slice (some ⟨4, 0, none⟩) 2 3), (15, .int .i64 2), (16, .int .i64 1)], [(4, ⟨[.slice (some ⟨5, 0, none⟩) p.length (p.length + 1), .slice (some ⟨6, 0, none⟩) q.length (q.length + 1)], 1, [], 1⟩), (5, ⟨(p).flatMap encS, 1, [], 2⟩), (6, ⟨(q).flatMap encS, 1, [], 2⟩)], 7⟩) ∨ (¬ n0 + sumV q < 18446744073709551616 ∧ e = .ret ∧ s = ⟨[(4, .int .u64 0), (5, .bool false)], [], 7⟩)
abbrev totq_Iu (p q : List (Int × Int)) (n0 : Int) : Nat × Int → AS := fun x => totq_I p q n0 x.1 x.2
abbrev totq_vu (p q : List (Int × Int)) (n0 : Int) : Nat × Int → Prop := fun x => totq_inv p q n0 x.1 x.2
abbrev totq_m (p q : List (Int × Int)) (n0 : Int) : Nat × Int → Nat := fun x => (fun (j : Nat) (n : Int) => q.length - j) x.1 x.2
theorem totq_round (p q : List (Int × Int)) (n0 : Int) (h_n : 0 ≤ n0 ∧ n0 < 18446744073709551616) (h_p : PRow q) (h_l : q.length ≤ 4294967296) (j : Nat) (n : Int) (hinv : totq_inv p q n0 j n) {ds : List Deferred} : Tr Try.prog none ⟨39, ds⟩ 7 (nthLoop Try.f211 1) (totq_I p q n0 j n) (RK (totq_vu p q n0) (totq_Iu p q n0) (totq_m p q n0) (totq_K p q n0) (j, n)) := by
  obtain ⟨hj0, hn, hlt⟩ := hinv
  have hb := sumV_take h_p j
  by_cases h6000 : (((j : Nat) : Int) < ((q.length : Nat) : Int))
  · skip
    obtain ⟨s1, hs1⟩ : ∃ s, q[j]? = some s := ⟨_, List.getElem?_eq_getElem (by omega)⟩
    have hs2 := sumV_next hs1
    have hp1 := h_p _ (List.mem_of_getElem? hs1)
    by_cases h8888 : (n + s1.2 < 18446744073709551616)
    · skip
      exact Tr.again (Inv := (totq_vu p q n0)) (I := (totq_Iu p q n0)) (m := (totq_m p q n0)) (j + 1, n + s1.2) (Tr.run follows_mixed (A := [(6000, aT h6000), (7000, aX j q.length 2 (by omega)), (7001, aL encS_k hs1), (8003, aI .u64 .u64 (s1.2) (s1.2) (wrap_u64 (by omega) (by omega))), (8004, aExt (g := 232) (args := [.int .u64 n, .int .u64 s1.2, .int .u64 0]) (u := .tuple #[.int .u64 (if n + s1.2 < 18446744073709551616 then n + s1.2 else n + s1.2 - 18446744073709551616), .int .u64 (if n + s1.2 < 18446744073709551616 then 0 else 1)]) rfl (add64_ext (by unfold U64; omega) (by unfold U64; omega)) (fun n => rfl)), (8006, aE (x := .int .u64 (if n + s1.2 < 18446744073709551616 then n + s1.2 else n + s1.2 - 18446744073709551616)) (y := .int .u64 (n + s1.2)) (by rw [if_pos h8888])), (8007, aE (x := .int .u64 (if n + s1.2 < 18446744073709551616 then 0 else 1)) (y := .int .u64 0) (by rw [if_pos h8888])), (11000, aI .i64 .i64 (((j : Nat) : Int) + 1) (((j + 1 : Nat) : Int)) (wrap_i64' (by omega) (by omega) (by omega)))]) (rows := [6, 5]) (by kernel_rfl) (.skip rfl (.cons (fun _ => encS_sc _) (.cons (fun _ => encS_sc _) .nil))) (le_ble rfl)) (show totq_inv p q n0 (j + 1) (n + s1.2) from ⟨by omega, by omega, by omega⟩) (by show q.length - (j + 1) < q.length - j; omega)
    · skip
      have h3 := sumV_take h_p (j + 1)
      exact Tr.out (I := (totq_Iu p q n0)) (m := (totq_m p q n0)) (Tr.run follows_mixed (A := [(6000, aT h6000), (7000, aX j q.length 2 (by omega)), (7001, aL encS_k hs1), (8003, aI .u64 .u64 (s1.2) (s1.2) (wrap_u64 (by omega) (by omega))), (8004, aExt (g := 232) (args := [.int .u64 n, .int .u64 s1.2, .int .u64 0]) (u := .tuple #[.int .u64 (if n + s1.2 < 18446744073709551616 then n + s1.2 else n + s1.2 - 18446744073709551616), .int .u64 (if n + s1.2 < 18446744073709551616 then 0 else 1)]) rfl (add64_ext (by unfold U64; omega) (by unfold U64; omega)) (fun n => rfl)), (8007, aE (x := .int .u64 (if n + s1.2 < 18446744073709551616 then 0 else 1)) (y := .int .u64 1) (by rw [if_neg h8888]))]) (rows := []) (by kernel_rfl) .nil (le_ble rfl)) (.inr ⟨(by omega), rfl, rfl⟩) (by simp)
  · skip
    have he := take_all (l := q) (i := j) (by omega)
    rw [he] at hn
    subst hn
    exact Tr.out (I := (totq_Iu p q n0)) (m := (totq_m p q n0)) (Tr.run follows_mixed (A := [(6000, aF h6000)]) (rows := [5, 6]) (by kernel_rfl) (.skip rfl (.cons (fun _ => encS_sc _) (.cons (fun _ => encS_sc _) .nil))) (le_ble rfl)) (.inl ⟨(by omega), rfl, rfl⟩) (by simp)

theorem totq_loop (p q : List (Int × Int)) (n0 : Int) (h_n : 0 ≤ n0 ∧ n0 < 18446744073709551616) (h_p : PRow q) (h_l : q.length ≤ 4294967296) (j : Nat) (n : Int) (hinv : totq_inv p q n0 j n) {ds : List Deferred} : Tr Try.prog none ⟨39, ds⟩ 7 (.loop (nthLoop Try.f211 1)) (totq_I p q n0 j n) (totq_K p q n0) :=
  Tr.rounds (Inv := (totq_vu p q n0)) (I := (totq_Iu p q n0)) (m := (totq_m p q n0)) (fun x h => totq_round p q n0 h_n h_p h_l x.1 x.2 h) (j, n) hinv
theorem tot0a (zc : Int) (p q : List (Int × Int)) (h_z : 0 ≤ zc ∧ zc < 18446744073709551616) (h_p : PRow p) (h_q : PRow q) (h_lp : p.length ≤ 4294967296) (h_lq : q.length ≤ 4294967296) (hc : zc + sumV p < 18446744073709551616) {ds : List Deferred} : Tr Try.prog none ⟨39, ds⟩ 7 (nthLoop Try.f211 0) ⟨[(6, .int .u64 zc), (14, .slice (some ⟨4, 0, none⟩) 2 3), (15, .int .i64 2), (16, .int .i64 0)], [(4, ⟨[.slice (some ⟨5, 0, none⟩) p.length (p.length + 1), .slice (some ⟨6, 0, none⟩) q.length (q.length + 1)], 1, [], 1⟩), (5, ⟨(p).flatMap encS, 1, [], 2⟩), (6, ⟨(q).flatMap encS, 1, [], 2⟩)], 7⟩ fun e s => e = .normal ∧ s = ⟨[(6, .int .u64 (zc + sumV p)), (14, .slice (some ⟨4, 0, none⟩) 2 3), (15, .int .i64 2), (16, .int .i64 1)], [(4, ⟨[.slice (some ⟨5, 0, none⟩) p.length (p.length + 1), .slice (some ⟨6, 0, none⟩) q.length (q.length + 1)], 1, [], 1⟩), (5, ⟨(p).flatMap encS, 1, [], 2⟩), (6, ⟨(q).flatMap encS, 1, [], 2⟩)], 7⟩ := by
  have hbp := sumV_nonneg h_p
  have hbq := sumV_nonneg h_q
  exact (Tr.run follows_mixed (A := [(900000, .stmt (.loop (nthLoop Try.f211 1)) [5, 6] (totp_I p q zc 0 zc) (.exit 2) ⟨[(6, .int .u64 (zc + sumV p)), (14, .slice (some ⟨4, 0, none⟩) 2 3), (15, .int .i64 2), (16, .int .i64 0)], [(4, ⟨[.slice (some ⟨5, 0, none⟩) p.length (p.length + 1), .slice (some ⟨6, 0, none⟩) q.length (q.length + 1)], 1, [], 1⟩), (5, ⟨(p).flatMap encS, 1, [], 2⟩), (6, ⟨(q).flatMap encS, 1, [], 2⟩)], 7⟩ (.skip rfl (.cons (fun _ => encS_sc _) (.cons (fun _ => encS_sc _) .nil))) (fun ds => (totp_loop p q zc h_z h_p h_lp 0 zc ⟨by omega, by simp [sumV], by omega⟩).pick (fun e s h => by rcases h with ⟨_, h⟩ | ⟨h0, _⟩; exact h; exact absurd hc h0)) (le_ble rfl))]) (rows := [5, 6]) (by kernel_rfl) (.skip rfl (.cons (fun _ => encS_sc _) (.cons (fun _ => encS_sc _) .nil))) (le_ble rfl))
theorem tot0b (zc : Int) (p q : List (Int × Int)) (h_z : 0 ≤ zc ∧ zc < 18446744073709551616) (h_p : PRow p) (h_q : PRow q) (h_lp : p.length ≤ 4294967296) (h_lq : q.length ≤ 4294967296) (hc : ¬ zc + sumV p < 18446744073709551616) {ds : List Deferred} : Tr Try.prog none ⟨39, ds⟩ 7 (nthLoop Try.f211 0) ⟨[(6, .int .u64 zc), (14, .slice (some ⟨4, 0, none⟩) 2 3), (15, .int .i64 2), (16, .int .i64 0)], [(4, ⟨[.slice (some ⟨5, 0, none⟩) p.length (p.length + 1), .slice (some ⟨6, 0, none⟩) q.length (q.length + 1)], 1, [], 1⟩), (5, ⟨(p).flatMap encS, 1, [], 2⟩), (6, ⟨(q).flatMap encS, 1, [], 2⟩)], 7⟩ fun e s => e = .ret ∧ s = ⟨[(4, .int .u64 0), (5, .bool false)], [], 7⟩ := by
  have hbp := sumV_nonneg h_p
  have hbq := sumV_nonneg h_q
  exact (Tr.run follows_mixed (A := [(900000, .stmt (.loop (nthLoop Try.f211 1)) [5, 6] (totp_I p q zc 0 zc) (.ret) ⟨[(4, .int .u64 0), (5, .bool false)], [], 7⟩ (.skip rfl (.cons (fun _ => encS_sc _) (.cons (fun _ => encS_sc _) .nil))) (fun ds => (totp_loop p q zc h_z h_p h_lp 0 zc ⟨by omega, by simp [sumV], by omega⟩).pick (fun e s h => by rcases h with ⟨h0, _⟩ | ⟨_, h⟩; exact absurd h0 hc; exact h)) (le_ble rfl))]) (rows := []) (by kernel_rfl) .nil (le_ble rfl))
theorem tot1a (zc : Int) (p q : List (Int × Int)) (h_z : 0 ≤ zc ∧ zc < 18446744073709551616) (h_p : PRow p) (h_q : PRow q) (h_lp : p.length ≤ 4294967296) (h_lq : q.length ≤ 4294967296) (h_1 : zc + sumV p < 18446744073709551616) (hc : zc + sumV p + sumV q < 18446744073709551616) {ds : List Deferred} : Tr Try.prog none ⟨39, ds⟩ 7 (nthLoop Try.f211 0) ⟨[(6, .int .u64 (zc + sumV p)), (14, .slice (some ⟨4, 0, none⟩) 2 3), (15, .int .i64 2), (16, .int .i64 1)], [(4, ⟨[.slice (some ⟨5, 0, none⟩) p.length (p.length + 1), .slice (some ⟨6, 0, none⟩) q.length (q.length + 1)], 1, [], 1⟩), (5, ⟨(p).flatMap encS, 1, [], 2⟩), (6, ⟨(q).flatMap encS, 1, [], 2⟩)], 7⟩ fun e s => e = .normal ∧ s = ⟨[(6, .int .u64 (zc + sumV p + sumV q)), (14, .slice (some ⟨4, 0, none⟩) 2 3), (15, .int .i64 2), (16, .int .i64 2)], [(4, ⟨[.slice (some ⟨5, 0, none⟩) p.length (p.length + 1), .slice (some ⟨6, 0, none⟩) q.length (q.length + 1)], 1, [], 1⟩), (5, ⟨(p).flatMap encS, 1, [], 2⟩), (6, ⟨(q).flatMap encS, 1, [], 2⟩)], 7⟩ := by
  have hbp := sumV_nonneg h_p
  have hbq := sumV_nonneg h_q
  exact (Tr.run follows_mixed (A := [(900000, .stmt (.loop (nthLoop Try.f211 1)) [6, 5] (totq_I p q (zc + sumV p) 0 (zc + sumV p)) (.exit 2) ⟨[(6, .int .u64 ((zc + sumV p) + sumV q)), (14, .slice (some ⟨4, 0, none⟩) 2 3), (15, .int .i64 2), (16, .int .i64 1)], [(4, ⟨[.slice (some ⟨5, 0, none⟩) p.length (p.length + 1), .slice (some ⟨6, 0, none⟩) q.length (q.length + 1)], 1, [], 1⟩), (5, ⟨(p).flatMap encS, 1, [], 2⟩), (6, ⟨(q).flatMap encS, 1, [], 2⟩)], 7⟩ (.skip rfl (.cons (fun _ => encS_sc _) (.cons (fun _ => encS_sc _) .nil))) (fun ds => (totq_loop p q (zc + sumV p) (by omega) h_q h_lq 0 (zc + sumV p) ⟨by omega, by simp [sumV], by omega⟩).pick (fun e s h => by rcases h with ⟨_, h⟩ | ⟨h0, _⟩; exact h; exact absurd hc h0)) (le_ble rfl))]) (rows := [5, 6]) (by kernel_rfl) (.skip rfl (.cons (fun _ => encS_sc _) (.cons (fun _ => encS_sc _) .nil))) (le_ble rfl))
theorem tot1b (zc : Int) (p q : List (Int × Int)) (h_z : 0 ≤ zc ∧ zc < 18446744073709551616) (h_p : PRow p) (h_q : PRow q) (h_lp : p.length ≤ 4294967296) (h_lq : q.length ≤ 4294967296) (h_1 : zc + sumV p < 18446744073709551616) (hc : ¬ zc + sumV p + sumV q < 18446744073709551616) {ds : List Deferred} : Tr Try.prog none ⟨39, ds⟩ 7 (nthLoop Try.f211 0) ⟨[(6, .int .u64 (zc + sumV p)), (14, .slice (some ⟨4, 0, none⟩) 2 3), (15, .int .i64 2), (16, .int .i64 1)], [(4, ⟨[.slice (some ⟨5, 0, none⟩) p.length (p.length + 1), .slice (some ⟨6, 0, none⟩) q.length (q.length + 1)], 1, [], 1⟩), (5, ⟨(p).flatMap encS, 1, [], 2⟩), (6, ⟨(q).flatMap encS, 1, [], 2⟩)], 7⟩ fun e s => e = .ret ∧ s = ⟨[(4, .int .u64 0), (5, .bool false)], [], 7⟩ := by
  have hbp := sumV_nonneg h_p
  have hbq := sumV_nonneg h_q
  exact (Tr.run follows_mixed (A := [(900000, .stmt (.loop (nthLoop Try.f211 1)) [6, 5] (totq_I p q (zc + sumV p) 0 (zc + sumV p)) (.ret) ⟨[(4, .int .u64 0), (5, .bool false)], [], 7⟩ (.skip rfl (.cons (fun _ => encS_sc _) (.cons (fun _ => encS_sc _) .nil))) (fun ds => (totq_loop p q (zc + sumV p) (by omega) h_q h_lq 0 (zc + sumV p) ⟨by omega, by simp [sumV], by omega⟩).pick (fun e s h => by rcases h with ⟨h0, _⟩ | ⟨_, h⟩; exact absurd h0 hc; exact h)) (le_ble rfl))]) (rows := []) (by kernel_rfl) .nil (le_ble rfl))
theorem tot2 (zc : Int) (p q : List (Int × Int)) (h_z : 0 ≤ zc ∧ zc < 18446744073709551616) (h_p : PRow p) (h_q : PRow q) (h_lp : p.length ≤ 4294967296) (h_lq : q.length ≤ 4294967296) {ds : List Deferred} : Tr Try.prog none ⟨39, ds⟩ 7 (nthLoop Try.f211 0) ⟨[(6, .int .u64 (zc + sumV p + sumV q)), (14, .slice (some ⟨4, 0, none⟩) 2 3), (15, .int .i64 2), (16, .int .i64 2)], [(4, ⟨[.slice (some ⟨5, 0, none⟩) p.length (p.length + 1), .slice (some ⟨6, 0, none⟩) q.length (q.length + 1)], 1, [], 1⟩), (5, ⟨(p).flatMap encS, 1, [], 2⟩), (6, ⟨(q).flatMap encS, 1, [], 2⟩)], 7⟩ fun e s => e = .exit 0 ∧ s = ⟨[(6, .int .u64 (zc + sumV p + sumV q))], [], 7⟩ := by
  exact (Tr.run follows_mixed (A := []) (rows := []) (by kernel_rfl) .nil (le_ble rfl))
abbrev totS (zc : Int) (p q : List (Int × Int)) : Nat → AS
  | 0 => ⟨[(6, .int .u64 zc), (14, .slice (some ⟨4, 0, none⟩) 2 3), (15, .int .i64 2), (16, .int .i64 0)], [(4, ⟨[.slice (some ⟨5, 0, none⟩) p.length (p.length + 1), .slice (some ⟨6, 0, none⟩) q.length (q.length + 1)], 1, [], 1⟩), (5, ⟨(p).flatMap encS, 1, [], 2⟩), (6, ⟨(q).flatMap encS, 1, [], 2⟩)], 7⟩
  | 1 => ⟨[(6, .int .u64 (zc + sumV p)), (14, .slice (some ⟨4, 0, none⟩) 2 3), (15, .int .i64 2), (16, .int .i64 1)], [(4, ⟨[.slice (some ⟨5, 0, none⟩) p.length (p.length + 1), .slice (some ⟨6, 0, none⟩) q.length (q.length + 1)], 1, [], 1⟩), (5, ⟨(p).flatMap encS, 1, [], 2⟩), (6, ⟨(q).flatMap encS, 1, [], 2⟩)], 7⟩
  | _ => ⟨[(6, .int .u64 (zc + sumV p + sumV q)), (14, .slice (some ⟨4, 0, none⟩) 2 3), (15, .int .i64 2), (16, .int .i64 2)], [(4, ⟨[.slice (some ⟨5, 0, none⟩) p.length (p.length + 1), .slice (some ⟨6, 0, none⟩) q.length (q.length + 1)], 1, [], 1⟩), (5, ⟨(p).flatMap encS, 1, [], 2⟩), (6, ⟨(q).flatMap encS, 1, [], 2⟩)], 7⟩
def totN (zc : Int) (p q : List (Int × Int)) : Int := if zc + sumV p + sumV q < 18446744073709551616 then zc + sumV p + sumV q else 0
def totB (zc : Int) (p q : List (Int × Int)) : Bool := decide (zc + sumV p + sumV q < 18446744073709551616)
theorem tot_loop_ok (zc : Int) (p q : List (Int × Int)) (h_z : 0 ≤ zc ∧ zc < 18446744073709551616) (h_p : PRow p) (h_q : PRow q) (h_lp : p.length ≤ 4294967296) (h_lq : q.length ≤ 4294967296) {ds : List Deferred} (hc : zc + sumV p + sumV q < 18446744073709551616) : Tr Try.prog none ⟨39, ds⟩ 7 (.loop (nthLoop Try.f211 0)) (totS zc p q 0) fun e s => e = .exit 0 ∧ s = ⟨[(6, .int .u64 (zc + sumV p + sumV q))], [], 7⟩ := by
  have hbq := sumV_nonneg h_q
  have h1 : zc + sumV p < 18446744073709551616 := by omega
  refine Tr.seqLoop (totS zc p q) 2 (fun k hk => ?_) ((tot2 zc p q h_z h_p h_q h_lp h_lq).mono fun e s ⟨q1, q2⟩ => ⟨by rw [q1]; simp, q1, q2⟩)
  match k, hk with
  | 0, _ => exact tot0a zc p q h_z h_p h_q h_lp h_lq h1
  | 1, _ => exact tot1a zc p q h_z h_p h_q h_lp h_lq h1 hc
theorem tot_loop_no (zc : Int) (p q : List (Int × Int)) (h_z : 0 ≤ zc ∧ zc < 18446744073709551616) (h_p : PRow p) (h_q : PRow q) (h_lp : p.length ≤ 4294967296) (h_lq : q.length ≤ 4294967296) {ds : List Deferred} (hc : ¬ zc + sumV p + sumV q < 18446744073709551616) : Tr Try.prog none ⟨39, ds⟩ 7 (.loop (nthLoop Try.f211 0)) (totS zc p q 0) fun e s => e = .ret ∧ s = ⟨[(4, .int .u64 0), (5, .bool false)], [], 7⟩ := by
  by_cases h1 : zc + sumV p < 18446744073709551616
  · refine Tr.seqLoop (totS zc p q) 1 (fun k hk => ?_) ((tot1b zc p q h_z h_p h_q h_lp h_lq h1 hc).mono fun e s ⟨q1, q2⟩ => ⟨by rw [q1]; simp, q1, q2⟩)
    match k, hk with
    | 0, _ => exact tot0a zc p q h_z h_p h_q h_lp h_lq h1
  · exact Tr.seqLoop (totS zc p q) 0 (fun k hk => absurd hk (by omega)) ((tot0b zc p q h_z h_p h_q h_lp h_lq h1).mono fun e s ⟨q1, q2⟩ => ⟨by rw [q1]; simp, q1, q2⟩)
theorem total_ok (h : HI) (p q : List (Int × Int)) (h_z : 0 ≤ h.zc ∧ h.zc < 18446744073709551616) (h_p : PRow p) (h_q : PRow q) (h_lp : p.length ≤ 4294967296) (h_lq : q.length ≤ 4294967296) : FnG Try.prog 211 [.agg #[.int .i64 h.schema, .int .u64 h.zero, .int .u64 h.zc, .int .u64 h.count, .int .u64 h.sum, .slice (some ⟨0, 0, none⟩) h.pos.length (h.pos.length + 1), .slice (some ⟨1, 0, none⟩) h.neg.length (h.neg.length + 1), .slice (some ⟨2, 0, none⟩) h.pd.length (h.pd.length + 1), .slice (some ⟨3, 0, none⟩) h.nd.length (h.nd.length + 1)], .slice (some ⟨4, 0, none⟩) 2 3] [(4, ⟨[.slice (some ⟨5, 0, none⟩) p.length (p.length + 1), .slice (some ⟨6, 0, none⟩) q.length (q.length + 1)], 1, [], 1⟩), (5, ⟨(p).flatMap encS, 1, [], 2⟩), (6, ⟨(q).flatMap encS, 1, [], 2⟩)] 7 (.tuple #[.int .u64 (totN h.zc p q), .bool (totB h.zc p q)]) 0 [] [5, 6] := by
  by_cases hc : (h.zc + sumV p + sumV q < 18446744073709551616)
  · skip
    exact FnG.eq (v := .tuple #[.int .u64 (h.zc + sumV p + sumV q), .bool true]) (FnG.run (m := false) follows_mixed has211 [(900000, .stmt (.loop (nthLoop Try.f211 0)) [5, 6] (totS h.zc p q 0) (.exit 0) ⟨[(6, .int .u64 (h.zc + sumV p + sumV q))], [], 7⟩ (.skip rfl (.cons (fun _ => encS_sc _) (.cons (fun _ => encS_sc _) .nil))) (fun ds => tot_loop_ok h.zc p q h_z h_p h_q h_lp h_lq hc) (le_ble rfl))] (by kernel_rfl) (by kernel_rfl) (.skip rfl (.cons (fun _ => encS_sc _) (.cons (fun _ => encS_sc _) .nil))) .nil) (by simp [totN, totB, hc])
  · skip
    exact FnG.eq (v := .tuple #[.int .u64 0, .bool false]) (FnG.run (m := false) follows_mixed has211 [(900000, .stmt (.loop (nthLoop Try.f211 0)) [5, 6] (totS h.zc p q 0) (.ret) ⟨[(4, .int .u64 0), (5, .bool false)], [], 7⟩ (.skip rfl (.cons (fun _ => encS_sc _) (.cons (fun _ => encS_sc _) .nil))) (fun ds => tot_loop_no h.zc p q h_z h_p h_q h_lp h_lq hc) (le_ble rfl))] (by kernel_rfl) (by kernel_rfl) (.skip rfl (.cons (fun _ => encS_sc _) (.cons (fun _ => encS_sc _) .nil))) .nil) (by simp [totN, totB, hc])

theorem sideR_row (l : List Sp) (d : List Int) : PRow (sideR l d) := by
  intro x hx
  unfold sideR at hx
  split at hx
  · rename_i he
    obtain ⟨_, _, _, h4⟩ := sideE_zero.1 he
    have hm := (List.of_mem_zip hx).2
    have h1 := absL_in d _ hm
    simp only [List.any_eq_false, decide_eq_true_eq] at h4
    have h2 := h4 _ hm
    unfold I64 at h1
    omega
  · simp at hx
def fitsE (zc count sum : Int) (p q : List (Int × Int)) : Int := if zc + sumV p + sumV q > count ∨ (zc + sumV p + sumV q < count ∧ nanS sum = false) then 22 else 0
def headE (schema zero : Int) : Int := if schema < -4 ∨ schema > 8 then 21 else if thrS zero = false then 11 else 0
def openE (h : HI) : Int := if headE h.schema h.zero ≠ 0 then headE h.schema h.zero else if sideE h.pos h.pd ≠ 0 then sideE h.pos h.pd else if sideE h.neg h.nd ≠ 0 then sideE h.neg h.nd else fitsE h.zc h.count h.sum (sideR h.pos h.pd) (sideR h.neg h.nd)
def posR (h : HI) : List (Int × Int) := if openE h = 0 then sideR h.pos h.pd else []
def negR (h : HI) : List (Int × Int) := if openE h = 0 then sideR h.neg h.nd else []
theorem posR_bad {h : HI} (e : openE h ≠ 0) : posR h = [] := by unfold posR; rw [if_neg e]
theorem negR_bad {h : HI} (e : openE h ≠ 0) : negR h = [] := by unfold negR; rw [if_neg e]
theorem posR_row (h : HI) : PRow (posR h) := by unfold posR; split; exact sideR_row _ _; intro x hx; simp at hx
theorem negR_row (h : HI) : PRow (negR h) := by unfold negR; split; exact sideR_row _ _; intro x hx; simp at hx
theorem posR_len (h : HI) : (posR h).length ≤ 4096 := by unfold posR; split; exact sideR_len _ _; simp
theorem negR_len (h : HI) : (negR h).length ≤ 4096 := by unfold negR; split; exact sideR_len _ _; simp

theorem totB_iff {zc : Int} {p q : List (Int × Int)} : totB zc p q = true ↔ zc + sumV p + sumV q < 18446744073709551616 := by simp [totB]
theorem totB_not {zc : Int} {p q : List (Int × Int)} : totB zc p q = false ↔ ¬ zc + sumV p + sumV q < 18446744073709551616 := by simp [totB]
theorem totN_eq {zc : Int} {p q : List (Int × Int)} (h : totB zc p q = true) : totN zc p q = zc + sumV p + sumV q := by unfold totN; rw [if_pos (totB_iff.1 h)]
theorem open_ok (h : HI) (h_w : HWf h) : FnC Try.prog 125 [.agg #[.int .i64 h.schema, .int .u64 h.zero, .int .u64 h.zc, .int .u64 h.count, .int .u64 h.sum, .slice (some ⟨0, 0, none⟩) h.pos.length (h.pos.length + 1), .slice (some ⟨1, 0, none⟩) h.neg.length (h.neg.length + 1), .slice (some ⟨2, 0, none⟩) h.pd.length (h.pd.length + 1), .slice (some ⟨3, 0, none⟩) h.nd.length (h.nd.length + 1)]] [(0, ⟨(h.pos).flatMap encS, 1, [], 2⟩), (1, ⟨(h.neg).flatMap encS, 1, [], 2⟩), (2, ⟨(h.pd).flatMap encI, 1, [], 1⟩), (3, ⟨(h.nd).flatMap encI, 1, [], 1⟩)] 4 (.tuple #[.slice (some ⟨4, 0, none⟩) ((posR h).length) ((posR h).length + 1), .slice (some ⟨5, 0, none⟩) ((negR h).length) ((negR h).length + 1), .int .i64 (openE h)]) 2 [(4, ⟨(posR h).flatMap encS, 2, [], 2⟩), (5, ⟨(negR h).flatMap encS, 2, [], 2⟩)] := by
  by_cases h1002 : (h.schema < -4)
  · skip
    have he : openE h = 21 := by simp [openE, headE, h1002]
    have hn : openE h ≠ 0 := by rw [he]; decide
    rw [posR_bad hn, negR_bad hn, he]
    exact FnC.run (m := false) follows_mixed has125 [(1002, aT h1002)] (by kernel_rfl) (by kernel_rfl) (.cons (encS_sc _) (.cons (encS_sc _) (.cons (encI_sc _) (.cons (encI_sc _) .nil)))) (.cons (encS_sc _) (.cons (encS_sc _) .nil))
  · skip
    by_cases h1006 : (h.schema > 8)
    · skip
      have he : openE h = 21 := by simp [openE, headE, h1006]
      have hn : openE h ≠ 0 := by rw [he]; decide
      rw [posR_bad hn, negR_bad hn, he]
      exact FnC.run (m := false) follows_mixed has125 [(1002, aF h1002), (1006, aT h1006)] (by kernel_rfl) (by kernel_rfl) (.cons (encS_sc _) (.cons (encS_sc _) (.cons (encI_sc _) (.cons (encI_sc _) .nil)))) (.cons (encS_sc _) (.cons (encS_sc _) .nil))
    · skip
      cases h3002 : (thrS h.zero) with
      | true =>
        have hH : headE h.schema h.zero = 0 := by simp [headE, h3002]; omega
        by_cases h6001 : ((sideE h.pos h.pd : Int) = 0)
        · skip
          by_cases h9001 : ((sideE h.neg h.nd : Int) = 0)
          · skip
            cases h11007 : (totB h.zc (sideR h.pos h.pd) (sideR h.neg h.nd)) with
            | true =>
              have hT := totN_eq h11007
              by_cases h12006 : (totN h.zc (sideR h.pos h.pd) (sideR h.neg h.nd) > h.count)
              · skip
                have he : openE h = 22 := by rw [openE, hH]; simp only [ne_eq, not_true_eq_false, if_false, h6001, h9001]; unfold fitsE; rw [if_pos]; left; rw [← hT]; exact h12006
                have hn : openE h ≠ 0 := by rw [he]; decide
                rw [posR_bad hn, negR_bad hn, he]
                exact FnC.run (m := false) follows_mixed has125 [(1002, aF h1002), (1006, aF h1006), (3002, aCb (thr_ok h.zero) h3002), (5004, aC (side_ok h.pos h.pd h_w.pd h_w.np)), (6001, aNT h6001), (8004, aC (side_ok h.neg h.nd h_w.nd h_w.nn)), (9001, aNT h9001), (11004, aG (total_ok h (sideR h.pos h.pd) (sideR h.neg h.nd) h_w.zc (sideR_row _ _) (sideR_row _ _) (Nat.le_trans (sideR_len _ _) (by decide)) (Nat.le_trans (sideR_len _ _) (by decide)))), (11007, aB h11007), (12006, aT h12006)] (by kernel_rfl) (by kernel_rfl) (.cons (encS_sc _) (.cons (encS_sc _) (.cons (encI_sc _) (.cons (encI_sc _) .nil)))) (.cons (encS_sc _) (.cons (encS_sc _) .nil))
              · skip
                by_cases h12012 : (totN h.zc (sideR h.pos h.pd) (sideR h.neg h.nd) < h.count)
                · skip
                  cases h12016 : (nanS h.sum) with
                  | true =>
                    have he : openE h = 0 := by rw [openE, hH]; simp only [ne_eq, not_true_eq_false, if_false, h6001, h9001]; unfold fitsE; rw [if_neg]; rw [← hT, h12016]; simp; omega
                    have hp : posR h = sideR h.pos h.pd := by unfold posR; rw [if_pos he]
                    have hq : negR h = sideR h.neg h.nd := by unfold negR; rw [if_pos he]
                    rw [hp, hq, he]
                    exact FnC.run (m := false) follows_mixed has125 [(1002, aF h1002), (1006, aF h1006), (3002, aCb (thr_ok h.zero) h3002), (5004, aC (side_ok h.pos h.pd h_w.pd h_w.np)), (6001, aNT h6001), (8004, aC (side_ok h.neg h.nd h_w.nd h_w.nn)), (9001, aNT h9001), (11004, aG (total_ok h (sideR h.pos h.pd) (sideR h.neg h.nd) h_w.zc (sideR_row _ _) (sideR_row _ _) (Nat.le_trans (sideR_len _ _) (by decide)) (Nat.le_trans (sideR_len _ _) (by decide)))), (11007, aB h11007), (12006, aF h12006), (12012, aT h12012), (12016, aCb (nan_ok h.sum h_w.sum) h12016)] (by kernel_rfl) (by kernel_rfl) (.cons (encS_sc _) (.cons (encS_sc _) (.cons (encI_sc _) (.cons (encI_sc _) .nil)))) (.cons (encS_sc _) (.cons (encS_sc _) .nil))
                  | false =>
                    have he : openE h = 22 := by rw [openE, hH]; simp only [ne_eq, not_true_eq_false, if_false, h6001, h9001]; unfold fitsE; rw [if_pos]; right; rw [← hT]; exact ⟨h12012, h12016⟩
                    have hn : openE h ≠ 0 := by rw [he]; decide
                    rw [posR_bad hn, negR_bad hn, he]
                    exact FnC.run (m := false) follows_mixed has125 [(1002, aF h1002), (1006, aF h1006), (3002, aCb (thr_ok h.zero) h3002), (5004, aC (side_ok h.pos h.pd h_w.pd h_w.np)), (6001, aNT h6001), (8004, aC (side_ok h.neg h.nd h_w.nd h_w.nn)), (9001, aNT h9001), (11004, aG (total_ok h (sideR h.pos h.pd) (sideR h.neg h.nd) h_w.zc (sideR_row _ _) (sideR_row _ _) (Nat.le_trans (sideR_len _ _) (by decide)) (Nat.le_trans (sideR_len _ _) (by decide)))), (11007, aB h11007), (12006, aF h12006), (12012, aT h12012), (12016, aCb (nan_ok h.sum h_w.sum) h12016)] (by kernel_rfl) (by kernel_rfl) (.cons (encS_sc _) (.cons (encS_sc _) (.cons (encI_sc _) (.cons (encI_sc _) .nil)))) (.cons (encS_sc _) (.cons (encS_sc _) .nil))
                · skip
                  have he : openE h = 0 := by rw [openE, hH]; simp only [ne_eq, not_true_eq_false, if_false, h6001, h9001]; unfold fitsE; rw [if_neg]; rw [← hT]; intro hh; rcases hh with hh | ⟨hh, _⟩ <;> omega
                  have hp : posR h = sideR h.pos h.pd := by unfold posR; rw [if_pos he]
                  have hq : negR h = sideR h.neg h.nd := by unfold negR; rw [if_pos he]
                  rw [hp, hq, he]
                  exact FnC.run (m := false) follows_mixed has125 [(1002, aF h1002), (1006, aF h1006), (3002, aCb (thr_ok h.zero) h3002), (5004, aC (side_ok h.pos h.pd h_w.pd h_w.np)), (6001, aNT h6001), (8004, aC (side_ok h.neg h.nd h_w.nd h_w.nn)), (9001, aNT h9001), (11004, aG (total_ok h (sideR h.pos h.pd) (sideR h.neg h.nd) h_w.zc (sideR_row _ _) (sideR_row _ _) (Nat.le_trans (sideR_len _ _) (by decide)) (Nat.le_trans (sideR_len _ _) (by decide)))), (11007, aB h11007), (12006, aF h12006), (12012, aF h12012)] (by kernel_rfl) (by kernel_rfl) (.cons (encS_sc _) (.cons (encS_sc _) (.cons (encI_sc _) (.cons (encI_sc _) .nil)))) (.cons (encS_sc _) (.cons (encS_sc _) .nil))
            | false =>
              have hT := totB_not.1 h11007
              have hU := h_w.count.2
              have he : openE h = 22 := by rw [openE, hH]; simp only [ne_eq, not_true_eq_false, if_false, h6001, h9001]; unfold fitsE; rw [if_pos]; left; omega
              have hn : openE h ≠ 0 := by rw [he]; decide
              rw [posR_bad hn, negR_bad hn, he]
              exact FnC.run (m := false) follows_mixed has125 [(1002, aF h1002), (1006, aF h1006), (3002, aCb (thr_ok h.zero) h3002), (5004, aC (side_ok h.pos h.pd h_w.pd h_w.np)), (6001, aNT h6001), (8004, aC (side_ok h.neg h.nd h_w.nd h_w.nn)), (9001, aNT h9001), (11004, aG (total_ok h (sideR h.pos h.pd) (sideR h.neg h.nd) h_w.zc (sideR_row _ _) (sideR_row _ _) (Nat.le_trans (sideR_len _ _) (by decide)) (Nat.le_trans (sideR_len _ _) (by decide)))), (11007, aB h11007)] (by kernel_rfl) (by kernel_rfl) (.cons (encS_sc _) (.cons (encS_sc _) (.cons (encI_sc _) (.cons (encI_sc _) .nil)))) (.cons (encS_sc _) (.cons (encS_sc _) .nil))
          · skip
            have he : openE h = sideE h.neg h.nd := by rw [openE, hH]; simp [h6001, h9001]
            have hn : openE h ≠ 0 := by rw [he]; assumption
            rw [posR_bad hn, negR_bad hn, he]
            exact FnC.run (m := false) follows_mixed has125 [(1002, aF h1002), (1006, aF h1006), (3002, aCb (thr_ok h.zero) h3002), (5004, aC (side_ok h.pos h.pd h_w.pd h_w.np)), (6001, aNT h6001), (8004, aC (side_ok h.neg h.nd h_w.nd h_w.nn)), (9001, aNF h9001)] (by kernel_rfl) (by kernel_rfl) (.cons (encS_sc _) (.cons (encS_sc _) (.cons (encI_sc _) (.cons (encI_sc _) .nil)))) (.cons (encS_sc _) (.cons (encS_sc _) .nil))
        · skip
          have he : openE h = sideE h.pos h.pd := by rw [openE, hH]; simp [h6001]
          have hn : openE h ≠ 0 := by rw [he]; assumption
          rw [posR_bad hn, negR_bad hn, he]
          exact FnC.run (m := false) follows_mixed has125 [(1002, aF h1002), (1006, aF h1006), (3002, aCb (thr_ok h.zero) h3002), (5004, aC (side_ok h.pos h.pd h_w.pd h_w.np)), (6001, aNF h6001)] (by kernel_rfl) (by kernel_rfl) (.cons (encS_sc _) (.cons (encS_sc _) (.cons (encI_sc _) (.cons (encI_sc _) .nil)))) (.cons (encS_sc _) (.cons (encS_sc _) .nil))
      | false =>
        have he : openE h = 11 := by unfold openE headE; rw [if_neg (show ¬ (h.schema < -4 ∨ h.schema > 8) by omega), h3002]; simp
        have hn : openE h ≠ 0 := by rw [he]; decide
        rw [posR_bad hn, negR_bad hn, he]
        exact FnC.run (m := false) follows_mixed has125 [(1002, aF h1002), (1006, aF h1006), (3002, aCb (thr_ok h.zero) h3002)] (by kernel_rfl) (by kernel_rfl) (.cons (encS_sc _) (.cons (encS_sc _) (.cons (encI_sc _) (.cons (encI_sc _) .nil)))) (.cons (encS_sc _) (.cons (encS_sc _) .nil))
theorem hcheck_ok (h : HI) (h_w : HWf h) : FnC Try.prog 62 [.agg #[.int .i64 h.schema, .int .u64 h.zero, .int .u64 h.zc, .int .u64 h.count, .int .u64 h.sum, .slice (some ⟨0, 0, none⟩) h.pos.length (h.pos.length + 1), .slice (some ⟨1, 0, none⟩) h.neg.length (h.neg.length + 1), .slice (some ⟨2, 0, none⟩) h.pd.length (h.pd.length + 1), .slice (some ⟨3, 0, none⟩) h.nd.length (h.nd.length + 1)]] [(0, ⟨(h.pos).flatMap encS, 1, [], 2⟩), (1, ⟨(h.neg).flatMap encS, 1, [], 2⟩), (2, ⟨(h.pd).flatMap encI, 1, [], 1⟩), (3, ⟨(h.nd).flatMap encI, 1, [], 1⟩)] 4 (.int .i64 (openE h)) 0 [] := by
  exact FnC.run (m := false) follows_mixed has62 [(1001, aC (open_ok h h_w))] (by kernel_rfl) (by kernel_rfl) (.cons (encS_sc _) (.cons (encS_sc _) (.cons (encI_sc _) (.cons (encI_sc _) .nil)))) .nil
def pairsE (h : HI) (side : Int) : Int := if side = 0 ∨ side = 1 then openE h else 11
def pairsR (h : HI) (side : Int) : List (Int × Int) := if side = 0 then posR h else if side = 1 then negR h else []
theorem hpairs0_ok (h : HI) (h_w : HWf h) : FnC Try.prog 69 [.agg #[.int .i64 h.schema, .int .u64 h.zero, .int .u64 h.zc, .int .u64 h.count, .int .u64 h.sum, .slice (some ⟨0, 0, none⟩) h.pos.length (h.pos.length + 1), .slice (some ⟨1, 0, none⟩) h.neg.length (h.neg.length + 1), .slice (some ⟨2, 0, none⟩) h.pd.length (h.pd.length + 1), .slice (some ⟨3, 0, none⟩) h.nd.length (h.nd.length + 1)], .int .i64 0] [(0, ⟨(h.pos).flatMap encS, 1, [], 2⟩), (1, ⟨(h.neg).flatMap encS, 1, [], 2⟩), (2, ⟨(h.pd).flatMap encI, 1, [], 1⟩), (3, ⟨(h.nd).flatMap encI, 1, [], 1⟩)] 4 (.tuple #[.slice (some ⟨4, 0, none⟩) ((posR h).length) ((posR h).length + 1), .int .i64 (openE h)]) 1 [(4, ⟨(posR h).flatMap encS, 2, [], 2⟩)] := by
  exact FnC.run (m := false) follows_mixed has69 [(3001, aC (open_ok h h_w))] (by kernel_rfl) (by kernel_rfl) (.cons (encS_sc _) (.cons (encS_sc _) (.cons (encI_sc _) (.cons (encI_sc _) .nil)))) (.cons (encS_sc _) .nil)
theorem hpairs1_ok (h : HI) (h_w : HWf h) : FnC Try.prog 69 [.agg #[.int .i64 h.schema, .int .u64 h.zero, .int .u64 h.zc, .int .u64 h.count, .int .u64 h.sum, .slice (some ⟨0, 0, none⟩) h.pos.length (h.pos.length + 1), .slice (some ⟨1, 0, none⟩) h.neg.length (h.neg.length + 1), .slice (some ⟨2, 0, none⟩) h.pd.length (h.pd.length + 1), .slice (some ⟨3, 0, none⟩) h.nd.length (h.nd.length + 1)], .int .i64 1] [(0, ⟨(h.pos).flatMap encS, 1, [], 2⟩), (1, ⟨(h.neg).flatMap encS, 1, [], 2⟩), (2, ⟨(h.pd).flatMap encI, 1, [], 1⟩), (3, ⟨(h.nd).flatMap encI, 1, [], 1⟩)] 4 (.tuple #[.slice (some ⟨4, 0, none⟩) ((negR h).length) ((negR h).length + 1), .int .i64 (openE h)]) 1 [(4, ⟨(negR h).flatMap encS, 2, [], 2⟩)] := by
  exact FnC.run (m := false) follows_mixed has69 [(3001, aC (open_ok h h_w))] (by kernel_rfl) (by kernel_rfl) (.cons (encS_sc _) (.cons (encS_sc _) (.cons (encI_sc _) (.cons (encI_sc _) .nil)))) (.cons (encS_sc _) .nil)
end Go.Am
