/-
Laws of layer 25: what may be gone through; two that are one.
-/
import Derived.Test.YtbihgmehjhlojaaAwk
set_option linter.unusedVariables false
set_option linter.unusedSimpArgs false
set_option maxRecDepth 100000
namespace Go.Am
open Go Go.RowKit Go.Proofs
theorem has131 : Has Try.prog 131 Try.f131 (bodyOf Try.f131) := ⟨Try.func131, by kernel_rfl, by kernel_rfl⟩
theorem has57 : Has Try.prog 57 Try.f57 (bodyOf Try.f57) := ⟨Try.func57, by kernel_rfl, by kernel_rfl⟩
theorem has63 : Has Try.prog 63 Try.f63 (bodyOf Try.f63) := ⟨Try.func63, by kernel_rfl, by kernel_rfl⟩
theorem has140 : Has Try.prog 140 Try.f140 (bodyOf Try.f140) := ⟨Try.func140, by kernel_rfl, by kernel_rfl⟩
theorem has141 : Has Try.prog 141 Try.f141 (bodyOf Try.f141) := ⟨Try.func141, by kernel_rfl, by kernel_rfl⟩
theorem has142 : Has Try.prog 142 Try.f142 (bodyOf Try.f142) := ⟨Try.func142, by kernel_rfl, by kernel_rfl⟩
theorem has148 : Has Try.prog 148 Try.f148 (bodyOf Try.f148) := ⟨Try.func148, by kernel_rfl, by kernel_rfl⟩
theorem has60 : Has Try.prog 60 Try.f60 (bodyOf Try.f60) := ⟨Try.func60, by kernel_rfl, by kernel_rfl⟩
theorem has61 : Has Try.prog 61 Try.f61 (bodyOf Try.f61) := ⟨Try.func61, by kernel_rfl, by kernel_rfl⟩
def fewGo : List Sp → Int → Bool
  | [], _ => true
  | s :: r, n => if (if s.2 > 0 then n + (1 + (min s.2 5000).tdiv 10) else n) + 1 > 400 then false else fewGo r ((if s.2 > 0 then n + (1 + (min s.2 5000).tdiv 10) else n) + 1)
def fewS (l : List Sp) : Bool := fewGo l 0
theorem ten_in {x : Int} (h : 0 < x) : 0 ≤ (min x 5000).tdiv 10 ∧ (min x 5000).tdiv 10 ≤ 500 := by
  rw [Int.tdiv_eq_ediv_of_nonneg (by omega)]; omega
theorem fewGo_len : ∀ {l : List Sp} {n : Int}, 0 ≤ n → n ≤ 400 → fewGo l n = true → (l.length : Int) ≤ 400 - n
  | [], n, h0, h1, h => by simp; omega
  | s :: r, n, h0, h1, h => by
    simp only [fewGo] at h
    by_cases c : s.2 > 0
    · rw [if_pos c] at h
      have ht := ten_in c
      by_cases d : n + (1 + (min s.2 5000).tdiv 10) + 1 > 400
      · rw [if_pos d] at h; cases h
      · rw [if_neg d] at h
        have := fewGo_len (l := r) (n := n + (1 + (min s.2 5000).tdiv 10) + 1) (by omega) (by omega) h
        simp only [List.length_cons]; omega
    · rw [if_neg c] at h
      by_cases d : n + 1 > 400
      · rw [if_pos d] at h; cases h
      · rw [if_neg d] at h
        have := fewGo_len (l := r) (n := n + 1) (by omega) (by omega) h
        simp only [List.length_cons]; omega
theorem few_len {l : List Sp} (h : fewS l = true) : l.length ≤ 400 := by have := fewGo_len (by decide) (by decide) h; omega
abbrev few_I (l : List Sp) (i : Nat) (n : Int) : AS := ⟨[(3, .int .i64 n), (6, .slice (some ⟨0, 0, none⟩) l.length (l.length + 1)), (7, .int .i64 ((l.length : Nat) : Int)), (8, .int .i64 ((i : Nat) : Int))], [(0, ⟨(l).flatMap encS, 1, [], 2⟩)], 1⟩
abbrev few_inv (l : List Sp) (i : Nat) (n : Int) : Prop := i ≤ l.length ∧ 0 ≤ n ∧ n ≤ 400 ∧ fewS l = fewGo (l.drop i) n
def few_K (l : List Sp) : Exit → AS → Prop := fun e s => (fewS l = true ∧ e = .exit 0 ∧ s = ⟨[], [], 1⟩) ∨ (fewS l = false ∧ e = .ret ∧ s = ⟨[(2, .bool false)], [], 1⟩)
abbrev few_Iu (l : List Sp) : Nat × Int → AS := fun x => few_I l x.1 x.2
abbrev few_vu (l : List Sp) : Nat × Int → Prop := fun x => few_inv l x.1 x.2
abbrev few_m (l : List Sp) : Nat × Int → Nat := fun x => (fun (i : Nat) (n : Int) => l.length - i) x.1 x.2
theorem few_round (l : List Sp) (h_n : l.length ≤ 9223372036854775807) (i : Nat) (n : Int) (hinv : few_inv l i n) {ds : List Deferred} : Tr Try.prog none ⟨27, ds⟩ 1 (nthLoop Try.f131 0) (few_I l i n) (RK (few_vu l) (few_Iu l) (few_m l) (few_K l) (i, n)) := by
  obtain ⟨hi0, hn0, hn1, hg⟩ := hinv
  by_cases h3000 : (((i : Nat) : Int) < ((l.length : Nat) : Int))
  · skip
    obtain ⟨s1, hs1⟩ : ∃ s, l[i]? = some s := ⟨_, List.getElem?_eq_getElem (by omega)⟩
    by_cases h5002 : (s1.2 > 0)
    · skip
      have ht := ten_in h5002
      have hw : IntKind.i64.wrap ((min s1.2 5000).tdiv 10) = (min s1.2 5000).tdiv 10 := wrap_i64 (by omega) (by omega)
      by_cases h8001 : (n + (1 + ((min s1.2 5000).tdiv 10)) + 1 > 400)
      · skip
        have hb : fewS l = false := by rw [hg, drop_idx hs1, fewGo, if_pos h5002, if_pos (by omega)]
        exact Tr.out (I := (few_Iu l)) (m := (few_m l)) (Tr.run follows_mixed (A := [(3000, aT h3000), (4000, aX i l.length 2 (by omega)), (4001, aL encS_k hs1), (5002, aT h5002), (6003, aE (x := .int .i64 (if 5000 < s1.2 then 5000 else s1.2)) (y := .int .i64 (min (s1.2) (5000))) (by congr 1; omega)), (6004, aBin (v := .int .i64 ((min s1.2 5000).tdiv 10)) (by rw [← hw]; exact quo_val (i := min s1.2 5000) (b := 10) (t := 3) (x := (.tmp 18)) (y := (.const (.int .i64 10))) (by decide))), (6005, aI .i64 .i64 (1 + ((min s1.2 5000).tdiv 10)) (1 + ((min s1.2 5000).tdiv 10)) (wrap_i64 (by omega) (by omega))), (6006, aI .i64 .i64 (n + (1 + ((min s1.2 5000).tdiv 10))) (n + (1 + ((min s1.2 5000).tdiv 10))) (wrap_i64 (by omega) (by omega))), (7001, aI .i64 .i64 (n + (1 + ((min s1.2 5000).tdiv 10)) + 1) (n + (1 + ((min s1.2 5000).tdiv 10)) + 1) (wrap_i64 (by omega) (by omega))), (8001, aT h8001)]) (rows := []) (by kernel_rfl) .nil (le_ble rfl)) (.inr ⟨hb, rfl, rfl⟩) (by simp)
      · skip
        exact Tr.again (Inv := (few_vu l)) (I := (few_Iu l)) (m := (few_m l)) (i + 1, n + (1 + ((min s1.2 5000).tdiv 10)) + 1) (Tr.run follows_mixed (A := [(3000, aT h3000), (4000, aX i l.length 2 (by omega)), (4001, aL encS_k hs1), (5002, aT h5002), (6003, aE (x := .int .i64 (if 5000 < s1.2 then 5000 else s1.2)) (y := .int .i64 (min (s1.2) (5000))) (by congr 1; omega)), (6004, aBin (v := .int .i64 ((min s1.2 5000).tdiv 10)) (by rw [← hw]; exact quo_val (i := min s1.2 5000) (b := 10) (t := 3) (x := (.tmp 18)) (y := (.const (.int .i64 10))) (by decide))), (6005, aI .i64 .i64 (1 + ((min s1.2 5000).tdiv 10)) (1 + ((min s1.2 5000).tdiv 10)) (wrap_i64 (by omega) (by omega))), (6006, aI .i64 .i64 (n + (1 + ((min s1.2 5000).tdiv 10))) (n + (1 + ((min s1.2 5000).tdiv 10))) (wrap_i64 (by omega) (by omega))), (7001, aI .i64 .i64 (n + (1 + ((min s1.2 5000).tdiv 10)) + 1) (n + (1 + ((min s1.2 5000).tdiv 10)) + 1) (wrap_i64 (by omega) (by omega))), (8001, aF h8001), (10000, aI .i64 .i64 (((i : Nat) : Int) + 1) (((i + 1 : Nat) : Int)) (wrap_i64' (by omega) (by omega) (by omega)))]) (rows := [0]) (by kernel_rfl) (.cons (fun _ => encS_sc _) .nil) (le_ble rfl)) (show few_inv l (i + 1) (n + (1 + ((min s1.2 5000).tdiv 10)) + 1) from ⟨by omega, by omega, by omega, by rw [hg, drop_idx hs1, fewGo, if_pos h5002, if_neg h8001]⟩) (by show l.length - (i + 1) < l.length - i; omega)
    · skip
      by_cases h8001 : (n + 1 > 400)
      · skip
        have hb : fewS l = false := by rw [hg, drop_idx hs1, fewGo, if_neg h5002, if_pos (by omega)]
        exact Tr.out (I := (few_Iu l)) (m := (few_m l)) (Tr.run follows_mixed (A := [(3000, aT h3000), (4000, aX i l.length 2 (by omega)), (4001, aL encS_k hs1), (5002, aF h5002), (7001, aI .i64 .i64 (n + 1) (n + 1) (wrap_i64 (by omega) (by omega))), (8001, aT h8001)]) (rows := []) (by kernel_rfl) .nil (le_ble rfl)) (.inr ⟨hb, rfl, rfl⟩) (by simp)
      · skip
        exact Tr.again (Inv := (few_vu l)) (I := (few_Iu l)) (m := (few_m l)) (i + 1, n + 1) (Tr.run follows_mixed (A := [(3000, aT h3000), (4000, aX i l.length 2 (by omega)), (4001, aL encS_k hs1), (5002, aF h5002), (7001, aI .i64 .i64 (n + 1) (n + 1) (wrap_i64 (by omega) (by omega))), (8001, aF h8001), (10000, aI .i64 .i64 (((i : Nat) : Int) + 1) (((i + 1 : Nat) : Int)) (wrap_i64' (by omega) (by omega) (by omega)))]) (rows := [0]) (by kernel_rfl) (.cons (fun _ => encS_sc _) .nil) (le_ble rfl)) (show few_inv l (i + 1) (n + 1) from ⟨by omega, by omega, by omega, by rw [hg, drop_idx hs1, fewGo, if_neg h5002, if_neg h8001]⟩) (by show l.length - (i + 1) < l.length - i; omega)
  · skip
    rw [drop_none (by omega), fewGo] at hg
    exact Tr.out (I := (few_Iu l)) (m := (few_m l)) (Tr.run follows_mixed (A := [(3000, aF h3000)]) (rows := []) (by kernel_rfl) .nil (le_ble rfl)) (.inl ⟨hg, rfl, rfl⟩) (by simp)

theorem few_loop (l : List Sp) (h_n : l.length ≤ 9223372036854775807) (i : Nat) (n : Int) (hinv : few_inv l i n) {ds : List Deferred} : Tr Try.prog none ⟨27, ds⟩ 1 (.loop (nthLoop Try.f131 0)) (few_I l i n) (few_K l) :=
  Tr.rounds (Inv := (few_vu l)) (I := (few_Iu l)) (m := (few_m l)) (fun x h_0 => few_round l h_n x.1 x.2 h_0) (i, n) hinv
theorem few_ok (l : List Sp) (h_n : l.length ≤ 9223372036854775807) : FnC Try.prog 131 [.slice (some ⟨0, 0, none⟩) l.length (l.length + 1)] [(0, ⟨(l).flatMap encS, 1, [], 2⟩)] 1 (.bool (fewS l)) 0 [] := by
  rcases Bool.eq_false_or_eq_true (fewS l) with hz | hz
  · skip
    rw [hz]
    exact FnC.run (m := false) follows_mixed has131 [(900000, .stmt (.loop (nthLoop Try.f131 0)) [0] (few_I l 0 0) (.exit 0) ⟨[], [], 1⟩ (.cons (fun _ => encS_sc _) .nil) (fun ds => (few_loop l h_n 0 0 ⟨by omega, by omega, by omega, rfl⟩).pick (fun e s h => by rcases h with ⟨_, h⟩ | ⟨h0, _⟩; exact h; rw [hz] at h0; cases h0)) (le_ble rfl))] (by kernel_rfl) (by kernel_rfl) (.cons (encS_sc _) .nil) .nil
  · skip
    rw [hz]
    exact FnC.run (m := false) follows_mixed has131 [(900000, .stmt (.loop (nthLoop Try.f131 0)) [0] (few_I l 0 0) (.ret) ⟨[(2, .bool false)], [], 1⟩ (.cons (fun _ => encS_sc _) .nil) (fun ds => (few_loop l h_n 0 0 ⟨by omega, by omega, by omega, rfl⟩).pick (fun e s h => by rcases h with ⟨h0, _⟩ | ⟨_, h⟩; rw [hz] at h0; cases h0; exact h)) (le_ble rfl))] (by kernel_rfl) (by kernel_rfl) (.cons (encS_sc _) .nil) .nil
structure HLen (h : HI) : Prop where
  np : h.pos.length ≤ 9223372036854775807
  nn : h.neg.length ≤ 9223372036854775807
structure FLen (h : HF) : Prop where
  np : h.pos.length ≤ 9223372036854775807
  nn : h.neg.length ≤ 9223372036854775807
def smallS (h : HI) : Bool := fewS h.pos && fewS h.neg && decide (((h.pd.length : Nat) : Int) ≤ 200) && decide (((h.nd.length : Nat) : Int) ≤ 200)
def littleS (h : HF) : Bool := fewS h.pos && fewS h.neg && decide (((h.pc.length : Nat) : Int) ≤ 200) && decide (((h.nc.length : Nat) : Int) ≤ 200)
theorem small_ok (h : HI) (h_w : HLen h) : FnC Try.prog 57 [.agg #[.int .i64 h.schema, .int .u64 h.zero, .int .u64 h.zc, .int .u64 h.count, .int .u64 h.sum, .slice (some ⟨0, 0, none⟩) h.pos.length (h.pos.length + 1), .slice (some ⟨1, 0, none⟩) h.neg.length (h.neg.length + 1), .slice (some ⟨2, 0, none⟩) h.pd.length (h.pd.length + 1), .slice (some ⟨3, 0, none⟩) h.nd.length (h.nd.length + 1)]] [(0, ⟨(h.pos).flatMap encS, 1, [], 2⟩), (1, ⟨(h.neg).flatMap encS, 1, [], 2⟩), (2, ⟨(h.pd).flatMap encI, 1, [], 1⟩), (3, ⟨(h.nd).flatMap encI, 1, [], 1⟩)] 4 (.bool (smallS h)) 0 [] := by
  cases h1002 : (fewS (h.pos)) with
  | true =>
    cases h1006 : (fewS (h.neg)) with
    | true =>
      by_cases h1012 : (((h.pd.length : Nat) : Int) ≤ 200)
      · skip
        exact FnC.eq (v := .bool (decide (((h.nd.length : Nat) : Int) ≤ 200))) (FnC.run (m := false) follows_mixed has57 [(1002, aCb (few_ok (h.pos) h_w.np) h1002), (1006, aCb (few_ok (h.neg) h_w.nn) h1006), (1012, aT h1012)] (by kernel_rfl) (by kernel_rfl) (.cons (encS_sc _) (.cons (encS_sc _) (.cons (encI_sc _) (.cons (encI_sc _) .nil)))) .nil) (by simp_all [smallS] <;> (intros; omega))
      · skip
        exact FnC.eq (v := .bool false) (FnC.run (m := false) follows_mixed has57 [(1002, aCb (few_ok (h.pos) h_w.np) h1002), (1006, aCb (few_ok (h.neg) h_w.nn) h1006), (1012, aF h1012)] (by kernel_rfl) (by kernel_rfl) (.cons (encS_sc _) (.cons (encS_sc _) (.cons (encI_sc _) (.cons (encI_sc _) .nil)))) .nil) (by simp_all [smallS] <;> (intros; omega))
    | false =>
      exact FnC.eq (v := .bool false) (FnC.run (m := false) follows_mixed has57 [(1002, aCb (few_ok (h.pos) h_w.np) h1002), (1006, aCb (few_ok (h.neg) h_w.nn) h1006)] (by kernel_rfl) (by kernel_rfl) (.cons (encS_sc _) (.cons (encS_sc _) (.cons (encI_sc _) (.cons (encI_sc _) .nil)))) .nil) (by simp_all [smallS] <;> (intros; omega))
  | false =>
    exact FnC.eq (v := .bool false) (FnC.run (m := false) follows_mixed has57 [(1002, aCb (few_ok (h.pos) h_w.np) h1002)] (by kernel_rfl) (by kernel_rfl) (.cons (encS_sc _) (.cons (encS_sc _) (.cons (encI_sc _) (.cons (encI_sc _) .nil)))) .nil) (by simp_all [smallS] <;> (intros; omega))
theorem little_ok (h : HF) (h_w : FLen h) : FnC Try.prog 63 [.agg #[.int .i64 h.schema, .int .u64 h.zero, .int .u64 h.zc, .int .u64 h.count, .int .u64 h.sum, .slice (some ⟨0, 0, none⟩) h.pos.length (h.pos.length + 1), .slice (some ⟨1, 0, none⟩) h.neg.length (h.neg.length + 1), .slice (some ⟨2, 0, none⟩) h.pc.length (h.pc.length + 1), .slice (some ⟨3, 0, none⟩) h.nc.length (h.nc.length + 1)]] [(0, ⟨(h.pos).flatMap encS, 1, [], 2⟩), (1, ⟨(h.neg).flatMap encS, 1, [], 2⟩), (2, ⟨(h.pc).flatMap encW, 1, [], 1⟩), (3, ⟨(h.nc).flatMap encW, 1, [], 1⟩)] 4 (.bool (littleS h)) 0 [] := by
  cases h1002 : (fewS (h.pos)) with
  | true =>
    cases h1006 : (fewS (h.neg)) with
    | true =>
      by_cases h1012 : (((h.pc.length : Nat) : Int) ≤ 200)
      · skip
        exact FnC.eq (v := .bool (decide (((h.nc.length : Nat) : Int) ≤ 200))) (FnC.run (m := false) follows_mixed has63 [(1002, aCb (few_ok (h.pos) h_w.np) h1002), (1006, aCb (few_ok (h.neg) h_w.nn) h1006), (1012, aT h1012)] (by kernel_rfl) (by kernel_rfl) (.cons (encS_sc _) (.cons (encS_sc _) (.cons (encW_sc _) (.cons (encW_sc _) .nil)))) .nil) (by simp_all [littleS] <;> (intros; omega))
      · skip
        exact FnC.eq (v := .bool false) (FnC.run (m := false) follows_mixed has63 [(1002, aCb (few_ok (h.pos) h_w.np) h1002), (1006, aCb (few_ok (h.neg) h_w.nn) h1006), (1012, aF h1012)] (by kernel_rfl) (by kernel_rfl) (.cons (encS_sc _) (.cons (encS_sc _) (.cons (encW_sc _) (.cons (encW_sc _) .nil)))) .nil) (by simp_all [littleS] <;> (intros; omega))
    | false =>
      exact FnC.eq (v := .bool false) (FnC.run (m := false) follows_mixed has63 [(1002, aCb (few_ok (h.pos) h_w.np) h1002), (1006, aCb (few_ok (h.neg) h_w.nn) h1006)] (by kernel_rfl) (by kernel_rfl) (.cons (encS_sc _) (.cons (encS_sc _) (.cons (encW_sc _) (.cons (encW_sc _) .nil)))) .nil) (by simp_all [littleS] <;> (intros; omega))
  | false =>
    exact FnC.eq (v := .bool false) (FnC.run (m := false) follows_mixed has63 [(1002, aCb (few_ok (h.pos) h_w.np) h1002)] (by kernel_rfl) (by kernel_rfl) (.cons (encS_sc _) (.cons (encS_sc _) (.cons (encW_sc _) (.cons (encW_sc _) .nil)))) .nil) (by simp_all [littleS] <;> (intros; omega))
abbrev spc_I (l : List Sp) (i : Nat) (o : List Sp) : AS := ⟨[(3, .slice (some ⟨1, 0, none⟩) o.length (o.length + 1)), (6, .slice (some ⟨0, 0, none⟩) l.length (l.length + 1)), (7, .int .i64 ((l.length : Nat) : Int)), (8, .int .i64 ((i : Nat) : Int))], [(0, ⟨(l).flatMap encS, 1, [], 2⟩), (1, ⟨(o).flatMap encS, 2, [], 2⟩)], 2⟩
abbrev spc_inv (l : List Sp) (i : Nat) (o : List Sp) : Prop := i ≤ l.length ∧ o = l.take i
def spc_K (l : List Sp) : Exit → AS → Prop := fun e s => (e = .exit 0 ∧ s = ⟨[(3, .slice (some ⟨1, 0, none⟩) l.length (l.length + 1))], [(1, ⟨(l).flatMap encS, 2, [], 2⟩)], 2⟩)
abbrev spc_Iu (l : List Sp) : Nat × List Sp → AS := fun x => spc_I l x.1 x.2
abbrev spc_vu (l : List Sp) : Nat × List Sp → Prop := fun x => spc_inv l x.1 x.2
abbrev spc_m (l : List Sp) : Nat × List Sp → Nat := fun x => (fun (i : Nat) (o : List Sp) => l.length - i) x.1 x.2
theorem spc_round (l : List Sp) (h_n : l.length ≤ 4294967296) (i : Nat) (o : List Sp) (hinv : spc_inv l i o) {ds : List Deferred} : Tr Try.prog none ⟨22, ds⟩ 1 (nthLoop Try.f140 0) (spc_I l i o) (RK (spc_vu l) (spc_Iu l) (spc_m l) (spc_K l) (i, o)) := by
  obtain ⟨hi0, ho⟩ := hinv
  have hol : o.length = i := by rw [ho]; simp; omega
  by_cases h3000 : (((i : Nat) : Int) < ((l.length : Nat) : Int))
  · skip
    obtain ⟨s1, hs1⟩ : ∃ s, l[i]? = some s := ⟨_, List.getElem?_eq_getElem (by omega)⟩
    exact Tr.again (Inv := (spc_vu l)) (I := (spc_Iu l)) (m := (spc_m l)) (i + 1, o ++ [(s1.1, s1.2)]) (Tr.run follows_mixed (A := [(3000, aT h3000), (4000, aX i l.length 2 (by omega)), (4001, aL encS_k hs1), (5007, aA encS_k o [(s1.1, s1.2)] (by simp; omega)), (6000, aI .i64 .i64 (((i : Nat) : Int) + 1) (((i + 1 : Nat) : Int)) (wrap_i64' (by omega) (by omega) (by omega)))]) (rows := [0, 1]) (by kernel_rfl) (.cons (fun _ => encS_sc _) (.cons (fun _ => encS_sc _) .nil)) (le_ble rfl)) (show spc_inv l (i + 1) (o ++ [(s1.1, s1.2)]) from ⟨by omega, by rw [ho, take_next hs1]⟩) (by show l.length - (i + 1) < l.length - i; omega)
  · skip
    rw [take_all (by omega)] at ho
    have ho := ho.symm
    subst ho
    exact Tr.out (I := (spc_Iu l)) (m := (spc_m l)) (Tr.run follows_mixed (A := [(3000, aF h3000)]) (rows := [1]) (by kernel_rfl) (.cons (fun _ => encS_sc _) .nil) (le_ble rfl)) ⟨rfl, rfl⟩ (by simp)

theorem spc_loop (l : List Sp) (h_n : l.length ≤ 4294967296) (i : Nat) (o : List Sp) (hinv : spc_inv l i o) {ds : List Deferred} : Tr Try.prog none ⟨22, ds⟩ 1 (.loop (nthLoop Try.f140 0)) (spc_I l i o) (spc_K l) :=
  Tr.rounds (Inv := (spc_vu l)) (I := (spc_Iu l)) (m := (spc_m l)) (fun x h_0 => spc_round l h_n x.1 x.2 h_0) (i, o) hinv
theorem spc_ok (l : List Sp) (h_n : l.length ≤ 4294967296) : FnC Try.prog 140 [.slice (some ⟨0, 0, none⟩) l.length (l.length + 1)] [(0, ⟨(l).flatMap encS, 1, [], 2⟩)] 1 (.slice (some ⟨1, 0, none⟩) l.length (l.length + 1)) 1 [(1, ⟨(l).flatMap encS, 2, [], 2⟩)] := by
  exact FnC.run (m := false) follows_mixed has140 [(900000, .stmt (.loop (nthLoop Try.f140 0)) [0, 1] (spc_I l 0 []) (.exit 0) ⟨[(3, .slice (some ⟨1, 0, none⟩) l.length (l.length + 1))], [(1, ⟨(l).flatMap encS, 2, [], 2⟩)], 2⟩ (.cons (fun _ => encS_sc _) (.cons (fun _ => encS_sc _) .nil)) (fun ds => (spc_loop l h_n 0 [] ⟨by omega, by simp⟩).pick (fun e s h => h)) (le_ble rfl))] (by kernel_rfl) (by kernel_rfl) (.cons (encS_sc _) .nil) (.cons (encS_sc _) .nil)
theorem same_step {α : Type} {a b : List α} {i : Nat} {x : α} (h : a.take i = b.take i) (ha : a[i]? = some x) (hb : b[i]? = some x) : a.take (i + 1) = b.take (i + 1) := by rw [take_next ha, take_next hb, h]
theorem same_all {α : Type} {a b : List α} {i : Nat} (h : a.take i = b.take i) (ha : ¬ i < a.length) (hl : a.length = b.length) : a = b := by rw [take_all (by omega), take_all (by omega)] at h; exact h
theorem same_no {α : Type} {a b : List α} {i : Nat} {x y : α} (ha : a[i]? = some x) (hb : b[i]? = some y) (h : x ≠ y) : a ≠ b := fun e => by rw [e, hb] at ha; injection ha with ha; exact h ha.symm
theorem gBinR_ok {P : Program} {op : BinOp} {t : TypeId} {x y : Operand} {vx vy v : Value} (h : ∀ w : World, (do eqGuard op t x y vx vy; binOp op t vx vy).run P w = .ok v w) (fx : flat vx = true) (fy : flat vy = true) (fv : flat v = true) : GenOK P (gBin op t x y vx vy v) := by
  intro ts hp nx o e nx' cs he hc
  unfold gBin at he
  split at he
  · rename_i op' t' x' y' ty' ho
    split at he
    · rename_i a b ha hb
      simp only [Option.some.injEq, Prod.mk.injEq] at he
      obtain ⟨rfl, rfl, rfl⟩ := he
      have e1 := hc.head
      have e2 := hc.tail.head
      have e3 := hc.tail.tail.head
      simp only [Cl.p.injEq, Op.binOp.injEq, and_true, Cl.v.injEq] at e1 e2 e3
      obtain ⟨rfl, rfl, rfl, rfl⟩ := e1
      subst e2; subst e3
      refine ⟨OpOK.pure fun μ B H ts' nt act w hl hhl hH hT hst => ?_, Nat.le_refl _⟩
      have ex := (ev_ok hT (ev_le hl ha)).flatEq fx
      have ey := (ev_ok hT (ev_le hl hb)).flatEq fy
      refine ⟨v, ?_, .flat v fv⟩
      simp only [execOp, ho]
      rw [ex, ey, Sem.run_bind, h w]; rfl
    · cases he
  · cases he
section
variable {P : Program} {r : Option Nat} {N nI : Nat} {m : Bool}
def aBinR {op : BinOp} {t : TypeId} {x y : Operand} {vx vy v : Value} (h : ∀ w : World, (do eqGuard op t x y vx vy; binOp op t vx vy).run P w = .ok v w) (fx : flat vx = true) (fy : flat vy = true) (fv : flat v = true) : Ans P r N nI m := .gen (gBin op t x y vx vy v) (gBinR_ok h fx fy fv)
end
theorem guard190 : Try.prog.eqGuardType Try.prog.depth 190 = false := by kernel_rfl
theorem stood190 : Try.prog.stoodInHeld 190 = false := by kernel_rfl
theorem fields190 : Try.prog.fieldsOf 190 = #[{ name := "Offset", type := 3, offset := 0, embedded := false, tag := "", pkgPath := "", byteOffset := 0 }, { name := "Len", type := 3, offset := 1, embedded := false, tag := "", pkgPath := "", byteOffset := 8 }] := by kernel_rfl
theorem under190 : Try.prog.underlying 190 = some (.struct (Try.prog.fieldsOf 190)) := by kernel_rfl
theorem eqInt3 (d : Nat) (a b : Int) (w : World) : (Op.equalIn (d + 1) 3 (.int .i64 a) (.int .i64 b)).run Try.prog w = .ok (a == b) w := by
  simp [Op.equalIn, run_underlying Try.underlying3]
theorem agg3 : isAggT Try.prog 3 = some false := by kernel_rfl
theorem spEq (d : Nat) (a b : Sp) (w : World) : (Op.equalIn (d + 2) 190 (.agg #[.int .i64 a.1, .int .i64 a.2]) (.agg #[.int .i64 b.1, .int .i64 b.2])).run Try.prog w = .ok (decide (a = b)) w := by
  rw [run_equalIn_struct w (d + 1) 190 _ _ under190 stood190, fields190]
  obtain ⟨a1, a2⟩ := a
  obtain ⟨b1, b2⟩ := b
  simp [Op.eqFields, part, run_isAggT agg3, eqInt3]
  by_cases h1 : a1 = b1 <;> by_cases h2 : a2 = b2 <;> simp [h1, h2, eqInt3]
theorem spNeq (x y : Operand) (a b : Sp) : ∀ w : World, (do eqGuard .neq 190 x y (.agg #[.int .i64 a.1, .int .i64 a.2]) (.agg #[.int .i64 b.1, .int .i64 b.2]); binOp .neq 190 (.agg #[.int .i64 a.1, .int .i64 a.2]) (.agg #[.int .i64 b.1, .int .i64 b.2])).run Try.prog w = .ok (.bool (!decide (a = b))) w := by
  intro w
  have h := spEq 9998 a b w
  simp [eqGuard, binOp, guard190, Op.equal, Op.maxDepth, h]
theorem spNeqV {x y : Operand} {a b : Sp} {v : Bool} (hv : (!decide (a = b)) = v) : ∀ w : World, (do eqGuard .neq 190 x y (.agg #[.int .i64 a.1, .int .i64 a.2]) (.agg #[.int .i64 b.1, .int .i64 b.2]); binOp .neq 190 (.agg #[.int .i64 a.1, .int .i64 a.2]) (.agg #[.int .i64 b.1, .int .i64 b.2])).run Try.prog w = .ok (.bool v) w := fun w => by rw [spNeq x y a b w, hv]
end Go.Am
