/-
scale.Fit.
-/
import Derived.Test.YtbihgmehjhlojaaInt
set_option linter.unusedVariables false
set_option linter.unusedSimpArgs false
set_option maxRecDepth 100000
namespace Go.Am
open Go Go.RowKit Go.Proofs
def manyGo (b : Int) : List (Int × Int) → Int → Int → Int
  | [], n, _ => n
  | p :: r, n, t => if n = 0 ∨ placeS p.1 b ≠ t then manyGo b r (n + 1) (placeS p.1 b) else manyGo b r n t
def manyS (b : Int) (l : List (Int × Int)) : Int := manyGo b l 0 0
theorem manyGo_le (b : Int) : ∀ (l : List (Int × Int)) (n t : Int), n ≤ manyGo b l n t ∧ manyGo b l n t ≤ n + l.length
  | [], n, t => by simp [manyGo]
  | p :: r, n, t => by
    simp only [manyGo]
    split
    · have := manyGo_le b r (n + 1) (placeS p.1 b); simp; omega
    · have := manyGo_le b r n t; simp; omega
abbrev mny_I (l : List (Int × Int)) (b : Int) (i : Nat) (n : Int) (t : Int) : AS := ⟨[(1, .int .i64 b), (5, .int .i64 n), (6, .int .i64 t), (10, .slice (some ⟨0, 0, none⟩) l.length (l.length + 1)), (11, .int .i64 ((l.length : Nat) : Int)), (12, .int .i64 ((i : Nat) : Int))], [(0, ⟨(l).flatMap encS, 1, [], 2⟩)], 1⟩
abbrev mny_inv (l : List (Int × Int)) (b : Int) (i : Nat) (n : Int) (t : Int) : Prop := i ≤ l.length ∧ 0 ≤ n ∧ n ≤ i ∧ manyS b l = manyGo b (l.drop i) n t
def mny_K (l : List (Int × Int)) (b : Int) : Exit → AS → Prop := fun e s => (e = .exit 0 ∧ s = ⟨[(5, .int .i64 (manyS b l))], [], 1⟩)
abbrev mny_Iu (l : List (Int × Int)) (b : Int) : Nat × Int × Int → AS := fun x => mny_I l b x.1 x.2.1 x.2.2
abbrev mny_vu (l : List (Int × Int)) (b : Int) : Nat × Int × Int → Prop := fun x => mny_inv l b x.1 x.2.1 x.2.2
abbrev mny_m (l : List (Int × Int)) (b : Int) : Nat × Int × Int → Nat := fun x => (fun (i : Nat) (n : Int) (t : Int) => l.length - i) x.1 x.2.1 x.2.2
theorem mny_round (l : List (Int × Int)) (b : Int) (h_l : WOK N63 l) (h_n : l.length ≤ 4294967296) (i : Nat) (n : Int) (t : Int) (hinv : mny_inv l b i n t) {ds : List Deferred} : Tr Try.prog none ⟨32, ds⟩ 1 (nthLoop Try.f150 0) (mny_I l b i n t) (RK (mny_vu l b) (mny_Iu l b) (mny_m l b) (mny_K l b) (i, n, t)) := by
  obtain ⟨hi0, hn0, hn1, hg⟩ := hinv
  by_cases h3000 : (((i : Nat) : Int) < ((l.length : Nat) : Int))
  · skip
    obtain ⟨s1, hs1⟩ : ∃ s, l[i]? = some s := ⟨_, List.getElem?_eq_getElem (by omega)⟩
    rw [drop_idx hs1, manyGo] at hg
    by_cases h6001 : ((n : Int) = 0)
    · skip
      exact Tr.again (Inv := (mny_vu l b)) (I := (mny_Iu l b)) (m := (mny_m l b)) (i + 1, n + 1, placeS s1.1 b) (Tr.run follows_mixed (A := [(3000, aT h3000), (4000, aX i l.length 2 (by omega)), (4001, aL encS_k hs1), (5003, aC (place_ok (s1.1) (b) (h_l _ (List.mem_of_getElem? hs1)).1)), (6001, aT h6001), (7001, aI .i64 .i64 (n + 1) (n + 1) (wrap_i64 (by omega) (by omega))), (8000, aI .i64 .i64 (((i : Nat) : Int) + 1) (((i + 1 : Nat) : Int)) (wrap_i64' (by omega) (by omega) (by omega)))]) (rows := [0]) (by kernel_rfl) (.cons (fun _ => encS_sc _) .nil) (le_ble rfl)) (show mny_inv l b (i + 1) (n + 1) (placeS s1.1 b) from ⟨by omega, by omega, by omega, by rw [hg, if_pos (.inl (by omega))]⟩) (by show l.length - (i + 1) < l.length - i; omega)
    · skip
      by_cases h6005 : ((placeS s1.1 b : Int) = t)
      · skip
        exact Tr.again (Inv := (mny_vu l b)) (I := (mny_Iu l b)) (m := (mny_m l b)) (i + 1, n, t) (Tr.run follows_mixed (A := [(3000, aT h3000), (4000, aX i l.length 2 (by omega)), (4001, aL encS_k hs1), (5003, aC (place_ok (s1.1) (b) (h_l _ (List.mem_of_getElem? hs1)).1)), (6001, aF h6001), (6005, aNT h6005), (8000, aI .i64 .i64 (((i : Nat) : Int) + 1) (((i + 1 : Nat) : Int)) (wrap_i64' (by omega) (by omega) (by omega)))]) (rows := [0]) (by kernel_rfl) (.cons (fun _ => encS_sc _) .nil) (le_ble rfl)) (show mny_inv l b (i + 1) n t from ⟨by omega, by omega, by omega, by rw [hg, if_neg (by omega)]⟩) (by show l.length - (i + 1) < l.length - i; omega)
      · skip
        exact Tr.again (Inv := (mny_vu l b)) (I := (mny_Iu l b)) (m := (mny_m l b)) (i + 1, n + 1, placeS s1.1 b) (Tr.run follows_mixed (A := [(3000, aT h3000), (4000, aX i l.length 2 (by omega)), (4001, aL encS_k hs1), (5003, aC (place_ok (s1.1) (b) (h_l _ (List.mem_of_getElem? hs1)).1)), (6001, aF h6001), (6005, aNF h6005), (7001, aI .i64 .i64 (n + 1) (n + 1) (wrap_i64 (by omega) (by omega))), (8000, aI .i64 .i64 (((i : Nat) : Int) + 1) (((i + 1 : Nat) : Int)) (wrap_i64' (by omega) (by omega) (by omega)))]) (rows := [0]) (by kernel_rfl) (.cons (fun _ => encS_sc _) .nil) (le_ble rfl)) (show mny_inv l b (i + 1) (n + 1) (placeS s1.1 b) from ⟨by omega, by omega, by omega, by rw [hg, if_pos (.inr (by omega))]⟩) (by show l.length - (i + 1) < l.length - i; omega)
  · skip
    rw [drop_none (by omega), manyGo] at hg
    subst hg
    exact Tr.out (I := (mny_Iu l b)) (m := (mny_m l b)) (Tr.run follows_mixed (A := [(3000, aF h3000)]) (rows := []) (by kernel_rfl) .nil (le_ble rfl)) ⟨rfl, rfl⟩ (by simp)

theorem mny_loop (l : List (Int × Int)) (b : Int) (h_l : WOK N63 l) (h_n : l.length ≤ 4294967296) (i : Nat) (n : Int) (t : Int) (hinv : mny_inv l b i n t) {ds : List Deferred} : Tr Try.prog none ⟨32, ds⟩ 1 (.loop (nthLoop Try.f150 0)) (mny_I l b i n t) (mny_K l b) :=
  Tr.rounds (Inv := (mny_vu l b)) (I := (mny_Iu l b)) (m := (mny_m l b)) (fun x h_0 => mny_round l b h_l h_n x.1 x.2.1 x.2.2 h_0) (i, n, t) hinv
theorem many_ok (l : List (Int × Int)) (b : Int) (h_l : WOK N63 l) (h_n : l.length ≤ 4294967296) : FnC Try.prog 150 [.slice (some ⟨0, 0, none⟩) l.length (l.length + 1), .int .i64 b] [(0, ⟨(l).flatMap encS, 1, [], 2⟩)] 1 (.int .i64 (manyS b l)) 0 [] := by
  exact FnC.run (m := false) follows_mixed has150 [(900000, .stmt (.loop (nthLoop Try.f150 0)) [0] (mny_I l b 0 0 0) (.exit 0) ⟨[(5, .int .i64 (manyS b l))], [], 1⟩ (.cons (fun _ => encS_sc _) .nil) (fun ds => (mny_loop l b h_l h_n 0 0 0 ⟨by omega, by omega, by omega, rfl⟩).pick (fun e s h => h)) (le_ble rfl))] (by kernel_rfl) (by kernel_rfl) (.cons (encS_sc _) .nil) .nil
/-- how many buckets, on a lower schema -/
def cntS (h : HI) (to : Int) : Int := manyS (h.schema - to) (nz (posR h)) + manyS (h.schema - to) (nz (negR h))
def fitGo (h : HI) (most : Int) : Nat → Option Int
  | 0 => none
  | n + 1 => if cntS h ((n : Int) - 4) ≤ most then some ((n : Int) - 4) else fitGo h most n
def fitS (h : HI) (most : Int) : Option Int := fitGo h most (h.schema + 5).toNat
def fitE (h : HI) (most : Int) : Int := if openE h ≠ 0 then openE h else if most < 0 then 11 else if (fitS h most).isSome then 0 else 12
def fitV (h : HI) (most : Int) : Int := if fitE h most = 0 then (fitS h most).getD 0 else 0
theorem cntS_le (h : HI) (to : Int) : 0 ≤ manyS (h.schema - to) (nz (posR h)) ∧ manyS (h.schema - to) (nz (posR h)) ≤ 4096 ∧ 0 ≤ manyS (h.schema - to) (nz (negR h)) ∧ manyS (h.schema - to) (nz (negR h)) ≤ 4096 := by
  have h1 := manyGo_le (h.schema - to) (nz (posR h)) 0 0
  have h2 := manyGo_le (h.schema - to) (nz (negR h)) 0 0
  have := nz_len (posR h)
  have := posR_len h
  have := nz_len (negR h)
  have := negR_len h
  unfold manyS
  omega
theorem fitGo_next {h : HI} {most to : Int} (ht : to ≥ -4) (hc : ¬ cntS h to ≤ most) : fitGo h most (to + 5).toNat = fitGo h most ((to - 1) + 5).toNat := by
  obtain ⟨n, hn⟩ : ∃ n : Nat, (to + 5).toNat = n + 1 := ⟨(to + 4).toNat, by omega⟩
  have e : ((n : Nat) : Int) - 4 = to := by omega
  rw [hn, fitGo, e, if_neg hc]
  congr 1; omega
theorem fitGo_found {h : HI} {most to : Int} (ht : to ≥ -4) (hc : cntS h to ≤ most) : fitGo h most (to + 5).toNat = some to := by
  obtain ⟨n, hn⟩ : ∃ n : Nat, (to + 5).toNat = n + 1 := ⟨(to + 4).toNat, by omega⟩
  have e : ((n : Nat) : Int) - 4 = to := by omega
  rw [hn, fitGo, e, if_pos hc]
abbrev fit_I (h : HI) (most : Int) (to : Int) : AS := ⟨[(1, .int .i64 most), (2, .pointer (some ⟨4, 0, none⟩)), (6, .slice (some ⟨5, 0, none⟩) ((nz (posR h)).length) ((nz (posR h)).length + 1)), (8, .slice (some ⟨6, 0, none⟩) ((nz (negR h)).length) ((nz (negR h)).length + 1)), (10, .int .i64 to)], [(4, ⟨[.int .i64 h.schema, .int .u64 h.zero, .int .u64 h.zc, .int .u64 h.count, .int .u64 h.sum, .slice (some ⟨0, 0, none⟩) h.pos.length (h.pos.length + 1), .slice (some ⟨1, 0, none⟩) h.neg.length (h.neg.length + 1), .slice (some ⟨2, 0, none⟩) h.pd.length (h.pd.length + 1), .slice (some ⟨3, 0, none⟩) h.nd.length (h.nd.length + 1)], 2, [], 1⟩), (5, ⟨(nz (posR h)).flatMap encS, 2, [], 2⟩), (6, ⟨(nz (negR h)).flatMap encS, 2, [], 2⟩), (0, ⟨(h.pos).flatMap encS, 1, [], 2⟩), (1, ⟨(h.neg).flatMap encS, 1, [], 2⟩), (2, ⟨(h.pd).flatMap encI, 1, [], 1⟩), (3, ⟨(h.nd).flatMap encI, 1, [], 1⟩)], 7⟩
abbrev fit_inv (h : HI) (most : Int) (to : Int) : Prop := -5 ≤ to ∧ to ≤ h.schema ∧ fitS h most = fitGo h most (to + 5).toNat
def fit_K (h : HI) (most : Int) : Exit → AS → Prop := fun e s => ((fitS h most).isSome = true ∧ e = .ret ∧ s = ⟨[(4, .int .i64 ((fitS h most).getD 0)), (5, .int .i64 0)], [], 7⟩) ∨ ((fitS h most).isSome = false ∧ e = .exit 0 ∧ s = ⟨[], [], 7⟩)
abbrev fit_Iu (h : HI) (most : Int) : Int → AS := fun x => fit_I h most x
abbrev fit_vu (h : HI) (most : Int) : Int → Prop := fun x => fit_inv h most x
abbrev fit_m (h : HI) (most : Int) : Int → Nat := fun x => (fun (to : Int) => (to + 5).toNat) x
theorem fit_round (h : HI) (most : Int) (h_s : -4 ≤ h.schema ∧ h.schema ≤ 8) (to : Int) (hinv : fit_inv h most to) {ds : List Deferred} : Tr Try.prog none ⟨52, ds⟩ 4 (nthLoop Try.f70 0) (fit_I h most to) (RK (fit_vu h most) (fit_Iu h most) (fit_m h most) (fit_K h most) to) := by
  obtain ⟨ht1, ht2, hg⟩ := hinv
  have hc := cntS_le h to
  by_cases h9001 : (to ≥ -4)
  · skip
    by_cases h11014 : (manyS (h.schema - to) (nz (posR h)) + (manyS (h.schema - to) (nz (negR h))) ≤ most)
    · skip
      have hf : fitS h most = some to := by rw [hg]; exact fitGo_found h9001 h11014
      exact Tr.out (I := (fit_Iu h most)) (m := (fit_m h most)) (Tr.run follows_mixed (A := [(9001, aT h9001), (11004, aI .i64 .i64 (h.schema - to) (h.schema - to) (wrap_i64 (by omega) (by omega))), (11005, aC (many_ok (nz (posR h)) (h.schema - to) (posR_wok h).nz (Nat.le_trans (nz_len _) (Nat.le_trans (posR_len h) (by decide))))), (11010, aI .i64 .i64 (h.schema - to) (h.schema - to) (wrap_i64 (by omega) (by omega))), (11011, aC (many_ok (nz (negR h)) (h.schema - to) (negR_wok h).nz (Nat.le_trans (nz_len _) (Nat.le_trans (negR_len h) (by decide))))), (11012, aI .i64 .i64 (manyS (h.schema - to) (nz (posR h)) + (manyS (h.schema - to) (nz (negR h)))) (manyS (h.schema - to) (nz (posR h)) + (manyS (h.schema - to) (nz (negR h)))) (wrap_i64 (by omega) (by omega))), (11014, aT h11014), (12000, aE (x := .int .i64 to) (y := .int .i64 ((fitS h most).getD 0)) (by rw [hf]; rfl))]) (rows := []) (by kernel_rfl) .nil (le_ble rfl)) (.inl ⟨(by rw [hf]; rfl), rfl, rfl⟩) (by simp)
    · skip
      exact Tr.again (Inv := (fit_vu h most)) (I := (fit_Iu h most)) (m := (fit_m h most)) (to - 1) (Tr.run follows_mixed (A := [(9001, aT h9001), (11004, aI .i64 .i64 (h.schema - to) (h.schema - to) (wrap_i64 (by omega) (by omega))), (11005, aC (many_ok (nz (posR h)) (h.schema - to) (posR_wok h).nz (Nat.le_trans (nz_len _) (Nat.le_trans (posR_len h) (by decide))))), (11010, aI .i64 .i64 (h.schema - to) (h.schema - to) (wrap_i64 (by omega) (by omega))), (11011, aC (many_ok (nz (negR h)) (h.schema - to) (negR_wok h).nz (Nat.le_trans (nz_len _) (Nat.le_trans (negR_len h) (by decide))))), (11012, aI .i64 .i64 (manyS (h.schema - to) (nz (posR h)) + (manyS (h.schema - to) (nz (negR h)))) (manyS (h.schema - to) (nz (posR h)) + (manyS (h.schema - to) (nz (negR h)))) (wrap_i64 (by omega) (by omega))), (11014, aF h11014), (10001, aI .i64 .i64 (to - 1) (to - 1) (wrap_i64 (by omega) (by omega)))]) (rows := [5, 6, 0, 1, 2, 3]) (by kernel_rfl) (.skip rfl (.cons (fun _ => encS_sc _) (.cons (fun _ => encS_sc _) (.cons (fun _ => encS_sc _) (.cons (fun _ => encS_sc _) (.cons (fun _ => encI_sc _) (.cons (fun _ => encI_sc _) .nil))))))) (le_ble rfl)) (show fit_inv h most (to - 1) from ⟨by omega, by omega, by rw [hg]; exact fitGo_next h9001 h11014⟩) (by show ((to - 1) + 5).toNat < (to + 5).toNat; omega)
  · skip
    have h0 : (to + 5).toNat = 0 := by omega
    exact Tr.out (I := (fit_Iu h most)) (m := (fit_m h most)) (Tr.run follows_mixed (A := [(9001, aF h9001)]) (rows := []) (by kernel_rfl) .nil (le_ble rfl)) (.inr ⟨(by rw [hg, h0]; rfl), rfl, rfl⟩) (by simp)

theorem fit_loop (h : HI) (most : Int) (h_s : -4 ≤ h.schema ∧ h.schema ≤ 8) (to : Int) (hinv : fit_inv h most to) {ds : List Deferred} : Tr Try.prog none ⟨52, ds⟩ 4 (.loop (nthLoop Try.f70 0)) (fit_I h most to) (fit_K h most) :=
  Tr.rounds (Inv := (fit_vu h most)) (I := (fit_Iu h most)) (m := (fit_m h most)) (fun x h_0 => fit_round h most h_s x h_0) to hinv
theorem scfit_ok (h : HI) (most : Int) (h_w : HWf h) : FnC Try.prog 70 [.agg #[.int .i64 h.schema, .int .u64 h.zero, .int .u64 h.zc, .int .u64 h.count, .int .u64 h.sum, .slice (some ⟨0, 0, none⟩) h.pos.length (h.pos.length + 1), .slice (some ⟨1, 0, none⟩) h.neg.length (h.neg.length + 1), .slice (some ⟨2, 0, none⟩) h.pd.length (h.pd.length + 1), .slice (some ⟨3, 0, none⟩) h.nd.length (h.nd.length + 1)], .int .i64 most] [(0, ⟨(h.pos).flatMap encS, 1, [], 2⟩), (1, ⟨(h.neg).flatMap encS, 1, [], 2⟩), (2, ⟨(h.pd).flatMap encI, 1, [], 1⟩), (3, ⟨(h.nd).flatMap encI, 1, [], 1⟩)] 4 (.tuple #[.int .i64 (fitV h most), .int .i64 (fitE h most)]) 0 [] := by
  rcases Bool.eq_false_or_eq_true ((fitS h most).isSome) with hz | hz
  · skip
    by_cases h2001 : ((openE h : Int) = 0)
    · skip
      have h_s : -4 ≤ h.schema ∧ h.schema ≤ 8 := by have := head_schema (openE_head h2001); omega
      by_cases h4001 : (most < 0)
      · skip
        have he : fitE h most = 11 := by simp [fitE, h2001, h4001]
        have ht : fitV h most = 0 := by unfold fitV; rw [if_neg (by rw [he]; decide)]
        rw [ht, he]
        exact FnC.run (m := false) follows_mixed has70 [(1001, aC (hpairs0_ok h h_w)), (2001, aNT h2001), (4001, aT h4001)] (by kernel_rfl) (by kernel_rfl) (.cons (encS_sc _) (.cons (encS_sc _) (.cons (encI_sc _) (.cons (encI_sc _) .nil)))) .nil
      · skip
        have he : fitE h most = 0 := by simp [fitE, h2001, h4001, hz]
        have ht : fitV h most = (fitS h most).getD 0 := by unfold fitV; rw [if_pos he]
        rw [ht, he]
        exact FnC.run (m := false) follows_mixed has70 [(1001, aC (hpairs0_ok h h_w)), (2001, aNT h2001), (4001, aF h4001), (6001, aC (hpairs1_ok h h_w)), (7001, aC (withoutI_ok (posR h) (Nat.le_trans (posR_len h) (by decide)))), (7003, aC (withoutI_ok (negR h) (Nat.le_trans (negR_len h) (by decide)))), (900000, .stmt (.loop (nthLoop Try.f70 0)) [5, 6, 0, 1, 2, 3] (fit_I h most h.schema) (.ret) ⟨[(4, .int .i64 ((fitS h most).getD 0)), (5, .int .i64 0)], [], 7⟩ (.skip rfl (.cons (fun _ => encS_sc _) (.cons (fun _ => encS_sc _) (.cons (fun _ => encS_sc _) (.cons (fun _ => encS_sc _) (.cons (fun _ => encI_sc _) (.cons (fun _ => encI_sc _) .nil))))))) (fun ds => (fit_loop h most h_s h.schema ⟨by omega, by omega, rfl⟩).pick (fun e s h => by rcases h with ⟨_, h⟩ | ⟨h0, _⟩; exact h; rw [hz] at h0; cases h0)) (le_ble rfl))] (by kernel_rfl) (by kernel_rfl) (.cons (encS_sc _) (.cons (encS_sc _) (.cons (encI_sc _) (.cons (encI_sc _) .nil)))) .nil
    · skip
      have he : fitE h most = openE h := by simp [fitE, h2001]
      have ht : fitV h most = 0 := by unfold fitV; rw [if_neg (by rw [he]; assumption)]
      rw [ht, he]
      exact FnC.run (m := false) follows_mixed has70 [(1001, aC (hpairs0_ok h h_w)), (2001, aNF h2001)] (by kernel_rfl) (by kernel_rfl) (.cons (encS_sc _) (.cons (encS_sc _) (.cons (encI_sc _) (.cons (encI_sc _) .nil)))) .nil
  · skip
    by_cases h2001 : ((openE h : Int) = 0)
    · skip
      have h_s : -4 ≤ h.schema ∧ h.schema ≤ 8 := by have := head_schema (openE_head h2001); omega
      by_cases h4001 : (most < 0)
      · skip
        have he : fitE h most = 11 := by simp [fitE, h2001, h4001]
        have ht : fitV h most = 0 := by unfold fitV; rw [if_neg (by rw [he]; decide)]
        rw [ht, he]
        exact FnC.run (m := false) follows_mixed has70 [(1001, aC (hpairs0_ok h h_w)), (2001, aNT h2001), (4001, aT h4001)] (by kernel_rfl) (by kernel_rfl) (.cons (encS_sc _) (.cons (encS_sc _) (.cons (encI_sc _) (.cons (encI_sc _) .nil)))) .nil
      · skip
        have he : fitE h most = 12 := by simp [fitE, h2001, h4001, hz]
        have ht : fitV h most = 0 := by unfold fitV; rw [if_neg (by rw [he]; decide)]
        rw [ht, he]
        exact FnC.run (m := false) follows_mixed has70 [(1001, aC (hpairs0_ok h h_w)), (2001, aNT h2001), (4001, aF h4001), (6001, aC (hpairs1_ok h h_w)), (7001, aC (withoutI_ok (posR h) (Nat.le_trans (posR_len h) (by decide)))), (7003, aC (withoutI_ok (negR h) (Nat.le_trans (negR_len h) (by decide)))), (900000, .stmt (.loop (nthLoop Try.f70 0)) [5, 6, 0, 1, 2, 3] (fit_I h most h.schema) (.exit 0) ⟨[], [], 7⟩ (.skip rfl (.cons (fun _ => encS_sc _) (.cons (fun _ => encS_sc _) (.cons (fun _ => encS_sc _) (.cons (fun _ => encS_sc _) (.cons (fun _ => encI_sc _) (.cons (fun _ => encI_sc _) .nil))))))) (fun ds => (fit_loop h most h_s h.schema ⟨by omega, by omega, rfl⟩).pick (fun e s h => by rcases h with ⟨h0, _⟩ | ⟨_, h⟩; rw [hz] at h0; cases h0; exact h)) (le_ble rfl))] (by kernel_rfl) (by kernel_rfl) (.cons (encS_sc _) (.cons (encS_sc _) (.cons (encI_sc _) (.cons (encI_sc _) .nil)))) .nil
    · skip
      have he : fitE h most = openE h := by simp [fitE, h2001]
      have ht : fitV h most = 0 := by unfold fitV; rw [if_neg (by rw [he]; assumption)]
      rw [ht, he]
      exact FnC.run (m := false) follows_mixed has70 [(1001, aC (hpairs0_ok h h_w)), (2001, aNF h2001)] (by kernel_rfl) (by kernel_rfl) (.cons (encS_sc _) (.cons (encS_sc _) (.cons (encI_sc _) (.cons (encI_sc _) .nil)))) .nil
end Go.Am
