/-
Law ScaleResets: of two histograms of which the second does not reset the first, those on a lower schema do not, if there are such.
-/
import Derived.Test.YtbihgmehjhlojaaRst
set_option linter.unusedVariables false
set_option linter.unusedSimpArgs false
set_option maxRecDepth 100000
namespace Go.Am
open Go Go.RowKit Go.Proofs
theorem has14 : Has Try.prog 14 Try.f14 (bodyOf Try.f14) := ⟨Try.func14, by kernel_rfl, by kernel_rfl⟩
theorem tot_split {k q x1 : Int} : ∀ B : List (Int × Int), tot k q B = tot k q (B.filter fun y => !decide (y.1 = x1)) + (if placeS x1 k = q then tot 0 x1 B else 0)
  | [] => by simp [tot_nil]
  | y :: B => by
    have ih := tot_split (k := k) (q := q) (x1 := x1) B
    by_cases hy : y.1 = x1
    · have e : (y :: B).filter (fun y => !decide (y.1 = x1)) = B.filter fun y => !decide (y.1 = x1) := by simp [hy]
      rw [e, tot_cons, tot_cons, placeS_zero, if_pos hy, hy, ih]
      split <;> omega
    · have e : (y :: B).filter (fun y => !decide (y.1 = x1)) = y :: B.filter fun y => !decide (y.1 = x1) := by simp [hy]
      rw [e, tot_cons, tot_cons, tot_cons, placeS_zero, if_neg hy, ih]
      split <;> split <;> omega
theorem tot_le {k q : Int} : ∀ {X B : List (Int × Int)}, Rises X → PRow B → (∀ p ∈ X, p.2 ≤ tot 0 p.1 B) → tot k q X ≤ tot k q B
  | [], B, _, hB, _ => by rw [tot_nil]; exact tot_nonneg hB
  | x :: X, B, hX, hB, h => by
    unfold Rises at hX
    rw [List.pairwise_cons] at hX
    have h1 := tot_split (k := k) (q := q) (x1 := x.1) B
    have hx := h x (by simp)
    have ih := tot_le (k := k) (q := q) (X := X) (B := B.filter fun y => !decide (y.1 = x.1)) hX.2 (fun y hy => hB y (List.mem_filter.1 hy).1) fun p hp => by
      have h2 := tot_split (k := 0) (q := p.1) (x1 := x.1) B
      have h3 := hX.1 p hp
      rw [placeS_zero, if_neg (by omega)] at h2
      have := h p (by simp [hp])
      omega
    rw [tot_cons, h1]
    split <;> omega
theorem side_keep {k : Int} {X B : List (Int × Int)} (hk : 0 ≤ k) (hk2 : k ≤ 30) (wX : WOK N63 X) (wB : WOK N63 B) (rX : Rises X) (rB : Rises B) (sX : (widF addI k X).isSome = true) (sB : (widF addI k B).isSome = true) (h : lessB X B = false) : lessB (nz (widR addI k X)) (nz (widR addI k B)) = false := by
  have g := (wid_gath wX.row (rX.climbs k)).2 sX
  have hle : ∀ p ∈ X, p.2 ≤ tot 0 p.1 B := fun p hp => by
    unfold lessB at h
    rw [List.any_eq_false] at h
    have := h p hp
    simp [isLess] at this
    omega
  unfold lessB
  rw [List.any_eq_false]
  intro p hp
  have hp2 := (mem_wid wX.row g p).1 hp
  have ht := wid_tot (a := k) (b := 0) (q := p.1) hk hk2 (by decide) (by decide) sB
  rw [Int.add_zero] at ht
  have := tot_le (k := k) (q := p.1) rX wB.row hle
  simp only [isLess, decide_eq_true_eq]
  omega
theorem hdS_zero {s1 z1 c1 k1 s2 z2 c2 k2 : Int} : hdS s1 z1 c1 k1 s2 z2 c2 k2 = 0 ↔ s1 = s2 ∧ z1 = z2 ∧ ¬ c2 < c1 ∧ ¬ k2 < k1 := by
  unfold hdS
  by_cases h1 : s1 = s2 <;> by_cases h2 : z1 = z2 <;> by_cases h3 : c2 < c1 <;> by_cases h4 : k2 < k1 <;> simp [h1, h2, h3, h4]
theorem verW_zero {w : Int} {p q r s : List (Int × Int)} : verW w p q r s = 0 ↔ w = 0 ∧ lessB p r = false ∧ lessB q s = false := by
  unfold verW
  by_cases h1 : w = 0 <;> cases h2 : lessB p r <;> cases h3 : lessB q s <;> simp [h1, h2, h3]
theorem resets_keep {a b : HI} {to : Int} (ha : scE a to = 0) (hb : scE b to = 0) (he : rsE a b = 0) (h : rsW a b = 0) : rsE (scH a to) (scH b to) = 0 ∧ rsW (scH a to) (scH b to) = 0 := by
  have ka := sc_ok ha
  have kb := sc_ok hb
  obtain ⟨p1, p2, p3⟩ := sc_sides ha
  obtain ⟨q1, q2, q3⟩ := sc_sides hb
  have e : rsE (scH a to) (scH b to) = 0 := by unfold rsE; rw [p3, q3]; rfl
  refine ⟨e, ?_⟩
  unfold rsW at h ⊢
  rw [if_neg (by rw [he]; simp), verW_zero] at h
  rw [if_neg (by rw [e]; simp), verW_zero]
  obtain ⟨h1, h2, h3⟩ := h
  unfold rsH at h1
  obtain ⟨d1, d2, d3, d4⟩ := hdS_zero.1 h1
  have hsa := head_schema (openE_head ka.op)
  have hwr := ka.wr
  simp [wrongS] at hwr
  refine ⟨?_, ?_, ?_⟩
  · unfold rsH
    rw [hdS_zero, scH_eq ha, scH_eq hb]
    exact ⟨rfl, d2, d3, d4⟩
  · rw [p1, q1]; unfold scP; rw [← d1]
    exact side_keep (by omega) (by omega) (posR_wok a) (posR_wok b) (posR_rises a) (posR_rises b) ka.sp (by rw [d1]; exact kb.sp) h2
  · rw [p2, q2]; unfold scN; rw [← d1]
    exact side_keep (by omega) (by omega) (negR_wok a) (negR_wok b) (negR_rises a) (negR_rises b) ka.sn (by rw [d1]; exact kb.sn) h3
theorem resetsLaw_ok (h k : HI) (to : Int) (h_r : HRng h) (h_s : HRng k) (h_t : I64 to) : FnC Try.prog 14 [.agg #[.int .i64 h.schema, .int .u64 h.zero, .int .u64 h.zc, .int .u64 h.count, .int .u64 h.sum, .slice (some ⟨0, 0, none⟩) h.pos.length (h.pos.length + 1), .slice (some ⟨1, 0, none⟩) h.neg.length (h.neg.length + 1), .slice (some ⟨2, 0, none⟩) h.pd.length (h.pd.length + 1), .slice (some ⟨3, 0, none⟩) h.nd.length (h.nd.length + 1)], .agg #[.int .i64 k.schema, .int .u64 k.zero, .int .u64 k.zc, .int .u64 k.count, .int .u64 k.sum, .slice (some ⟨4, 0, none⟩) k.pos.length (k.pos.length + 1), .slice (some ⟨5, 0, none⟩) k.neg.length (k.neg.length + 1), .slice (some ⟨6, 0, none⟩) k.pd.length (k.pd.length + 1), .slice (some ⟨7, 0, none⟩) k.nd.length (k.nd.length + 1)], .int .i64 to] [(0, ⟨(h.pos).flatMap encS, 1, [], 2⟩), (1, ⟨(h.neg).flatMap encS, 1, [], 2⟩), (2, ⟨(h.pd).flatMap encI, 1, [], 1⟩), (3, ⟨(h.nd).flatMap encI, 1, [], 1⟩), (4, ⟨(k.pos).flatMap encS, 1, [], 2⟩), (5, ⟨(k.neg).flatMap encS, 1, [], 2⟩), (6, ⟨(k.pd).flatMap encI, 1, [], 1⟩), (7, ⟨(k.nd).flatMap encI, 1, [], 1⟩)] 8 (.bool true) 0 [] := by
  cases h1001 : (smallS h) with
  | true =>
    cases h1005 : (smallS k) with
    | true =>
      by_cases h6001 : ((rsE h k : Int) = 0)
      · skip
        by_cases h6004 : ((scE h (to) : Int) = 0)
        · skip
          by_cases h6008 : ((scE k (to) : Int) = 0)
          · skip
            by_cases h6013 : ((rsW h k : Int) = 0)
            · skip
              have hk := resets_keep h6004 h6008 h6001 h6013
              by_cases h9001 : ((rsE (scH h (to)) (scH k (to)) : Int) = 0)
              · skip
                by_cases h9005 : ((rsW (scH h (to)) (scH k (to)) : Int) = 0)
                · skip
                  exact FnC.run (m := false) follows_mixed has14 [(1001, aCb (small_ok h h_r.len) h1001), (1005, aCb (small_ok k h_s.len) h1005), (3002, aC (rsints_ok h k (h_r.wf h1001) (h_s.wf h1005))), (4002, aC (scints_ok h (to) (h_r.wf h1001) h_t)), (5002, aC (scints_ok k (to) (h_s.wf h1005) h_t)), (6001, aNT h6001), (6004, aNT h6004), (6008, aNT h6008), (6013, aNT h6013), (8002, aC (rsints_ok (scH h (to)) (scH k (to)) (sc_wf (h_r.wf h1001) h_t h6004) (sc_wf (h_s.wf h1005) h_t h6008))), (9001, aT h9001), (9005, aT h9005), (9008, aC awake_ok)] (by kernel_rfl) (by kernel_rfl) (.cons (encS_sc _) (.cons (encS_sc _) (.cons (encI_sc _) (.cons (encI_sc _) (.cons (encS_sc _) (.cons (encS_sc _) (.cons (encI_sc _) (.cons (encI_sc _) .nil)))))))) .nil
                · skip
                  exact absurd hk.2 h9005
              · skip
                exact absurd hk.1 h9001
            · skip
              exact FnC.run (m := false) follows_mixed has14 [(1001, aCb (small_ok h h_r.len) h1001), (1005, aCb (small_ok k h_s.len) h1005), (3002, aC (rsints_ok h k (h_r.wf h1001) (h_s.wf h1005))), (4002, aC (scints_ok h (to) (h_r.wf h1001) h_t)), (5002, aC (scints_ok k (to) (h_s.wf h1005) h_t)), (6001, aNT h6001), (6004, aNT h6004), (6008, aNT h6008), (6013, aNF h6013), (7000, aC awake_ok)] (by kernel_rfl) (by kernel_rfl) (.cons (encS_sc _) (.cons (encS_sc _) (.cons (encI_sc _) (.cons (encI_sc _) (.cons (encS_sc _) (.cons (encS_sc _) (.cons (encI_sc _) (.cons (encI_sc _) .nil)))))))) .nil
          · skip
            exact FnC.run (m := false) follows_mixed has14 [(1001, aCb (small_ok h h_r.len) h1001), (1005, aCb (small_ok k h_s.len) h1005), (3002, aC (rsints_ok h k (h_r.wf h1001) (h_s.wf h1005))), (4002, aC (scints_ok h (to) (h_r.wf h1001) h_t)), (5002, aC (scints_ok k (to) (h_s.wf h1005) h_t)), (6001, aNT h6001), (6004, aNT h6004), (6008, aNF h6008), (7000, aC awake_ok)] (by kernel_rfl) (by kernel_rfl) (.cons (encS_sc _) (.cons (encS_sc _) (.cons (encI_sc _) (.cons (encI_sc _) (.cons (encS_sc _) (.cons (encS_sc _) (.cons (encI_sc _) (.cons (encI_sc _) .nil)))))))) .nil
        · skip
          exact FnC.run (m := false) follows_mixed has14 [(1001, aCb (small_ok h h_r.len) h1001), (1005, aCb (small_ok k h_s.len) h1005), (3002, aC (rsints_ok h k (h_r.wf h1001) (h_s.wf h1005))), (4002, aC (scints_ok h (to) (h_r.wf h1001) h_t)), (5002, aC (scints_ok k (to) (h_s.wf h1005) h_t)), (6001, aNT h6001), (6004, aNF h6004), (7000, aC awake_ok)] (by kernel_rfl) (by kernel_rfl) (.cons (encS_sc _) (.cons (encS_sc _) (.cons (encI_sc _) (.cons (encI_sc _) (.cons (encS_sc _) (.cons (encS_sc _) (.cons (encI_sc _) (.cons (encI_sc _) .nil)))))))) .nil
      · skip
        exact FnC.run (m := false) follows_mixed has14 [(1001, aCb (small_ok h h_r.len) h1001), (1005, aCb (small_ok k h_s.len) h1005), (3002, aC (rsints_ok h k (h_r.wf h1001) (h_s.wf h1005))), (4002, aC (scints_ok h (to) (h_r.wf h1001) h_t)), (5002, aC (scints_ok k (to) (h_s.wf h1005) h_t)), (6001, aNF h6001), (7000, aC awake_ok)] (by kernel_rfl) (by kernel_rfl) (.cons (encS_sc _) (.cons (encS_sc _) (.cons (encI_sc _) (.cons (encI_sc _) (.cons (encS_sc _) (.cons (encS_sc _) (.cons (encI_sc _) (.cons (encI_sc _) .nil)))))))) .nil
    | false =>
      exact FnC.run (m := false) follows_mixed has14 [(1001, aCb (small_ok h h_r.len) h1001), (1005, aCb (small_ok k h_s.len) h1005), (2000, aC awake_ok)] (by kernel_rfl) (by kernel_rfl) (.cons (encS_sc _) (.cons (encS_sc _) (.cons (encI_sc _) (.cons (encI_sc _) (.cons (encS_sc _) (.cons (encS_sc _) (.cons (encI_sc _) (.cons (encI_sc _) .nil)))))))) .nil
  | false =>
    exact FnC.run (m := false) follows_mixed has14 [(1001, aCb (small_ok h h_r.len) h1001), (2000, aC awake_ok)] (by kernel_rfl) (by kernel_rfl) (.cons (encS_sc _) (.cons (encS_sc _) (.cons (encI_sc _) (.cons (encI_sc _) (.cons (encS_sc _) (.cons (encS_sc _) (.cons (encI_sc _) (.cons (encI_sc _) .nil)))))))) .nil
end Go.Am
