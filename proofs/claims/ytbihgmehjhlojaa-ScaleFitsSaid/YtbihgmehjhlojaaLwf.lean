/-
Law ScaleFits: the schema that is told is the highest one on which a histogram has no more buckets than may be; if there is none, it is refused.
-/
import Derived.Test.YtbihgmehjhlojaaLwg
import Derived.Test.YtbihgmehjhlojaaSam
set_option linter.unusedVariables false
set_option linter.unusedSimpArgs false
set_option maxRecDepth 100000
namespace Go.Am
open Go Go.RowKit Go.Proofs
theorem has12 : Has Try.prog 12 Try.f12 (bodyOf Try.f12) := ⟨Try.func12, by kernel_rfl, by kernel_rfl⟩
theorem fit_bad {h : HI} {m : Int} (e : openE h ≠ 0) : fitE h m = openE h ∧ fitV h m = 0 := by
  have h1 : fitE h m = openE h := by unfold fitE; rw [if_pos e]
  exact ⟨h1, by unfold fitV; rw [if_neg (by rw [h1]; exact e)]⟩
theorem fit_neg {h : HI} {m : Int} (e : openE h = 0) (hm : m < 0) : fitE h m = 11 ∧ fitV h m = 0 := by
  have h1 : fitE h m = 11 := by unfold fitE; rw [if_neg (by rw [e]; simp), if_pos hm]
  exact ⟨h1, by unfold fitV; rw [if_neg (by rw [h1]; decide)]⟩
theorem fit_none {h : HI} {m : Int} (e : openE h = 0) (hm : ¬ m < 0) (hc : manyP h (-4) + manyN h (-4) > m) : fitE h m = 12 ∧ fitV h m = 0 := by
  have hs := head_schema (openE_head e)
  rw [← cnt_many e] at hc
  have hn : fitS h m = none := by
    cases q : fitS h m with
    | none => rfl
    | some t =>
      obtain ⟨i1, i2, i3, i4⟩ := fitGo_some q
      have := cnt_low (h := h) (u := t) (to := -4) (by omega) i1 (by decide) hs.2.1
      omega
  have h1 : fitE h m = 12 := by unfold fitE; rw [if_neg (by rw [e]; simp), if_neg hm, hn]; rfl
  exact ⟨h1, by unfold fitV; rw [if_neg (by rw [h1]; decide)]⟩
theorem fit_ok {h : HI} {m : Int} (e : openE h = 0) (hm : ¬ m < 0) (hc : ¬ manyP h (-4) + manyN h (-4) > m) : fitE h m = 0 ∧ -4 ≤ fitV h m ∧ fitV h m ≤ h.schema ∧ manyP h (fitV h m) + manyN h (fitV h m) ≤ m ∧ (fitV h m ≠ h.schema → manyP h (fitV h m + 1) + manyN h (fitV h m + 1) > m) := by
  have hs := head_schema (openE_head e)
  rw [← cnt_many e] at hc
  cases q : fitS h m with
  | none => exact absurd (by omega) (fitGo_none q (-4) (by decide) (by omega))
  | some t =>
    obtain ⟨i1, i2, i3, i4⟩ := fitGo_some q
    have h1 : fitE h m = 0 := by unfold fitE; rw [if_neg (by rw [e]; simp), if_neg hm, q]; rfl
    have h2 : fitV h m = t := by unfold fitV; rw [if_pos h1, q]; rfl
    rw [h2, ← cnt_many e, ← cnt_many e]
    refine ⟨h1, i1, by omega, i3, fun hne => ?_⟩
    have := i4 (t + 1) (by omega) (by omega)
    omega
theorem small_few {h : HI} (s : smallS h = true) : fewS h.pos = true ∧ fewS h.neg = true := by
  simp only [smallS, Bool.and_eq_true] at s; exact ⟨s.1.1.1, s.1.1.2⟩
theorem few_le {l : List Sp} (h : fewS l = true) : l.length ≤ 4294967296 := Nat.le_trans (few_len h) (by decide)
theorem fitsLaw_ok (h : HI) (m : Int) (h_r : HRng h) (h_m : I64 m) : FnC Try.prog 12 [.agg #[.int .i64 h.schema, .int .u64 h.zero, .int .u64 h.zc, .int .u64 h.count, .int .u64 h.sum, .slice (some ⟨0, 0, none⟩) h.pos.length (h.pos.length + 1), .slice (some ⟨1, 0, none⟩) h.neg.length (h.neg.length + 1), .slice (some ⟨2, 0, none⟩) h.pd.length (h.pd.length + 1), .slice (some ⟨3, 0, none⟩) h.nd.length (h.nd.length + 1)], .int .i64 m] [(0, ⟨(h.pos).flatMap encS, 1, [], 2⟩), (1, ⟨(h.neg).flatMap encS, 1, [], 2⟩), (2, ⟨(h.pd).flatMap encI, 1, [], 1⟩), (3, ⟨(h.nd).flatMap encI, 1, [], 1⟩)] 4 (.bool true) 0 [] := by
  cases h1001 : (smallS h) with
  | true =>
    by_cases h5001 : ((openE h : Int) = 0)
    · skip
      have hs0 := head_schema (openE_head h5001)
      have hs : -4 ≤ h.schema ∧ h.schema ≤ 8 := ⟨hs0.1, hs0.2.1⟩
      by_cases h7001 : (m < 0)
      · skip
        by_cases h8001 : ((fitE h (m) : Int) = 11)
        · skip
          by_cases h8004 : ((fitV h (m) : Int) = 0)
          · skip
            exact FnC.run (m := false) follows_mixed has12 [(1001, aCb (small_ok h h_r.len) h1001), (3002, aC (scfit_ok h (m) (h_r.wf h1001))), (4001, aC (lints_ok h (few_le (small_few h1001).1) (few_le (small_few h1001).2))), (4002, aC (rcheck9_ok h (h_r.wf h1001))), (5001, aNT h5001), (7001, aT h7001), (8001, aT h8001), (8004, aT h8004), (8007, aC awake_ok)] (by kernel_rfl) (by kernel_rfl) (.cons (encS_sc _) (.cons (encS_sc _) (.cons (encI_sc _) (.cons (encI_sc _) .nil)))) .nil
          · skip
            exact absurd (fit_neg h5001 h7001).2 h8004
        · skip
          exact absurd (fit_neg h5001 h7001).1 h8001
      · skip
        by_cases h9004 : (manyP h (-4) + manyN h (-4) > m)
        · skip
          by_cases h10001 : ((fitE h (m) : Int) = 12)
          · skip
            by_cases h10004 : ((fitV h (m) : Int) = 0)
            · skip
              exact FnC.run (m := false) follows_mixed has12 [(1001, aCb (small_ok h h_r.len) h1001), (3002, aC (scfit_ok h (m) (h_r.wf h1001))), (4001, aC (lints_ok h (few_le (small_few h1001).1) (few_le (small_few h1001).2))), (4002, aC (rcheck9_ok h (h_r.wf h1001))), (5001, aNT h5001), (7001, aF h7001), (9001, aC (lints_ok h (few_le (small_few h1001).1) (few_le (small_few h1001).2))), (9002, aC (many9_ok h (-4) (h_r.wf h1001) hs (by omega))), (9004, aT h9004), (10001, aT h10001), (10004, aT h10004), (10007, aC awake_ok)] (by kernel_rfl) (by kernel_rfl) (.cons (encS_sc _) (.cons (encS_sc _) (.cons (encI_sc _) (.cons (encI_sc _) .nil)))) .nil
            · skip
              exact absurd (fit_none h5001 h7001 h9004).2 h10004
          · skip
            exact absurd (fit_none h5001 h7001 h9004).1 h10001
        · skip
          have hf := fit_ok h5001 h7001 h9004
          by_cases h11001 : ((fitE h (m) : Int) = 0)
          · skip
            by_cases h11004 : (fitV h (m) < -4)
            · skip
              exact absurd hf.2.1 (by omega)
            · skip
              by_cases h11010 : (fitV h (m) > h.schema)
              · skip
                exact absurd hf.2.2.1 (by omega)
              · skip
                by_cases h11018 : (manyP h (fitV h (m)) + manyN h (fitV h (m)) > m)
                · skip
                  exact absurd hf.2.2.2.1 (by omega)
                · skip
                  by_cases h13003 : ((fitV h (m) : Int) = h.schema)
                  · skip
                    exact FnC.run (m := false) follows_mixed has12 [(1001, aCb (small_ok h h_r.len) h1001), (3002, aC (scfit_ok h (m) (h_r.wf h1001))), (4001, aC (lints_ok h (few_le (small_few h1001).1) (few_le (small_few h1001).2))), (4002, aC (rcheck9_ok h (h_r.wf h1001))), (5001, aNT h5001), (7001, aF h7001), (9001, aC (lints_ok h (few_le (small_few h1001).1) (few_le (small_few h1001).2))), (9002, aC (many9_ok h (-4) (h_r.wf h1001) hs (by omega))), (9004, aF h9004), (11001, aNT h11001), (11004, aF h11004), (11010, aF h11010), (11014, aC (lints_ok h (few_le (small_few h1001).1) (few_le (small_few h1001).2))), (11016, aC (many9_ok h (fitV h (m)) (h_r.wf h1001) hs (by omega))), (11018, aF h11018), (13003, aT h13003), (13014, aC awake_ok)] (by kernel_rfl) (by kernel_rfl) (.cons (encS_sc _) (.cons (encS_sc _) (.cons (encI_sc _) (.cons (encI_sc _) .nil)))) .nil
                  · skip
                    by_cases h13011 : (manyP h (fitV h (m) + 1) + manyN h (fitV h (m) + 1) > m)
                    · skip
                      exact FnC.run (m := false) follows_mixed has12 [(1001, aCb (small_ok h h_r.len) h1001), (3002, aC (scfit_ok h (m) (h_r.wf h1001))), (4001, aC (lints_ok h (few_le (small_few h1001).1) (few_le (small_few h1001).2))), (4002, aC (rcheck9_ok h (h_r.wf h1001))), (5001, aNT h5001), (7001, aF h7001), (9001, aC (lints_ok h (few_le (small_few h1001).1) (few_le (small_few h1001).2))), (9002, aC (many9_ok h (-4) (h_r.wf h1001) hs (by omega))), (9004, aF h9004), (11001, aNT h11001), (11004, aF h11004), (11010, aF h11010), (11014, aC (lints_ok h (few_le (small_few h1001).1) (few_le (small_few h1001).2))), (11016, aC (many9_ok h (fitV h (m)) (h_r.wf h1001) hs (by omega))), (11018, aF h11018), (13003, aF h13003), (13006, aC (lints_ok h (few_le (small_few h1001).1) (few_le (small_few h1001).2))), (13008, aI .i64 .i64 (fitV h (m) + 1) (fitV h (m) + 1) (wrap_i64 (by omega) (by omega))), (13009, aC (many9_ok h (fitV h (m) + 1) (h_r.wf h1001) hs (by omega))), (13011, aT h13011), (13014, aC awake_ok)] (by kernel_rfl) (by kernel_rfl) (.cons (encS_sc _) (.cons (encS_sc _) (.cons (encI_sc _) (.cons (encI_sc _) .nil)))) .nil
                    · skip
                      exact absurd (hf.2.2.2.2 h13003) h13011
          · skip
            exact absurd hf.1 h11001
    · skip
      by_cases h6002 : ((fitE h (m) : Int) = openE h)
      · skip
        by_cases h6005 : ((fitV h (m) : Int) = 0)
        · skip
          exact FnC.run (m := false) follows_mixed has12 [(1001, aCb (small_ok h h_r.len) h1001), (3002, aC (scfit_ok h (m) (h_r.wf h1001))), (4001, aC (lints_ok h (few_le (small_few h1001).1) (few_le (small_few h1001).2))), (4002, aC (rcheck9_ok h (h_r.wf h1001))), (5001, aNF h5001), (6002, aT h6002), (6005, aT h6005), (6008, aC awake_ok)] (by kernel_rfl) (by kernel_rfl) (.cons (encS_sc _) (.cons (encS_sc _) (.cons (encI_sc _) (.cons (encI_sc _) .nil)))) .nil
        · skip
          exact absurd (fit_bad h5001).2 h6005
      · skip
        exact absurd (fit_bad h5001).1 h6002
  | false =>
    exact FnC.run (m := false) follows_mixed has12 [(1001, aCb (small_ok h h_r.len) h1001), (2000, aC awake_ok)] (by kernel_rfl) (by kernel_rfl) (.cons (encS_sc _) (.cons (encS_sc _) (.cons (encI_sc _) (.cons (encI_sc _) .nil)))) .nil
end Go.Am
