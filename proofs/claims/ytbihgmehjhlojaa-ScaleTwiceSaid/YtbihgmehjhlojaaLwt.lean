/-
Law ScaleTwice: first on one schema and then on a lower one a histogram is what it is on that at once; on its own it is its canonical form.
-/
import Derived.Test.YtbihgmehjhlojaaTwi
import Derived.Test.YtbihgmehjhlojaaSam
set_option linter.unusedVariables false
set_option linter.unusedSimpArgs false
set_option maxRecDepth 100000
namespace Go.Am
open Go Go.RowKit Go.Proofs
theorem has13 : Has Try.prog 13 Try.f13 (bodyOf Try.f13) := ⟨Try.func13, by kernel_rfl, by kernel_rfl⟩
theorem fromR_len (l : List Int) : (fromR l).length ≤ 1024 := by
  unfold fromR
  split
  · rename_i h
    unfold fromE at h
    split at h
    · cases h
    · split at h
      · cases h
      · omega
  · simp
theorem HI0_low : HLow HI0 := ⟨by decide, by decide, by decide, by decide⟩
theorem laid_low {h : HI} {P Q : List (Int × Int)} (lp : P.length ≤ 4096) (lq : Q.length ≤ 4096) : HLow (laid h P Q) := by
  have h1 := fromR_len (fsts P)
  have h2 := fromR_len (fsts Q)
  have h3 := layD_le P
  have h4 := layD_le Q
  refine ⟨?_, ?_, ?_, ?_⟩ <;> simp only [laid] <;> omega
theorem scH_low (h : HI) (to : Int) : HLow (scH h to) := by
  rw [scH_def]
  split
  · exact laid_low (scP_wok h to).2 (scN_wok h to).2
  · exact HI0_low
theorem cnH_low (h : HI) : HLow (cnH h) := by
  unfold cnH
  split
  · exact laid_low (Nat.le_trans (nz_len _) (posR_len h)) (Nat.le_trans (nz_len _) (negR_len h))
  · exact HI0_low
theorem twiceLaw_ok (h : HI) (a b : Int) (h_r : HRng h) (h_a : I64 a) (h_b : I64 b) : FnC Try.prog 13 [.agg #[.int .i64 h.schema, .int .u64 h.zero, .int .u64 h.zc, .int .u64 h.count, .int .u64 h.sum, .slice (some ⟨0, 0, none⟩) h.pos.length (h.pos.length + 1), .slice (some ⟨1, 0, none⟩) h.neg.length (h.neg.length + 1), .slice (some ⟨2, 0, none⟩) h.pd.length (h.pd.length + 1), .slice (some ⟨3, 0, none⟩) h.nd.length (h.nd.length + 1)], .int .i64 a, .int .i64 b] [(0, ⟨(h.pos).flatMap encS, 1, [], 2⟩), (1, ⟨(h.neg).flatMap encS, 1, [], 2⟩), (2, ⟨(h.pd).flatMap encI, 1, [], 1⟩), (3, ⟨(h.nd).flatMap encI, 1, [], 1⟩)] 4 (.bool true) 0 [] := by
  cases h1001 : (smallS h) with
  | true =>
    by_cases h4001 : ((scE h (a) : Int) = 0)
    · skip
      by_cases h8002 : (b > a)
      · skip
        by_cases h9001 : ((scE (scH h (a)) (b) : Int) = 21)
        · skip
          exact FnC.run (m := false) follows_mixed has13 [(1001, aCb (small_ok h h_r.len) h1001), (3002, aC (scints_ok h (a) (h_r.wf h1001) h_a)), (4001, aNT h4001), (6002, aC (scints_ok (scH h (a)) (b) (sc_wf (h_r.wf h1001) h_a h4001) h_b)), (7002, aC (scints_ok h (b) (h_r.wf h1001) h_b)), (8002, aT h8002), (9001, aT h9001), (9003, aC awake_ok)] (by kernel_rfl) (by kernel_rfl) (.cons (encS_sc _) (.cons (encS_sc _) (.cons (encI_sc _) (.cons (encI_sc _) .nil)))) .nil
        · skip
          exact absurd (sc_above h4001 h8002) h9001
      · skip
        by_cases h12002 : ((scE (scH h (a)) (b) : Int) = scE h (b))
        · skip
          cases h12007 : (sameHI (scH (scH h (a)) (b)) (scH h (b))) with
          | true =>
            by_cases h12012 : ((cnE h : Int) = scE h (h.schema))
            · skip
              cases h12018 : (sameHI (cnH h) (scH h (h.schema))) with
              | true =>
                exact FnC.run (m := false) follows_mixed has13 [(1001, aCb (small_ok h h_r.len) h1001), (3002, aC (scints_ok h (a) (h_r.wf h1001) h_a)), (4001, aNT h4001), (6002, aC (scints_ok (scH h (a)) (b) (sc_wf (h_r.wf h1001) h_a h4001) h_b)), (7002, aC (scints_ok h (b) (h_r.wf h1001) h_b)), (8002, aF h8002), (10001, aC (hcanon_ok h (h_r.wf h1001))), (11003, aC (scints_ok h (h.schema) (h_r.wf h1001) h_r.num.schema)), (12002, aT h12002), (12006, aC (lints_ok (scH h (b)) (scH_low _ _).np (scH_low _ _).nn)), (12007, aCb (isInts_ok (scH (scH h (a)) (b)) (scH h (b)) (scH_low _ _)) h12007), (12012, aT h12012), (12017, aC (lints_ok (scH h (h.schema)) (scH_low _ _).np (scH_low _ _).nn)), (12018, aCb (isInts_ok (cnH h) (scH h (h.schema)) (cnH_low _)) h12018), (12021, aC awake_ok)] (by kernel_rfl) (by kernel_rfl) (.cons (encS_sc _) (.cons (encS_sc _) (.cons (encI_sc _) (.cons (encI_sc _) .nil)))) .nil
              | false =>
                rw [sc_own.2, sameHI_self] at h12018; cases h12018
            · skip
              exact absurd sc_own.1 h12012
          | false =>
            rw [(sc_twice h4001 h8002).2, sameHI_self] at h12007; cases h12007
        · skip
          exact absurd (sc_twice h4001 h8002).1 h12002
    · skip
      exact FnC.run (m := false) follows_mixed has13 [(1001, aCb (small_ok h h_r.len) h1001), (3002, aC (scints_ok h (a) (h_r.wf h1001) h_a)), (4001, aNF h4001), (5000, aC awake_ok)] (by kernel_rfl) (by kernel_rfl) (.cons (encS_sc _) (.cons (encS_sc _) (.cons (encI_sc _) (.cons (encI_sc _) .nil)))) .nil
  | false =>
    exact FnC.run (m := false) follows_mixed has13 [(1001, aCb (small_ok h h_r.len) h1001), (2000, aC awake_ok)] (by kernel_rfl) (by kernel_rfl) (.cons (encS_sc _) (.cons (encS_sc _) (.cons (encI_sc _) (.cons (encI_sc _) .nil)))) .nil
end Go.Am
