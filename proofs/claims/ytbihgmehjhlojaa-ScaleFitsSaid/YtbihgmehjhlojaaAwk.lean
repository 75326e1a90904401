/-
Laws of layer 25: the fixed answer.
-/
import Derived.Test.YtbihgmehjhlojaaSmp
set_option linter.unusedVariables false
set_option linter.unusedSimpArgs false
set_option maxRecDepth 100000
namespace Go.Am
open Go Go.RowKit Go.Proofs
theorem has128 : Has Try.prog 128 Try.f128 (bodyOf Try.f128) := ⟨Try.func128, by kernel_rfl, by kernel_rfl⟩
theorem has56 : Has Try.prog 56 Try.f56 (bodyOf Try.f56) := ⟨Try.func56, by kernel_rfl, by kernel_rfl⟩
instance (x : Int) : Decidable (I64 x) := by unfold I64; infer_instance
instance (x : Int) : Decidable (U64 x) := by unfold U64; infer_instance
instance (l : List Int) : Decidable (L64 l) := by unfold L64; infer_instance
theorem fltL_u {d : List Int} (h : ∀ x ∈ absL d, N63 x) : ∀ x ∈ fltL d, U64 x := by
  intro x hx
  obtain ⟨y, hy, rfl⟩ := List.mem_map.1 hx
  have := h y hy
  exact (fltS_in (by unfold N63 at this; unfold U64; omega)).u
theorem fltL_len (d : List Int) : (fltL d).length ≤ d.length := by unfold fltL; rw [List.length_map]; exact absL_le d
theorem HF0_wf : FWf HF0 := ⟨by decide, by decide, by decide, by decide, by decide, by simp [HF0], by simp [HF0], by decide, by decide⟩
theorem frH_wf {h : HI} (w : HWf h) : FWf (frH h) := by
  unfold frH
  split
  · rename_i e
    obtain ⟨h1, h2⟩ := openE_sides e
    exact ⟨w.schema, w.zero, (fltS_in w.zc).u, (fltS_in w.count).u, w.sum, fltL_u (side_n63 h1), fltL_u (side_n63 h2), Nat.le_trans (fltL_len _) w.np, Nat.le_trans (fltL_len _) w.nn⟩
  · exact HF0_wf
def oneH : HI := ⟨1, 0, 0, 5, 0, [(3, 3)], [], [1, -1, 4], []⟩
theorem oneH_wf : HWf oneH := ⟨by decide, by decide, by decide, by decide, by decide, by decide, by decide, by decide, by decide⟩
theorem one_ok  : FnC Try.prog 128 [] [] 0 (.agg #[.int .i64 oneH.schema, .int .u64 oneH.zero, .int .u64 oneH.zc, .int .u64 oneH.count, .int .u64 oneH.sum, .slice (some ⟨0, 0, none⟩) oneH.pos.length (oneH.pos.length + 1), .slice (some ⟨1, 0, none⟩) oneH.neg.length (oneH.neg.length + 1), .slice (some ⟨2, 0, none⟩) oneH.pd.length (oneH.pd.length + 1), .slice (some ⟨3, 0, none⟩) oneH.nd.length (oneH.nd.length + 1)]) 4 [(0, ⟨(oneH.pos).flatMap encS, 2, [], 2⟩), (1, ⟨(oneH.neg).flatMap encS, 2, [], 2⟩), (2, ⟨(oneH.pd).flatMap encI, 2, [], 1⟩), (3, ⟨(oneH.nd).flatMap encI, 2, [], 1⟩)] := by
  exact FnC.run (m := false) follows_mixed has128 [] (by kernel_rfl) (by kernel_rfl) .nil (.cons (encS_sc _) (.cons (encS_sc _) (.cons (encI_sc _) (.cons (encI_sc _) .nil))))
theorem awake_ok  : FnC Try.prog 56 [] [] 0 (.bool true) 0 [] := by
  by_cases h7001 : ((scE oneH (0) : Int) = 0)
  · skip
    by_cases h7004 : ((openE oneH : Int) = 0)
    · skip
      by_cases h7008 : ((sfE (frH oneH) (0) : Int) = 0)
      · skip
        by_cases h7012 : ((ssE (⟨7, 0, oneH, (⟨0, 0, 0, 0, 0, [], [], [], []⟩ : HF)⟩ : HS) (-4) : Int) = 0)
        · skip
          by_cases h7016 : ((fitE oneH (1) : Int) = 0)
          · skip
            by_cases h7020 : ((scE oneH (2) : Int) = 21)
            · skip
              by_cases h7026 : ((((((scH oneH (0)).pd).length : Nat) : Int) : Int) = 2)
              · skip
                by_cases h7032 : ((((((sfH (frH oneH) (0)).pc).length : Nat) : Int) : Int) = 2)
                · skip
                  by_cases h9002 : (((scH oneH (0)).schema : Int) = 0)
                  · skip
                    by_cases h9009 : ((((2, 2) : Sp).1 : Int) = 2)
                    · skip
                      by_cases h9016 : (((3 : Int) : Int) = 3)
                      · skip
                        by_cases h9021 : (((ssH (⟨7, 0, oneH, (⟨0, 0, 0, 0, 0, [], [], [], []⟩ : HF)⟩ : HS) (-4)).t : Int) = 7)
                        · skip
                          by_cases h9028 : ((((((ssH (⟨7, 0, oneH, (⟨0, 0, 0, 0, 0, [], [], [], []⟩ : HF)⟩ : HS) (-4)).i.pd).length : Nat) : Int) : Int) = 1)
                          · skip
                            by_cases h9032 : ((fitV oneH (1) : Int) = -2)
                            · skip
                              by_cases h9036 : ((placeS 3 1 : Int) = 2)
                              · skip
                                exact FnC.run (m := false) follows_mixed has56 [(1000, aC one_ok), (1001, aC (scints_ok oneH (0) oneH_wf (by decide))), (2000, aC one_ok), (2001, aC (ffrom_ok oneH oneH_wf)), (3001, aC (scfloats_ok (frH oneH) (0) (frH_wf oneH_wf) (by decide))), (4000, aC one_ok), (4001, aC (scints_ok oneH (2) oneH_wf (by decide))), (5000, aC one_ok), (5001, aC (sints_ok (7) oneH)), (5002, aC (scsample_ok (⟨7, 0, oneH, (⟨0, 0, 0, 0, 0, [], [], [], []⟩ : HF)⟩ : HS) (-4) oneH_wf HF0_wf (by decide))), (6000, aC one_ok), (6001, aC (scfit_ok oneH (1) oneH_wf)), (7001, aNT h7001), (7004, aNT h7004), (7008, aNT h7008), (7012, aNT h7012), (7016, aNT h7016), (7020, aNT h7020), (7026, aNT h7026), (7032, aNT h7032), (9002, aT h9002), (9006, aX 0 (((scH oneH (0)).pos).length) 2 (by decide)), (9008, aL encS_k (by decide : (scH oneH (0)).pos[0]? = some ((2, 2) : Sp))), (9009, aT h9009), (9014, aX 1 (((scH oneH (0)).pd).length) 1 (by decide)), (9015, aL encI_k (by decide : (scH oneH (0)).pd[1]? = some (3 : Int))), (9016, aT h9016), (9021, aT h9021), (9028, aT h9028), (9032, aT h9032), (9035, aC (place_ok (3) (1) (by decide))), (9036, aT h9036), (9039, aC (place_ok (-3) (1) (by decide)))] (by kernel_rfl) (by kernel_rfl) .nil .nil
                              · skip
                                exact absurd (by decide) h9036
                            · skip
                              exact absurd (by decide) h9032
                          · skip
                            exact absurd (by decide) h9028
                        · skip
                          exact absurd (by decide) h9021
                      · skip
                        exact absurd (by decide) h9016
                    · skip
                      exact absurd (by decide) h9009
                  · skip
                    exact absurd (by decide) h9002
                · skip
                  exact absurd (by decide) h7032
              · skip
                exact absurd (by decide) h7026
            · skip
              exact absurd (by decide) h7020
          · skip
            exact absurd (by decide) h7016
        · skip
          exact absurd (by decide) h7012
      · skip
        exact absurd (by decide) h7008
    · skip
      exact absurd (by decide) h7004
  · skip
    exact absurd (by decide) h7001
end Go.Am
