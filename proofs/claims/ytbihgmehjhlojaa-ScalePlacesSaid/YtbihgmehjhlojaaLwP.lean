/-
Law ScalePlaces: any place lies within the wider bucket that the document says; step by step it is the same as at once, and none comes ahead of one that was behind it. Any two places, any two numbers of steps.
-/
import Derived.Test.YtbihgmehjhlojaaOpn
set_option linter.unusedVariables false
set_option linter.unusedSimpArgs false
set_option maxRecDepth 100000
namespace Go.Am
open Go Go.RowKit Go.Proofs
theorem has8 : Has Try.prog 8 Try.f8 (bodyOf Try.f8) := ⟨Try.func8, by kernel_rfl, by kernel_rfl⟩
theorem placesLaw_ok (i k a b : Int) (h_i : I64 i) (h_k : I64 k) : FnC Try.prog 8 [.int .i64 i, .int .i64 k, .agg #[.int .i64 a, .int .i64 b]] [] 0 (.bool true) 0 [] := by
  by_cases h2006 : ((placeS i a : Int) = placeS i a)
  · skip
    by_cases h4001 : (a < 0)
    · skip
      exact FnC.run (m := false) follows_mixed has8 [(2002, aC (place_ok (i) (a) h_i)), (2005, aC (rplace_ok (i) (a) h_i)), (2006, aNT h2006), (4001, aT h4001), (5000, aC awake_ok)] (by kernel_rfl) (by kernel_rfl) .nil .nil
    · skip
      by_cases h4004 : (b < 0)
      · skip
        exact FnC.run (m := false) follows_mixed has8 [(2002, aC (place_ok (i) (a) h_i)), (2005, aC (rplace_ok (i) (a) h_i)), (2006, aNT h2006), (4001, aF h4001), (4004, aT h4004), (5000, aC awake_ok)] (by kernel_rfl) (by kernel_rfl) .nil .nil
      · skip
        by_cases h4008 : (a > 30)
        · skip
          exact FnC.run (m := false) follows_mixed has8 [(2002, aC (place_ok (i) (a) h_i)), (2005, aC (rplace_ok (i) (a) h_i)), (2006, aNT h2006), (4001, aF h4001), (4004, aF h4004), (4008, aT h4008), (5000, aC awake_ok)] (by kernel_rfl) (by kernel_rfl) .nil .nil
        · skip
          by_cases h4012 : (b > 30)
          · skip
            exact FnC.run (m := false) follows_mixed has8 [(2002, aC (place_ok (i) (a) h_i)), (2005, aC (rplace_ok (i) (a) h_i)), (2006, aNT h2006), (4001, aF h4001), (4004, aF h4004), (4008, aF h4008), (4012, aT h4012), (5000, aC awake_ok)] (by kernel_rfl) (by kernel_rfl) .nil .nil
          · skip
            by_cases h6010 : ((placeS (placeS i a) b : Int) = placeS i (a + b))
            · skip
              by_cases h6022 : (placeS (min (i) (k)) a ≤ placeS (max (i) (k)) a)
              · skip
                exact FnC.run (m := false) follows_mixed has8 [(2002, aC (place_ok (i) (a) h_i)), (2005, aC (rplace_ok (i) (a) h_i)), (2006, aNT h2006), (4001, aF h4001), (4004, aF h4004), (4008, aF h4008), (4012, aF h4012), (6002, aC (place_ok (i) (a) h_i)), (6004, aC (place_ok (placeS i a) (b) (placeS_in h_i))), (6008, aI .i64 .i64 (a + b) (a + b) (wrap_i64 (by omega) (by omega))), (6009, aC (place_ok (i) (a + b) h_i)), (6010, aT h6010), (6014, aE (x := .int .i64 (if k < i then k else i)) (y := .int .i64 (min (i) (k))) (by congr 1; omega)), (6016, aC (place_ok (min (i) (k)) (a) (by unfold I64 at *; omega))), (6019, aE (x := .int .i64 (if i < k then k else i)) (y := .int .i64 (max (i) (k))) (by congr 1; omega)), (6021, aC (place_ok (max (i) (k)) (a) (by unfold I64 at *; omega))), (6022, aT h6022), (6025, aC awake_ok)] (by kernel_rfl) (by kernel_rfl) .nil .nil
              · skip
                exact absurd (placeS_mono (by omega)) h6022
            · skip
              exact absurd (placeS_add (by omega) (by omega) (by omega) (by omega)) h6010
  · skip
    exact absurd rfl h2006
end Go.Am
