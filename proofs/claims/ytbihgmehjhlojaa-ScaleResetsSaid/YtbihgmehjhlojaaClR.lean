/-
The law ScaleResets holds: whatever two histograms and schema it is called with, it returns true, and its input reads as it did. No condition.
-/
import Derived.Test.YtbihgmehjhlojaaLwr
import Derived.Test.YtbihgmehjhlojaaOpn
set_option linter.unusedVariables false
set_option maxRecDepth 100000
namespace Go.Proofs.Ytbihgmehjhlojaa
open Go Go.RowKit Go.Proofs Go.ChangeShapes Go.WideShapes Go.Am

theorem scaleResets_walk {H : Type} {enc : TypeId × Value → H} (W : World) (base : Nat) (args : Array Value) (ds : List (DataW H)) (p : List MemPlace) (hval0 : ∀ (j : Nat) t v, Try.f14.params[j]? = some t → args[j]? = some v → Value.okWide Try.prog W .any base t v)
    (hA0 : DataW.TrodAll enc Try.prog W 0 (fun _ => true) true Try.f14.params.toList args.toList ds p) : Calls Try.prog 14 args W fun e W' => e = .returned (.bool true) ∧ Below W.heap.size W W' := by
  have hval : ∀ (j : Nat) t v, #[54, 54, 3][j]? = some t → args[j]? = some v → Value.okWide Try.prog W .any base t v := by rw [Try.params14] at hval0; exact hval0
  have hA : DataW.TrodAll enc Try.prog W 0 (fun _ => true) true [54, 54, 3] args.toList ds p := by rw [Try.params14] at hA0; exact hA0
  obtain ⟨v0, vs0, d0, ds0, p0, q0, hargs, rfl, rfl, h0, r0⟩ := trodAll_cons hA
  obtain ⟨v1, vs1, d1, ds1, p1, q1, rfl, rfl, rfl, h1, r1⟩ := trodAll_cons r0
  obtain ⟨v2, vs2, d2, ds2, p2, q2, rfl, rfl, rfl, h2, r2⟩ := trodAll_cons r1
  obtain ⟨rfl, rfl, rfl⟩ := trodAll_nil r2
  obtain rfl : args = #[v0, v1, v2] := by cases args; simp_all
  obtain ⟨x0, c05, c06, c07, c08, rfl, w0, s05, s06, s07, s08⟩ := open_hist (hval 0 54 v0 rfl rfl) h0
  obtain ⟨x1, c15, c16, c17, c18, rfl, w1, s15, s16, s17, s18⟩ := open_hist (hval 1 54 v1 rfl rfl) h1
  obtain ⟨x2, rfl, _, _, u2⟩ := open_int Try.underlying3 (hval 2 3 v2 rfl rfl) h2
  have w2 := wf_i64 u2
  have R := RowsOK.cons encS_k encS_sc s05 (RowsOK.cons encS_k encS_sc s06 (RowsOK.cons encI_k encI_sc s07 (RowsOK.cons encI_k encI_sc s08 (RowsOK.cons encS_k encS_sc s15 (RowsOK.cons encS_k encS_sc s16 (RowsOK.cons encI_k encI_sc s17 (RowsOK.cons encI_k encI_sc s18 (RowsOK.nil W))))))))
  exact run_law (resetsLaw_ok x0 x1 x2 w0 w1 w2).ok R (fun i h => RowsOK.muNone h) (.cons (.mkAgg (.cons (.flat _ rfl) (.cons (.flat _ rfl) (.cons (.flat _ rfl) (.cons (.flat _ rfl) (.cons (.flat _ rfl) (.cons (R.val (i := 0) rfl) (.cons (R.val (i := 1) rfl) (.cons (R.val (i := 2) rfl) (.cons (R.val (i := 3) rfl) (.nil _))))))))))) (.cons (.mkAgg (.cons (.flat _ rfl) (.cons (.flat _ rfl) (.cons (.flat _ rfl) (.cons (.flat _ rfl) (.cons (.flat _ rfl) (.cons (R.val (i := 4) rfl) (.cons (R.val (i := 5) rfl) (.cons (R.val (i := 6) rfl) (.cons (R.val (i := 7) rfl) (.nil _))))))))))) (.cons (.flat _ rfl) (.nil _))))

theorem scaleResets_lifted (os : Os) (started : os.Started) (H : Type) (enc : TypeId × Value → H) :
    ReturnsInHanded {} Try.checked os 14 .any (Rows.scaleResetsSpec.pre6 enc Try.prog Try.f14 Rows.scaleResetsRow.domain false) (Rows.scaleResetsSpec.post enc Try.prog Try.f14 false true false false) :=
  law_lift started (by kernel_rfl) Try.func14 rfl (fun ds hl => by rw [Try.params14] at hl; match ds, hl with | [_, _, _], _ => rfl) (by kernel_rfl) (by rw [Try.params14]; intro t ht; simp at ht; rcases ht with rfl | rfl <;> exact ⟨by kernel_rfl, of_decide_eq_true (by kernel_rfl)⟩)
    (ChangeSpec.witness6 (enc := enc) (C := Try.checked) false ⟨#[], #[.agg #[.int .i64 0, .int .u64 0, .int .u64 0, .int .u64 0, .int .u64 0, .slice none 0 0, .slice none 0 0, .slice none 0 0, .slice none 0 0], .agg #[.int .i64 0, .int .u64 0, .int .u64 0, .int .u64 0, .int .u64 0, .slice none 0 0, .slice none 0 0, .slice none 0 0, .slice none 0 0], .int .i64 0], []⟩ 8 (by kernel_rfl) (by kernel_rfl) (by kernel_rfl) (by kernel_rfl)) scaleResets_walk
theorem scaleResets_c1 : (Rows.scaleResetsRow.inPlace == Try.prog.inPlace 14) = true := by kernel_rfl
theorem scaleResets_c2 : (Rows.scaleResetsRow.unfollowed == Try.prog.unfollowed 14) = true := by kernel_rfl
theorem scaleResets_c3 : (Rows.scaleResetsRow.recurses == Try.prog.recurses 14) = true := by kernel_rfl
theorem scaleResets_c4 : (Rows.scaleResetsRow.named == Try.prog.varsNamed 14) = true := by kernel_rfl
theorem scaleResets_c5 : Try.prog.funcNamed Rows.scaleResetsRow.func = some 14 := by kernel_rfl
theorem scaleResets_c6 : Try.f14.isInstance Try.prog Rows.scaleResetsRow.origin Rows.scaleResetsRow.targs := of_decide_eq_true (by kernel_rfl)
theorem scaleResets_c7 : Try.f14.isWrapper Try.prog Rows.scaleResetsRow.wrapper Rows.scaleResetsRow.mainSum := by unfold Func.isWrapper; first | (rw [if_pos (by decide +kernel)]; kernel_rfl) | (rw [if_neg (by decide +kernel)]; exact ⟨rfl, rfl⟩)
theorem scaleResets_over : Rows.scaleResetsRow.holds Try.pinned (OpenSpec.ofChange Rows.scaleResetsSpec) :=
  OpenClaim.holds_of_wide 14 Try.f14 rfl rfl rfl rfl rfl rfl rfl ⟨rfl, rfl, rfl, rfl, rfl⟩ rfl rfl rfl rfl rfl scaleResets_c5 Try.func14
    (closed_law (by kernel_rfl) (by kernel_rfl) (by kernel_rfl) rfl rfl scaleResets_c1 scaleResets_c2 scaleResets_c3 scaleResets_c4 (by kernel_rfl) (by kernel_rfl) (by kernel_rfl) (by kernel_rfl) (by kernel_rfl) rfl (by kernel_rfl) (by kernel_rfl) (by kernel_rfl) rfl rfl rfl rfl rfl rfl (by kernel_rfl) (by kernel_rfl) (by kernel_rfl))
    scaleResets_c6 scaleResets_c7
    (fun os started H enc _ => scaleResets_lifted os started H enc)
theorem scaleResets_holds : Rows.ScaleResetsSaid := scaleResets_over
#print axioms scaleResets_holds
end Go.Proofs.Ytbihgmehjhlojaa
