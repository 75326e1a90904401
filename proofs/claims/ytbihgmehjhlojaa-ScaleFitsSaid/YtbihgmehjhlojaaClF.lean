/-
The law ScaleFits holds: whatever histogram and bound it is called with, it returns true, and its input reads as it did. No condition.
-/
import Derived.Test.YtbihgmehjhlojaaLwf
import Derived.Test.YtbihgmehjhlojaaOpn
set_option linter.unusedVariables false
set_option maxRecDepth 100000
namespace Go.Proofs.Ytbihgmehjhlojaa
open Go Go.RowKit Go.Proofs Go.ChangeShapes Go.WideShapes Go.Am

theorem scaleFits_walk {H : Type} {enc : TypeId × Value → H} (W : World) (base : Nat) (args : Array Value) (ds : List (DataW H)) (p : List MemPlace) (hval0 : ∀ (j : Nat) t v, Try.f12.params[j]? = some t → args[j]? = some v → Value.okWide Try.prog W .any base t v)
    (hA0 : DataW.TrodAll enc Try.prog W 0 (fun _ => true) true Try.f12.params.toList args.toList ds p) : Calls Try.prog 12 args W fun e W' => e = .returned (.bool true) ∧ Below W.heap.size W W' := by
  have hval : ∀ (j : Nat) t v, #[54, 3][j]? = some t → args[j]? = some v → Value.okWide Try.prog W .any base t v := by rw [Try.params12] at hval0; exact hval0
  have hA : DataW.TrodAll enc Try.prog W 0 (fun _ => true) true [54, 3] args.toList ds p := by rw [Try.params12] at hA0; exact hA0
  obtain ⟨v0, vs0, d0, ds0, p0, q0, hargs, rfl, rfl, h0, r0⟩ := trodAll_cons hA
  obtain ⟨v1, vs1, d1, ds1, p1, q1, rfl, rfl, rfl, h1, r1⟩ := trodAll_cons r0
  obtain ⟨rfl, rfl, rfl⟩ := trodAll_nil r1
  obtain rfl : args = #[v0, v1] := by cases args; simp_all
  obtain ⟨x0, c05, c06, c07, c08, rfl, w0, s05, s06, s07, s08⟩ := open_hist (hval 0 54 v0 rfl rfl) h0
  obtain ⟨x1, rfl, _, _, u1⟩ := open_int Try.underlying3 (hval 1 3 v1 rfl rfl) h1
  have w1 := wf_i64 u1
  have R := RowsOK.cons encS_k encS_sc s05 (RowsOK.cons encS_k encS_sc s06 (RowsOK.cons encI_k encI_sc s07 (RowsOK.cons encI_k encI_sc s08 (RowsOK.nil W))))
  exact run_law (fitsLaw_ok x0 x1 w0 w1).ok R (fun i h => RowsOK.muNone h) (.cons (.mkAgg (.cons (.flat _ rfl) (.cons (.flat _ rfl) (.cons (.flat _ rfl) (.cons (.flat _ rfl) (.cons (.flat _ rfl) (.cons (R.val (i := 0) rfl) (.cons (R.val (i := 1) rfl) (.cons (R.val (i := 2) rfl) (.cons (R.val (i := 3) rfl) (.nil _))))))))))) (.cons (.flat _ rfl) (.nil _)))

theorem scaleFits_lifted (os : Os) (started : os.Started) (H : Type) (enc : TypeId × Value → H) :
    ReturnsInHanded {} Try.checked os 12 .any (Rows.scaleFitsSpec.pre6 enc Try.prog Try.f12 Rows.scaleFitsRow.domain false) (Rows.scaleFitsSpec.post enc Try.prog Try.f12 false true false false) :=
  law_lift started (by kernel_rfl) Try.func12 rfl (fun ds hl => by rw [Try.params12] at hl; match ds, hl with | [_, _], _ => rfl) (by kernel_rfl) (by rw [Try.params12]; intro t ht; simp at ht; rcases ht with rfl | rfl <;> exact ⟨by kernel_rfl, of_decide_eq_true (by kernel_rfl)⟩)
    (ChangeSpec.witness6 (enc := enc) (C := Try.checked) false ⟨#[], #[.agg #[.int .i64 0, .int .u64 0, .int .u64 0, .int .u64 0, .int .u64 0, .slice none 0 0, .slice none 0 0, .slice none 0 0, .slice none 0 0], .int .i64 0], []⟩ 8 (by kernel_rfl) (by kernel_rfl) (by kernel_rfl) (by kernel_rfl)) scaleFits_walk
theorem scaleFits_c1 : (Rows.scaleFitsRow.inPlace == Try.prog.inPlace 12) = true := by kernel_rfl
theorem scaleFits_c2 : (Rows.scaleFitsRow.unfollowed == Try.prog.unfollowed 12) = true := by kernel_rfl
theorem scaleFits_c3 : (Rows.scaleFitsRow.recurses == Try.prog.recurses 12) = true := by kernel_rfl
theorem scaleFits_c4 : (Rows.scaleFitsRow.named == Try.prog.varsNamed 12) = true := by kernel_rfl
theorem scaleFits_c5 : Try.prog.funcNamed Rows.scaleFitsRow.func = some 12 := by kernel_rfl
theorem scaleFits_c6 : Try.f12.isInstance Try.prog Rows.scaleFitsRow.origin Rows.scaleFitsRow.targs := of_decide_eq_true (by kernel_rfl)
theorem scaleFits_c7 : Try.f12.isWrapper Try.prog Rows.scaleFitsRow.wrapper Rows.scaleFitsRow.mainSum := by unfold Func.isWrapper; first | (rw [if_pos (by decide +kernel)]; kernel_rfl) | (rw [if_neg (by decide +kernel)]; exact ⟨rfl, rfl⟩)
theorem scaleFits_over : Rows.scaleFitsRow.holds Try.pinned (OpenSpec.ofChange Rows.scaleFitsSpec) :=
  OpenClaim.holds_of_wide 12 Try.f12 rfl rfl rfl rfl rfl rfl rfl ⟨rfl, rfl, rfl, rfl, rfl⟩ rfl rfl rfl rfl rfl scaleFits_c5 Try.func12
    (closed_law (by kernel_rfl) (by kernel_rfl) (by kernel_rfl) rfl rfl scaleFits_c1 scaleFits_c2 scaleFits_c3 scaleFits_c4 (by kernel_rfl) (by kernel_rfl) (by kernel_rfl) (by kernel_rfl) (by kernel_rfl) rfl (by kernel_rfl) (by kernel_rfl) (by kernel_rfl) rfl rfl rfl rfl rfl rfl (by kernel_rfl) (by kernel_rfl) (by kernel_rfl))
    scaleFits_c6 scaleFits_c7
    (fun os started H enc _ => scaleFits_lifted os started H enc)
theorem scaleFits_holds : Rows.ScaleFitsSaid := scaleFits_over
#print axioms scaleFits_holds
end Go.Proofs.Ytbihgmehjhlojaa
