/-
The law ScaleKeeps holds: whatever histogram and schema it is called with, it returns true, and its input reads as it did. No condition.
-/
import Derived.Test.YtbihgmehjhlojaaLwk
set_option linter.unusedVariables false
set_option maxRecDepth 100000
namespace Go.Proofs.Ytbihgmehjhlojaa
open Go Go.RowKit Go.Proofs Go.ChangeShapes Go.WideShapes Go.Am

theorem scaleKeeps_walk {H : Type} {enc : TypeId × Value → H} (W : World) (base : Nat) (args : Array Value) (ds : List (DataW H)) (p : List MemPlace) (hval0 : ∀ (j : Nat) t v, Try.f11.params[j]? = some t → args[j]? = some v → Value.okWide Try.prog W .any base t v)
    (hA0 : DataW.TrodAll enc Try.prog W 0 (fun _ => true) true Try.f11.params.toList args.toList ds p) : Calls Try.prog 11 args W fun e W' => e = .returned (.bool true) ∧ Below W.heap.size W W' := by
  have hval : ∀ (j : Nat) t v, #[54, 3][j]? = some t → args[j]? = some v → Value.okWide Try.prog W .any base t v := by rw [Try.params11] at hval0; exact hval0
  have hA : DataW.TrodAll enc Try.prog W 0 (fun _ => true) true [54, 3] args.toList ds p := by rw [Try.params11] at hA0; exact hA0
  obtain ⟨v0, vs0, d0, ds0, p0, q0, hargs, rfl, rfl, h0, r0⟩ := trodAll_cons hA
  obtain ⟨v1, vs1, d1, ds1, p1, q1, rfl, rfl, rfl, h1, r1⟩ := trodAll_cons r0
  obtain ⟨rfl, rfl, rfl⟩ := trodAll_nil r1
  obtain rfl : args = #[v0, v1] := by cases args; simp_all
  obtain ⟨x0, c05, c06, c07, c08, rfl, w0, s05, s06, s07, s08⟩ := open_hist (hval 0 54 v0 rfl rfl) h0
  obtain ⟨x1, rfl, _, _, u1⟩ := open_int Try.underlying3 (hval 1 3 v1 rfl rfl) h1
  have w1 := wf_i64 u1
  have R := RowsOK.cons encS_k encS_sc s05 (RowsOK.cons encS_k encS_sc s06 (RowsOK.cons encI_k encI_sc s07 (RowsOK.cons encI_k encI_sc s08 (RowsOK.nil W))))
  exact run_law (keepsLaw_ok x0 x1 w0 w1).ok R (fun i h => RowsOK.muNone h) (.cons (.mkAgg (.cons (.flat _ rfl) (.cons (.flat _ rfl) (.cons (.flat _ rfl) (.cons (.flat _ rfl) (.cons (.flat _ rfl) (.cons (R.val (i := 0) rfl) (.cons (R.val (i := 1) rfl) (.cons (R.val (i := 2) rfl) (.cons (R.val (i := 3) rfl) (.nil _))))))))))) (.cons (.flat _ rfl) (.nil _)))

theorem scaleKeeps_lifted (os : Os) (started : os.Started) (H : Type) (enc : TypeId × Value → H) :
    ReturnsInHanded {} Try.checked os 11 .any (Rows.scaleKeepsSpec.pre6 enc Try.prog Try.f11 Rows.scaleKeepsRow.domain false) (Rows.scaleKeepsSpec.post enc Try.prog Try.f11 false true false false) :=
  law_lift started (by kernel_rfl) Try.func11 rfl (fun ds hl => by rw [Try.params11] at hl; match ds, hl with | [_, _], _ => rfl) (by kernel_rfl) (by rw [Try.params11]; intro t ht; simp at ht; rcases ht with rfl | rfl <;> exact ⟨by kernel_rfl, of_decide_eq_true (by kernel_rfl)⟩)
    (ChangeSpec.witness6 (enc := enc) (C := Try.checked) false ⟨#[], #[.agg #[.int .i64 0, .int .u64 0, .int .u64 0, .int .u64 0, .int .u64 0, .slice none 0 0, .slice none 0 0, .slice none 0 0, .slice none 0 0], .int .i64 0], []⟩ 8 (by kernel_rfl) (by kernel_rfl) (by kernel_rfl) (by kernel_rfl)) scaleKeeps_walk
theorem scaleKeeps_c1 : (Rows.scaleKeepsRow.inPlace == Try.prog.inPlace 11) = true := by kernel_rfl
theorem scaleKeeps_c2 : (Rows.scaleKeepsRow.unfollowed == Try.prog.unfollowed 11) = true := by kernel_rfl
theorem scaleKeeps_c3 : (Rows.scaleKeepsRow.recurses == Try.prog.recurses 11) = true := by kernel_rfl
theorem scaleKeeps_c4 : (Rows.scaleKeepsRow.named == Try.prog.varsNamed 11) = true := by kernel_rfl
theorem scaleKeeps_c5 : Try.prog.funcNamed Rows.scaleKeepsRow.func = some 11 := by kernel_rfl
theorem scaleKeeps_c6 : Try.f11.isInstance Try.prog Rows.scaleKeepsRow.origin Rows.scaleKeepsRow.targs := of_decide_eq_true (by kernel_rfl)
theorem scaleKeeps_c7 : Try.f11.isWrapper Try.prog Rows.scaleKeepsRow.wrapper Rows.scaleKeepsRow.mainSum := by unfold Func.isWrapper; first | (rw [if_pos (by decide +kernel)]; kernel_rfl) | (rw [if_neg (by decide +kernel)]; exact ⟨rfl, rfl⟩)
theorem scaleKeeps_over : Rows.scaleKeepsRow.holds Try.pinned (OpenSpec.ofChange Rows.scaleKeepsSpec) :=
  OpenClaim.holds_of_wide 11 Try.f11 rfl rfl rfl rfl rfl rfl rfl ⟨rfl, rfl, rfl, rfl, rfl⟩ rfl rfl rfl rfl rfl scaleKeeps_c5 Try.func11
    (closed_law (by kernel_rfl) (by kernel_rfl) (by kernel_rfl) rfl rfl scaleKeeps_c1 scaleKeeps_c2 scaleKeeps_c3 scaleKeeps_c4 (by kernel_rfl) (by kernel_rfl) (by kernel_rfl) (by kernel_rfl) (by kernel_rfl) rfl (by kernel_rfl) (by kernel_rfl) (by kernel_rfl) rfl rfl rfl rfl rfl rfl (by kernel_rfl) (by kernel_rfl) (by kernel_rfl))
    scaleKeeps_c6 scaleKeeps_c7
    (fun os started H enc _ => scaleKeeps_lifted os started H enc)
theorem scaleKeeps_holds : Rows.ScaleKeepsSaid := scaleKeeps_over
#print axioms scaleKeeps_holds
end Go.Proofs.Ytbihgmehjhlojaa
