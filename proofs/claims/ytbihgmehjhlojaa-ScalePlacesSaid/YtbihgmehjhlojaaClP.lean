/-
The law ScalePlaces holds: whatever two places and numbers of steps it is called with, it returns true, and its input reads as it did. No condition.
-/
import Derived.Test.YtbihgmehjhlojaaLwP
set_option linter.unusedVariables false
set_option maxRecDepth 100000
namespace Go.Proofs.Ytbihgmehjhlojaa
open Go Go.RowKit Go.Proofs Go.ChangeShapes Go.WideShapes Go.Am

theorem scalePlaces_walk {H : Type} {enc : TypeId × Value → H} (W : World) (base : Nat) (args : Array Value) (ds : List (DataW H)) (p : List MemPlace) (hval0 : ∀ (j : Nat) t v, Try.f8.params[j]? = some t → args[j]? = some v → Value.okWide Try.prog W .any base t v)
    (hA0 : DataW.TrodAll enc Try.prog W 0 (fun _ => true) true Try.f8.params.toList args.toList ds p) : Calls Try.prog 8 args W fun e W' => e = .returned (.bool true) ∧ Below W.heap.size W W' := by
  have hval : ∀ (j : Nat) t v, #[3, 3, 77][j]? = some t → args[j]? = some v → Value.okWide Try.prog W .any base t v := by rw [Try.params8] at hval0; exact hval0
  have hA : DataW.TrodAll enc Try.prog W 0 (fun _ => true) true [3, 3, 77] args.toList ds p := by rw [Try.params8] at hA0; exact hA0
  obtain ⟨v0, vs0, d0, ds0, p0, q0, hargs, rfl, rfl, h0, r0⟩ := trodAll_cons hA
  obtain ⟨v1, vs1, d1, ds1, p1, q1, rfl, rfl, rfl, h1, r1⟩ := trodAll_cons r0
  obtain ⟨v2, vs2, d2, ds2, p2, q2, rfl, rfl, rfl, h2, r2⟩ := trodAll_cons r1
  obtain ⟨rfl, rfl, rfl⟩ := trodAll_nil r2
  obtain rfl : args = #[v0, v1, v2] := by cases args; simp_all
  obtain ⟨i, rfl, _, _, w0⟩ := open_int Try.underlying3 (hval 0 3 v0 rfl rfl) h0
  obtain ⟨k, rfl, _, _, w1⟩ := open_int Try.underlying3 (hval 1 3 v1 rfl rfl) h1
  obtain ⟨a, b, rfl, wa, wb⟩ := open_two (hval 2 77 v2 rfl rfl) h2
  have R := RowsOK.nil W
  exact (run_law (placesLaw_ok i k a b (wf_i64 w0) (wf_i64 w1)).ok R (fun i h => RowsOK.muNone h) (.cons (.flat _ rfl) (.cons (.flat _ rfl) (.cons (.flat _ rfl) (.nil _))))).mono fun e w h => h

theorem scalePlaces_lifted (os : Os) (started : os.Started) (H : Type) (enc : TypeId × Value → H) :
    ReturnsInHanded {} Try.checked os 8 .any (Rows.scalePlacesSpec.pre6 enc Try.prog Try.f8 Rows.scalePlacesRow.domain false) (Rows.scalePlacesSpec.post enc Try.prog Try.f8 false true false false) :=
  law_lift started (by kernel_rfl) Try.func8 rfl (fun ds hl => by rw [Try.params8] at hl; match ds, hl with | [_, _, _], _ => rfl) (by kernel_rfl) (by rw [Try.params8]; intro t ht; simp at ht; rcases ht with rfl | rfl <;> exact ⟨by kernel_rfl, of_decide_eq_true (by kernel_rfl)⟩)
    (ChangeSpec.witness6 (enc := enc) (C := Try.checked) false ⟨#[], #[.int .i64 0, .int .i64 0, .agg #[.int .i64 0, .int .i64 0]], []⟩ 8 (by kernel_rfl) (by kernel_rfl) (by kernel_rfl) (by kernel_rfl)) scalePlaces_walk

theorem scalePlaces_c1 : (Rows.scalePlacesRow.inPlace == Try.prog.inPlace 8) = true := by kernel_rfl
theorem scalePlaces_c2 : (Rows.scalePlacesRow.unfollowed == Try.prog.unfollowed 8) = true := by kernel_rfl
theorem scalePlaces_c3 : (Rows.scalePlacesRow.recurses == Try.prog.recurses 8) = true := by kernel_rfl
theorem scalePlaces_c4 : (Rows.scalePlacesRow.named == Try.prog.varsNamed 8) = true := by kernel_rfl
theorem scalePlaces_c5 : Try.prog.funcNamed Rows.scalePlacesRow.func = some 8 := by kernel_rfl
theorem scalePlaces_c6 : Try.f8.isInstance Try.prog Rows.scalePlacesRow.origin Rows.scalePlacesRow.targs := of_decide_eq_true (by kernel_rfl)
theorem scalePlaces_c7 : Try.f8.isWrapper Try.prog Rows.scalePlacesRow.wrapper Rows.scalePlacesRow.mainSum := by unfold Func.isWrapper; first | (rw [if_pos (by decide +kernel)]; kernel_rfl) | (rw [if_neg (by decide +kernel)]; exact ⟨rfl, rfl⟩)
theorem scalePlaces_over : Rows.scalePlacesRow.holds Try.pinned (OpenSpec.ofChange Rows.scalePlacesSpec) :=
  OpenClaim.holds_of_wide 8 Try.f8 rfl rfl rfl rfl rfl rfl rfl ⟨rfl, rfl, rfl, rfl, rfl⟩ rfl rfl rfl rfl rfl scalePlaces_c5 Try.func8
    (closed_law (by kernel_rfl) (by kernel_rfl) (by kernel_rfl) rfl rfl scalePlaces_c1 scalePlaces_c2 scalePlaces_c3 scalePlaces_c4 (by kernel_rfl) (by kernel_rfl) (by kernel_rfl) (by kernel_rfl) (by kernel_rfl) rfl (by kernel_rfl) (by kernel_rfl) (by kernel_rfl) rfl rfl rfl rfl rfl rfl (by kernel_rfl) (by kernel_rfl) (by kernel_rfl))
    scalePlaces_c6 scalePlaces_c7
    (fun os started H enc _ => scalePlaces_lifted os started H enc)
theorem scalePlaces_holds : Rows.ScalePlacesSaid := scalePlaces_over
#print axioms scalePlaces_holds
end Go.Proofs.Ytbihgmehjhlojaa
