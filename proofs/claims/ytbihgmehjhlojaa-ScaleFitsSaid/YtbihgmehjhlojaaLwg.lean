/-
How many buckets on a lower schema: the program's count is the document's; the lower the schema, the fewer. No program in sight.
-/
import Derived.Test.YtbihgmehjhlojaaRei
set_option linter.unusedVariables false
set_option linter.unusedSimpArgs false
namespace Go.Am
open Go Go.RowKit Go.Proofs

theorem manyGo_wide {b : Int} : ∀ (l : List (Int × Int)) (o : List Int) (n t : Int), (o.length : Int) = n → (o ≠ [] → o.getD (o.length - 1) 0 = t) → manyGo b l n t = ((((fsts l).foldl (widStepP b) o).length : Nat) : Int)
  | [], o, n, t, hn, ht => by simp [manyGo, fsts, hn]
  | p :: r, o, n, t, hn, ht => by
    have e : fsts (p :: r) = p.1 :: fsts r := rfl
    rw [e, List.foldl_cons]
    simp only [manyGo]
    by_cases c : n = 0 ∨ placeS p.1 b ≠ t
    · rw [if_pos c]
      have hst : widStepP b o p.1 = o ++ [placeS p.1 b] := wide_new (by
        by_cases q : o = []
        · exact .inl q
        · refine .inr ?_
          rw [ht q]
          rcases c with c | c
          · have := List.length_pos_iff.2 q; omega
          · exact fun e => c e.symm)
      rw [hst]
      exact manyGo_wide r _ _ _ (by simp; omega) (fun _ => by simp)
    · rw [if_neg c]
      have hst : widStepP b o p.1 = o := by
        unfold widStepP
        rw [if_neg]
        rintro (q | q)
        · subst q; simp at hn; exact c (.inl hn.symm)
        · have ho : o ≠ [] := fun z => by subst z; simp at hn; exact c (.inl hn.symm)
          rw [ht ho] at q
          exact c (.inr fun e => q e.symm)
      rw [hst]
      exact manyGo_wide r o n t hn ht
theorem many_wide (b : Int) (l : List (Int × Int)) : manyS b l = (((wideS b (fsts l)).length : Nat) : Int) := manyGo_wide l [] 0 0 rfl (fun h => absurd rfl h)
theorem nz_pos {l : List (Int × Int)} (h : PRow l) : nz l = l.filter posP := by
  unfold nz
  refine List.filter_congr fun x hx => ?_
  have := (h x hx).1
  unfold posP
  by_cases c : x.2 = 0
  · simp [c]
  · simp [c]; omega
theorem cnt_many {h : HI} (e : openE h = 0) (to : Int) : cntS h to = manyP h to + manyN h to := by
  unfold cntS manyP manyN
  rw [many_wide, many_wide, nz_pos (posR_row h), nz_pos (negR_row h)]
  have hp : posR h = sideR h.pos h.pd := by unfold posR; rw [if_pos e]
  have hn : negR h = sideR h.neg h.nd := by unfold negR; rw [if_pos e]
  rw [hp, hn, sideR_pc, sideR_pc]
  rfl
theorem manyGo_low {b c : Int} (hb : 0 ≤ b) (hb2 : b ≤ 30) (hc : 0 ≤ c) (hc2 : c ≤ 30) : ∀ (l : List (Int × Int)) (n t m u : Int), 0 ≤ m → m ≤ n → (n = 0 ↔ m = 0) → (m ≠ 0 → u = placeS t c) → manyGo (b + c) l m u ≤ manyGo b l n t
  | [], n, t, m, u, h0, h1, h2, h3 => by simpa [manyGo] using h1
  | p :: r, n, t, m, u, h0, h1, h2, h3 => by
    have e : placeS p.1 (b + c) = placeS (placeS p.1 b) c := (placeS_add hb hb2 hc hc2).symm
    simp only [manyGo]
    by_cases q : n = 0 ∨ placeS p.1 b ≠ t
    · rw [if_pos q]
      by_cases w : m = 0 ∨ placeS p.1 (b + c) ≠ u
      · rw [if_pos w]; exact manyGo_low hb hb2 hc hc2 r _ _ _ _ (by omega) (by omega) (by omega) (fun _ => e)
      · rw [if_neg w]
        have w1 : m ≠ 0 := fun z => w (.inl z)
        have w2 : placeS p.1 (b + c) = u := Decidable.not_not.1 fun z => w (.inr z)
        exact manyGo_low hb hb2 hc hc2 r _ _ _ _ h0 (by omega) (by omega) (fun _ => by rw [← w2, e])
    · rw [if_neg q]
      have q1 : n ≠ 0 := fun z => q (.inl z)
      have q2 : placeS p.1 b = t := Decidable.not_not.1 fun z => q (.inr z)
      have w1 : m ≠ 0 := fun z => q1 (h2.2 z)
      rw [if_neg (by rintro (z | z); exact w1 z; exact z (by rw [e, q2, h3 w1]))]
      exact manyGo_low hb hb2 hc hc2 r _ _ _ _ h0 h1 h2 h3
theorem cnt_low {h : HI} {u to : Int} (h1 : u ≤ h.schema) (h2 : to ≤ u) (h3 : -4 ≤ to) (h4 : h.schema ≤ 8) : cntS h to ≤ cntS h u := by
  have f : ∀ l, manyS (h.schema - to) l ≤ manyS (h.schema - u) l := fun l => by
    have e : h.schema - to = h.schema - u + (u - to) := by omega
    rw [e]
    exact manyGo_low (by omega) (by omega) (by omega) (by omega) l 0 0 0 0 (by omega) (by omega) Iff.rfl (fun z => absurd rfl z)
  unfold cntS
  have := f (nz (posR h))
  have := f (nz (negR h))
  omega
theorem fitGo_some {h : HI} {most : Int} : ∀ {n : Nat} {t : Int}, fitGo h most n = some t → -4 ≤ t ∧ t < (n : Int) - 4 ∧ cntS h t ≤ most ∧ ∀ u, t < u → u < (n : Int) - 4 → ¬ cntS h u ≤ most
  | 0, t, e => by cases e
  | n + 1, t, e => by
    simp only [fitGo] at e
    split at e
    · rename_i c
      injection e with e; subst e
      exact ⟨by omega, by omega, c, fun u h1 h2 => by omega⟩
    · rename_i c
      obtain ⟨i1, i2, i3, i4⟩ := fitGo_some e
      refine ⟨i1, by omega, i3, fun u h1 h2 => ?_⟩
      by_cases q : u = (n : Int) - 4
      · rw [q]; exact c
      · exact i4 u h1 (by omega)
theorem fitGo_none {h : HI} {most : Int} : ∀ {n : Nat}, fitGo h most n = none → ∀ u, -4 ≤ u → u < (n : Int) - 4 → ¬ cntS h u ≤ most
  | 0, e, u, h1, h2 => by omega
  | n + 1, e, u, h1, h2 => by
    simp only [fitGo] at e
    split at e
    · cases e
    · rename_i c
      by_cases q : u = (n : Int) - 4
      · rw [q]; exact c
      · exact fitGo_none e u h1 (by omega)
end Go.Am
