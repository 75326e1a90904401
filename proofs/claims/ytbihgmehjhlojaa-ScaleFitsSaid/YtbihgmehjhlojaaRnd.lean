/-
A side laid as spans and differences reads back as the same side. No program in sight.
-/
import Derived.Test.YtbihgmehjhlojaaFhi
set_option linter.unusedVariables false
set_option linter.unusedSimpArgs false
namespace Go.Am
open Go Go.RowKit Go.Proofs

def seg : Int → Nat → List Int
  | _, 0 => []
  | a, k + 1 => a :: seg (a + 1) k
theorem seg_succ : ∀ (k : Nat) (a : Int), seg a (k + 1) = seg a k ++ [a + (k : Int)]
  | 0, a => by simp [seg]
  | k + 1, a => by
    rw [seg, seg_succ k (a + 1), seg]
    simp only [List.cons_append]
    congr 3
    omega
def plGo : List Sp → Int → List Int
  | [], _ => []
  | s :: r, a => seg (a + s.1) s.2.toNat ++ plGo r (a + s.1 + s.2)
def endGo : List Sp → Int → Int
  | [], a => a
  | s :: r, a => endGo r (a + s.1 + s.2)
theorem run1_seg : ∀ (k : Nat) (n a : Int), (run1 n a k).map (·.2) = seg a k
  | 0, n, a => rfl
  | k + 1, n, a => by simp [run1, seg, run1_seg k]
theorem pairsGo_pl : ∀ (l : List Sp) (a n : Int), (pairsGo l a n).map (·.2) = plGo l a
  | [], a, n => rfl
  | s :: r, a, n => by simp [pairsGo, plGo, run1_seg, pairsGo_pl r]
theorem places_pl {l : List Sp} (h : checkS l = 0) : places l = plGo l 0 := by unfold places allPairs; rw [if_pos h, pairsGo_pl]
theorem plGo_app : ∀ (l m : List Sp) (a : Int), plGo (l ++ m) a = plGo l a ++ plGo m (endGo l a)
  | [], m, a => rfl
  | s :: r, m, a => by simp [plGo, endGo, plGo_app r m]
theorem endGo_app : ∀ (l m : List Sp) (a : Int), endGo (l ++ m) a = endGo m (endGo l a)
  | [], m, a => rfl
  | s :: r, m, a => by simp [endGo, endGo_app r m]
theorem bump_app (o : List Sp) (s : Sp) : bump (o ++ [s]) = o ++ [(s.1, s.2 + 1)] := by
  unfold bump
  have h1 : (o ++ [s]).length - 1 = o.length := by simp
  rw [h1]
  simp
theorem runs_step {o : List Sp} {e p : Int} {L : List Int} (h1 : plGo o 0 = L) (h2 : endGo o 0 = e) (h3 : ∀ s ∈ o, 0 ≤ s.2) :
    plGo (runStep (o, e) p).1 0 = L ++ [p] ∧ endGo (runStep (o, e) p).1 0 = (runStep (o, e) p).2 ∧ ∀ s ∈ (runStep (o, e) p).1, 0 ≤ s.2 := by
  unfold runStep
  simp only
  by_cases hc : o = [] ∨ p ≠ e
  · rw [if_pos hc, bump_app]
    refine ⟨?_, ?_, fun s hs => ?_⟩
    · rw [plGo_app, h1, h2]
      have : e + (p - e) = p := by omega
      simp [plGo, seg, this]
    · rw [endGo_app, h2]; simp [endGo]; omega
    · rcases List.mem_append.1 hs with q | q
      · exact h3 s q
      · simp at q; subst q; simp
  · rw [if_neg hc]
    have ho : o ≠ [] := fun q => hc (.inl q)
    have hp : p = e := Decidable.not_not.1 fun q => hc (.inr q)
    obtain ⟨o', s, rfl⟩ : ∃ o' s, o = o' ++ [s] := ⟨o.dropLast, o.getLast ho, (List.dropLast_concat_getLast ho).symm⟩
    rw [bump_app]
    have hs0 := h3 s (by simp)
    rw [plGo_app] at h1
    rw [endGo_app] at h2
    simp only [plGo, endGo, List.append_nil] at h1 h2
    refine ⟨?_, ?_, fun x hx => ?_⟩
    · rw [plGo_app, ← h1]
      have e1 : (s.2 + 1).toNat = s.2.toNat + 1 := by omega
      simp only [plGo, e1, seg_succ, List.append_nil, List.append_assoc]
      congr 3
      omega
    · rw [endGo_app]; simp only [endGo]; omega
    · rcases List.mem_append.1 hx with q | q
      · exact h3 x (by simp [q])
      · simp at q; subst q; simp; omega
theorem runs_inv (l : List Int) : ∀ i, i ≤ l.length → plGo (runsG (l.take i)).1 0 = l.take i ∧ endGo (runsG (l.take i)).1 0 = (runsG (l.take i)).2 ∧ ∀ s ∈ (runsG (l.take i)).1, 0 ≤ s.2
  | 0, _ => by simp [runsG, plGo, endGo]
  | i + 1, hi => by
    obtain ⟨h1, h2, h3⟩ := runs_inv l i (by omega)
    have hs : l[i]? = some l[i] := List.getElem?_eq_getElem (by omega)
    rw [runsG_next hs]
    have := runs_step (p := l[i]) h1 h2 h3
    rw [take_next hs]
    exact this
theorem runs_places (l : List Int) : plGo (runsF l) 0 = l := by
  have := (runs_inv l l.length (Nat.le_refl _)).1
  rw [List.take_length] at this
  exact this
theorem dltGo_abs : ∀ (v : List Int) (a : Int), (∀ x ∈ v, N63 x) → absGo a (dltGo a v) = some v
  | [], a, h => rfl
  | x :: r, a, h => by
    have hx := h x (List.mem_cons_self ..)
    have e : a + (x - a) = x := by omega
    have hf : fits64 x = true := fits64_iff.2 (by unfold N63 at hx; unfold I64; omega)
    simp only [dltGo, absGo, e, hf, if_true]
    rw [dltGo_abs r x fun y hy => h y (List.mem_cons_of_mem _ hy)]
theorem abs_dlt {v : List Int} (h : ∀ x ∈ v, N63 x) : absL (dlt v) = v := by unfold absL absS dlt; rw [dltGo_abs v 0 h]; rfl
theorem zip_back (P : List (Int × Int)) : (fsts P).zip (snds P) = P := by
  unfold fsts snds
  induction P with
  | nil => rfl
  | cons x r ih => simp [ih]
theorem side_laid {P : List (Int × Int)} (hp : PRow P) (h1 : fromE (fsts P) = 0) (h2 : sideE (fromR (fsts P)) (layD P) = 0) : sideR (fromR (fsts P)) (layD P) = P := by
  have hc := side_count h2
  have hr : fromR (fsts P) = runsF (fsts P) := by unfold fromR; rw [if_pos h1]
  have hd : layD P = dlt (snds P) := by unfold layD; rw [if_pos h1]
  unfold sideR
  rw [if_pos h2, places_pl hc, hr, hd, runs_places, abs_dlt (fun x hx => ?_), zip_back]
  obtain ⟨y, hy, rfl⟩ := List.mem_map.1 hx
  exact hp y hy
theorem makeE_zero {h : HI} {P Q : List (Int × Int)} (e : makeE h P Q = 0) : fromE (fsts P) = 0 ∧ fromE (fsts Q) = 0 ∧ openE (laid h P Q) = 0 := by
  unfold makeE at e
  split at e
  · rename_i q; exact absurd e q
  · rename_i q1; split at e
    · rename_i q; exact absurd e q
    · rename_i q2; exact ⟨Decidable.not_not.1 q1, Decidable.not_not.1 q2, e⟩
theorem posR_laid {h : HI} {P Q : List (Int × Int)} (hp : PRow P) (hq : PRow Q) (e : makeE h P Q = 0) : posR (laid h P Q) = P ∧ negR (laid h P Q) = Q := by
  obtain ⟨h1, h2, h3⟩ := makeE_zero e
  obtain ⟨s1, s2⟩ := openE_sides h3
  unfold posR negR
  rw [if_pos h3, if_pos h3]
  exact ⟨side_laid hp h1 s1, side_laid hq h2 s2⟩
end Go.Am
