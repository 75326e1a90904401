/-
A side's places rise; widening twice is widening at once; a histogram on its own schema is its canonical form. No program in sight.
-/
import Derived.Test.YtbihgmehjhlojaaWid
set_option linter.unusedVariables false
set_option linter.unusedSimpArgs false
namespace Go.Am
open Go Go.RowKit Go.Proofs

theorem seg_in : ∀ (k : Nat) (a x : Int), x ∈ seg a k → a ≤ x ∧ x < a + k
  | 0, a, x, h => by cases h
  | k + 1, a, x, h => by
    simp only [seg] at h
    rcases List.mem_cons.1 h with rfl | h
    · omega
    · have := seg_in k (a + 1) x h; omega
theorem seg_rises : ∀ (k : Nat) (a : Int), (seg a k).Pairwise (· < ·)
  | 0, a => .nil
  | k + 1, a => by
    simp only [seg]
    rw [List.pairwise_cons]
    exact ⟨fun x hx => by have := seg_in k (a + 1) x hx; omega, seg_rises k (a + 1)⟩
theorem plGo_rises : ∀ {l : List Sp} {f : Bool} {a n : Int}, rightGo l f a n = true → (plGo l a).Pairwise (· < ·) ∧ (f = false → ∀ x ∈ plGo l a, a ≤ x)
  | [], f, a, n, h => ⟨.nil, fun _ x hx => by cases hx⟩
  | s :: r, f, a, n, h => by
    obtain ⟨b1, b2, b3, b4, b5, b6, h2⟩ := rightGo_at (l := r) h rfl
    obtain ⟨r1, r2⟩ := plGo_rises h2
    have r3 := r2 rfl
    simp only [plGo]
    refine ⟨?_, fun hf x hx => ?_⟩
    · rw [List.pairwise_append]
      exact ⟨seg_rises _ _, r1, fun x hx y hy => by have := seg_in _ _ _ hx; have := r3 y hy; omega⟩
    · have hs : 0 ≤ s.1 := by
        rw [rightGo_cons] at h
        split at h
        · cases h
        · rename_i q
          subst hf
          simp [bad1] at q
          omega
      rcases List.mem_append.1 hx with q | q
      · have := seg_in _ _ _ q; omega
      · have := r3 x q; omega
theorem places_rise {l : List Sp} (h : checkS l = 0) : (places l).Pairwise (· < ·) := by
  rw [places_pl h]
  exact (plGo_rises (checkS_zero.1 h).2).1
theorem zip_rises : ∀ {a : List Int} {c : List Int}, a.Pairwise (· < ·) → Rises (a.zip c)
  | [], c, h => by simp [Rises]
  | x :: a, [], h => by simp [Rises]
  | x :: a, y :: c, h => by
    rw [List.pairwise_cons] at h
    unfold Rises
    rw [List.zip_cons_cons, List.pairwise_cons]
    exact ⟨fun z hz => h.1 _ (List.of_mem_zip hz).1, zip_rises h.2⟩
theorem sideR_rises (l : List Sp) (d : List Int) : Rises (sideR l d) := by
  unfold sideR
  split
  · rename_i h; exact zip_rises (places_rise (side_count h))
  · exact .nil
theorem posR_rises (h : HI) : Rises (posR h) := by unfold posR; split; exact sideR_rises _ _; exact .nil
theorem negR_rises (h : HI) : Rises (negR h) := by unfold negR; split; exact sideR_rises _ _; exact .nil

theorem tot_set {b q v : Int} {o : List (Int × Int)} (ho : o ≠ []) : tot b q (o.set (o.length - 1) ((lastP o).1, v)) = tot b q o + (if placeS (lastP o).1 b = q then v - (lastP o).2 else 0) := by
  obtain ⟨r, s, rfl, hs⟩ := last_split ho
  have h1 : (r ++ [s]).length - 1 = r.length := by simp
  rw [hs, h1]
  have h2 : (r ++ [s]).set r.length (s.1, v) = r ++ [(s.1, v)] := by simp
  rw [h2, tot_app, tot_app, tot_cons, tot_cons, tot_nil]
  split <;> omega
theorem widGo_tot {a b q : Int} (ha : 0 ≤ a) (ha2 : a ≤ 30) (hb : 0 ≤ b) (hb2 : b ≤ 30) : ∀ {l o r : List (Int × Int)}, widGo addI a l o = some r → tot b q r = tot b q o + tot (a + b) q l
  | [], o, r, h => by simp only [widGo, Option.some.injEq] at h; subst h; rw [tot_nil]; omega
  | p :: l, o, r, h => by
    have hpl : placeS (placeS p.1 a) b = placeS p.1 (a + b) := placeS_add ha ha2 hb hb2
    simp only [widGo] at h
    split at h
    · rename_i o' hst
      have h1 := widGo_tot ha ha2 hb hb2 (q := q) h
      have h2 : tot b q o' = tot b q o + (if placeS p.1 (a + b) = q then p.2 else 0) := by
        unfold widStep at hst
        split at hst
        · rename_i hc
          split at hst
          · rename_i v hv
            injection hst with hst; subst hst
            have hv2 : v = (lastP o).2 + p.2 := by
              unfold addI at hv
              split at hv
              · injection hv with hv; exact hv.symm
              · cases hv
            rw [tot_set hc.1, hc.2, hpl, hv2]
            split <;> omega
          · cases hst
        · injection hst with hst; subst hst
          rw [tot_app, tot_cons, tot_nil, hpl]; omega
      rw [h1, h2, tot_cons]; omega
    · cases h
theorem tot_nz {b q : Int} : ∀ l : List (Int × Int), tot b q (nz l) = tot b q l
  | [] => rfl
  | x :: l => by
    have ih := tot_nz (b := b) (q := q) l
    by_cases hx : x.2 = 0
    · have e : nz (x :: l) = nz l := by simp [nz, hx]
      rw [e, ih, tot_cons, hx]; split <;> omega
    · have e : nz (x :: l) = x :: nz l := by simp [nz, hx]
      rw [e, tot_cons, tot_cons, ih]
theorem wid_tot {a b q : Int} (ha : 0 ≤ a) (ha2 : a ≤ 30) (hb : 0 ≤ b) (hb2 : b ≤ 30) {l : List (Int × Int)} (h : (widF addI a l).isSome = true) : tot b q (nz (widR addI a l)) = tot (a + b) q l := by
  rw [tot_nz]
  obtain ⟨r, hr⟩ := Option.isSome_iff_exists.1 h
  have e : widR addI a l = r := by unfold widR; rw [hr]; rfl
  rw [e, widGo_tot ha ha2 hb hb2 hr, tot_nil]; omega
theorem wid_row {b : Int} {l : List (Int × Int)} (h : WOK N63 l) : PRow (nz (widR addI b l)) := (widR_wok (fun x y v => addI_n63) h).1.nz.row
theorem wid_twice {a b : Int} (ha : 0 ≤ a) (ha2 : a ≤ 30) (hb : 0 ≤ b) (hb2 : b ≤ 30) {l : List (Int × Int)} (hl : WOK N63 l) (hr : Rises l) (h : (widF addI a l).isSome = true) :
    ((widF addI b (nz (widR addI a l))).isSome = true ↔ (widF addI (a + b) l).isSome = true) ∧ ((widF addI (a + b) l).isSome = true → nz (widR addI b (nz (widR addI a l))) = nz (widR addI (a + b) l)) := by
  have hg := (wid_gath hl.row (hr.climbs a)).2 h
  have hm : PRow (nz (widR addI a l)) := wid_row hl
  have hmr : Rises (nz (widR addI a l)) := nz_rises hg.up
  have W1 := wid_gath hm (hmr.climbs b)
  have W2 := wid_gath hl.row (hr.climbs (a + b))
  have hiff : (widF addI b (nz (widR addI a l))).isSome = true ↔ (widF addI (a + b) l).isSome = true := by
    rw [W1.1, W2.1]
    constructor
    · intro f q; rw [← wid_tot ha ha2 hb hb2 h]; exact f q
    · intro f q; rw [wid_tot ha ha2 hb hb2 h]; exact f q
  refine ⟨hiff, fun hs => ?_⟩
  have g1 := W1.2 (hiff.2 hs)
  have g2 := W2.2 hs
  refine rises_ext (nz_rises g1.up) (nz_rises g2.up) fun x => ?_
  rw [mem_wid hm g1, mem_wid hl.row g2, wid_tot ha ha2 hb hb2 h]
theorem placeS_zero (p : Int) : placeS p 0 = p := by
  unfold placeS
  rw [if_neg (by omega)]
  simp [cdiv]
theorem wid_self {l : List (Int × Int)} (hl : WOK N63 l) (hr : Rises l) : (widF addI 0 l).isSome = true ∧ nz (widR addI 0 l) = nz l := by
  have W := wid_gath hl.row (hr.climbs 0)
  have ht : ∀ {m : List (Int × Int)}, Rises m → ∀ q, (∀ x ∈ m, x.1 = q → tot 0 q m = x.2) := by
    intro m
    induction m with
    | nil => intro _ q x hx; cases hx
    | cons y m ih =>
      intro hm q x hx he
      unfold Rises at hm
      rw [List.pairwise_cons] at hm
      rw [tot_cons, placeS_zero]
      rcases List.mem_cons.1 hx with rfl | hx
      · rw [if_pos he, tot_zero fun z hz => by rw [placeS_zero]; have := hm.1 z hz; omega]; omega
      · rw [if_neg (by have := hm.1 x hx; omega), ih hm.2 q x hx he]; omega
  have hf : Fits 0 l := fun q => by
    by_cases hz : tot 0 q l = 0
    · omega
    · obtain ⟨x, hx, e⟩ := tot_pos hl.row hz
      rw [placeS_zero] at e
      rw [ht hr q x hx e]
      exact (hl x hx).2.2
  have hs := W.1.2 hf
  refine ⟨hs, rises_ext (nz_rises (W.2 hs).up) (nz_rises hr) fun x => ?_⟩
  rw [mem_wid hl.row (W.2 hs), mem_nz]
  constructor
  · rintro ⟨h1, h2⟩
    refine ⟨?_, h2⟩
    obtain ⟨y, hy, e⟩ := tot_pos hl.row (show tot 0 x.1 l ≠ 0 by rw [← h1]; exact h2)
    rw [placeS_zero] at e
    have := ht hr x.1 y hy e
    have e2 : x = y := Prod.ext e.symm (by rw [h1, this])
    rw [e2]; exact hy
  · rintro ⟨h1, h2⟩
    exact ⟨(ht hr x.1 x h1 rfl).symm, h2⟩

/-! ### histograms -/
theorem scH_def (h : HI) (to : Int) : scH h to = if scE h to = 0 then laid { h with schema := to } (scP h to) (scN h to) else HI0 := rfl
theorem sc_twice {h : HI} {first to : Int} (e : scE h first = 0) (hto : ¬ to > first) : scE (scH h first) to = scE h to ∧ scH (scH h first) to = scH h to := by
  have k := sc_ok e
  obtain ⟨s1, s2, s3⟩ := sc_sides e
  have hsch := head_schema (openE_head k.op)
  have hsn : (scH h first).schema = first := by rw [scH_eq e]; rfl
  have hwr := k.wr
  simp [wrongS] at hwr
  by_cases hlow : to < -4
  · have w1 : wrongS (scH h first).schema to = true := by simp [wrongS, hlow]
    have w2 : wrongS h.schema to = true := by simp [wrongS, hlow]
    have e1 : scE (scH h first) to = 21 := by unfold scE; rw [if_neg (by rw [s3]; simp), if_pos w1]
    have e2 : scE h to = 21 := by unfold scE; rw [if_neg (by rw [k.op]; simp), if_pos w2]
    rw [e1, e2, scH_bad (by rw [e1]; decide), scH_bad (by rw [e2]; decide)]
    exact ⟨rfl, rfl⟩
  · have w1 : wrongS (scH h first).schema to = false := by rw [hsn]; simp [wrongS]; omega
    have w2 : wrongS h.schema to = false := by simp [wrongS]; omega
    have hab : h.schema - first + (first - to) = h.schema - to := by omega
    obtain ⟨p1, p2⟩ := wid_twice (a := h.schema - first) (b := first - to) (by omega) (by omega) (by omega) (by omega) (posR_wok h) (posR_rises h) k.sp
    obtain ⟨n1, n2⟩ := wid_twice (a := h.schema - first) (b := first - to) (by omega) (by omega) (by omega) (by omega) (negR_wok h) (negR_rises h) k.sn
    rw [hab] at p1 p2 n1 n2
    have b1 : (widF addI ((scH h first).schema - to) (posR (scH h first))).isSome = (widF addI (h.schema - to) (posR h)).isSome := by
      rw [hsn, s1]; exact Bool.eq_iff_iff.2 p1
    have b2 : (widF addI ((scH h first).schema - to) (negR (scH h first))).isSome = (widF addI (h.schema - to) (negR h)).isSome := by
      rw [hsn, s2]; exact Bool.eq_iff_iff.2 n1
    by_cases hok : (widF addI (h.schema - to) (posR h)).isSome = false ∨ (widF addI (h.schema - to) (negR h)).isSome = false
    · have e1 : scE (scH h first) to = 28 := by unfold scE; rw [if_neg (by rw [s3]; simp), if_neg (by rw [w1]; simp), b1, b2, if_pos hok]
      have e2 : scE h to = 28 := by unfold scE; rw [if_neg (by rw [k.op]; simp), if_neg (by rw [w2]; simp), if_pos hok]
      rw [e1, e2, scH_bad (by rw [e1]; decide), scH_bad (by rw [e2]; decide)]
      exact ⟨rfl, rfl⟩
    · have hok2 := hok
      rw [not_or] at hok2
      have q1 : (widF addI (h.schema - to) (posR h)).isSome = true := by cases c : (widF addI (h.schema - to) (posR h)).isSome; exact absurd c hok2.1; rfl
      have q2 : (widF addI (h.schema - to) (negR h)).isSome = true := by cases c : (widF addI (h.schema - to) (negR h)).isSome; exact absurd c hok2.2; rfl
      have hP : scP (scH h first) to = scP h to := by unfold scP; rw [hsn, s1]; exact p2 q1
      have hN : scN (scH h first) to = scN h to := by unfold scN; rw [hsn, s2]; exact n2 q2
      have hl : ∀ P Q, laid { scH h first with schema := to } P Q = laid { h with schema := to } P Q := fun P Q => by rw [scH_eq e]; rfl
      have hm : ∀ P Q, makeE { scH h first with schema := to } P Q = makeE { h with schema := to } P Q := fun P Q => by unfold makeE; rw [hl]
      have e1 : scE (scH h first) to = scE h to := by
        unfold scE
        rw [if_neg (show ¬ openE (scH h first) ≠ 0 by rw [s3]; simp), if_neg (show ¬ wrongS (scH h first).schema to = true by rw [w1]; simp), b1, b2, if_neg hok, if_neg (show ¬ openE h ≠ 0 by rw [k.op]; simp), if_neg (show ¬ wrongS h.schema to = true by rw [w2]; simp), if_neg hok, hP, hN, hm]
      refine ⟨e1, ?_⟩
      rw [scH_def (scH h first) to, scH_def h to, e1, hP, hN]
      split
      · exact hl _ _
      · rfl
theorem sc_own {h : HI} : cnE h = scE h h.schema ∧ cnH h = scH h h.schema := by
  by_cases ho : openE h = 0
  · have hs := head_schema (openE_head ho)
    have w : wrongS h.schema h.schema = false := by simp [wrongS]; omega
    obtain ⟨p1, p2⟩ := wid_self (posR_wok h) (posR_rises h)
    obtain ⟨n1, n2⟩ := wid_self (negR_wok h) (negR_rises h)
    have z : h.schema - h.schema = 0 := by omega
    have hP : scP h h.schema = nz (posR h) := by unfold scP; rw [z]; exact p2
    have hN : scN h h.schema = nz (negR h) := by unfold scN; rw [z]; exact n2
    have e : cnE h = scE h h.schema := by
      unfold cnE scE
      rw [if_neg (by rw [ho]; simp), if_neg (by rw [ho]; simp), if_neg (by rw [w]; simp), z, p1, n1, if_neg (by simp), hP, hN]
    refine ⟨e, ?_⟩
    unfold cnH scH
    rw [e, hP, hN]
  · have e1 : cnE h = openE h := by unfold cnE; rw [if_pos ho]
    have e2 : scE h h.schema = openE h := by unfold scE; rw [if_pos ho]
    rw [e1, e2, cnH_bad (by rw [e1]; exact ho), scH_bad (by rw [e2]; exact ho)]
    exact ⟨rfl, rfl⟩
theorem sc_above {h : HI} {first to : Int} (e : scE h first = 0) (hto : to > first) : scE (scH h first) to = 21 := by
  obtain ⟨_, _, s3⟩ := sc_sides e
  have hsn : (scH h first).schema = first := by rw [scH_eq e]; rfl
  unfold scE
  rw [if_neg (by rw [s3]; simp), if_pos (by rw [hsn]; simp [wrongS, hto])]
end Go.Am
