/-
Wider buckets, told place by place: what widening a rising side gives, and that widening twice is widening at once. No program in sight.
-/
import Derived.Test.YtbihgmehjhlojaaLwk
set_option linter.unusedVariables false
set_option linter.unusedSimpArgs false
namespace Go.Am
open Go Go.RowKit Go.Proofs

/-- what lies within the wider bucket q -/
def inW (b q : Int) (l : List (Int × Int)) : List (Int × Int) := l.filter fun x => decide (placeS x.1 b = q)
def tot (b q : Int) (l : List (Int × Int)) : Int := sumV (inW b q l)
theorem tot_nil (b q : Int) : tot b q [] = 0 := rfl
theorem tot_cons (b q : Int) (x : Int × Int) (l : List (Int × Int)) : tot b q (x :: l) = (if placeS x.1 b = q then x.2 else 0) + tot b q l := by
  unfold tot inW
  by_cases h : placeS x.1 b = q
  · simp [h, sumV]
  · simp [h]
theorem tot_app (b q : Int) (l m : List (Int × Int)) : tot b q (l ++ m) = tot b q l + tot b q m := by
  unfold tot inW; rw [List.filter_append, sumV_app]
theorem tot_nonneg {b q : Int} {l : List (Int × Int)} (h : PRow l) : 0 ≤ tot b q l := sumV_nonneg fun x hx => h x (List.mem_filter.1 hx).1
/-- places rise -/
def Rises (l : List (Int × Int)) : Prop := l.Pairwise fun x y => x.1 < y.1
/-- places do not fall -/
def Climbs (b : Int) (l : List (Int × Int)) : Prop := l.Pairwise fun x y => placeS x.1 b ≤ placeS y.1 b
theorem Rises.climbs {l : List (Int × Int)} (h : Rises l) (b : Int) : Climbs b l := h.imp fun hxy => placeS_mono (by omega)

/-- what is gathered so far: rising, and each bucket has what lies within it -/
structure Gath (b : Int) (l o : List (Int × Int)) : Prop where
  up : Rises o
  val : ∀ y ∈ o, y.2 = tot b y.1 l
  all : ∀ x ∈ l, ∃ y ∈ o, y.1 = placeS x.1 b
  from_ : ∀ y ∈ o, ∃ x ∈ l, y.1 = placeS x.1 b
theorem Gath.nil (b : Int) : Gath b [] [] := ⟨.nil, (fun y h => by cases h), (fun x h => by cases h), (fun y h => by cases h)⟩
theorem last_split {o : List (Int × Int)} (h : o ≠ []) : ∃ r s, o = r ++ [s] ∧ lastP o = s := by
  refine ⟨o.dropLast, o.getLast h, (List.dropLast_concat_getLast h).symm, ?_⟩
  unfold lastP
  rw [List.getD_eq_getElem?_getD, ← List.getLast?_eq_getElem?, List.getLast?_eq_some_getLast h]; rfl
theorem tot_zero {b q : Int} : ∀ {l : List (Int × Int)}, (∀ x ∈ l, placeS x.1 b ≠ q) → tot b q l = 0
  | [], _ => rfl
  | x :: l, h => by
    rw [tot_cons, if_neg (h x (List.mem_cons_self ..)), tot_zero fun y hy => h y (List.mem_cons_of_mem _ hy)]; rfl
/-- one more, behind all -/
theorem Gath.step {b : Int} {l o : List (Int × Int)} {p : Int × Int} (g : Gath b l o) (hup : ∀ x ∈ l, placeS x.1 b ≤ placeS p.1 b) :
    (o ≠ [] ∧ (lastP o).1 = placeS p.1 b → Gath b (l ++ [p]) (o.set (o.length - 1) ((lastP o).1, (lastP o).2 + p.2)) ∧ (lastP o).2 + p.2 = tot b (placeS p.1 b) (l ++ [p])) ∧
    (¬ (o ≠ [] ∧ (lastP o).1 = placeS p.1 b) → Gath b (l ++ [p]) (o ++ [(placeS p.1 b, p.2)])) := by
  have hle : ∀ y ∈ o, y.1 ≤ placeS p.1 b := fun y hy => by
    obtain ⟨x, hx, e⟩ := g.from_ y hy
    rw [e]; exact hup x hx
  constructor
  · rintro ⟨ho, he⟩
    obtain ⟨r, s, rfl, hs⟩ := last_split ho
    rw [hs] at he ⊢
    have h1 : (r ++ [s]).length - 1 = r.length := by simp
    rw [h1]
    have h2 : (r ++ [s]).set r.length (s.1, s.2 + p.2) = r ++ [(s.1, s.2 + p.2)] := by simp
    rw [h2]
    have hup2 := g.up
    unfold Rises at hup2
    rw [List.pairwise_append] at hup2
    obtain ⟨u1, u2, u3⟩ := hup2
    have hv : s.2 + p.2 = tot b (placeS p.1 b) (l ++ [p]) := by
      rw [tot_app, tot_cons, if_pos rfl, tot_nil, ← he, ← g.val s (by simp)]; omega
    refine ⟨⟨?_, fun y hy => ?_, fun x hx => ?_, fun y hy => ?_⟩, hv⟩
    · unfold Rises
      rw [List.pairwise_append]
      exact ⟨u1, by simp, fun a ha c hc => by simp at hc; subst hc; exact u3 a ha s (by simp)⟩
    · rcases List.mem_append.1 hy with q | q
      · have hlt := u3 y q s (by simp)
        rw [tot_app, tot_cons, if_neg (by omega), tot_nil, g.val y (by simp [q])]; omega
      · simp at q; subst q; simp only; rw [he]; exact hv
    · rcases List.mem_append.1 hx with q | q
      · obtain ⟨y, hy, e⟩ := g.all x q
        rcases List.mem_append.1 hy with t | t
        · exact ⟨y, by simp [t], e⟩
        · simp at t; subst t; exact ⟨(y.1, y.2 + p.2), by simp, e⟩
      · simp at q; subst q; exact ⟨(s.1, s.2 + x.2), by simp, he⟩
    · rcases List.mem_append.1 hy with q | q
      · obtain ⟨x, hx, e⟩ := g.from_ y (by simp [q])
        exact ⟨x, by simp [hx], e⟩
      · simp at q; subst q; exact ⟨p, by simp, he⟩
  · intro hn
    have hlt : ∀ y ∈ o, y.1 < placeS p.1 b := fun y hy => by
      have ho : o ≠ [] := fun q => by rw [q] at hy; cases hy
      obtain ⟨r, s, rfl, hs⟩ := last_split ho
      have hne : s.1 ≠ placeS p.1 b := fun q => hn ⟨ho, by rw [hs]; exact q⟩
      have hsle := hle s (by simp)
      rcases List.mem_append.1 hy with t | t
      · have hup2 := g.up
        unfold Rises at hup2
        rw [List.pairwise_append] at hup2
        have := hup2.2.2 y t s (by simp)
        omega
      · simp at t; subst t; omega
    have hz : tot b (placeS p.1 b) l = 0 := tot_zero fun x hx e => by
      obtain ⟨y, hy, e2⟩ := g.all x hx
      have := hlt y hy
      omega
    refine ⟨?_, fun y hy => ?_, fun x hx => ?_, fun y hy => ?_⟩
    · unfold Rises
      rw [List.pairwise_append]
      exact ⟨g.up, by simp, fun a ha c hc => by simp at hc; subst hc; exact hlt a ha⟩
    · rcases List.mem_append.1 hy with q | q
      · have := hlt y q
        rw [tot_app, tot_cons, if_neg (by omega), tot_nil, g.val y q]; omega
      · simp at q; subst q; simp only; rw [tot_app, tot_cons, if_pos rfl, tot_nil, hz]; omega
    · rcases List.mem_append.1 hx with q | q
      · obtain ⟨y, hy, e⟩ := g.all x q
        exact ⟨y, by simp [hy], e⟩
      · simp at q; subst q; exact ⟨(placeS x.1 b, x.2), by simp, rfl⟩
    · rcases List.mem_append.1 hy with q | q
      · obtain ⟨x, hx, e⟩ := g.from_ y q
        exact ⟨x, by simp [hx], e⟩
      · simp at q; subst q; exact ⟨p, by simp, rfl⟩
def Fits (b : Int) (l : List (Int × Int)) : Prop := ∀ q, tot b q l ≤ 9223372036854775807
theorem Fits.pre {b : Int} {l m : List (Int × Int)} (h : Fits b (l ++ m)) (hm : PRow m) : Fits b l := fun q => by
  have h1 := h q
  have h2 := tot_nonneg (b := b) (q := q) hm
  rw [tot_app] at h1; omega
theorem widGo_gath {b : Int} : ∀ {l pre o : List (Int × Int)}, PRow l → PRow pre → Climbs b (pre ++ l) → Gath b pre o → Fits b pre →
    (Fits b (pre ++ l) → ∃ r, widGo addI b l o = some r ∧ Gath b (pre ++ l) r) ∧ (¬ Fits b (pre ++ l) → widGo addI b l o = none)
  | [], pre, o, hl, hp, hc, g, hf => by
    rw [List.append_nil]
    exact ⟨fun _ => ⟨o, rfl, g⟩, fun h => absurd hf h⟩
  | p :: l, pre, o, hl, hp, hc, g, hf => by
    have hpv := hl p (List.mem_cons_self ..)
    have hl2 : PRow l := fun x hx => hl x (List.mem_cons_of_mem _ hx)
    have hp2 : PRow (pre ++ [p]) := fun x hx => by
      rcases List.mem_append.1 hx with q | q
      · exact hp x q
      · simp at q; subst q; exact hpv
    have ea : pre ++ p :: l = (pre ++ [p]) ++ l := by simp
    have hup : ∀ x ∈ pre, placeS x.1 b ≤ placeS p.1 b := fun x hx => by
      unfold Climbs at hc
      rw [List.pairwise_append] at hc
      exact hc.2.2 x hx p (by simp)
    obtain ⟨g1, g2⟩ := g.step hup
    rw [ea] at hc ⊢
    simp only [widGo]
    by_cases hj : o ≠ [] ∧ (lastP o).1 = placeS p.1 b
    · obtain ⟨g3, hv⟩ := g1 hj
      by_cases hle : (lastP o).2 + p.2 ≤ 9223372036854775807
      · have hf2 : Fits b (pre ++ [p]) := fun q => by
          by_cases hq : placeS p.1 b = q
          · subst hq; rw [← hv]; exact hle
          · rw [tot_app, tot_cons, if_neg hq, tot_nil]; have := hf q; omega
        have hst : widStep addI b o p = some (o.set (o.length - 1) ((lastP o).1, (lastP o).2 + p.2)) := by
          unfold widStep; rw [if_pos hj]; unfold addI; rw [if_pos hle]
        rw [hst]
        exact widGo_gath hl2 hp2 hc g3 hf2
      · have hst : widStep addI b o p = none := by unfold widStep; rw [if_pos hj]; unfold addI; rw [if_neg hle]
        rw [hst]
        refine ⟨fun hF => ?_, fun _ => rfl⟩
        have := (hF.pre hl2) (placeS p.1 b)
        omega
    · have hf2 : Fits b (pre ++ [p]) := fun q => by
        have g3 := g2 hj
        by_cases hq : placeS p.1 b = q
        · subst hq
          have := g3.val (placeS p.1 b, p.2) (by simp)
          simp only at this
          rw [← this]; exact hpv.2
        · rw [tot_app, tot_cons, if_neg hq, tot_nil]; have := hf q; omega
      have hst : widStep addI b o p = some (o ++ [(placeS p.1 b, p.2)]) := by unfold widStep; rw [if_neg hj]
      rw [hst]
      exact widGo_gath hl2 hp2 hc (g2 hj) hf2
theorem wid_gath {b : Int} {l : List (Int × Int)} (hl : PRow l) (hc : Climbs b l) : ((widF addI b l).isSome = true ↔ Fits b l) ∧ ((widF addI b l).isSome = true → Gath b l (widR addI b l)) := by
  obtain ⟨h1, h2⟩ := widGo_gath (b := b) (pre := []) (o := []) hl (fun x hx => by cases hx) (by simpa using hc) (Gath.nil b) (fun q => by rw [tot_nil]; decide)
  rw [List.nil_append] at h1 h2
  unfold widR widF
  constructor
  · constructor
    · intro h
      refine Classical.byContradiction fun q => ?_
      rw [h2 q] at h; cases h
    · intro h
      obtain ⟨r, hr, _⟩ := h1 h
      rw [hr]; rfl
  · intro h
    by_cases q : Fits b l
    · obtain ⟨r, hr, g⟩ := h1 q
      rw [hr]; exact g
    · rw [h2 q] at h; cases h
/-- rising rows that have the same are one -/
theorem rises_ext : ∀ {a c : List (Int × Int)}, Rises a → Rises c → (∀ x, x ∈ a ↔ x ∈ c) → a = c
  | [], [], _, _, _ => rfl
  | [], y :: c, _, _, h => by have := (h y).2 (by simp); cases this
  | x :: a, [], _, _, h => by have := (h x).1 (by simp); cases this
  | x :: a, y :: c, ha, hc, h => by
    unfold Rises at ha hc
    rw [List.pairwise_cons] at ha hc
    have e : x = y := by
      have h1 := (h x).1 (by simp)
      have h2 := (h y).2 (by simp)
      rcases List.mem_cons.1 h1 with q | q
      · exact q
      · rcases List.mem_cons.1 h2 with t | t
        · exact t.symm
        · have := hc.1 x q; have := ha.1 y t; omega
    subst e
    congr 1
    refine rises_ext ha.2 hc.2 fun z => ⟨fun hz => ?_, fun hz => ?_⟩
    · rcases List.mem_cons.1 ((h z).1 (by simp [hz])) with q | q
      · subst q; have := ha.1 z hz; omega
      · exact q
    · rcases List.mem_cons.1 ((h z).2 (by simp [hz])) with q | q
      · subst q; have := hc.1 z hz; omega
      · exact q
theorem mem_nz {l : List (Int × Int)} {x : Int × Int} : x ∈ nz l ↔ x ∈ l ∧ x.2 ≠ 0 := by unfold nz; simp
theorem nz_rises {l : List (Int × Int)} (h : Rises l) : Rises (nz l) := by unfold nz; exact h.filter _
theorem tot_pos {b q : Int} : ∀ {l : List (Int × Int)}, PRow l → tot b q l ≠ 0 → ∃ x ∈ l, placeS x.1 b = q
  | [], _, h => absurd rfl h
  | x :: l, hl, h => by
    by_cases hx : placeS x.1 b = q
    · exact ⟨x, by simp, hx⟩
    · rw [tot_cons, if_neg hx] at h
      obtain ⟨y, hy, e⟩ := tot_pos (fun y hy => hl y (List.mem_cons_of_mem _ hy)) (by omega : tot b q l ≠ 0)
      exact ⟨y, by simp [hy], e⟩
/-- a widened side, but for what has nothing: place by place -/
theorem mem_wid {b : Int} {l r : List (Int × Int)} (hl : PRow l) (g : Gath b l r) (x : Int × Int) : x ∈ nz r ↔ x.2 = tot b x.1 l ∧ x.2 ≠ 0 := by
  rw [mem_nz]
  constructor
  · rintro ⟨h1, h2⟩; exact ⟨g.val x h1, h2⟩
  · rintro ⟨h1, h2⟩
    refine ⟨?_, h2⟩
    obtain ⟨z, hz, e⟩ := tot_pos hl (by rw [← h1]; exact h2)
    obtain ⟨y, hy, e2⟩ := g.all z hz
    have e3 : y.1 = x.1 := by omega
    have e4 := g.val y hy
    have : x = y := Prod.ext e3.symm (by rw [h1, e4, e3])
    rw [this]; exact hy
end Go.Am
