/-
scale.Ints, scale.Fit, hist.Canon.
-/
import Derived.Test.YtbihgmehjhlojaaScb
set_option linter.unusedVariables false
set_option linter.unusedSimpArgs false
set_option maxRecDepth 100000
namespace Go.Am
open Go Go.RowKit Go.Proofs
theorem has58 : Has Try.prog 58 Try.f58 (bodyOf Try.f58) := ⟨Try.func58, by kernel_rfl, by kernel_rfl⟩
theorem has70 : Has Try.prog 70 Try.f70 (bodyOf Try.f70) := ⟨Try.func70, by kernel_rfl, by kernel_rfl⟩
theorem has72 : Has Try.prog 72 Try.f72 (bodyOf Try.f72) := ⟨Try.func72, by kernel_rfl, by kernel_rfl⟩
theorem run1_in : ∀ (k : Nat) (n a : Int) (x : Int × Int), x ∈ run1 n a k → a ≤ x.2 ∧ x.2 < a + k
  | 0, n, a, x, h => by simp [run1] at h
  | k + 1, n, a, x, h => by
    simp only [run1] at h
    rcases List.mem_cons.1 h with rfl | h
    · simp only; omega
    · have := run1_in k (n + 1) (a + 1) x h; omega
theorem rightGo_last {s : Sp} {r : List Sp} {f : Bool} {a n : Int} (h : rightGo (s :: r) f a n = true) : inPlace (a + s.1 + max (s.2 - 1) 0) = true := by
  rw [rightGo_cons] at h
  split at h
  · cases h
  · split at h
    · cases h
    · rename_i h2
      simp [bad2] at h2
      exact h2.1.2
theorem pairsGo_in : ∀ {l : List Sp} {f : Bool} {a n : Int}, rightGo l f a n = true → ∀ x ∈ pairsGo l a n, -1048576 ≤ x.2 ∧ x.2 ≤ 1048576
  | [], f, a, n, h, x, hx => by simp [pairsGo] at hx
  | s :: r, f, a, n, h, x, hx => by
    obtain ⟨b1, b2, b3, b4, b5, b6, h2⟩ := rightGo_at (l := r) h rfl
    have h3 := inPlace_iff.1 (rightGo_last h)
    simp only [pairsGo] at hx
    rcases List.mem_append.1 hx with q | q
    · have := run1_in _ _ _ x q; omega
    · exact pairsGo_in h2 x q
theorem places_in {l : List Sp} {p : Int} (h : p ∈ places l) : -1048576 ≤ p ∧ p ≤ 1048576 := by
  unfold places at h
  obtain ⟨x, hx, rfl⟩ := List.mem_map.1 h
  unfold allPairs at hx
  split at hx
  · rename_i hz
    exact pairsGo_in (checkS_zero.1 hz).2 x hx
  · simp at hx
theorem sideR_wok (l : List Sp) (d : List Int) : WOK N63 (sideR l d) := by
  intro x hx
  refine ⟨?_, sideR_row l d x hx⟩
  unfold sideR at hx
  split at hx
  · have := places_in (List.of_mem_zip hx).1
    unfold I64; omega
  · simp at hx
theorem posR_wok (h : HI) : WOK N63 (posR h) := by unfold posR; split; exact sideR_wok _ _; intro x hx; simp at hx
theorem negR_wok (h : HI) : WOK N63 (negR h) := by unfold negR; split; exact sideR_wok _ _; intro x hx; simp at hx
theorem openE_head {h : HI} (e : openE h = 0) : headE h.schema h.zero = 0 := by
  by_cases q : headE h.schema h.zero = 0
  · exact q
  · unfold openE at e; rw [if_pos q] at e; exact absurd e q
theorem head_schema {s z : Int} (e : headE s z = 0) : -4 ≤ s ∧ s ≤ 8 ∧ thrS z = true := by
  unfold headE at e
  split at e
  · cases e
  · split at e
    · cases e
    · rename_i h1 h2; exact ⟨by omega, by omega, by simpa using h2⟩
theorem widGo_ok {add : Int → Int → Option Int} {Q : Int → Prop} {b : Int} (hadd : ∀ x y v, Q x → Q y → add x y = some v → Q v) : ∀ {l o r : List (Int × Int)}, WOK Q l → WOK Q o → widGo add b l o = some r → WOK Q r ∧ r.length ≤ o.length + l.length
  | [], o, r, hl, ho, h => by simp only [widGo, Option.some.injEq] at h; subst h; exact ⟨ho, by simp⟩
  | p :: l, o, r, hl, ho, h => by
    have hp := hl p (List.mem_cons_self ..)
    have hl2 : WOK Q l := fun x hx => hl x (List.mem_cons_of_mem _ hx)
    simp only [widGo] at h
    split at h
    · rename_i o' hst
      have : WOK Q o' ∧ o'.length ≤ o.length + 1 := by
        unfold widStep at hst
        split at hst
        · rename_i hc
          split at hst
          · rename_i v hv
            injection hst with hst; subst hst
            have hlen : o.length - 1 < o.length := by have := List.length_pos_iff.2 hc.1; omega
            have hm : lastP o ∈ o := by unfold lastP; rw [List.getD_eq_getElem?_getD, List.getElem?_eq_getElem hlen]; exact List.getElem_mem hlen
            exact ⟨ho.set ⟨(ho _ hm).1, hadd _ _ _ (ho _ hm).2 hp.2 hv⟩, by simp⟩
          · cases hst
        · injection hst with hst; subst hst
          exact ⟨ho.app ⟨placeS_in hp.1, hp.2⟩, by simp⟩
      obtain ⟨g1, g2⟩ := widGo_ok hadd hl2 this.1 h
      exact ⟨g1, by simp; omega⟩
    · cases h
theorem widR_wok {add : Int → Int → Option Int} {Q : Int → Prop} {b : Int} (hadd : ∀ x y v, Q x → Q y → add x y = some v → Q v) {l : List (Int × Int)} (h : WOK Q l) : WOK Q (widR add b l) ∧ (widR add b l).length ≤ l.length := by
  unfold widR
  cases hw : widF add b l with
  | none => exact ⟨fun x hx => by simp at hx, by simp⟩
  | some o => have := widGo_ok hadd h (fun x hx => by simp at hx) hw; simpa using this
theorem addI_n63 {x y v : Int} (hx : N63 x) (hy : N63 y) (h : addI x y = some v) : N63 v := by
  unfold addI at h
  split at h
  · injection h with h; unfold N63 at *; omega
  · cases h
theorem WOK.nz {Q : Int → Prop} {l : List (Int × Int)} (h : WOK Q l) : WOK Q (nz l) := fun x hx => h x (List.mem_filter.1 hx).1
theorem WOK.row {l : List (Int × Int)} (h : WOK N63 l) : PRow l := fun x hx => (h x hx).2
theorem nz_len (l : List (Int × Int)) : (nz l).length ≤ l.length := List.length_filter_le _ _
theorem num_to {h : HI} {to : Int} (w : HNum h) (ht : I64 to) : HNum { h with schema := to } := ⟨ht, w.zero, w.zc, w.count, w.sum⟩
def scP (h : HI) (to : Int) : List (Int × Int) := nz (widR addI (h.schema - to) (posR h))
def scN (h : HI) (to : Int) : List (Int × Int) := nz (widR addI (h.schema - to) (negR h))
def scE (h : HI) (to : Int) : Int := if openE h ≠ 0 then openE h else if wrongS h.schema to then 21 else if (widF addI (h.schema - to) (posR h)).isSome = false ∨ (widF addI (h.schema - to) (negR h)).isSome = false then 28 else makeE { h with schema := to } (scP h to) (scN h to)
def scH (h : HI) (to : Int) : HI := if scE h to = 0 then laid { h with schema := to } (scP h to) (scN h to) else HI0
theorem scH_bad {h : HI} {to : Int} (e : scE h to ≠ 0) : scH h to = HI0 := by unfold scH; rw [if_neg e]
theorem scP_wok (h : HI) (to : Int) : WOK N63 (scP h to) ∧ (scP h to).length ≤ 4096 := by
  obtain ⟨h1, h2⟩ := widR_wok (b := h.schema - to) (fun x y v => addI_n63) (posR_wok h)
  exact ⟨h1.nz, Nat.le_trans (nz_len _) (Nat.le_trans h2 (posR_len h))⟩
theorem scN_wok (h : HI) (to : Int) : WOK N63 (scN h to) ∧ (scN h to).length ≤ 4096 := by
  obtain ⟨h1, h2⟩ := widR_wok (b := h.schema - to) (fun x y v => addI_n63) (negR_wok h)
  exact ⟨h1.nz, Nat.le_trans (nz_len _) (Nat.le_trans h2 (negR_len h))⟩
theorem scints_ok (h : HI) (to : Int) (h_w : HWf h) (h_t : I64 to) : FnC Try.prog 58 [.agg #[.int .i64 h.schema, .int .u64 h.zero, .int .u64 h.zc, .int .u64 h.count, .int .u64 h.sum, .slice (some ⟨0, 0, none⟩) h.pos.length (h.pos.length + 1), .slice (some ⟨1, 0, none⟩) h.neg.length (h.neg.length + 1), .slice (some ⟨2, 0, none⟩) h.pd.length (h.pd.length + 1), .slice (some ⟨3, 0, none⟩) h.nd.length (h.nd.length + 1)], .int .i64 to] [(0, ⟨(h.pos).flatMap encS, 1, [], 2⟩), (1, ⟨(h.neg).flatMap encS, 1, [], 2⟩), (2, ⟨(h.pd).flatMap encI, 1, [], 1⟩), (3, ⟨(h.nd).flatMap encI, 1, [], 1⟩)] 4 (.tuple #[.agg #[.int .i64 ((scH h to).schema), .int .u64 ((scH h to).zero), .int .u64 ((scH h to).zc), .int .u64 ((scH h to).count), .int .u64 ((scH h to).sum), .slice (some ⟨4, 0, none⟩) (((scH h to).pos).length) (((scH h to).pos).length + 1), .slice (some ⟨5, 0, none⟩) (((scH h to).neg).length) (((scH h to).neg).length + 1), .slice (some ⟨6, 0, none⟩) (((scH h to).pd).length) (((scH h to).pd).length + 1), .slice (some ⟨7, 0, none⟩) (((scH h to).nd).length) (((scH h to).nd).length + 1)], .int .i64 (scE h to)]) 4 [(4, ⟨((scH h to).pos).flatMap encS, 2, [], 2⟩), (5, ⟨((scH h to).neg).flatMap encS, 2, [], 2⟩), (6, ⟨((scH h to).pd).flatMap encI, 2, [], 1⟩), (7, ⟨((scH h to).nd).flatMap encI, 2, [], 1⟩)] := by
  by_cases h2001 : ((openE h : Int) = 0)
  · skip
    have hs := head_schema (openE_head h2001)
    cases h5003 : (wrongS h.schema to) with
    | true =>
      have he : scE h to = 21 := by simp [scE, h2001, h5003]
      have hn : scE h to ≠ 0 := by rw [he]; decide
      rw [scH_bad hn, he]
      exact FnC.run (m := false) follows_mixed has58 [(1001, aC (hpairs0_ok h h_w)), (2001, aNT h2001), (4001, aC (hpairs1_ok h h_w)), (5003, aCb (wrong_ok (h.schema) (to)) h5003)] (by kernel_rfl) (by kernel_rfl) (.cons (encS_sc _) (.cons (encS_sc _) (.cons (encI_sc _) (.cons (encI_sc _) .nil)))) (.cons (encS_sc _) (.cons (encS_sc _) (.cons (encI_sc _) (.cons (encI_sc _) .nil))))
    | false =>
      have hto : -4 ≤ to ∧ to ≤ h.schema := by simp [wrongS] at h5003; omega
      cases h7008 : ((widF addI (h.schema - to) (posR h)).isSome) with
      | true =>
        cases h8008 : ((widF addI (h.schema - to) (negR h)).isSome) with
        | true =>
          have he : scE h to = makeE { h with schema := to } (scP h to) (scN h to) := by unfold scE; rw [if_neg (by simp [h2001]), if_neg (by simp [h5003]), if_neg (by rw [h7008, h8008]; simp)]
          have hh : scH h to = makeH { h with schema := to } (scP h to) (scN h to) := by unfold scH makeH; rw [he]
          rw [hh, he]
          exact FnC.run (m := false) follows_mixed has58 [(1001, aC (hpairs0_ok h h_w)), (2001, aNT h2001), (4001, aC (hpairs1_ok h h_w)), (5003, aCb (wrong_ok (h.schema) (to)) h5003), (7004, aI .i64 .i64 (h.schema - to) (h.schema - to) (wrap_i64 (by omega) (by omega))), (7005, aC (widenI_ok (posR h) (h.schema - to) (posR_wok h) (Nat.le_trans (posR_len h) (by decide)))), (7008, aB h7008), (8004, aI .i64 .i64 (h.schema - to) (h.schema - to) (wrap_i64 (by omega) (by omega))), (8005, aC (widenI_ok (negR h) (h.schema - to) (negR_wok h) (Nat.le_trans (negR_len h) (by decide)))), (8008, aB h8008), (12002, aC (withoutI_ok (widR addI (h.schema - to) (posR h)) (Nat.le_trans (widR_wok (fun x y v => addI_n63) (posR_wok h)).2 (Nat.le_trans (posR_len h) (by decide))))), (12004, aC (withoutI_ok (widR addI (h.schema - to) (negR h)) (Nat.le_trans (widR_wok (fun x y v => addI_n63) (negR_wok h)).2 (Nat.le_trans (negR_len h) (by decide))))), (12005, aC (hmake_ok ({ h with schema := to } : HI) (nz (widR addI (h.schema - to) (posR h))) (nz (widR addI (h.schema - to) (negR h))) (num_to h_w.num h_t) (scP_wok h to).1.row (scN_wok h to).1.row (Nat.le_trans (scP_wok h to).2 (by decide)) (Nat.le_trans (scN_wok h to).2 (by decide))))] (by kernel_rfl) (by kernel_rfl) (.cons (encS_sc _) (.cons (encS_sc _) (.cons (encI_sc _) (.cons (encI_sc _) .nil)))) (.cons (encS_sc _) (.cons (encS_sc _) (.cons (encI_sc _) (.cons (encI_sc _) .nil))))
        | false =>
          have he : scE h to = 28 := by unfold scE; rw [if_neg (by simp [h2001]), if_neg (by simp [h5003]), if_pos (.inr h8008)]
          rw [scH_bad (by rw [he]; decide), he]
          exact FnC.run (m := false) follows_mixed has58 [(1001, aC (hpairs0_ok h h_w)), (2001, aNT h2001), (4001, aC (hpairs1_ok h h_w)), (5003, aCb (wrong_ok (h.schema) (to)) h5003), (7004, aI .i64 .i64 (h.schema - to) (h.schema - to) (wrap_i64 (by omega) (by omega))), (7005, aC (widenI_ok (posR h) (h.schema - to) (posR_wok h) (Nat.le_trans (posR_len h) (by decide)))), (7008, aB h7008), (8004, aI .i64 .i64 (h.schema - to) (h.schema - to) (wrap_i64 (by omega) (by omega))), (8005, aC (widenI_ok (negR h) (h.schema - to) (negR_wok h) (Nat.le_trans (negR_len h) (by decide)))), (8008, aB h8008)] (by kernel_rfl) (by kernel_rfl) (.cons (encS_sc _) (.cons (encS_sc _) (.cons (encI_sc _) (.cons (encI_sc _) .nil)))) (.cons (encS_sc _) (.cons (encS_sc _) (.cons (encI_sc _) (.cons (encI_sc _) .nil))))
      | false =>
        have he : scE h to = 28 := by unfold scE; rw [if_neg (by simp [h2001]), if_neg (by simp [h5003]), if_pos (.inl h7008)]
        rw [scH_bad (by rw [he]; decide), he]
        exact FnC.run (m := false) follows_mixed has58 [(1001, aC (hpairs0_ok h h_w)), (2001, aNT h2001), (4001, aC (hpairs1_ok h h_w)), (5003, aCb (wrong_ok (h.schema) (to)) h5003), (7004, aI .i64 .i64 (h.schema - to) (h.schema - to) (wrap_i64 (by omega) (by omega))), (7005, aC (widenI_ok (posR h) (h.schema - to) (posR_wok h) (Nat.le_trans (posR_len h) (by decide)))), (7008, aB h7008), (8004, aI .i64 .i64 (h.schema - to) (h.schema - to) (wrap_i64 (by omega) (by omega))), (8005, aC (widenI_ok (negR h) (h.schema - to) (negR_wok h) (Nat.le_trans (negR_len h) (by decide))))] (by kernel_rfl) (by kernel_rfl) (.cons (encS_sc _) (.cons (encS_sc _) (.cons (encI_sc _) (.cons (encI_sc _) .nil)))) (.cons (encS_sc _) (.cons (encS_sc _) (.cons (encI_sc _) (.cons (encI_sc _) .nil))))
  · skip
    have he : scE h to = openE h := by simp [scE, h2001]
    have hn : scE h to ≠ 0 := by rw [he]; assumption
    rw [scH_bad hn, he]
    exact FnC.run (m := false) follows_mixed has58 [(1001, aC (hpairs0_ok h h_w)), (2001, aNF h2001)] (by kernel_rfl) (by kernel_rfl) (.cons (encS_sc _) (.cons (encS_sc _) (.cons (encI_sc _) (.cons (encI_sc _) .nil)))) (.cons (encS_sc _) (.cons (encS_sc _) (.cons (encI_sc _) (.cons (encI_sc _) .nil))))
def cnE (h : HI) : Int := if openE h ≠ 0 then openE h else makeE h (nz (posR h)) (nz (negR h))
def cnH (h : HI) : HI := if cnE h = 0 then laid h (nz (posR h)) (nz (negR h)) else HI0
theorem cnH_bad {h : HI} (e : cnE h ≠ 0) : cnH h = HI0 := by unfold cnH; rw [if_neg e]
theorem hcanon_ok (h : HI) (h_w : HWf h) : FnC Try.prog 72 [.agg #[.int .i64 h.schema, .int .u64 h.zero, .int .u64 h.zc, .int .u64 h.count, .int .u64 h.sum, .slice (some ⟨0, 0, none⟩) h.pos.length (h.pos.length + 1), .slice (some ⟨1, 0, none⟩) h.neg.length (h.neg.length + 1), .slice (some ⟨2, 0, none⟩) h.pd.length (h.pd.length + 1), .slice (some ⟨3, 0, none⟩) h.nd.length (h.nd.length + 1)]] [(0, ⟨(h.pos).flatMap encS, 1, [], 2⟩), (1, ⟨(h.neg).flatMap encS, 1, [], 2⟩), (2, ⟨(h.pd).flatMap encI, 1, [], 1⟩), (3, ⟨(h.nd).flatMap encI, 1, [], 1⟩)] 4 (.tuple #[.agg #[.int .i64 ((cnH h).schema), .int .u64 ((cnH h).zero), .int .u64 ((cnH h).zc), .int .u64 ((cnH h).count), .int .u64 ((cnH h).sum), .slice (some ⟨4, 0, none⟩) (((cnH h).pos).length) (((cnH h).pos).length + 1), .slice (some ⟨5, 0, none⟩) (((cnH h).neg).length) (((cnH h).neg).length + 1), .slice (some ⟨6, 0, none⟩) (((cnH h).pd).length) (((cnH h).pd).length + 1), .slice (some ⟨7, 0, none⟩) (((cnH h).nd).length) (((cnH h).nd).length + 1)], .int .i64 (cnE h)]) 4 [(4, ⟨((cnH h).pos).flatMap encS, 2, [], 2⟩), (5, ⟨((cnH h).neg).flatMap encS, 2, [], 2⟩), (6, ⟨((cnH h).pd).flatMap encI, 2, [], 1⟩), (7, ⟨((cnH h).nd).flatMap encI, 2, [], 1⟩)] := by
  by_cases h2001 : ((openE h : Int) = 0)
  · skip
    have he : cnE h = makeE h (nz (posR h)) (nz (negR h)) := by simp [cnE, h2001]
    have hh : cnH h = makeH h (nz (posR h)) (nz (negR h)) := by unfold cnH makeH; rw [he]
    rw [hh, he]
    exact FnC.run (m := false) follows_mixed has72 [(1001, aC (open_ok h h_w)), (2001, aNT h2001), (4002, aC (withoutI_ok (posR h) (Nat.le_trans (posR_len h) (by decide)))), (4004, aC (withoutI_ok (negR h) (Nat.le_trans (negR_len h) (by decide)))), (4005, aC (hmake_ok h (nz (posR h)) (nz (negR h)) h_w.num (posR_wok h).nz.row (negR_wok h).nz.row (Nat.le_trans (nz_len _) (Nat.le_trans (posR_len h) (by decide))) (Nat.le_trans (nz_len _) (Nat.le_trans (negR_len h) (by decide)))))] (by kernel_rfl) (by kernel_rfl) (.cons (encS_sc _) (.cons (encS_sc _) (.cons (encI_sc _) (.cons (encI_sc _) .nil)))) (.cons (encS_sc _) (.cons (encS_sc _) (.cons (encI_sc _) (.cons (encI_sc _) .nil))))
  · skip
    have he : cnE h = openE h := by simp [cnE, h2001]
    rw [cnH_bad (by rw [he]; exact h2001), he]
    exact FnC.run (m := false) follows_mixed has72 [(1001, aC (open_ok h h_w)), (2001, aNF h2001)] (by kernel_rfl) (by kernel_rfl) (.cons (encS_sc _) (.cons (encS_sc _) (.cons (encI_sc _) (.cons (encI_sc _) .nil)))) (.cons (encS_sc _) (.cons (encS_sc _) (.cons (encI_sc _) (.cons (encI_sc _) .nil))))
end Go.Am
