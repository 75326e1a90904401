/-
Law ScaleKeeps: on a lower schema there is on each side as much as there was, in no more buckets; and all five numbers but the schema stay. Any histogram of rows of any length, any schema.
-/
import Derived.Test.YtbihgmehjhlojaaSml
import Derived.Test.YtbihgmehjhlojaaRnd
import Derived.Test.YtbihgmehjhlojaaOpn
set_option linter.unusedVariables false
set_option linter.unusedSimpArgs false
set_option maxRecDepth 100000
namespace Go.Am
open Go Go.RowKit Go.Proofs
theorem has11 : Has Try.prog 11 Try.f11 (bodyOf Try.f11) := ⟨Try.func11, by kernel_rfl, by kernel_rfl⟩
theorem sumV_set {o : List (Int × Int)} {v : Int} (ho : o ≠ []) : sumV (o.set (o.length - 1) ((lastP o).1, v)) = sumV o - (lastP o).2 + v := by
  obtain ⟨r, s, rfl⟩ : ∃ r s, o = r ++ [s] := ⟨o.dropLast, o.getLast ho, (List.dropLast_concat_getLast ho).symm⟩
  have h1 : (r ++ [s]).length - 1 = r.length := by simp
  have h2 : lastP (r ++ [s]) = s := by unfold lastP; rw [h1]; simp
  rw [h1, h2]
  simp [sumV]
theorem widGo_sum {b : Int} : ∀ {l o r : List (Int × Int)}, widGo addI b l o = some r → sumV r = sumV o + sumV l
  | [], o, r, h => by simp only [widGo, Option.some.injEq] at h; subst h; simp [sumV]
  | p :: l, o, r, h => by
    simp only [widGo] at h
    split at h
    · rename_i o' hst
      have h1 := widGo_sum h
      have h2 : sumV o' = sumV o + p.2 := by
        unfold widStep at hst
        split at hst
        · rename_i hc
          split at hst
          · rename_i v hv
            injection hst with hst; subst hst
            rw [sumV_set hc.1]
            unfold addI at hv
            split at hv
            · injection hv with hv; omega
            · cases hv
          · cases hst
        · injection hst with hst; subst hst
          rw [sumV_app]; simp [sumV]
      have h3 : sumV (p :: l) = p.2 + sumV l := by simp [sumV]
      omega
    · cases h
theorem nz_sum (l : List (Int × Int)) : sumV (nz l) = sumV l := by
  induction l with
  | nil => rfl
  | cons x r ih =>
    unfold nz at ih ⊢
    by_cases hx : x.2 = 0
    · simp [sumV, hx] at ih ⊢; exact ih
    · simp [sumV, hx] at ih ⊢; exact ih
theorem wid_sum {b : Int} {l : List (Int × Int)} (h : (widF addI b l).isSome = true) : sumV (nz (widR addI b l)) = sumV l := by
  rw [nz_sum]
  obtain ⟨r, hr⟩ := Option.isSome_iff_exists.1 h
  have e : widR addI b l = r := by unfold widR; rw [hr]; rfl
  rw [e, widGo_sum hr]
  simp [sumV]
theorem wid_len {b : Int} {l : List (Int × Int)} (h : WOK N63 l) : (nz (widR addI b l)).length ≤ l.length :=
  Nat.le_trans (nz_len _) (widR_wok (fun x y v => addI_n63) h).2
/-- what stands on a lower schema -/
structure ScOK (h : HI) (to : Int) : Prop where
  op : openE h = 0
  wr : wrongS h.schema to = false
  sp : (widF addI (h.schema - to) (posR h)).isSome = true
  sn : (widF addI (h.schema - to) (negR h)).isSome = true
  mak : makeE { h with schema := to } (scP h to) (scN h to) = 0
theorem sc_ok {h : HI} {to : Int} (e : scE h to = 0) : ScOK h to := by
  unfold scE at e
  split at e
  · rename_i q; exact absurd e q
  · rename_i q1; split at e
    · cases e
    · rename_i q2; split at e
      · cases e
      · rename_i q3
        rw [not_or] at q3
        exact ⟨Decidable.not_not.1 q1, by simpa using q2, by cases c : (widF addI (h.schema - to) (posR h)).isSome; exact absurd c q3.1; rfl, by cases c : (widF addI (h.schema - to) (negR h)).isSome; exact absurd c q3.2; rfl, e⟩
theorem ScOK.zero {h : HI} {to : Int} (k : ScOK h to) : scE h to = 0 := by
  unfold scE; rw [if_neg (by rw [k.op]; simp), if_neg (by rw [k.wr]; simp), if_neg (by rw [k.sp, k.sn]; simp)]; exact k.mak
theorem scH_eq {h : HI} {to : Int} (e : scE h to = 0) : scH h to = laid { h with schema := to } (scP h to) (scN h to) := by unfold scH; rw [if_pos e]
theorem sc_sides {h : HI} {to : Int} (e : scE h to = 0) : posR (scH h to) = scP h to ∧ negR (scH h to) = scN h to ∧ openE (scH h to) = 0 := by
  have k := sc_ok e
  rw [scH_eq e]
  obtain ⟨h1, h2⟩ := posR_laid (h := { h with schema := to }) (scP_wok h to).1.row (scN_wok h to).1.row k.mak
  exact ⟨h1, h2, (makeE_zero k.mak).2.2⟩
theorem sc_wf {h : HI} {to : Int} (w : HWf h) (t : I64 to) (e : scE h to = 0) : HWf (scH h to) := by
  rw [scH_eq e]
  exact laid_wf (num_to w.num t) (scP_wok h to).1.row (scN_wok h to).1.row (Nat.le_trans (scP_wok h to).2 (by decide)) (Nat.le_trans (scN_wok h to).2 (by decide))
theorem sum_count {h : HI} (w : HWf h) (e : openE h = 0) : sumV (posR h) < 18446744073709551616 ∧ sumV (negR h) < 18446744073709551616 := by
  have e0 := e
  have h1 := openE_head e
  obtain ⟨s1, s2⟩ := openE_sides e
  unfold openE at e
  rw [if_neg (by rw [h1]; simp), if_neg (by rw [s1]; simp), if_neg (by rw [s2]; simp)] at e
  unfold fitsE at e
  split at e
  · cases e
  · rename_i q
    have hp : posR h = sideR h.pos h.pd := by unfold posR; rw [if_pos e0]
    have hn : negR h = sideR h.neg h.nd := by unfold negR; rw [if_pos e0]
    rw [← hp, ← hn] at q
    have a1 := sumV_nonneg (posR_row h)
    have a2 := sumV_nonneg (negR_row h)
    have a3 := w.zc.1
    have a4 := w.count.2
    omega
theorem HRng.wf {h : HI} (r : HRng h) (s : smallS h = true) : HWf h := by
  simp only [smallS, Bool.and_eq_true, decide_eq_true_eq] at s
  exact ⟨r.num.schema, r.num.zero, r.num.zc, r.num.count, r.num.sum, r.pd, r.nd, by omega, by omega⟩
theorem HRng.len {h : HI} (r : HRng h) : HLen h := ⟨r.np, r.nn⟩
structure KeepF (h : HI) (to : Int) : Prop where
  w : HWf h
  x : HWf (scH h to)
  oh : openE h = 0
  ox : openE (scH h to) = 0
  p : sumV (posR (scH h to)) = sumV (posR h)
  n : sumV (negR (scH h to)) = sumV (negR h)
  lp : (posR (scH h to)).length ≤ (posR h).length
  ln : (negR (scH h to)).length ≤ (negR h).length
  cp : sumV (posR h) < 18446744073709551616
  cn : sumV (negR h) < 18446744073709551616
theorem keepF {h : HI} {to : Int} (w : HWf h) (t : I64 to) (e : scE h to = 0) : KeepF h to := by
  have k := sc_ok e
  obtain ⟨s1, s2, s3⟩ := sc_sides e
  obtain ⟨c1, c2⟩ := sum_count w k.op
  refine ⟨w, sc_wf w t e, k.op, s3, ?_, ?_, ?_, ?_, c1, c2⟩
  · rw [s1]; exact wid_sum k.sp
  · rw [s2]; exact wid_sum k.sn
  · rw [s1]; exact wid_len (posR_wok h)
  · rw [s2]; exact wid_len (negR_wok h)
abbrev kpa0_I (h : HI) (to : Int) (i : Nat) (n : Int) : AS := ⟨[(2, .pointer (some ⟨8, 0, none⟩)), (5, .pointer (some ⟨9, 0, none⟩)), (7, .int .i64 0), (8, .slice (some ⟨10, 0, none⟩) ((posR h).length) ((posR h).length + 1)), (10, .slice (some ⟨11, 0, none⟩) ((posR (scH h to)).length) ((posR (scH h to)).length + 1)), (12, .int .u64 n), (62, .int .i64 0), (90, .slice (some ⟨10, 0, none⟩) ((posR h).length) ((posR h).length + 1)), (91, .int .i64 (((posR h).length : Nat) : Int)), (92, .int .i64 ((i : Nat) : Int))], [(8, ⟨[.int .i64 h.schema, .int .u64 h.zero, .int .u64 h.zc, .int .u64 h.count, .int .u64 h.sum, .slice (some ⟨0, 0, none⟩) h.pos.length (h.pos.length + 1), .slice (some ⟨1, 0, none⟩) h.neg.length (h.neg.length + 1), .slice (some ⟨2, 0, none⟩) h.pd.length (h.pd.length + 1), .slice (some ⟨3, 0, none⟩) h.nd.length (h.nd.length + 1)], 2, [], 1⟩), (9, ⟨[.int .i64 ((scH h to).schema), .int .u64 ((scH h to).zero), .int .u64 ((scH h to).zc), .int .u64 ((scH h to).count), .int .u64 ((scH h to).sum), .slice (some ⟨4, 0, none⟩) (((scH h to).pos).length) (((scH h to).pos).length + 1), .slice (some ⟨5, 0, none⟩) (((scH h to).neg).length) (((scH h to).neg).length + 1), .slice (some ⟨6, 0, none⟩) (((scH h to).pd).length) (((scH h to).pd).length + 1), .slice (some ⟨7, 0, none⟩) (((scH h to).nd).length) (((scH h to).nd).length + 1)], 2, [], 1⟩), (10, ⟨(posR h).flatMap encS, 2, [], 2⟩), (11, ⟨(posR (scH h to)).flatMap encS, 2, [], 2⟩), (0, ⟨(h.pos).flatMap encS, 1, [], 2⟩), (1, ⟨(h.neg).flatMap encS, 1, [], 2⟩), (2, ⟨(h.pd).flatMap encI, 1, [], 1⟩), (3, ⟨(h.nd).flatMap encI, 1, [], 1⟩), (4, ⟨((scH h to).pos).flatMap encS, 2, [], 2⟩), (5, ⟨((scH h to).neg).flatMap encS, 2, [], 2⟩), (6, ⟨((scH h to).pd).flatMap encI, 2, [], 1⟩), (7, ⟨((scH h to).nd).flatMap encI, 2, [], 1⟩)], 12⟩
abbrev kpa0_inv (h : HI) (to : Int) (i : Nat) (n : Int) : Prop := i ≤ (posR h).length ∧ n = sumV ((posR h).take i)
def kpa0_K (h : HI) (to : Int) : Exit → AS → Prop := fun e s => (e = .exit 2 ∧ s = ⟨[(2, .pointer (some ⟨8, 0, none⟩)), (5, .pointer (some ⟨9, 0, none⟩)), (10, .slice (some ⟨11, 0, none⟩) ((posR (scH h to)).length) ((posR (scH h to)).length + 1)), (12, .int .u64 (sumV (posR h))), (62, .int .i64 0)], [(8, ⟨[.int .i64 h.schema, .int .u64 h.zero, .int .u64 h.zc, .int .u64 h.count, .int .u64 h.sum, .slice (some ⟨0, 0, none⟩) h.pos.length (h.pos.length + 1), .slice (some ⟨1, 0, none⟩) h.neg.length (h.neg.length + 1), .slice (some ⟨2, 0, none⟩) h.pd.length (h.pd.length + 1), .slice (some ⟨3, 0, none⟩) h.nd.length (h.nd.length + 1)], 2, [], 1⟩), (9, ⟨[.int .i64 ((scH h to).schema), .int .u64 ((scH h to).zero), .int .u64 ((scH h to).zc), .int .u64 ((scH h to).count), .int .u64 ((scH h to).sum), .slice (some ⟨4, 0, none⟩) (((scH h to).pos).length) (((scH h to).pos).length + 1), .slice (some ⟨5, 0, none⟩) (((scH h to).neg).length) (((scH h to).neg).length + 1), .slice (some ⟨6, 0, none⟩) (((scH h to).pd).length) (((scH h to).pd).length + 1), .slice (some ⟨7, 0, none⟩) (((scH h to).nd).length) (((scH h to).nd).length + 1)], 2, [], 1⟩), (0, ⟨(h.pos).flatMap encS, 1, [], 2⟩), (1, ⟨(h.neg).flatMap encS, 1, [], 2⟩), (2, ⟨(h.pd).flatMap encI, 1, [], 1⟩), (3, ⟨(h.nd).flatMap encI, 1, [], 1⟩), (4, ⟨((scH h to).pos).flatMap encS, 2, [], 2⟩), (5, ⟨((scH h to).neg).flatMap encS, 2, [], 2⟩), (6, ⟨((scH h to).pd).flatMap encI, 2, [], 1⟩), (7, ⟨((scH h to).nd).flatMap encI, 2, [], 1⟩), (10, ⟨(posR h).flatMap encS, 2, [], 2⟩), (11, ⟨(posR (scH h to)).flatMap encS, 2, [], 2⟩)], 12⟩)
abbrev kpa0_Iu (h : HI) (to : Int) : Nat × Int → AS := fun x => kpa0_I h to x.1 x.2
abbrev kpa0_vu (h : HI) (to : Int) : Nat × Int → Prop := fun x => kpa0_inv h to x.1 x.2
abbrev kpa0_m (h : HI) (to : Int) : Nat × Int → Nat := fun x => (fun (i : Nat) (n : Int) => (posR h).length - i) x.1 x.2
theorem kpa0_round (h : HI) (to : Int) (h_k : KeepF h to) (i : Nat) (n : Int) (hinv : kpa0_inv h to i n) {ds : List Deferred} : Tr Try.prog none ⟨118, ds⟩ 4 (nthLoop Try.f11 1) (kpa0_I h to i n) (RK (kpa0_vu h to) (kpa0_Iu h to) (kpa0_m h to) (kpa0_K h to) (i, n)) := by
  obtain ⟨hi0, hn⟩ := hinv
  have hb := sumV_take (posR_row h) i
  have hb2 := sumV_take (posR_row h) (i + 1)
  have hlt := h_k.cp
  have hln := posR_len h
  by_cases h17000 : (((i : Nat) : Int) < (((posR h).length : Nat) : Int))
  · skip
    obtain ⟨s1, hs1⟩ : ∃ s, (posR h)[i]? = some s := ⟨_, List.getElem?_eq_getElem (by omega)⟩
    have hp := posR_row h _ (List.mem_of_getElem? hs1)
    have hx := sumV_next hs1
    exact Tr.again (Inv := (kpa0_vu h to)) (I := (kpa0_Iu h to)) (m := (kpa0_m h to)) (i + 1, n + s1.2) (Tr.run follows_mixed (A := [(17000, aT h17000), (18000, aX i ((posR h).length) 2 (by omega)), (18001, aL encS_k hs1), (19003, aI .u64 .u64 (s1.2) (s1.2) (wrap_u64 (by omega) (by omega))), (19004, aI .u64 .u64 (n + s1.2) (n + s1.2) (wrap_u64 (by omega) (by omega))), (20000, aI .i64 .i64 (((i : Nat) : Int) + 1) (((i + 1 : Nat) : Int)) (wrap_i64' (by omega) (by omega) (by omega)))]) (rows := [10, 11, 0, 1, 2, 3, 4, 5, 6, 7]) (by kernel_rfl) (.skip rfl (.skip rfl (.cons (fun _ => encS_sc _) (.cons (fun _ => encS_sc _) (.cons (fun _ => encS_sc _) (.cons (fun _ => encS_sc _) (.cons (fun _ => encI_sc _) (.cons (fun _ => encI_sc _) (.cons (fun _ => encS_sc _) (.cons (fun _ => encS_sc _) (.cons (fun _ => encI_sc _) (.cons (fun _ => encI_sc _) .nil)))))))))))) (le_ble rfl)) (show kpa0_inv h to (i + 1) (n + s1.2) from ⟨by omega, by omega⟩) (by show (posR h).length - (i + 1) < (posR h).length - i; omega)
  · skip
    rw [take_all (by omega)] at hn
    subst hn
    exact Tr.out (I := (kpa0_Iu h to)) (m := (kpa0_m h to)) (Tr.run follows_mixed (A := [(17000, aF h17000)]) (rows := [0, 1, 2, 3, 4, 5, 6, 7, 10, 11]) (by kernel_rfl) (.skip rfl (.skip rfl (.cons (fun _ => encS_sc _) (.cons (fun _ => encS_sc _) (.cons (fun _ => encI_sc _) (.cons (fun _ => encI_sc _) (.cons (fun _ => encS_sc _) (.cons (fun _ => encS_sc _) (.cons (fun _ => encI_sc _) (.cons (fun _ => encI_sc _) (.cons (fun _ => encS_sc _) (.cons (fun _ => encS_sc _) .nil)))))))))))) (le_ble rfl)) ⟨rfl, rfl⟩ (by simp)

theorem kpa0_loop (h : HI) (to : Int) (h_k : KeepF h to) (i : Nat) (n : Int) (hinv : kpa0_inv h to i n) {ds : List Deferred} : Tr Try.prog none ⟨118, ds⟩ 4 (.loop (nthLoop Try.f11 1)) (kpa0_I h to i n) (kpa0_K h to) :=
  Tr.rounds (Inv := (kpa0_vu h to)) (I := (kpa0_Iu h to)) (m := (kpa0_m h to)) (fun x h_0 => kpa0_round h to h_k x.1 x.2 h_0) (i, n) hinv
abbrev kpb0_I (h : HI) (to : Int) (i : Nat) (n : Int) : AS := ⟨[(2, .pointer (some ⟨8, 0, none⟩)), (5, .pointer (some ⟨9, 0, none⟩)), (12, .int .u64 n), (62, .int .i64 0), (102, .slice (some ⟨11, 0, none⟩) ((posR (scH h to)).length) ((posR (scH h to)).length + 1)), (103, .int .i64 (((posR (scH h to)).length : Nat) : Int)), (104, .int .i64 ((i : Nat) : Int))], [(8, ⟨[.int .i64 h.schema, .int .u64 h.zero, .int .u64 h.zc, .int .u64 h.count, .int .u64 h.sum, .slice (some ⟨0, 0, none⟩) h.pos.length (h.pos.length + 1), .slice (some ⟨1, 0, none⟩) h.neg.length (h.neg.length + 1), .slice (some ⟨2, 0, none⟩) h.pd.length (h.pd.length + 1), .slice (some ⟨3, 0, none⟩) h.nd.length (h.nd.length + 1)], 2, [], 1⟩), (9, ⟨[.int .i64 ((scH h to).schema), .int .u64 ((scH h to).zero), .int .u64 ((scH h to).zc), .int .u64 ((scH h to).count), .int .u64 ((scH h to).sum), .slice (some ⟨4, 0, none⟩) (((scH h to).pos).length) (((scH h to).pos).length + 1), .slice (some ⟨5, 0, none⟩) (((scH h to).neg).length) (((scH h to).neg).length + 1), .slice (some ⟨6, 0, none⟩) (((scH h to).pd).length) (((scH h to).pd).length + 1), .slice (some ⟨7, 0, none⟩) (((scH h to).nd).length) (((scH h to).nd).length + 1)], 2, [], 1⟩), (11, ⟨(posR (scH h to)).flatMap encS, 2, [], 2⟩), (0, ⟨(h.pos).flatMap encS, 1, [], 2⟩), (1, ⟨(h.neg).flatMap encS, 1, [], 2⟩), (2, ⟨(h.pd).flatMap encI, 1, [], 1⟩), (3, ⟨(h.nd).flatMap encI, 1, [], 1⟩), (4, ⟨((scH h to).pos).flatMap encS, 2, [], 2⟩), (5, ⟨((scH h to).neg).flatMap encS, 2, [], 2⟩), (6, ⟨((scH h to).pd).flatMap encI, 2, [], 1⟩), (7, ⟨((scH h to).nd).flatMap encI, 2, [], 1⟩)], 12⟩
abbrev kpb0_inv (h : HI) (to : Int) (i : Nat) (n : Int) : Prop := i ≤ (posR (scH h to)).length ∧ n = sumV (posR h) - sumV ((posR (scH h to)).take i)
def kpb0_K (h : HI) (to : Int) : Exit → AS → Prop := fun e s => (e = .exit 4 ∧ s = ⟨[(2, .pointer (some ⟨8, 0, none⟩)), (5, .pointer (some ⟨9, 0, none⟩)), (12, .int .u64 0), (62, .int .i64 0)], [(8, ⟨[.int .i64 h.schema, .int .u64 h.zero, .int .u64 h.zc, .int .u64 h.count, .int .u64 h.sum, .slice (some ⟨0, 0, none⟩) h.pos.length (h.pos.length + 1), .slice (some ⟨1, 0, none⟩) h.neg.length (h.neg.length + 1), .slice (some ⟨2, 0, none⟩) h.pd.length (h.pd.length + 1), .slice (some ⟨3, 0, none⟩) h.nd.length (h.nd.length + 1)], 2, [], 1⟩), (9, ⟨[.int .i64 ((scH h to).schema), .int .u64 ((scH h to).zero), .int .u64 ((scH h to).zc), .int .u64 ((scH h to).count), .int .u64 ((scH h to).sum), .slice (some ⟨4, 0, none⟩) (((scH h to).pos).length) (((scH h to).pos).length + 1), .slice (some ⟨5, 0, none⟩) (((scH h to).neg).length) (((scH h to).neg).length + 1), .slice (some ⟨6, 0, none⟩) (((scH h to).pd).length) (((scH h to).pd).length + 1), .slice (some ⟨7, 0, none⟩) (((scH h to).nd).length) (((scH h to).nd).length + 1)], 2, [], 1⟩), (0, ⟨(h.pos).flatMap encS, 1, [], 2⟩), (1, ⟨(h.neg).flatMap encS, 1, [], 2⟩), (2, ⟨(h.pd).flatMap encI, 1, [], 1⟩), (3, ⟨(h.nd).flatMap encI, 1, [], 1⟩), (4, ⟨((scH h to).pos).flatMap encS, 2, [], 2⟩), (5, ⟨((scH h to).neg).flatMap encS, 2, [], 2⟩), (6, ⟨((scH h to).pd).flatMap encI, 2, [], 1⟩), (7, ⟨((scH h to).nd).flatMap encI, 2, [], 1⟩)], 12⟩)
abbrev kpb0_Iu (h : HI) (to : Int) : Nat × Int → AS := fun x => kpb0_I h to x.1 x.2
abbrev kpb0_vu (h : HI) (to : Int) : Nat × Int → Prop := fun x => kpb0_inv h to x.1 x.2
abbrev kpb0_m (h : HI) (to : Int) : Nat × Int → Nat := fun x => (fun (i : Nat) (n : Int) => (posR (scH h to)).length - i) x.1 x.2
theorem kpb0_round (h : HI) (to : Int) (h_k : KeepF h to) (i : Nat) (n : Int) (hinv : kpb0_inv h to i n) {ds : List Deferred} : Tr Try.prog none ⟨118, ds⟩ 4 (nthLoop Try.f11 2) (kpb0_I h to i n) (RK (kpb0_vu h to) (kpb0_Iu h to) (kpb0_m h to) (kpb0_K h to) (i, n)) := by
  obtain ⟨hi0, hn⟩ := hinv
  have hb := sumV_take (posR_row (scH h to)) i
  have hb2 := sumV_take (posR_row (scH h to)) (i + 1)
  have hlt := h_k.cp
  have hsm := h_k.p
  have hln := posR_len (scH h to)
  by_cases h22000 : (((i : Nat) : Int) < (((posR (scH h to)).length : Nat) : Int))
  · skip
    obtain ⟨s1, hs1⟩ : ∃ s, (posR (scH h to))[i]? = some s := ⟨_, List.getElem?_eq_getElem (by omega)⟩
    have hp := posR_row (scH h to) _ (List.mem_of_getElem? hs1)
    have hx := sumV_next hs1
    exact Tr.again (Inv := (kpb0_vu h to)) (I := (kpb0_Iu h to)) (m := (kpb0_m h to)) (i + 1, n - s1.2) (Tr.run follows_mixed (A := [(22000, aT h22000), (23000, aX i ((posR (scH h to)).length) 2 (by omega)), (23001, aL encS_k hs1), (24003, aI .u64 .u64 (s1.2) (s1.2) (wrap_u64 (by omega) (by omega))), (24004, aI .u64 .u64 (n - s1.2) (n - s1.2) (wrap_u64 (by omega) (by omega))), (25000, aI .i64 .i64 (((i : Nat) : Int) + 1) (((i + 1 : Nat) : Int)) (wrap_i64' (by omega) (by omega) (by omega)))]) (rows := [11, 0, 1, 2, 3, 4, 5, 6, 7]) (by kernel_rfl) (.skip rfl (.skip rfl (.cons (fun _ => encS_sc _) (.cons (fun _ => encS_sc _) (.cons (fun _ => encS_sc _) (.cons (fun _ => encI_sc _) (.cons (fun _ => encI_sc _) (.cons (fun _ => encS_sc _) (.cons (fun _ => encS_sc _) (.cons (fun _ => encI_sc _) (.cons (fun _ => encI_sc _) .nil))))))))))) (le_ble rfl)) (show kpb0_inv h to (i + 1) (n - s1.2) from ⟨by omega, by omega⟩) (by show (posR (scH h to)).length - (i + 1) < (posR (scH h to)).length - i; omega)
  · skip
    rw [take_all (by omega), h_k.p] at hn
    have hn : n = 0 := by omega
    subst hn
    exact Tr.out (I := (kpb0_Iu h to)) (m := (kpb0_m h to)) (Tr.run follows_mixed (A := [(22000, aF h22000)]) (rows := [0, 1, 2, 3, 4, 5, 6, 7]) (by kernel_rfl) (.skip rfl (.skip rfl (.cons (fun _ => encS_sc _) (.cons (fun _ => encS_sc _) (.cons (fun _ => encI_sc _) (.cons (fun _ => encI_sc _) (.cons (fun _ => encS_sc _) (.cons (fun _ => encS_sc _) (.cons (fun _ => encI_sc _) (.cons (fun _ => encI_sc _) .nil)))))))))) (le_ble rfl)) ⟨rfl, rfl⟩ (by simp)

theorem kpb0_loop (h : HI) (to : Int) (h_k : KeepF h to) (i : Nat) (n : Int) (hinv : kpb0_inv h to i n) {ds : List Deferred} : Tr Try.prog none ⟨118, ds⟩ 4 (.loop (nthLoop Try.f11 2)) (kpb0_I h to i n) (kpb0_K h to) :=
  Tr.rounds (Inv := (kpb0_vu h to)) (I := (kpb0_Iu h to)) (m := (kpb0_m h to)) (fun x h_0 => kpb0_round h to h_k x.1 x.2 h_0) (i, n) hinv
theorem kps0 (h : HI) (to : Int) (h_k : KeepF h to) {ds : List Deferred} : Tr Try.prog none ⟨118, ds⟩ 4 (nthLoop Try.f11 0) ⟨[(2, .pointer (some ⟨8, 0, none⟩)), (5, .pointer (some ⟨9, 0, none⟩)), (62, .int .i64 0)], [(8, ⟨[.int .i64 h.schema, .int .u64 h.zero, .int .u64 h.zc, .int .u64 h.count, .int .u64 h.sum, .slice (some ⟨0, 0, none⟩) h.pos.length (h.pos.length + 1), .slice (some ⟨1, 0, none⟩) h.neg.length (h.neg.length + 1), .slice (some ⟨2, 0, none⟩) h.pd.length (h.pd.length + 1), .slice (some ⟨3, 0, none⟩) h.nd.length (h.nd.length + 1)], 2, [], 1⟩), (9, ⟨[.int .i64 ((scH h to).schema), .int .u64 ((scH h to).zero), .int .u64 ((scH h to).zc), .int .u64 ((scH h to).count), .int .u64 ((scH h to).sum), .slice (some ⟨4, 0, none⟩) (((scH h to).pos).length) (((scH h to).pos).length + 1), .slice (some ⟨5, 0, none⟩) (((scH h to).neg).length) (((scH h to).neg).length + 1), .slice (some ⟨6, 0, none⟩) (((scH h to).pd).length) (((scH h to).pd).length + 1), .slice (some ⟨7, 0, none⟩) (((scH h to).nd).length) (((scH h to).nd).length + 1)], 2, [], 1⟩), (0, ⟨(h.pos).flatMap encS, 1, [], 2⟩), (1, ⟨(h.neg).flatMap encS, 1, [], 2⟩), (2, ⟨(h.pd).flatMap encI, 1, [], 1⟩), (3, ⟨(h.nd).flatMap encI, 1, [], 1⟩), (4, ⟨((scH h to).pos).flatMap encS, 2, [], 2⟩), (5, ⟨((scH h to).neg).flatMap encS, 2, [], 2⟩), (6, ⟨((scH h to).pd).flatMap encI, 2, [], 1⟩), (7, ⟨((scH h to).nd).flatMap encI, 2, [], 1⟩)], 10⟩ fun e s => e = .normal ∧ s = ⟨[(2, .pointer (some ⟨8, 0, none⟩)), (5, .pointer (some ⟨9, 0, none⟩)), (62, .int .i64 1)], [(8, ⟨[.int .i64 h.schema, .int .u64 h.zero, .int .u64 h.zc, .int .u64 h.count, .int .u64 h.sum, .slice (some ⟨0, 0, none⟩) h.pos.length (h.pos.length + 1), .slice (some ⟨1, 0, none⟩) h.neg.length (h.neg.length + 1), .slice (some ⟨2, 0, none⟩) h.pd.length (h.pd.length + 1), .slice (some ⟨3, 0, none⟩) h.nd.length (h.nd.length + 1)], 2, [], 1⟩), (9, ⟨[.int .i64 ((scH h to).schema), .int .u64 ((scH h to).zero), .int .u64 ((scH h to).zc), .int .u64 ((scH h to).count), .int .u64 ((scH h to).sum), .slice (some ⟨4, 0, none⟩) (((scH h to).pos).length) (((scH h to).pos).length + 1), .slice (some ⟨5, 0, none⟩) (((scH h to).neg).length) (((scH h to).neg).length + 1), .slice (some ⟨6, 0, none⟩) (((scH h to).pd).length) (((scH h to).pd).length + 1), .slice (some ⟨7, 0, none⟩) (((scH h to).nd).length) (((scH h to).nd).length + 1)], 2, [], 1⟩), (0, ⟨(h.pos).flatMap encS, 1, [], 2⟩), (1, ⟨(h.neg).flatMap encS, 1, [], 2⟩), (2, ⟨(h.pd).flatMap encI, 1, [], 1⟩), (3, ⟨(h.nd).flatMap encI, 1, [], 1⟩), (4, ⟨((scH h to).pos).flatMap encS, 2, [], 2⟩), (5, ⟨((scH h to).neg).flatMap encS, 2, [], 2⟩), (6, ⟨((scH h to).pd).flatMap encI, 2, [], 1⟩), (7, ⟨((scH h to).nd).flatMap encI, 2, [], 1⟩)], 10⟩ := by
  have hln := posR_len h
  have hlm := posR_len (scH h to)
  by_cases h13001 : ((openE h : Int) = 0)
  · skip
    by_cases h13004 : ((openE (scH h to) : Int) = 0)
    · skip
      by_cases h13011 : ((((posR (scH h to)).length : Nat) : Int) > (((posR h).length : Nat) : Int))
      · skip
        exact absurd h13011 (by have := h_k.lp; omega)
      · skip
        exact (Tr.run follows_mixed (A := [(11002, aC (hpairs0_ok h h_k.w)), (12002, aC (hpairs0_ok (scH h to) h_k.x)), (13001, aNT h13001), (13004, aNT h13004), (13011, aF h13011), (900000, .stmt (.loop (nthLoop Try.f11 1)) [10, 11, 0, 1, 2, 3, 4, 5, 6, 7] (kpa0_I h to 0 0) (.exit 2) ⟨[(2, .pointer (some ⟨8, 0, none⟩)), (5, .pointer (some ⟨9, 0, none⟩)), (10, .slice (some ⟨11, 0, none⟩) ((posR (scH h to)).length) ((posR (scH h to)).length + 1)), (12, .int .u64 (sumV (posR h))), (62, .int .i64 0)], [(8, ⟨[.int .i64 h.schema, .int .u64 h.zero, .int .u64 h.zc, .int .u64 h.count, .int .u64 h.sum, .slice (some ⟨0, 0, none⟩) h.pos.length (h.pos.length + 1), .slice (some ⟨1, 0, none⟩) h.neg.length (h.neg.length + 1), .slice (some ⟨2, 0, none⟩) h.pd.length (h.pd.length + 1), .slice (some ⟨3, 0, none⟩) h.nd.length (h.nd.length + 1)], 2, [], 1⟩), (9, ⟨[.int .i64 ((scH h to).schema), .int .u64 ((scH h to).zero), .int .u64 ((scH h to).zc), .int .u64 ((scH h to).count), .int .u64 ((scH h to).sum), .slice (some ⟨4, 0, none⟩) (((scH h to).pos).length) (((scH h to).pos).length + 1), .slice (some ⟨5, 0, none⟩) (((scH h to).neg).length) (((scH h to).neg).length + 1), .slice (some ⟨6, 0, none⟩) (((scH h to).pd).length) (((scH h to).pd).length + 1), .slice (some ⟨7, 0, none⟩) (((scH h to).nd).length) (((scH h to).nd).length + 1)], 2, [], 1⟩), (0, ⟨(h.pos).flatMap encS, 1, [], 2⟩), (1, ⟨(h.neg).flatMap encS, 1, [], 2⟩), (2, ⟨(h.pd).flatMap encI, 1, [], 1⟩), (3, ⟨(h.nd).flatMap encI, 1, [], 1⟩), (4, ⟨((scH h to).pos).flatMap encS, 2, [], 2⟩), (5, ⟨((scH h to).neg).flatMap encS, 2, [], 2⟩), (6, ⟨((scH h to).pd).flatMap encI, 2, [], 1⟩), (7, ⟨((scH h to).nd).flatMap encI, 2, [], 1⟩), (10, ⟨(posR h).flatMap encS, 2, [], 2⟩), (11, ⟨(posR (scH h to)).flatMap encS, 2, [], 2⟩)], 12⟩ (.skip rfl (.skip rfl (.cons (fun _ => encS_sc _) (.cons (fun _ => encS_sc _) (.cons (fun _ => encS_sc _) (.cons (fun _ => encS_sc _) (.cons (fun _ => encI_sc _) (.cons (fun _ => encI_sc _) (.cons (fun _ => encS_sc _) (.cons (fun _ => encS_sc _) (.cons (fun _ => encI_sc _) (.cons (fun _ => encI_sc _) .nil)))))))))))) (fun ds => (kpa0_loop h to h_k 0 0 ⟨by omega, by simp [sumV]⟩).pick (fun e s h => h)) (le_ble rfl)), (900000, .stmt (.loop (nthLoop Try.f11 2)) [11, 0, 1, 2, 3, 4, 5, 6, 7] (kpb0_I h to 0 (sumV (posR h))) (.exit 4) ⟨[(2, .pointer (some ⟨8, 0, none⟩)), (5, .pointer (some ⟨9, 0, none⟩)), (12, .int .u64 0), (62, .int .i64 0)], [(8, ⟨[.int .i64 h.schema, .int .u64 h.zero, .int .u64 h.zc, .int .u64 h.count, .int .u64 h.sum, .slice (some ⟨0, 0, none⟩) h.pos.length (h.pos.length + 1), .slice (some ⟨1, 0, none⟩) h.neg.length (h.neg.length + 1), .slice (some ⟨2, 0, none⟩) h.pd.length (h.pd.length + 1), .slice (some ⟨3, 0, none⟩) h.nd.length (h.nd.length + 1)], 2, [], 1⟩), (9, ⟨[.int .i64 ((scH h to).schema), .int .u64 ((scH h to).zero), .int .u64 ((scH h to).zc), .int .u64 ((scH h to).count), .int .u64 ((scH h to).sum), .slice (some ⟨4, 0, none⟩) (((scH h to).pos).length) (((scH h to).pos).length + 1), .slice (some ⟨5, 0, none⟩) (((scH h to).neg).length) (((scH h to).neg).length + 1), .slice (some ⟨6, 0, none⟩) (((scH h to).pd).length) (((scH h to).pd).length + 1), .slice (some ⟨7, 0, none⟩) (((scH h to).nd).length) (((scH h to).nd).length + 1)], 2, [], 1⟩), (0, ⟨(h.pos).flatMap encS, 1, [], 2⟩), (1, ⟨(h.neg).flatMap encS, 1, [], 2⟩), (2, ⟨(h.pd).flatMap encI, 1, [], 1⟩), (3, ⟨(h.nd).flatMap encI, 1, [], 1⟩), (4, ⟨((scH h to).pos).flatMap encS, 2, [], 2⟩), (5, ⟨((scH h to).neg).flatMap encS, 2, [], 2⟩), (6, ⟨((scH h to).pd).flatMap encI, 2, [], 1⟩), (7, ⟨((scH h to).nd).flatMap encI, 2, [], 1⟩)], 12⟩ (.skip rfl (.skip rfl (.cons (fun _ => encS_sc _) (.cons (fun _ => encS_sc _) (.cons (fun _ => encS_sc _) (.cons (fun _ => encI_sc _) (.cons (fun _ => encI_sc _) (.cons (fun _ => encS_sc _) (.cons (fun _ => encS_sc _) (.cons (fun _ => encI_sc _) (.cons (fun _ => encI_sc _) .nil))))))))))) (fun ds => (kpb0_loop h to h_k 0 (sumV (posR h)) ⟨by omega, by simp [sumV]⟩).pick (fun e s h => h)) (le_ble rfl))]) (rows := [0, 1, 2, 3, 4, 5, 6, 7]) (by kernel_rfl) (.skip rfl (.skip rfl (.cons (fun _ => encS_sc _) (.cons (fun _ => encS_sc _) (.cons (fun _ => encI_sc _) (.cons (fun _ => encI_sc _) (.cons (fun _ => encS_sc _) (.cons (fun _ => encS_sc _) (.cons (fun _ => encI_sc _) (.cons (fun _ => encI_sc _) .nil)))))))))) (le_ble rfl))
    · skip
      exact absurd h_k.ox h13004
  · skip
    exact absurd h_k.oh h13001
abbrev kpa1_I (h : HI) (to : Int) (i : Nat) (n : Int) : AS := ⟨[(2, .pointer (some ⟨8, 0, none⟩)), (5, .pointer (some ⟨9, 0, none⟩)), (7, .int .i64 1), (8, .slice (some ⟨10, 0, none⟩) ((negR h).length) ((negR h).length + 1)), (10, .slice (some ⟨11, 0, none⟩) ((negR (scH h to)).length) ((negR (scH h to)).length + 1)), (12, .int .u64 n), (62, .int .i64 1), (90, .slice (some ⟨10, 0, none⟩) ((negR h).length) ((negR h).length + 1)), (91, .int .i64 (((negR h).length : Nat) : Int)), (92, .int .i64 ((i : Nat) : Int))], [(8, ⟨[.int .i64 h.schema, .int .u64 h.zero, .int .u64 h.zc, .int .u64 h.count, .int .u64 h.sum, .slice (some ⟨0, 0, none⟩) h.pos.length (h.pos.length + 1), .slice (some ⟨1, 0, none⟩) h.neg.length (h.neg.length + 1), .slice (some ⟨2, 0, none⟩) h.pd.length (h.pd.length + 1), .slice (some ⟨3, 0, none⟩) h.nd.length (h.nd.length + 1)], 2, [], 1⟩), (9, ⟨[.int .i64 ((scH h to).schema), .int .u64 ((scH h to).zero), .int .u64 ((scH h to).zc), .int .u64 ((scH h to).count), .int .u64 ((scH h to).sum), .slice (some ⟨4, 0, none⟩) (((scH h to).pos).length) (((scH h to).pos).length + 1), .slice (some ⟨5, 0, none⟩) (((scH h to).neg).length) (((scH h to).neg).length + 1), .slice (some ⟨6, 0, none⟩) (((scH h to).pd).length) (((scH h to).pd).length + 1), .slice (some ⟨7, 0, none⟩) (((scH h to).nd).length) (((scH h to).nd).length + 1)], 2, [], 1⟩), (10, ⟨(negR h).flatMap encS, 2, [], 2⟩), (11, ⟨(negR (scH h to)).flatMap encS, 2, [], 2⟩), (0, ⟨(h.pos).flatMap encS, 1, [], 2⟩), (1, ⟨(h.neg).flatMap encS, 1, [], 2⟩), (2, ⟨(h.pd).flatMap encI, 1, [], 1⟩), (3, ⟨(h.nd).flatMap encI, 1, [], 1⟩), (4, ⟨((scH h to).pos).flatMap encS, 2, [], 2⟩), (5, ⟨((scH h to).neg).flatMap encS, 2, [], 2⟩), (6, ⟨((scH h to).pd).flatMap encI, 2, [], 1⟩), (7, ⟨((scH h to).nd).flatMap encI, 2, [], 1⟩)], 12⟩
abbrev kpa1_inv (h : HI) (to : Int) (i : Nat) (n : Int) : Prop := i ≤ (negR h).length ∧ n = sumV ((negR h).take i)
def kpa1_K (h : HI) (to : Int) : Exit → AS → Prop := fun e s => (e = .exit 2 ∧ s = ⟨[(2, .pointer (some ⟨8, 0, none⟩)), (5, .pointer (some ⟨9, 0, none⟩)), (10, .slice (some ⟨11, 0, none⟩) ((negR (scH h to)).length) ((negR (scH h to)).length + 1)), (12, .int .u64 (sumV (negR h))), (62, .int .i64 1)], [(8, ⟨[.int .i64 h.schema, .int .u64 h.zero, .int .u64 h.zc, .int .u64 h.count, .int .u64 h.sum, .slice (some ⟨0, 0, none⟩) h.pos.length (h.pos.length + 1), .slice (some ⟨1, 0, none⟩) h.neg.length (h.neg.length + 1), .slice (some ⟨2, 0, none⟩) h.pd.length (h.pd.length + 1), .slice (some ⟨3, 0, none⟩) h.nd.length (h.nd.length + 1)], 2, [], 1⟩), (9, ⟨[.int .i64 ((scH h to).schema), .int .u64 ((scH h to).zero), .int .u64 ((scH h to).zc), .int .u64 ((scH h to).count), .int .u64 ((scH h to).sum), .slice (some ⟨4, 0, none⟩) (((scH h to).pos).length) (((scH h to).pos).length + 1), .slice (some ⟨5, 0, none⟩) (((scH h to).neg).length) (((scH h to).neg).length + 1), .slice (some ⟨6, 0, none⟩) (((scH h to).pd).length) (((scH h to).pd).length + 1), .slice (some ⟨7, 0, none⟩) (((scH h to).nd).length) (((scH h to).nd).length + 1)], 2, [], 1⟩), (0, ⟨(h.pos).flatMap encS, 1, [], 2⟩), (1, ⟨(h.neg).flatMap encS, 1, [], 2⟩), (2, ⟨(h.pd).flatMap encI, 1, [], 1⟩), (3, ⟨(h.nd).flatMap encI, 1, [], 1⟩), (4, ⟨((scH h to).pos).flatMap encS, 2, [], 2⟩), (5, ⟨((scH h to).neg).flatMap encS, 2, [], 2⟩), (6, ⟨((scH h to).pd).flatMap encI, 2, [], 1⟩), (7, ⟨((scH h to).nd).flatMap encI, 2, [], 1⟩), (10, ⟨(negR h).flatMap encS, 2, [], 2⟩), (11, ⟨(negR (scH h to)).flatMap encS, 2, [], 2⟩)], 12⟩)
abbrev kpa1_Iu (h : HI) (to : Int) : Nat × Int → AS := fun x => kpa1_I h to x.1 x.2
abbrev kpa1_vu (h : HI) (to : Int) : Nat × Int → Prop := fun x => kpa1_inv h to x.1 x.2
abbrev kpa1_m (h : HI) (to : Int) : Nat × Int → Nat := fun x => (fun (i : Nat) (n : Int) => (negR h).length - i) x.1 x.2
theorem kpa1_round (h : HI) (to : Int) (h_k : KeepF h to) (i : Nat) (n : Int) (hinv : kpa1_inv h to i n) {ds : List Deferred} : Tr Try.prog none ⟨118, ds⟩ 4 (nthLoop Try.f11 1) (kpa1_I h to i n) (RK (kpa1_vu h to) (kpa1_Iu h to) (kpa1_m h to) (kpa1_K h to) (i, n)) := by
  obtain ⟨hi0, hn⟩ := hinv
  have hb := sumV_take (negR_row h) i
  have hb2 := sumV_take (negR_row h) (i + 1)
  have hlt := h_k.cn
  have hln := negR_len h
  by_cases h17000 : (((i : Nat) : Int) < (((negR h).length : Nat) : Int))
  · skip
    obtain ⟨s1, hs1⟩ : ∃ s, (negR h)[i]? = some s := ⟨_, List.getElem?_eq_getElem (by omega)⟩
    have hp := negR_row h _ (List.mem_of_getElem? hs1)
    have hx := sumV_next hs1
    exact Tr.again (Inv := (kpa1_vu h to)) (I := (kpa1_Iu h to)) (m := (kpa1_m h to)) (i + 1, n + s1.2) (Tr.run follows_mixed (A := [(17000, aT h17000), (18000, aX i ((negR h).length) 2 (by omega)), (18001, aL encS_k hs1), (19003, aI .u64 .u64 (s1.2) (s1.2) (wrap_u64 (by omega) (by omega))), (19004, aI .u64 .u64 (n + s1.2) (n + s1.2) (wrap_u64 (by omega) (by omega))), (20000, aI .i64 .i64 (((i : Nat) : Int) + 1) (((i + 1 : Nat) : Int)) (wrap_i64' (by omega) (by omega) (by omega)))]) (rows := [10, 11, 0, 1, 2, 3, 4, 5, 6, 7]) (by kernel_rfl) (.skip rfl (.skip rfl (.cons (fun _ => encS_sc _) (.cons (fun _ => encS_sc _) (.cons (fun _ => encS_sc _) (.cons (fun _ => encS_sc _) (.cons (fun _ => encI_sc _) (.cons (fun _ => encI_sc _) (.cons (fun _ => encS_sc _) (.cons (fun _ => encS_sc _) (.cons (fun _ => encI_sc _) (.cons (fun _ => encI_sc _) .nil)))))))))))) (le_ble rfl)) (show kpa1_inv h to (i + 1) (n + s1.2) from ⟨by omega, by omega⟩) (by show (negR h).length - (i + 1) < (negR h).length - i; omega)
  · skip
    rw [take_all (by omega)] at hn
    subst hn
    exact Tr.out (I := (kpa1_Iu h to)) (m := (kpa1_m h to)) (Tr.run follows_mixed (A := [(17000, aF h17000)]) (rows := [0, 1, 2, 3, 4, 5, 6, 7, 10, 11]) (by kernel_rfl) (.skip rfl (.skip rfl (.cons (fun _ => encS_sc _) (.cons (fun _ => encS_sc _) (.cons (fun _ => encI_sc _) (.cons (fun _ => encI_sc _) (.cons (fun _ => encS_sc _) (.cons (fun _ => encS_sc _) (.cons (fun _ => encI_sc _) (.cons (fun _ => encI_sc _) (.cons (fun _ => encS_sc _) (.cons (fun _ => encS_sc _) .nil)))))))))))) (le_ble rfl)) ⟨rfl, rfl⟩ (by simp)

theorem kpa1_loop (h : HI) (to : Int) (h_k : KeepF h to) (i : Nat) (n : Int) (hinv : kpa1_inv h to i n) {ds : List Deferred} : Tr Try.prog none ⟨118, ds⟩ 4 (.loop (nthLoop Try.f11 1)) (kpa1_I h to i n) (kpa1_K h to) :=
  Tr.rounds (Inv := (kpa1_vu h to)) (I := (kpa1_Iu h to)) (m := (kpa1_m h to)) (fun x h_0 => kpa1_round h to h_k x.1 x.2 h_0) (i, n) hinv
abbrev kpb1_I (h : HI) (to : Int) (i : Nat) (n : Int) : AS := ⟨[(2, .pointer (some ⟨8, 0, none⟩)), (5, .pointer (some ⟨9, 0, none⟩)), (12, .int .u64 n), (62, .int .i64 1), (102, .slice (some ⟨11, 0, none⟩) ((negR (scH h to)).length) ((negR (scH h to)).length + 1)), (103, .int .i64 (((negR (scH h to)).length : Nat) : Int)), (104, .int .i64 ((i : Nat) : Int))], [(8, ⟨[.int .i64 h.schema, .int .u64 h.zero, .int .u64 h.zc, .int .u64 h.count, .int .u64 h.sum, .slice (some ⟨0, 0, none⟩) h.pos.length (h.pos.length + 1), .slice (some ⟨1, 0, none⟩) h.neg.length (h.neg.length + 1), .slice (some ⟨2, 0, none⟩) h.pd.length (h.pd.length + 1), .slice (some ⟨3, 0, none⟩) h.nd.length (h.nd.length + 1)], 2, [], 1⟩), (9, ⟨[.int .i64 ((scH h to).schema), .int .u64 ((scH h to).zero), .int .u64 ((scH h to).zc), .int .u64 ((scH h to).count), .int .u64 ((scH h to).sum), .slice (some ⟨4, 0, none⟩) (((scH h to).pos).length) (((scH h to).pos).length + 1), .slice (some ⟨5, 0, none⟩) (((scH h to).neg).length) (((scH h to).neg).length + 1), .slice (some ⟨6, 0, none⟩) (((scH h to).pd).length) (((scH h to).pd).length + 1), .slice (some ⟨7, 0, none⟩) (((scH h to).nd).length) (((scH h to).nd).length + 1)], 2, [], 1⟩), (11, ⟨(negR (scH h to)).flatMap encS, 2, [], 2⟩), (0, ⟨(h.pos).flatMap encS, 1, [], 2⟩), (1, ⟨(h.neg).flatMap encS, 1, [], 2⟩), (2, ⟨(h.pd).flatMap encI, 1, [], 1⟩), (3, ⟨(h.nd).flatMap encI, 1, [], 1⟩), (4, ⟨((scH h to).pos).flatMap encS, 2, [], 2⟩), (5, ⟨((scH h to).neg).flatMap encS, 2, [], 2⟩), (6, ⟨((scH h to).pd).flatMap encI, 2, [], 1⟩), (7, ⟨((scH h to).nd).flatMap encI, 2, [], 1⟩)], 12⟩
abbrev kpb1_inv (h : HI) (to : Int) (i : Nat) (n : Int) : Prop := i ≤ (negR (scH h to)).length ∧ n = sumV (negR h) - sumV ((negR (scH h to)).take i)
def kpb1_K (h : HI) (to : Int) : Exit → AS → Prop := fun e s => (e = .exit 4 ∧ s = ⟨[(2, .pointer (some ⟨8, 0, none⟩)), (5, .pointer (some ⟨9, 0, none⟩)), (12, .int .u64 0), (62, .int .i64 1)], [(8, ⟨[.int .i64 h.schema, .int .u64 h.zero, .int .u64 h.zc, .int .u64 h.count, .int .u64 h.sum, .slice (some ⟨0, 0, none⟩) h.pos.length (h.pos.length + 1), .slice (some ⟨1, 0, none⟩) h.neg.length (h.neg.length + 1), .slice (some ⟨2, 0, none⟩) h.pd.length (h.pd.length + 1), .slice (some ⟨3, 0, none⟩) h.nd.length (h.nd.length + 1)], 2, [], 1⟩), (9, ⟨[.int .i64 ((scH h to).schema), .int .u64 ((scH h to).zero), .int .u64 ((scH h to).zc), .int .u64 ((scH h to).count), .int .u64 ((scH h to).sum), .slice (some ⟨4, 0, none⟩) (((scH h to).pos).length) (((scH h to).pos).length + 1), .slice (some ⟨5, 0, none⟩) (((scH h to).neg).length) (((scH h to).neg).length + 1), .slice (some ⟨6, 0, none⟩) (((scH h to).pd).length) (((scH h to).pd).length + 1), .slice (some ⟨7, 0, none⟩) (((scH h to).nd).length) (((scH h to).nd).length + 1)], 2, [], 1⟩), (0, ⟨(h.pos).flatMap encS, 1, [], 2⟩), (1, ⟨(h.neg).flatMap encS, 1, [], 2⟩), (2, ⟨(h.pd).flatMap encI, 1, [], 1⟩), (3, ⟨(h.nd).flatMap encI, 1, [], 1⟩), (4, ⟨((scH h to).pos).flatMap encS, 2, [], 2⟩), (5, ⟨((scH h to).neg).flatMap encS, 2, [], 2⟩), (6, ⟨((scH h to).pd).flatMap encI, 2, [], 1⟩), (7, ⟨((scH h to).nd).flatMap encI, 2, [], 1⟩)], 12⟩)
abbrev kpb1_Iu (h : HI) (to : Int) : Nat × Int → AS := fun x => kpb1_I h to x.1 x.2
abbrev kpb1_vu (h : HI) (to : Int) : Nat × Int → Prop := fun x => kpb1_inv h to x.1 x.2
abbrev kpb1_m (h : HI) (to : Int) : Nat × Int → Nat := fun x => (fun (i : Nat) (n : Int) => (negR (scH h to)).length - i) x.1 x.2
theorem kpb1_round (h : HI) (to : Int) (h_k : KeepF h to) (i : Nat) (n : Int) (hinv : kpb1_inv h to i n) {ds : List Deferred} : Tr Try.prog none ⟨118, ds⟩ 4 (nthLoop Try.f11 2) (kpb1_I h to i n) (RK (kpb1_vu h to) (kpb1_Iu h to) (kpb1_m h to) (kpb1_K h to) (i, n)) := by
  obtain ⟨hi0, hn⟩ := hinv
  have hb := sumV_take (negR_row (scH h to)) i
  have hb2 := sumV_take (negR_row (scH h to)) (i + 1)
  have hlt := h_k.cn
  have hsm := h_k.n
  have hln := negR_len (scH h to)
  by_cases h22000 : (((i : Nat) : Int) < (((negR (scH h to)).length : Nat) : Int))
  · skip
    obtain ⟨s1, hs1⟩ : ∃ s, (negR (scH h to))[i]? = some s := ⟨_, List.getElem?_eq_getElem (by omega)⟩
    have hp := negR_row (scH h to) _ (List.mem_of_getElem? hs1)
    have hx := sumV_next hs1
    exact Tr.again (Inv := (kpb1_vu h to)) (I := (kpb1_Iu h to)) (m := (kpb1_m h to)) (i + 1, n - s1.2) (Tr.run follows_mixed (A := [(22000, aT h22000), (23000, aX i ((negR (scH h to)).length) 2 (by omega)), (23001, aL encS_k hs1), (24003, aI .u64 .u64 (s1.2) (s1.2) (wrap_u64 (by omega) (by omega))), (24004, aI .u64 .u64 (n - s1.2) (n - s1.2) (wrap_u64 (by omega) (by omega))), (25000, aI .i64 .i64 (((i : Nat) : Int) + 1) (((i + 1 : Nat) : Int)) (wrap_i64' (by omega) (by omega) (by omega)))]) (rows := [11, 0, 1, 2, 3, 4, 5, 6, 7]) (by kernel_rfl) (.skip rfl (.skip rfl (.cons (fun _ => encS_sc _) (.cons (fun _ => encS_sc _) (.cons (fun _ => encS_sc _) (.cons (fun _ => encI_sc _) (.cons (fun _ => encI_sc _) (.cons (fun _ => encS_sc _) (.cons (fun _ => encS_sc _) (.cons (fun _ => encI_sc _) (.cons (fun _ => encI_sc _) .nil))))))))))) (le_ble rfl)) (show kpb1_inv h to (i + 1) (n - s1.2) from ⟨by omega, by omega⟩) (by show (negR (scH h to)).length - (i + 1) < (negR (scH h to)).length - i; omega)
  · skip
    rw [take_all (by omega), h_k.n] at hn
    have hn : n = 0 := by omega
    subst hn
    exact Tr.out (I := (kpb1_Iu h to)) (m := (kpb1_m h to)) (Tr.run follows_mixed (A := [(22000, aF h22000)]) (rows := [0, 1, 2, 3, 4, 5, 6, 7]) (by kernel_rfl) (.skip rfl (.skip rfl (.cons (fun _ => encS_sc _) (.cons (fun _ => encS_sc _) (.cons (fun _ => encI_sc _) (.cons (fun _ => encI_sc _) (.cons (fun _ => encS_sc _) (.cons (fun _ => encS_sc _) (.cons (fun _ => encI_sc _) (.cons (fun _ => encI_sc _) .nil)))))))))) (le_ble rfl)) ⟨rfl, rfl⟩ (by simp)

theorem kpb1_loop (h : HI) (to : Int) (h_k : KeepF h to) (i : Nat) (n : Int) (hinv : kpb1_inv h to i n) {ds : List Deferred} : Tr Try.prog none ⟨118, ds⟩ 4 (.loop (nthLoop Try.f11 2)) (kpb1_I h to i n) (kpb1_K h to) :=
  Tr.rounds (Inv := (kpb1_vu h to)) (I := (kpb1_Iu h to)) (m := (kpb1_m h to)) (fun x h_0 => kpb1_round h to h_k x.1 x.2 h_0) (i, n) hinv
theorem kps1 (h : HI) (to : Int) (h_k : KeepF h to) {ds : List Deferred} : Tr Try.prog none ⟨118, ds⟩ 4 (nthLoop Try.f11 0) ⟨[(2, .pointer (some ⟨8, 0, none⟩)), (5, .pointer (some ⟨9, 0, none⟩)), (62, .int .i64 1)], [(8, ⟨[.int .i64 h.schema, .int .u64 h.zero, .int .u64 h.zc, .int .u64 h.count, .int .u64 h.sum, .slice (some ⟨0, 0, none⟩) h.pos.length (h.pos.length + 1), .slice (some ⟨1, 0, none⟩) h.neg.length (h.neg.length + 1), .slice (some ⟨2, 0, none⟩) h.pd.length (h.pd.length + 1), .slice (some ⟨3, 0, none⟩) h.nd.length (h.nd.length + 1)], 2, [], 1⟩), (9, ⟨[.int .i64 ((scH h to).schema), .int .u64 ((scH h to).zero), .int .u64 ((scH h to).zc), .int .u64 ((scH h to).count), .int .u64 ((scH h to).sum), .slice (some ⟨4, 0, none⟩) (((scH h to).pos).length) (((scH h to).pos).length + 1), .slice (some ⟨5, 0, none⟩) (((scH h to).neg).length) (((scH h to).neg).length + 1), .slice (some ⟨6, 0, none⟩) (((scH h to).pd).length) (((scH h to).pd).length + 1), .slice (some ⟨7, 0, none⟩) (((scH h to).nd).length) (((scH h to).nd).length + 1)], 2, [], 1⟩), (0, ⟨(h.pos).flatMap encS, 1, [], 2⟩), (1, ⟨(h.neg).flatMap encS, 1, [], 2⟩), (2, ⟨(h.pd).flatMap encI, 1, [], 1⟩), (3, ⟨(h.nd).flatMap encI, 1, [], 1⟩), (4, ⟨((scH h to).pos).flatMap encS, 2, [], 2⟩), (5, ⟨((scH h to).neg).flatMap encS, 2, [], 2⟩), (6, ⟨((scH h to).pd).flatMap encI, 2, [], 1⟩), (7, ⟨((scH h to).nd).flatMap encI, 2, [], 1⟩)], 10⟩ fun e s => e = .normal ∧ s = ⟨[(2, .pointer (some ⟨8, 0, none⟩)), (5, .pointer (some ⟨9, 0, none⟩)), (62, .int .i64 2)], [(8, ⟨[.int .i64 h.schema, .int .u64 h.zero, .int .u64 h.zc, .int .u64 h.count, .int .u64 h.sum, .slice (some ⟨0, 0, none⟩) h.pos.length (h.pos.length + 1), .slice (some ⟨1, 0, none⟩) h.neg.length (h.neg.length + 1), .slice (some ⟨2, 0, none⟩) h.pd.length (h.pd.length + 1), .slice (some ⟨3, 0, none⟩) h.nd.length (h.nd.length + 1)], 2, [], 1⟩), (9, ⟨[.int .i64 ((scH h to).schema), .int .u64 ((scH h to).zero), .int .u64 ((scH h to).zc), .int .u64 ((scH h to).count), .int .u64 ((scH h to).sum), .slice (some ⟨4, 0, none⟩) (((scH h to).pos).length) (((scH h to).pos).length + 1), .slice (some ⟨5, 0, none⟩) (((scH h to).neg).length) (((scH h to).neg).length + 1), .slice (some ⟨6, 0, none⟩) (((scH h to).pd).length) (((scH h to).pd).length + 1), .slice (some ⟨7, 0, none⟩) (((scH h to).nd).length) (((scH h to).nd).length + 1)], 2, [], 1⟩), (0, ⟨(h.pos).flatMap encS, 1, [], 2⟩), (1, ⟨(h.neg).flatMap encS, 1, [], 2⟩), (2, ⟨(h.pd).flatMap encI, 1, [], 1⟩), (3, ⟨(h.nd).flatMap encI, 1, [], 1⟩), (4, ⟨((scH h to).pos).flatMap encS, 2, [], 2⟩), (5, ⟨((scH h to).neg).flatMap encS, 2, [], 2⟩), (6, ⟨((scH h to).pd).flatMap encI, 2, [], 1⟩), (7, ⟨((scH h to).nd).flatMap encI, 2, [], 1⟩)], 10⟩ := by
  have hln := negR_len h
  have hlm := negR_len (scH h to)
  by_cases h13001 : ((openE h : Int) = 0)
  · skip
    by_cases h13004 : ((openE (scH h to) : Int) = 0)
    · skip
      by_cases h13011 : ((((negR (scH h to)).length : Nat) : Int) > (((negR h).length : Nat) : Int))
      · skip
        exact absurd h13011 (by have := h_k.ln; omega)
      · skip
        exact (Tr.run follows_mixed (A := [(11002, aC (hpairs1_ok h h_k.w)), (12002, aC (hpairs1_ok (scH h to) h_k.x)), (13001, aNT h13001), (13004, aNT h13004), (13011, aF h13011), (900000, .stmt (.loop (nthLoop Try.f11 1)) [10, 11, 0, 1, 2, 3, 4, 5, 6, 7] (kpa1_I h to 0 0) (.exit 2) ⟨[(2, .pointer (some ⟨8, 0, none⟩)), (5, .pointer (some ⟨9, 0, none⟩)), (10, .slice (some ⟨11, 0, none⟩) ((negR (scH h to)).length) ((negR (scH h to)).length + 1)), (12, .int .u64 (sumV (negR h))), (62, .int .i64 1)], [(8, ⟨[.int .i64 h.schema, .int .u64 h.zero, .int .u64 h.zc, .int .u64 h.count, .int .u64 h.sum, .slice (some ⟨0, 0, none⟩) h.pos.length (h.pos.length + 1), .slice (some ⟨1, 0, none⟩) h.neg.length (h.neg.length + 1), .slice (some ⟨2, 0, none⟩) h.pd.length (h.pd.length + 1), .slice (some ⟨3, 0, none⟩) h.nd.length (h.nd.length + 1)], 2, [], 1⟩), (9, ⟨[.int .i64 ((scH h to).schema), .int .u64 ((scH h to).zero), .int .u64 ((scH h to).zc), .int .u64 ((scH h to).count), .int .u64 ((scH h to).sum), .slice (some ⟨4, 0, none⟩) (((scH h to).pos).length) (((scH h to).pos).length + 1), .slice (some ⟨5, 0, none⟩) (((scH h to).neg).length) (((scH h to).neg).length + 1), .slice (some ⟨6, 0, none⟩) (((scH h to).pd).length) (((scH h to).pd).length + 1), .slice (some ⟨7, 0, none⟩) (((scH h to).nd).length) (((scH h to).nd).length + 1)], 2, [], 1⟩), (0, ⟨(h.pos).flatMap encS, 1, [], 2⟩), (1, ⟨(h.neg).flatMap encS, 1, [], 2⟩), (2, ⟨(h.pd).flatMap encI, 1, [], 1⟩), (3, ⟨(h.nd).flatMap encI, 1, [], 1⟩), (4, ⟨((scH h to).pos).flatMap encS, 2, [], 2⟩), (5, ⟨((scH h to).neg).flatMap encS, 2, [], 2⟩), (6, ⟨((scH h to).pd).flatMap encI, 2, [], 1⟩), (7, ⟨((scH h to).nd).flatMap encI, 2, [], 1⟩), (10, ⟨(negR h).flatMap encS, 2, [], 2⟩), (11, ⟨(negR (scH h to)).flatMap encS, 2, [], 2⟩)], 12⟩ (.skip rfl (.skip rfl (.cons (fun _ => encS_sc _) (.cons (fun _ => encS_sc _) (.cons (fun _ => encS_sc _) (.cons (fun _ => encS_sc _) (.cons (fun _ => encI_sc _) (.cons (fun _ => encI_sc _) (.cons (fun _ => encS_sc _) (.cons (fun _ => encS_sc _) (.cons (fun _ => encI_sc _) (.cons (fun _ => encI_sc _) .nil)))))))))))) (fun ds => (kpa1_loop h to h_k 0 0 ⟨by omega, by simp [sumV]⟩).pick (fun e s h => h)) (le_ble rfl)), (900000, .stmt (.loop (nthLoop Try.f11 2)) [11, 0, 1, 2, 3, 4, 5, 6, 7] (kpb1_I h to 0 (sumV (negR h))) (.exit 4) ⟨[(2, .pointer (some ⟨8, 0, none⟩)), (5, .pointer (some ⟨9, 0, none⟩)), (12, .int .u64 0), (62, .int .i64 1)], [(8, ⟨[.int .i64 h.schema, .int .u64 h.zero, .int .u64 h.zc, .int .u64 h.count, .int .u64 h.sum, .slice (some ⟨0, 0, none⟩) h.pos.length (h.pos.length + 1), .slice (some ⟨1, 0, none⟩) h.neg.length (h.neg.length + 1), .slice (some ⟨2, 0, none⟩) h.pd.length (h.pd.length + 1), .slice (some ⟨3, 0, none⟩) h.nd.length (h.nd.length + 1)], 2, [], 1⟩), (9, ⟨[.int .i64 ((scH h to).schema), .int .u64 ((scH h to).zero), .int .u64 ((scH h to).zc), .int .u64 ((scH h to).count), .int .u64 ((scH h to).sum), .slice (some ⟨4, 0, none⟩) (((scH h to).pos).length) (((scH h to).pos).length + 1), .slice (some ⟨5, 0, none⟩) (((scH h to).neg).length) (((scH h to).neg).length + 1), .slice (some ⟨6, 0, none⟩) (((scH h to).pd).length) (((scH h to).pd).length + 1), .slice (some ⟨7, 0, none⟩) (((scH h to).nd).length) (((scH h to).nd).length + 1)], 2, [], 1⟩), (0, ⟨(h.pos).flatMap encS, 1, [], 2⟩), (1, ⟨(h.neg).flatMap encS, 1, [], 2⟩), (2, ⟨(h.pd).flatMap encI, 1, [], 1⟩), (3, ⟨(h.nd).flatMap encI, 1, [], 1⟩), (4, ⟨((scH h to).pos).flatMap encS, 2, [], 2⟩), (5, ⟨((scH h to).neg).flatMap encS, 2, [], 2⟩), (6, ⟨((scH h to).pd).flatMap encI, 2, [], 1⟩), (7, ⟨((scH h to).nd).flatMap encI, 2, [], 1⟩)], 12⟩ (.skip rfl (.skip rfl (.cons (fun _ => encS_sc _) (.cons (fun _ => encS_sc _) (.cons (fun _ => encS_sc _) (.cons (fun _ => encI_sc _) (.cons (fun _ => encI_sc _) (.cons (fun _ => encS_sc _) (.cons (fun _ => encS_sc _) (.cons (fun _ => encI_sc _) (.cons (fun _ => encI_sc _) .nil))))))))))) (fun ds => (kpb1_loop h to h_k 0 (sumV (negR h)) ⟨by omega, by simp [sumV]⟩).pick (fun e s h => h)) (le_ble rfl))]) (rows := [0, 1, 2, 3, 4, 5, 6, 7]) (by kernel_rfl) (.skip rfl (.skip rfl (.cons (fun _ => encS_sc _) (.cons (fun _ => encS_sc _) (.cons (fun _ => encI_sc _) (.cons (fun _ => encI_sc _) (.cons (fun _ => encS_sc _) (.cons (fun _ => encS_sc _) (.cons (fun _ => encI_sc _) (.cons (fun _ => encI_sc _) .nil)))))))))) (le_ble rfl))
    · skip
      exact absurd h_k.ox h13004
  · skip
    exact absurd h_k.oh h13001
theorem kps2 (h : HI) (to : Int) (h_k : KeepF h to) {ds : List Deferred} : Tr Try.prog none ⟨118, ds⟩ 4 (nthLoop Try.f11 0) ⟨[(2, .pointer (some ⟨8, 0, none⟩)), (5, .pointer (some ⟨9, 0, none⟩)), (62, .int .i64 2)], [(8, ⟨[.int .i64 h.schema, .int .u64 h.zero, .int .u64 h.zc, .int .u64 h.count, .int .u64 h.sum, .slice (some ⟨0, 0, none⟩) h.pos.length (h.pos.length + 1), .slice (some ⟨1, 0, none⟩) h.neg.length (h.neg.length + 1), .slice (some ⟨2, 0, none⟩) h.pd.length (h.pd.length + 1), .slice (some ⟨3, 0, none⟩) h.nd.length (h.nd.length + 1)], 2, [], 1⟩), (9, ⟨[.int .i64 ((scH h to).schema), .int .u64 ((scH h to).zero), .int .u64 ((scH h to).zc), .int .u64 ((scH h to).count), .int .u64 ((scH h to).sum), .slice (some ⟨4, 0, none⟩) (((scH h to).pos).length) (((scH h to).pos).length + 1), .slice (some ⟨5, 0, none⟩) (((scH h to).neg).length) (((scH h to).neg).length + 1), .slice (some ⟨6, 0, none⟩) (((scH h to).pd).length) (((scH h to).pd).length + 1), .slice (some ⟨7, 0, none⟩) (((scH h to).nd).length) (((scH h to).nd).length + 1)], 2, [], 1⟩), (0, ⟨(h.pos).flatMap encS, 1, [], 2⟩), (1, ⟨(h.neg).flatMap encS, 1, [], 2⟩), (2, ⟨(h.pd).flatMap encI, 1, [], 1⟩), (3, ⟨(h.nd).flatMap encI, 1, [], 1⟩), (4, ⟨((scH h to).pos).flatMap encS, 2, [], 2⟩), (5, ⟨((scH h to).neg).flatMap encS, 2, [], 2⟩), (6, ⟨((scH h to).pd).flatMap encI, 2, [], 1⟩), (7, ⟨((scH h to).nd).flatMap encI, 2, [], 1⟩)], 10⟩ fun e s => e = .exit 0 ∧ s = ⟨[], [], 10⟩ := by
  exact (Tr.run follows_mixed (A := []) (rows := []) (by kernel_rfl) .nil (le_ble rfl))
abbrev kpS (h : HI) (to : Int) : Nat → AS
  | 0 => ⟨[(2, .pointer (some ⟨8, 0, none⟩)), (5, .pointer (some ⟨9, 0, none⟩)), (62, .int .i64 0)], [(8, ⟨[.int .i64 h.schema, .int .u64 h.zero, .int .u64 h.zc, .int .u64 h.count, .int .u64 h.sum, .slice (some ⟨0, 0, none⟩) h.pos.length (h.pos.length + 1), .slice (some ⟨1, 0, none⟩) h.neg.length (h.neg.length + 1), .slice (some ⟨2, 0, none⟩) h.pd.length (h.pd.length + 1), .slice (some ⟨3, 0, none⟩) h.nd.length (h.nd.length + 1)], 2, [], 1⟩), (9, ⟨[.int .i64 ((scH h to).schema), .int .u64 ((scH h to).zero), .int .u64 ((scH h to).zc), .int .u64 ((scH h to).count), .int .u64 ((scH h to).sum), .slice (some ⟨4, 0, none⟩) (((scH h to).pos).length) (((scH h to).pos).length + 1), .slice (some ⟨5, 0, none⟩) (((scH h to).neg).length) (((scH h to).neg).length + 1), .slice (some ⟨6, 0, none⟩) (((scH h to).pd).length) (((scH h to).pd).length + 1), .slice (some ⟨7, 0, none⟩) (((scH h to).nd).length) (((scH h to).nd).length + 1)], 2, [], 1⟩), (0, ⟨(h.pos).flatMap encS, 1, [], 2⟩), (1, ⟨(h.neg).flatMap encS, 1, [], 2⟩), (2, ⟨(h.pd).flatMap encI, 1, [], 1⟩), (3, ⟨(h.nd).flatMap encI, 1, [], 1⟩), (4, ⟨((scH h to).pos).flatMap encS, 2, [], 2⟩), (5, ⟨((scH h to).neg).flatMap encS, 2, [], 2⟩), (6, ⟨((scH h to).pd).flatMap encI, 2, [], 1⟩), (7, ⟨((scH h to).nd).flatMap encI, 2, [], 1⟩)], 10⟩
  | 1 => ⟨[(2, .pointer (some ⟨8, 0, none⟩)), (5, .pointer (some ⟨9, 0, none⟩)), (62, .int .i64 1)], [(8, ⟨[.int .i64 h.schema, .int .u64 h.zero, .int .u64 h.zc, .int .u64 h.count, .int .u64 h.sum, .slice (some ⟨0, 0, none⟩) h.pos.length (h.pos.length + 1), .slice (some ⟨1, 0, none⟩) h.neg.length (h.neg.length + 1), .slice (some ⟨2, 0, none⟩) h.pd.length (h.pd.length + 1), .slice (some ⟨3, 0, none⟩) h.nd.length (h.nd.length + 1)], 2, [], 1⟩), (9, ⟨[.int .i64 ((scH h to).schema), .int .u64 ((scH h to).zero), .int .u64 ((scH h to).zc), .int .u64 ((scH h to).count), .int .u64 ((scH h to).sum), .slice (some ⟨4, 0, none⟩) (((scH h to).pos).length) (((scH h to).pos).length + 1), .slice (some ⟨5, 0, none⟩) (((scH h to).neg).length) (((scH h to).neg).length + 1), .slice (some ⟨6, 0, none⟩) (((scH h to).pd).length) (((scH h to).pd).length + 1), .slice (some ⟨7, 0, none⟩) (((scH h to).nd).length) (((scH h to).nd).length + 1)], 2, [], 1⟩), (0, ⟨(h.pos).flatMap encS, 1, [], 2⟩), (1, ⟨(h.neg).flatMap encS, 1, [], 2⟩), (2, ⟨(h.pd).flatMap encI, 1, [], 1⟩), (3, ⟨(h.nd).flatMap encI, 1, [], 1⟩), (4, ⟨((scH h to).pos).flatMap encS, 2, [], 2⟩), (5, ⟨((scH h to).neg).flatMap encS, 2, [], 2⟩), (6, ⟨((scH h to).pd).flatMap encI, 2, [], 1⟩), (7, ⟨((scH h to).nd).flatMap encI, 2, [], 1⟩)], 10⟩
  | _ => ⟨[(2, .pointer (some ⟨8, 0, none⟩)), (5, .pointer (some ⟨9, 0, none⟩)), (62, .int .i64 2)], [(8, ⟨[.int .i64 h.schema, .int .u64 h.zero, .int .u64 h.zc, .int .u64 h.count, .int .u64 h.sum, .slice (some ⟨0, 0, none⟩) h.pos.length (h.pos.length + 1), .slice (some ⟨1, 0, none⟩) h.neg.length (h.neg.length + 1), .slice (some ⟨2, 0, none⟩) h.pd.length (h.pd.length + 1), .slice (some ⟨3, 0, none⟩) h.nd.length (h.nd.length + 1)], 2, [], 1⟩), (9, ⟨[.int .i64 ((scH h to).schema), .int .u64 ((scH h to).zero), .int .u64 ((scH h to).zc), .int .u64 ((scH h to).count), .int .u64 ((scH h to).sum), .slice (some ⟨4, 0, none⟩) (((scH h to).pos).length) (((scH h to).pos).length + 1), .slice (some ⟨5, 0, none⟩) (((scH h to).neg).length) (((scH h to).neg).length + 1), .slice (some ⟨6, 0, none⟩) (((scH h to).pd).length) (((scH h to).pd).length + 1), .slice (some ⟨7, 0, none⟩) (((scH h to).nd).length) (((scH h to).nd).length + 1)], 2, [], 1⟩), (0, ⟨(h.pos).flatMap encS, 1, [], 2⟩), (1, ⟨(h.neg).flatMap encS, 1, [], 2⟩), (2, ⟨(h.pd).flatMap encI, 1, [], 1⟩), (3, ⟨(h.nd).flatMap encI, 1, [], 1⟩), (4, ⟨((scH h to).pos).flatMap encS, 2, [], 2⟩), (5, ⟨((scH h to).neg).flatMap encS, 2, [], 2⟩), (6, ⟨((scH h to).pd).flatMap encI, 2, [], 1⟩), (7, ⟨((scH h to).nd).flatMap encI, 2, [], 1⟩)], 10⟩
theorem kp_loop (h : HI) (to : Int) (h_k : KeepF h to) {ds : List Deferred} : Tr Try.prog none ⟨118, ds⟩ 4 (.loop (nthLoop Try.f11 0)) (kpS h to 0) fun e s => e = .exit 0 ∧ s = ⟨[], [], 10⟩ := by
  refine Tr.seqLoop (kpS h to) 2 (fun k hk => ?_) ((kps2 h to h_k).mono fun e s ⟨q1, q2⟩ => ⟨by rw [q1]; simp, q1, q2⟩)
  match k, hk with
  | 0, _ => exact kps0 h to h_k
  | 1, _ => exact kps1 h to h_k
theorem keepsLaw_ok (h : HI) (to : Int) (h_r : HRng h) (h_t : I64 to) : FnC Try.prog 11 [.agg #[.int .i64 h.schema, .int .u64 h.zero, .int .u64 h.zc, .int .u64 h.count, .int .u64 h.sum, .slice (some ⟨0, 0, none⟩) h.pos.length (h.pos.length + 1), .slice (some ⟨1, 0, none⟩) h.neg.length (h.neg.length + 1), .slice (some ⟨2, 0, none⟩) h.pd.length (h.pd.length + 1), .slice (some ⟨3, 0, none⟩) h.nd.length (h.nd.length + 1)], .int .i64 to] [(0, ⟨(h.pos).flatMap encS, 1, [], 2⟩), (1, ⟨(h.neg).flatMap encS, 1, [], 2⟩), (2, ⟨(h.pd).flatMap encI, 1, [], 1⟩), (3, ⟨(h.nd).flatMap encI, 1, [], 1⟩)] 4 (.bool true) 0 [] := by
  cases h1001 : (smallS h) with
  | true =>
    by_cases h4001 : ((scE h (to) : Int) = 0)
    · skip
      have hh := scH_eq h4001
      by_cases h6003 : (((scH h (to)).schema : Int) = to)
      · skip
        by_cases h6009 : (((scH h (to)).zero : Int) = h.zero)
        · skip
          by_cases h6016 : (((scH h (to)).sum : Int) = h.sum)
          · skip
            by_cases h6023 : (((scH h (to)).zc : Int) = h.zc)
            · skip
              by_cases h6030 : (((scH h (to)).count : Int) = h.count)
              · skip
                exact FnC.run (m := false) follows_mixed has11 [(1001, aCb (small_ok h h_r.len) h1001), (3002, aC (scints_ok h (to) (h_r.wf h1001) h_t)), (4001, aNT h4001), (6003, aNT h6003), (6009, aNT h6009), (6016, aNT h6016), (6023, aNT h6023), (6030, aNT h6030), (900000, .stmt (.loop (nthLoop Try.f11 0)) [0, 1, 2, 3, 4, 5, 6, 7] (kpS h to 0) (.exit 0) ⟨[], [], 10⟩ (.skip rfl (.skip rfl (.cons (fun _ => encS_sc _) (.cons (fun _ => encS_sc _) (.cons (fun _ => encI_sc _) (.cons (fun _ => encI_sc _) (.cons (fun _ => encS_sc _) (.cons (fun _ => encS_sc _) (.cons (fun _ => encI_sc _) (.cons (fun _ => encI_sc _) .nil)))))))))) (fun ds => kp_loop h to (keepF (h_r.wf h1001) h_t h4001)) (le_ble rfl)), (29000, aC awake_ok)] (by kernel_rfl) (by kernel_rfl) (.cons (encS_sc _) (.cons (encS_sc _) (.cons (encI_sc _) (.cons (encI_sc _) .nil)))) .nil
              · skip
                exact absurd (by rw [hh]; rfl) h6030
            · skip
              exact absurd (by rw [hh]; rfl) h6023
          · skip
            exact absurd (by rw [hh]; rfl) h6016
        · skip
          exact absurd (by rw [hh]; rfl) h6009
      · skip
        exact absurd (by rw [hh]; rfl) h6003
    · skip
      exact FnC.run (m := false) follows_mixed has11 [(1001, aCb (small_ok h h_r.len) h1001), (3002, aC (scints_ok h (to) (h_r.wf h1001) h_t)), (4001, aNF h4001), (5000, aC awake_ok)] (by kernel_rfl) (by kernel_rfl) (.cons (encS_sc _) (.cons (encS_sc _) (.cons (encI_sc _) (.cons (encI_sc _) .nil)))) .nil
  | false =>
    exact FnC.run (m := false) follows_mixed has11 [(1001, aCb (small_ok h h_r.len) h1001), (2000, aC awake_ok)] (by kernel_rfl) (by kernel_rfl) (.cons (encS_sc _) (.cons (encS_sc _) (.cons (encI_sc _) (.cons (encI_sc _) .nil)))) .nil
end Go.Am
