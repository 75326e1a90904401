/-
scale.Floats, package sample, scale.Sample.
-/
import Derived.Test.YtbihgmehjhlojaaFhi
set_option linter.unusedVariables false
set_option linter.unusedSimpArgs false
set_option maxRecDepth 100000
namespace Go.Am
open Go Go.RowKit Go.Proofs
theorem has64 : Has Try.prog 64 Try.f64 (bodyOf Try.f64) := ⟨Try.func64, by kernel_rfl, by kernel_rfl⟩
theorem has129 : Has Try.prog 129 Try.f129 (bodyOf Try.f129) := ⟨Try.func129, by kernel_rfl, by kernel_rfl⟩
theorem has217 : Has Try.prog 217 Try.f217 (bodyOf Try.f217) := ⟨Try.func217, by kernel_rfl, by kernel_rfl⟩
theorem has130 : Has Try.prog 130 Try.f130 (bodyOf Try.f130) := ⟨Try.func130, by kernel_rfl, by kernel_rfl⟩
theorem has218 : Has Try.prog 218 Try.f218 (bodyOf Try.f218) := ⟨Try.func218, by kernel_rfl, by kernel_rfl⟩
theorem addF_fok {x y v : Int} (hx : FOK x) (hy : FOK y) (h : addF x y = some v) : FOK v := by
  unfold addF at h
  split at h
  · rename_i ht; injection h with h; subst h
    exact ⟨(fadd_facts hx hy).2.1, by simpa [thrS] using ht⟩
  · cases h
theorem FOK.u {x : Int} (h : FOK x) : U64 x := by unfold FOK at h; unfold U64; omega
theorem WOK.u {l : List (Int × Int)} (h : WOK FOK l) : ∀ x ∈ l, U64 x.2 := fun x hx => (h x hx).2.u
theorem fnum_to {h : HF} {to : Int} (w : FNum h) (ht : I64 to) : FNum { h with schema := to } := ⟨ht, w.zero, w.zc, w.count, w.sum⟩
def sfP (h : HF) (to : Int) : List (Int × Int) := nz (widR addF (h.schema - to) (fposR h))
def sfN (h : HF) (to : Int) : List (Int × Int) := nz (widR addF (h.schema - to) (fnegR h))
def sfE (h : HF) (to : Int) : Int := if fopE h ≠ 0 then fopE h else if wrongS h.schema to then 21 else if (widF addF (h.schema - to) (fposR h)).isSome = false ∨ (widF addF (h.schema - to) (fnegR h)).isSome = false then 28 else fmakeE { h with schema := to } (sfP h to) (sfN h to)
def sfH (h : HF) (to : Int) : HF := if sfE h to = 0 then flaid { h with schema := to } (sfP h to) (sfN h to) else HF0
theorem sfH_bad {h : HF} {to : Int} (e : sfE h to ≠ 0) : sfH h to = HF0 := by unfold sfH; rw [if_neg e]
theorem sfP_wok {h : HF} (w : FWf h) (to : Int) : WOK FOK (sfP h to) ∧ (sfP h to).length ≤ 4096 := by
  obtain ⟨h1, h2⟩ := widR_wok (b := h.schema - to) (fun x y v => addF_fok) (fposR_wok w)
  exact ⟨h1.nz, Nat.le_trans (nz_len _) (Nat.le_trans h2 (fposR_len h))⟩
theorem sfN_wok {h : HF} (w : FWf h) (to : Int) : WOK FOK (sfN h to) ∧ (sfN h to).length ≤ 4096 := by
  obtain ⟨h1, h2⟩ := widR_wok (b := h.schema - to) (fun x y v => addF_fok) (fnegR_wok w)
  exact ⟨h1.nz, Nat.le_trans (nz_len _) (Nat.le_trans h2 (fnegR_len h))⟩
theorem fopE_head {h : HF} (e : fopE h = 0) : fheadE h = 0 ∧ headE h.schema h.zero = 0 := by
  have h1 : fheadE h = 0 := by
    by_cases q : fheadE h = 0
    · exact q
    · unfold fopE at e; rw [if_pos q] at e; exact absurd e q
  refine ⟨h1, ?_⟩
  by_cases q : headE h.schema h.zero = 0
  · exact q
  · unfold fheadE at h1; rw [if_pos q] at h1; exact absurd h1 q
theorem scfloats_ok (h : HF) (to : Int) (h_w : FWf h) (h_t : I64 to) : FnC Try.prog 64 [.agg #[.int .i64 h.schema, .int .u64 h.zero, .int .u64 h.zc, .int .u64 h.count, .int .u64 h.sum, .slice (some ⟨0, 0, none⟩) h.pos.length (h.pos.length + 1), .slice (some ⟨1, 0, none⟩) h.neg.length (h.neg.length + 1), .slice (some ⟨2, 0, none⟩) h.pc.length (h.pc.length + 1), .slice (some ⟨3, 0, none⟩) h.nc.length (h.nc.length + 1)], .int .i64 to] [(0, ⟨(h.pos).flatMap encS, 1, [], 2⟩), (1, ⟨(h.neg).flatMap encS, 1, [], 2⟩), (2, ⟨(h.pc).flatMap encW, 1, [], 1⟩), (3, ⟨(h.nc).flatMap encW, 1, [], 1⟩)] 4 (.tuple #[.agg #[.int .i64 ((sfH h to).schema), .int .u64 ((sfH h to).zero), .int .u64 ((sfH h to).zc), .int .u64 ((sfH h to).count), .int .u64 ((sfH h to).sum), .slice (some ⟨4, 0, none⟩) (((sfH h to).pos).length) (((sfH h to).pos).length + 1), .slice (some ⟨5, 0, none⟩) (((sfH h to).neg).length) (((sfH h to).neg).length + 1), .slice (some ⟨6, 0, none⟩) (((sfH h to).pc).length) (((sfH h to).pc).length + 1), .slice (some ⟨7, 0, none⟩) (((sfH h to).nc).length) (((sfH h to).nc).length + 1)], .int .i64 (sfE h to)]) 4 [(4, ⟨((sfH h to).pos).flatMap encS, 2, [], 2⟩), (5, ⟨((sfH h to).neg).flatMap encS, 2, [], 2⟩), (6, ⟨((sfH h to).pc).flatMap encW, 2, [], 1⟩), (7, ⟨((sfH h to).nc).flatMap encW, 2, [], 1⟩)] := by
  by_cases h2001 : ((fopE h : Int) = 0)
  · skip
    have hs := head_schema (fopE_head h2001).2
    cases h5003 : (wrongS h.schema to) with
    | true =>
      have he : sfE h to = 21 := by simp [sfE, h2001, h5003]
      have hn : sfE h to ≠ 0 := by rw [he]; decide
      rw [sfH_bad hn, he]
      exact FnC.run (m := false) follows_mixed has64 [(1001, aC (fpairs0_ok h h_w)), (2001, aNT h2001), (4001, aC (fpairs1_ok h h_w)), (5003, aCb (wrong_ok (h.schema) (to)) h5003)] (by kernel_rfl) (by kernel_rfl) (.cons (encS_sc _) (.cons (encS_sc _) (.cons (encW_sc _) (.cons (encW_sc _) .nil)))) (.cons (encS_sc _) (.cons (encS_sc _) (.cons (encW_sc _) (.cons (encW_sc _) .nil))))
    | false =>
      have hto : -4 ≤ to ∧ to ≤ h.schema := by simp [wrongS] at h5003; omega
      cases h7008 : ((widF addF (h.schema - to) (fposR h)).isSome) with
      | true =>
        cases h8008 : ((widF addF (h.schema - to) (fnegR h)).isSome) with
        | true =>
          have he : sfE h to = fmakeE { h with schema := to } (sfP h to) (sfN h to) := by unfold sfE; rw [if_neg (by simp [h2001]), if_neg (by simp [h5003]), if_neg (by rw [h7008, h8008]; simp)]
          have hh : sfH h to = fmakeH { h with schema := to } (sfP h to) (sfN h to) := by unfold sfH fmakeH; rw [he]
          rw [hh, he]
          exact FnC.run (m := false) follows_mixed has64 [(1001, aC (fpairs0_ok h h_w)), (2001, aNT h2001), (4001, aC (fpairs1_ok h h_w)), (5003, aCb (wrong_ok (h.schema) (to)) h5003), (7004, aI .i64 .i64 (h.schema - to) (h.schema - to) (wrap_i64 (by omega) (by omega))), (7005, aC (widenU_ok (fposR h) (h.schema - to) (fposR_wok h_w) (Nat.le_trans (fposR_len h) (by decide)))), (7008, aB h7008), (8004, aI .i64 .i64 (h.schema - to) (h.schema - to) (wrap_i64 (by omega) (by omega))), (8005, aC (widenU_ok (fnegR h) (h.schema - to) (fnegR_wok h_w) (Nat.le_trans (fnegR_len h) (by decide)))), (8008, aB h8008), (12002, aC (withoutU_ok (widR addF (h.schema - to) (fposR h)) (Nat.le_trans (widR_wok (fun x y v => addF_fok) (fposR_wok h_w)).2 (Nat.le_trans (fposR_len h) (by decide))))), (12004, aC (withoutU_ok (widR addF (h.schema - to) (fnegR h)) (Nat.le_trans (widR_wok (fun x y v => addF_fok) (fnegR_wok h_w)).2 (Nat.le_trans (fnegR_len h) (by decide))))), (12005, aC (fmake_ok ({ h with schema := to } : HF) (nz (widR addF (h.schema - to) (fposR h))) (nz (widR addF (h.schema - to) (fnegR h))) (fnum_to h_w.num h_t) (sfP_wok h_w to).1.u (sfN_wok h_w to).1.u (Nat.le_trans (sfP_wok h_w to).2 (by decide)) (Nat.le_trans (sfN_wok h_w to).2 (by decide))))] (by kernel_rfl) (by kernel_rfl) (.cons (encS_sc _) (.cons (encS_sc _) (.cons (encW_sc _) (.cons (encW_sc _) .nil)))) (.cons (encS_sc _) (.cons (encS_sc _) (.cons (encW_sc _) (.cons (encW_sc _) .nil))))
        | false =>
          have he : sfE h to = 28 := by unfold sfE; rw [if_neg (by simp [h2001]), if_neg (by simp [h5003]), if_pos (.inr h8008)]
          rw [sfH_bad (by rw [he]; decide), he]
          exact FnC.run (m := false) follows_mixed has64 [(1001, aC (fpairs0_ok h h_w)), (2001, aNT h2001), (4001, aC (fpairs1_ok h h_w)), (5003, aCb (wrong_ok (h.schema) (to)) h5003), (7004, aI .i64 .i64 (h.schema - to) (h.schema - to) (wrap_i64 (by omega) (by omega))), (7005, aC (widenU_ok (fposR h) (h.schema - to) (fposR_wok h_w) (Nat.le_trans (fposR_len h) (by decide)))), (7008, aB h7008), (8004, aI .i64 .i64 (h.schema - to) (h.schema - to) (wrap_i64 (by omega) (by omega))), (8005, aC (widenU_ok (fnegR h) (h.schema - to) (fnegR_wok h_w) (Nat.le_trans (fnegR_len h) (by decide)))), (8008, aB h8008)] (by kernel_rfl) (by kernel_rfl) (.cons (encS_sc _) (.cons (encS_sc _) (.cons (encW_sc _) (.cons (encW_sc _) .nil)))) (.cons (encS_sc _) (.cons (encS_sc _) (.cons (encW_sc _) (.cons (encW_sc _) .nil))))
      | false =>
        have he : sfE h to = 28 := by unfold sfE; rw [if_neg (by simp [h2001]), if_neg (by simp [h5003]), if_pos (.inl h7008)]
        rw [sfH_bad (by rw [he]; decide), he]
        exact FnC.run (m := false) follows_mixed has64 [(1001, aC (fpairs0_ok h h_w)), (2001, aNT h2001), (4001, aC (fpairs1_ok h h_w)), (5003, aCb (wrong_ok (h.schema) (to)) h5003), (7004, aI .i64 .i64 (h.schema - to) (h.schema - to) (wrap_i64 (by omega) (by omega))), (7005, aC (widenU_ok (fposR h) (h.schema - to) (fposR_wok h_w) (Nat.le_trans (fposR_len h) (by decide)))), (7008, aB h7008), (8004, aI .i64 .i64 (h.schema - to) (h.schema - to) (wrap_i64 (by omega) (by omega))), (8005, aC (widenU_ok (fnegR h) (h.schema - to) (fnegR_wok h_w) (Nat.le_trans (fnegR_len h) (by decide))))] (by kernel_rfl) (by kernel_rfl) (.cons (encS_sc _) (.cons (encS_sc _) (.cons (encW_sc _) (.cons (encW_sc _) .nil)))) (.cons (encS_sc _) (.cons (encS_sc _) (.cons (encW_sc _) (.cons (encW_sc _) .nil))))
  · skip
    have he : sfE h to = fopE h := by simp [sfE, h2001]
    have hn : sfE h to ≠ 0 := by rw [he]; assumption
    rw [sfH_bad hn, he]
    exact FnC.run (m := false) follows_mixed has64 [(1001, aC (fpairs0_ok h h_w)), (2001, aNF h2001)] (by kernel_rfl) (by kernel_rfl) (.cons (encS_sc _) (.cons (encS_sc _) (.cons (encW_sc _) (.cons (encW_sc _) .nil)))) (.cons (encS_sc _) (.cons (encS_sc _) (.cons (encW_sc _) (.cons (encW_sc _) .nil))))
structure HS where
  t : Int
  v : Int
  i : HI
  f : HF
def sampE (s : HS) : Int := if s.v = 0 then openE s.i else if s.v = 1 then fopE s.f else 25
theorem scheck_ok (s : HS) (h_i : HWf s.i) (h_f : FWf s.f) : FnC Try.prog 217 [.agg #[.int .i64 s.t, .int .i64 s.v, .int .i64 s.i.schema, .int .u64 s.i.zero, .int .u64 s.i.zc, .int .u64 s.i.count, .int .u64 s.i.sum, .slice (some ⟨0, 0, none⟩) s.i.pos.length (s.i.pos.length + 1), .slice (some ⟨1, 0, none⟩) s.i.neg.length (s.i.neg.length + 1), .slice (some ⟨2, 0, none⟩) s.i.pd.length (s.i.pd.length + 1), .slice (some ⟨3, 0, none⟩) s.i.nd.length (s.i.nd.length + 1), .int .i64 s.f.schema, .int .u64 s.f.zero, .int .u64 s.f.zc, .int .u64 s.f.count, .int .u64 s.f.sum, .slice (some ⟨4, 0, none⟩) s.f.pos.length (s.f.pos.length + 1), .slice (some ⟨5, 0, none⟩) s.f.neg.length (s.f.neg.length + 1), .slice (some ⟨6, 0, none⟩) s.f.pc.length (s.f.pc.length + 1), .slice (some ⟨7, 0, none⟩) s.f.nc.length (s.f.nc.length + 1)]] [(0, ⟨(s.i.pos).flatMap encS, 1, [], 2⟩), (1, ⟨(s.i.neg).flatMap encS, 1, [], 2⟩), (2, ⟨(s.i.pd).flatMap encI, 1, [], 1⟩), (3, ⟨(s.i.nd).flatMap encI, 1, [], 1⟩), (4, ⟨(s.f.pos).flatMap encS, 1, [], 2⟩), (5, ⟨(s.f.neg).flatMap encS, 1, [], 2⟩), (6, ⟨(s.f.pc).flatMap encW, 1, [], 1⟩), (7, ⟨(s.f.nc).flatMap encW, 1, [], 1⟩)] 8 (.int .i64 (sampE s)) 0 [] := by
  by_cases h2000 : ((s.v : Int) = 0)
  · skip
    exact FnC.eq (v := .int .i64 (openE s.i)) (FnC.run (m := false) follows_mixed has217 [(2000, aT h2000), (3002, aC (hcheck_ok s.i h_i))] (by kernel_rfl) (by kernel_rfl) (.cons (encS_sc _) (.cons (encS_sc _) (.cons (encI_sc _) (.cons (encI_sc _) (.cons (encS_sc _) (.cons (encS_sc _) (.cons (encW_sc _) (.cons (encW_sc _) .nil)))))))) .nil) (by simp [sampE, h2000])
  · skip
    by_cases h4000 : ((s.v : Int) = 1)
    · skip
      exact FnC.eq (v := .int .i64 (fopE s.f)) (FnC.run (m := false) follows_mixed has217 [(2000, aF h2000), (4000, aT h4000), (5002, aC (fcheck_ok s.f h_f))] (by kernel_rfl) (by kernel_rfl) (.cons (encS_sc _) (.cons (encS_sc _) (.cons (encI_sc _) (.cons (encI_sc _) (.cons (encS_sc _) (.cons (encS_sc _) (.cons (encW_sc _) (.cons (encW_sc _) .nil)))))))) .nil) (by simp [sampE, h4000])
    · skip
      exact FnC.eq (v := .int .i64 25) (FnC.run (m := false) follows_mixed has217 [(2000, aF h2000), (4000, aF h4000)] (by kernel_rfl) (by kernel_rfl) (.cons (encS_sc _) (.cons (encS_sc _) (.cons (encI_sc _) (.cons (encI_sc _) (.cons (encS_sc _) (.cons (encS_sc _) (.cons (encW_sc _) (.cons (encW_sc _) .nil)))))))) .nil) (by simp [sampE, h2000, h4000])
theorem sints_ok (t : Int) (h : HI) : FnC Try.prog 130 [.int .i64 t, .agg #[.int .i64 h.schema, .int .u64 h.zero, .int .u64 h.zc, .int .u64 h.count, .int .u64 h.sum, .slice (some ⟨0, 0, none⟩) h.pos.length (h.pos.length + 1), .slice (some ⟨1, 0, none⟩) h.neg.length (h.neg.length + 1), .slice (some ⟨2, 0, none⟩) h.pd.length (h.pd.length + 1), .slice (some ⟨3, 0, none⟩) h.nd.length (h.nd.length + 1)]] [(0, ⟨(h.pos).flatMap encS, 1, [], 2⟩), (1, ⟨(h.neg).flatMap encS, 1, [], 2⟩), (2, ⟨(h.pd).flatMap encI, 1, [], 1⟩), (3, ⟨(h.nd).flatMap encI, 1, [], 1⟩)] 4 (.agg #[.int .i64 t, .int .i64 0, .int .i64 h.schema, .int .u64 h.zero, .int .u64 h.zc, .int .u64 h.count, .int .u64 h.sum, .slice (some ⟨0, 0, none⟩) h.pos.length (h.pos.length + 1), .slice (some ⟨1, 0, none⟩) h.neg.length (h.neg.length + 1), .slice (some ⟨2, 0, none⟩) h.pd.length (h.pd.length + 1), .slice (some ⟨3, 0, none⟩) h.nd.length (h.nd.length + 1), .int .i64 0, .int .u64 0, .int .u64 0, .int .u64 0, .int .u64 0, .slice none 0 0, .slice none 0 0, .slice none 0 0, .slice none 0 0]) 0 [] := by
  exact FnC.run (m := false) follows_mixed has130 [] (by kernel_rfl) (by kernel_rfl) (.cons (encS_sc _) (.cons (encS_sc _) (.cons (encI_sc _) (.cons (encI_sc _) .nil)))) .nil
theorem sfloats_ok (t : Int) (h : HF) : FnC Try.prog 218 [.int .i64 t, .agg #[.int .i64 h.schema, .int .u64 h.zero, .int .u64 h.zc, .int .u64 h.count, .int .u64 h.sum, .slice (some ⟨0, 0, none⟩) h.pos.length (h.pos.length + 1), .slice (some ⟨1, 0, none⟩) h.neg.length (h.neg.length + 1), .slice (some ⟨2, 0, none⟩) h.pc.length (h.pc.length + 1), .slice (some ⟨3, 0, none⟩) h.nc.length (h.nc.length + 1)]] [(0, ⟨(h.pos).flatMap encS, 1, [], 2⟩), (1, ⟨(h.neg).flatMap encS, 1, [], 2⟩), (2, ⟨(h.pc).flatMap encW, 1, [], 1⟩), (3, ⟨(h.nc).flatMap encW, 1, [], 1⟩)] 4 (.agg #[.int .i64 t, .int .i64 1, .int .i64 0, .int .u64 0, .int .u64 0, .int .u64 0, .int .u64 0, .slice none 0 0, .slice none 0 0, .slice none 0 0, .slice none 0 0, .int .i64 h.schema, .int .u64 h.zero, .int .u64 h.zc, .int .u64 h.count, .int .u64 h.sum, .slice (some ⟨0, 0, none⟩) h.pos.length (h.pos.length + 1), .slice (some ⟨1, 0, none⟩) h.neg.length (h.neg.length + 1), .slice (some ⟨2, 0, none⟩) h.pc.length (h.pc.length + 1), .slice (some ⟨3, 0, none⟩) h.nc.length (h.nc.length + 1)]) 0 [] := by
  exact FnC.run (m := false) follows_mixed has218 [] (by kernel_rfl) (by kernel_rfl) (.cons (encS_sc _) (.cons (encS_sc _) (.cons (encW_sc _) (.cons (encW_sc _) .nil)))) .nil
def ssE (s : HS) (to : Int) : Int := if sampE s ≠ 0 then sampE s else if s.v = 0 then scE s.i to else sfE s.f to
def HS0 : HS := ⟨0, 0, HI0, HF0⟩
def ssH (s : HS) (to : Int) : HS := if ssE s to ≠ 0 then HS0 else if s.v = 0 then ⟨s.t, 0, scH s.i to, HF0⟩ else ⟨s.t, 1, HI0, sfH s.f to⟩
theorem ssH_bad {s : HS} {to : Int} (e : ssE s to ≠ 0) : ssH s to = HS0 := by unfold ssH; rw [if_pos e]
theorem scsample_ok (s : HS) (to : Int) (h_i : HWf s.i) (h_f : FWf s.f) (h_t : I64 to) : FnC Try.prog 129 [.agg #[.int .i64 s.t, .int .i64 s.v, .int .i64 s.i.schema, .int .u64 s.i.zero, .int .u64 s.i.zc, .int .u64 s.i.count, .int .u64 s.i.sum, .slice (some ⟨0, 0, none⟩) s.i.pos.length (s.i.pos.length + 1), .slice (some ⟨1, 0, none⟩) s.i.neg.length (s.i.neg.length + 1), .slice (some ⟨2, 0, none⟩) s.i.pd.length (s.i.pd.length + 1), .slice (some ⟨3, 0, none⟩) s.i.nd.length (s.i.nd.length + 1), .int .i64 s.f.schema, .int .u64 s.f.zero, .int .u64 s.f.zc, .int .u64 s.f.count, .int .u64 s.f.sum, .slice (some ⟨4, 0, none⟩) s.f.pos.length (s.f.pos.length + 1), .slice (some ⟨5, 0, none⟩) s.f.neg.length (s.f.neg.length + 1), .slice (some ⟨6, 0, none⟩) s.f.pc.length (s.f.pc.length + 1), .slice (some ⟨7, 0, none⟩) s.f.nc.length (s.f.nc.length + 1)], .int .i64 to] [(0, ⟨(s.i.pos).flatMap encS, 1, [], 2⟩), (1, ⟨(s.i.neg).flatMap encS, 1, [], 2⟩), (2, ⟨(s.i.pd).flatMap encI, 1, [], 1⟩), (3, ⟨(s.i.nd).flatMap encI, 1, [], 1⟩), (4, ⟨(s.f.pos).flatMap encS, 1, [], 2⟩), (5, ⟨(s.f.neg).flatMap encS, 1, [], 2⟩), (6, ⟨(s.f.pc).flatMap encW, 1, [], 1⟩), (7, ⟨(s.f.nc).flatMap encW, 1, [], 1⟩)] 8 (.tuple #[.agg #[.int .i64 ((ssH s to).t), .int .i64 ((ssH s to).v), .int .i64 ((ssH s to).i.schema), .int .u64 ((ssH s to).i.zero), .int .u64 ((ssH s to).i.zc), .int .u64 ((ssH s to).i.count), .int .u64 ((ssH s to).i.sum), .slice (some ⟨8, 0, none⟩) (((ssH s to).i.pos).length) (((ssH s to).i.pos).length + 1), .slice (some ⟨9, 0, none⟩) (((ssH s to).i.neg).length) (((ssH s to).i.neg).length + 1), .slice (some ⟨10, 0, none⟩) (((ssH s to).i.pd).length) (((ssH s to).i.pd).length + 1), .slice (some ⟨11, 0, none⟩) (((ssH s to).i.nd).length) (((ssH s to).i.nd).length + 1), .int .i64 ((ssH s to).f.schema), .int .u64 ((ssH s to).f.zero), .int .u64 ((ssH s to).f.zc), .int .u64 ((ssH s to).f.count), .int .u64 ((ssH s to).f.sum), .slice (some ⟨12, 0, none⟩) (((ssH s to).f.pos).length) (((ssH s to).f.pos).length + 1), .slice (some ⟨13, 0, none⟩) (((ssH s to).f.neg).length) (((ssH s to).f.neg).length + 1), .slice (some ⟨14, 0, none⟩) (((ssH s to).f.pc).length) (((ssH s to).f.pc).length + 1), .slice (some ⟨15, 0, none⟩) (((ssH s to).f.nc).length) (((ssH s to).f.nc).length + 1)], .int .i64 (ssE s to)]) 8 [(8, ⟨((ssH s to).i.pos).flatMap encS, 2, [], 2⟩), (9, ⟨((ssH s to).i.neg).flatMap encS, 2, [], 2⟩), (10, ⟨((ssH s to).i.pd).flatMap encI, 2, [], 1⟩), (11, ⟨((ssH s to).i.nd).flatMap encI, 2, [], 1⟩), (12, ⟨((ssH s to).f.pos).flatMap encS, 2, [], 2⟩), (13, ⟨((ssH s to).f.neg).flatMap encS, 2, [], 2⟩), (14, ⟨((ssH s to).f.pc).flatMap encW, 2, [], 1⟩), (15, ⟨((ssH s to).f.nc).flatMap encW, 2, [], 1⟩)] := by
  by_cases h2001 : ((sampE s : Int) = 0)
  · skip
    by_cases h4002 : ((s.v : Int) = 0)
    · skip
      by_cases h6001 : ((scE s.i (to) : Int) = 0)
      · skip
        have he : ssE s to = 0 := by simp [ssE, h2001, h4002, h6001]
        have hh : ssH s to = ⟨s.t, 0, scH s.i to, HF0⟩ := by simp [ssH, he, h4002]
        rw [hh, he]
        exact FnC.run (m := false) follows_mixed has129 [(1001, aC (scheck_ok s h_i h_f)), (2001, aNT h2001), (4002, aT h4002), (5003, aC (scints_ok s.i (to) h_i h_t)), (6001, aNT h6001), (8003, aC (sints_ok (s.t) (scH s.i (to))))] (by kernel_rfl) (by kernel_rfl) (.cons (encS_sc _) (.cons (encS_sc _) (.cons (encI_sc _) (.cons (encI_sc _) (.cons (encS_sc _) (.cons (encS_sc _) (.cons (encW_sc _) (.cons (encW_sc _) .nil)))))))) (.cons (encS_sc _) (.cons (encS_sc _) (.cons (encI_sc _) (.cons (encI_sc _) (.cons (encS_sc _) (.cons (encS_sc _) (.cons (encW_sc _) (.cons (encW_sc _) .nil))))))))
      · skip
        have he : ssE s to = scE s.i to := by simp [ssE, h2001, h4002]
        rw [ssH_bad (by rw [he]; assumption), he]
        exact FnC.run (m := false) follows_mixed has129 [(1001, aC (scheck_ok s h_i h_f)), (2001, aNT h2001), (4002, aT h4002), (5003, aC (scints_ok s.i (to) h_i h_t)), (6001, aNF h6001)] (by kernel_rfl) (by kernel_rfl) (.cons (encS_sc _) (.cons (encS_sc _) (.cons (encI_sc _) (.cons (encI_sc _) (.cons (encS_sc _) (.cons (encS_sc _) (.cons (encW_sc _) (.cons (encW_sc _) .nil)))))))) (.cons (encS_sc _) (.cons (encS_sc _) (.cons (encI_sc _) (.cons (encI_sc _) (.cons (encS_sc _) (.cons (encS_sc _) (.cons (encW_sc _) (.cons (encW_sc _) .nil))))))))
    · skip
      by_cases h10001 : ((sfE s.f (to) : Int) = 0)
      · skip
        have he : ssE s to = 0 := by simp [ssE, h2001, h4002, h10001]
        have hh : ssH s to = ⟨s.t, 1, HI0, sfH s.f to⟩ := by simp [ssH, he, h4002]
        rw [hh, he]
        exact FnC.run (m := false) follows_mixed has129 [(1001, aC (scheck_ok s h_i h_f)), (2001, aNT h2001), (4002, aF h4002), (9003, aC (scfloats_ok s.f (to) h_f h_t)), (10001, aNT h10001), (12003, aC (sfloats_ok (s.t) (sfH s.f (to))))] (by kernel_rfl) (by kernel_rfl) (.cons (encS_sc _) (.cons (encS_sc _) (.cons (encI_sc _) (.cons (encI_sc _) (.cons (encS_sc _) (.cons (encS_sc _) (.cons (encW_sc _) (.cons (encW_sc _) .nil)))))))) (.cons (encS_sc _) (.cons (encS_sc _) (.cons (encI_sc _) (.cons (encI_sc _) (.cons (encS_sc _) (.cons (encS_sc _) (.cons (encW_sc _) (.cons (encW_sc _) .nil))))))))
      · skip
        have he : ssE s to = sfE s.f to := by simp [ssE, h2001, h4002]
        rw [ssH_bad (by rw [he]; assumption), he]
        exact FnC.run (m := false) follows_mixed has129 [(1001, aC (scheck_ok s h_i h_f)), (2001, aNT h2001), (4002, aF h4002), (9003, aC (scfloats_ok s.f (to) h_f h_t)), (10001, aNF h10001)] (by kernel_rfl) (by kernel_rfl) (.cons (encS_sc _) (.cons (encS_sc _) (.cons (encI_sc _) (.cons (encI_sc _) (.cons (encS_sc _) (.cons (encS_sc _) (.cons (encW_sc _) (.cons (encW_sc _) .nil)))))))) (.cons (encS_sc _) (.cons (encS_sc _) (.cons (encI_sc _) (.cons (encI_sc _) (.cons (encS_sc _) (.cons (encS_sc _) (.cons (encW_sc _) (.cons (encW_sc _) .nil))))))))
  · skip
    have he : ssE s to = sampE s := by simp [ssE, h2001]
    rw [ssH_bad (by rw [he]; assumption), he]
    exact FnC.run (m := false) follows_mixed has129 [(1001, aC (scheck_ok s h_i h_f)), (2001, aNF h2001)] (by kernel_rfl) (by kernel_rfl) (.cons (encS_sc _) (.cons (encS_sc _) (.cons (encI_sc _) (.cons (encI_sc _) (.cons (encS_sc _) (.cons (encS_sc _) (.cons (encW_sc _) (.cons (encW_sc _) .nil)))))))) (.cons (encS_sc _) (.cons (encS_sc _) (.cons (encI_sc _) (.cons (encI_sc _) (.cons (encS_sc _) (.cons (encS_sc _) (.cons (encW_sc _) (.cons (encW_sc _) .nil))))))))
end Go.Am
