/-
From places to spans; values to differences; hist.Make.
-/
import Derived.Test.YtbihgmehjhlojaaHst
set_option linter.unusedVariables false
set_option linter.unusedSimpArgs false
set_option maxRecDepth 100000
namespace Go.Am
open Go Go.RowKit Go.Proofs
theorem has244 : Has Try.prog 244 Try.f244 (bodyOf Try.f244) := ⟨Try.func244, by kernel_rfl, by kernel_rfl⟩
theorem has265 : Has Try.prog 265 Try.f265 (bodyOf Try.f265) := ⟨Try.func265, by kernel_rfl, by kernel_rfl⟩
theorem has284 : Has Try.prog 284 Try.f284 (bodyOf Try.f284) := ⟨Try.func284, by kernel_rfl, by kernel_rfl⟩
theorem has266 : Has Try.prog 266 Try.f266 (bodyOf Try.f266) := ⟨Try.func266, by kernel_rfl, by kernel_rfl⟩
theorem has219 : Has Try.prog 219 Try.f219 (bodyOf Try.f219) := ⟨Try.func219, by kernel_rfl, by kernel_rfl⟩
theorem has135 : Has Try.prog 135 Try.f135 (bodyOf Try.f135) := ⟨Try.func135, by kernel_rfl, by kernel_rfl⟩
def bump (o : List Sp) : List Sp := o.set (o.length - 1) ((o.getD (o.length - 1) (0, 0)).1, (o.getD (o.length - 1) (0, 0)).2 + 1)
def runStep (st : List Sp × Int) (p : Int) : List Sp × Int := (bump (if st.1 = [] ∨ p ≠ st.2 then st.1 ++ [(p - st.2, 0)] else st.1), p + 1)
def runsG (l : List Int) : List Sp × Int := l.foldl runStep ([], 0)
def runsF (l : List Int) : List Sp := (runsG l).1
theorem runsG_next {l : List Int} {i : Nat} {s : Int} (h : l[i]? = some s) : runsG (l.take (i + 1)) = runStep (runsG (l.take i)) s := by
  unfold runsG; rw [take_next h, List.foldl_append]; rfl
theorem bump_eq {o : List Sp} {s : Sp} (h : o[o.length - 1]? = some s) : o.set (o.length - 1) (s.1, s.2 + 1) = bump o := by
  unfold bump; rw [List.getD_eq_getElem?_getD, h]; rfl
theorem bump_len (o : List Sp) : (bump o).length = o.length := by unfold bump; simp
theorem bump_le {o : List Sp} {n : Int} (h : ∀ s ∈ o, 0 ≤ s.2 ∧ s.2 ≤ n) (h0 : 0 ≤ n) : ∀ s ∈ bump o, 0 ≤ s.2 ∧ s.2 ≤ n + 1 := by
  intro s hs
  unfold bump at hs
  rcases List.mem_or_eq_of_mem_set hs with q | q
  · have := h s q; omega
  · subst q
    simp only
    by_cases ho : o.length - 1 < o.length
    · have := h (o[o.length - 1]) (List.getElem_mem ho)
      rw [List.getD_eq_getElem?_getD, List.getElem?_eq_getElem ho]
      simp only [Option.getD_some]; omega
    · rw [List.getD_eq_getElem?_getD, List.getElem?_eq_none (by omega)]; simp; omega
theorem runsG_facts (l : List Int) : (runsG l).1.length ≤ l.length ∧ (l ≠ [] → 0 < (runsG l).1.length) ∧ ∀ s ∈ (runsG l).1, 0 ≤ s.2 ∧ s.2 ≤ (l.length : Int) := by
  suffices ∀ (l : List Int) (o : List Sp) (e : Int) (n : Nat), o.length ≤ n → (∀ s ∈ o, 0 ≤ s.2 ∧ s.2 ≤ (n : Int)) → (l.foldl runStep (o, e)).1.length ≤ n + l.length ∧ (0 < o.length ∨ l ≠ [] → 0 < (l.foldl runStep (o, e)).1.length) ∧ ∀ s ∈ (l.foldl runStep (o, e)).1, 0 ≤ s.2 ∧ s.2 ≤ ((n + l.length : Nat) : Int) by
    have := this l [] 0 0 (Nat.le_refl _) (by simp)
    simpa [runsG] using this
  intro l
  induction l with
  | nil => intro o e n h1 h2; exact ⟨by simpa using h1, fun q => (by rcases q with q | q; exact q; exact absurd rfl q), fun s hs => (by have := h2 s hs; simpa using this)⟩
  | cons p r ih =>
    intro o e n h1 h2
    have hb : (bump (if o = [] ∨ p ≠ e then o ++ [(p - e, 0)] else o)).length ≤ n + 1 := by rw [bump_len]; split <;> (try simp) <;> omega
    have hp : 0 < (bump (if o = [] ∨ p ≠ e then o ++ [(p - e, 0)] else o)).length := by
      rw [bump_len]; split
      · simp
      · rename_i h; have : o ≠ [] := fun q => h (.inl q); exact List.length_pos_iff.2 this
    have hs : ∀ s ∈ bump (if o = [] ∨ p ≠ e then o ++ [(p - e, 0)] else o), 0 ≤ s.2 ∧ s.2 ≤ ((n + 1 : Nat) : Int) := by
      have := bump_le (o := if o = [] ∨ p ≠ e then o ++ [(p - e, 0)] else o) (n := n) (by
        intro s hs
        split at hs
        · rcases List.mem_append.1 hs with q | q
          · exact h2 s q
          · simp at q; subst q; simp
        · exact h2 s hs) (by omega)
      intro s hs; have := this s hs; omega
    obtain ⟨g1, g2, g3⟩ := ih _ (p + 1) (n + 1) hb hs
    simp only [List.foldl_cons, List.length_cons, runStep]
    refine ⟨by omega, fun _ => g2 (.inl hp), fun s hs' => ?_⟩
    have := g3 s hs'
    omega
def okGo : List Int → Bool → Int → Bool
  | [], _, _ => true
  | p :: r, f, e => inPlace p && (f || decide (e ≤ p)) && okGo r false (p + 1)
def okPl (l : List Int) : Bool := okGo l true 0
def fromE (l : List Int) : Int := if okPl l = false then 11 else if (l.length : Int) > 4096 ∨ ((runsF l).length : Int) > 1024 then 12 else 0
def fromR (l : List Int) : List Sp := if fromE l = 0 then runsF l else []
theorem fromR_bad {l : List Int} (h : fromE l ≠ 0) : fromR l = [] := by unfold fromR; rw [if_neg h]

abbrev frm_I (l : List Int) (i : Nat) (e : Int) (o : List Sp) (n : Nat) : AS := ⟨[(0, .slice (some ⟨0, 0, none⟩) l.length (l.length + 1)), (4, .slice (some ⟨1, 0, none⟩) n (n + 1)), (5, .int .i64 e), (8, .slice (some ⟨0, 0, none⟩) l.length (l.length + 1)), (9, .int .i64 ((l.length : Nat) : Int)), (10, .int .i64 ((i : Nat) : Int))], [(0, ⟨(l).flatMap encI, 1, [], 1⟩), (1, ⟨(o).flatMap encS, 2, [], 2⟩)], 2⟩
abbrev frm_inv (l : List Int) (i : Nat) (e : Int) (o : List Sp) (n : Nat) : Prop := n = o.length ∧ i ≤ l.length ∧ (o, e) = runsG (l.take i) ∧ okPl l = okGo (l.drop i) (i == 0) e ∧ -1048576 ≤ e ∧ e ≤ 1048577
def frm_K (l : List Int) : Exit → AS → Prop := fun e s => (okPl l = true ∧ e = .exit 0 ∧ s = ⟨[(0, .slice (some ⟨0, 0, none⟩) l.length (l.length + 1)), (4, .slice (some ⟨1, 0, none⟩) ((runsF l).length) ((runsF l).length + 1))], [(0, ⟨(l).flatMap encI, 1, [], 1⟩), (1, ⟨(runsF l).flatMap encS, 2, [], 2⟩)], 2⟩) ∨ (okPl l = false ∧ e = .ret ∧ s = ⟨[(2, .slice none 0 0), (3, .int .i64 11)], [], 2⟩)
abbrev frm_Iu (l : List Int) : Nat × Int × List Sp × Nat → AS := fun x => frm_I l x.1 x.2.1 x.2.2.1 x.2.2.2
abbrev frm_vu (l : List Int) : Nat × Int × List Sp × Nat → Prop := fun x => frm_inv l x.1 x.2.1 x.2.2.1 x.2.2.2
abbrev frm_m (l : List Int) : Nat × Int × List Sp × Nat → Nat := fun x => (fun (i : Nat) (e : Int) (o : List Sp) (n : Nat) => l.length - i) x.1 x.2.1 x.2.2.1 x.2.2.2
theorem frm_round (l : List Int) (h_n : l.length ≤ 4294967296) (i : Nat) (e : Int) (o : List Sp) (n : Nat) (hinv : frm_inv l i e o n) {ds : List Deferred} : Tr Try.prog none ⟨63, ds⟩ 1 (nthLoop Try.f244 0) (frm_I l i e o n) (RK (frm_vu l) (frm_Iu l) (frm_m l) (frm_K l) (i, e, o, n)) := by
  obtain ⟨hnn, hi0, ho, hk, he1, he2⟩ := hinv
  subst hnn
  have hf := runsG_facts (l.take i)
  rw [← ho] at hf
  obtain ⟨hf1, hf2, hf3⟩ := hf
  simp only [List.length_take] at hf1 hf2 hf3
  have ho0 : i = 0 → o = [] := fun q => by have := congrArg Prod.fst ho; rw [q] at this; simpa [runsG] using this
  have hmin : min i l.length = i := by omega
  rw [hmin] at hf1 hf3
  by_cases h4000 : (((i : Nat) : Int) < ((l.length : Nat) : Int))
  · skip
    obtain ⟨s1, hs1⟩ : ∃ s, l[i]? = some s := ⟨_, List.getElem?_eq_getElem (by omega)⟩
    have hne : 0 < i → 0 < o.length := fun q => hf2 (by intro q2; have := congrArg List.length q2; rw [List.length_take] at this; simp only [List.length_nil] at this; omega)
    have hla : (o ++ [(s1 - e, (0 : Int))]).length = o.length + 1 := by simp
    cases h6001 : (inPlace (s1)) with
    | true =>
      have g6001 := inPlace_iff.1 h6001
      by_cases h6005 : (((i : Nat) : Int) > 0)
      · skip
        by_cases h6009 : (s1 < e)
        · skip
          have hb : okPl l = false := by
            rw [hk, drop_idx hs1, okGo]
            have h0 : (i == 0) = false := by simp; omega
            have h1 : decide (e ≤ s1) = false := by simp; omega
            simp [h0, h1]
          exact Tr.out (I := (frm_Iu l)) (m := (frm_m l)) (Tr.run follows_mixed (A := [(4000, aT h4000), (5001, aX i l.length 1 (by omega)), (5002, aL encI_k hs1), (6001, aCb (in_ok (s1)) h6001), (6005, aT h6005), (6009, aT h6009)]) (rows := []) (by kernel_rfl) .nil (le_ble rfl)) (.inr ⟨hb, rfl, rfl⟩) (by simp)
        · skip
          by_cases h8001 : ((((i : Nat) : Int) : Int) = 0)
          · skip
            omega
          · skip
            by_cases h8005 : (s1 > e)
            · skip
              have hstep : ((o ++ [(s1 - e, 0)]).set ((o ++ [(s1 - e, 0)]).length - 1) (((s1 - e, 0) : Sp).1, ((s1 - e, 0) : Sp).2 + 1), s1 + 1) = runsG (l.take (i + 1)) := by
                rw [runsG_next hs1, ← ho]
                show _ = (bump (if o = [] ∨ s1 ≠ e then o ++ [(s1 - e, 0)] else o), s1 + 1)
                have hc : o = [] ∨ s1 ≠ e := .inr (by omega)
                rw [if_pos hc, ← bump_eq (s := (s1 - e, 0)) (by simp)]
              have hok : okPl l = okGo (l.drop (i + 1)) ((i + 1) == 0) (s1 + 1) := by
                rw [hk, drop_idx hs1, okGo, h6001]
                have h1 : ((i == 0) || decide (e ≤ s1)) = true := by simp; omega
                rw [h1]; simp
              exact Tr.again (Inv := (frm_vu l)) (I := (frm_Iu l)) (m := (frm_m l)) (i + 1, s1 + 1, (o ++ [(s1 - e, 0)]).set ((o ++ [(s1 - e, 0)]).length - 1) (((s1 - e, 0) : Sp).1, ((s1 - e, 0) : Sp).2 + 1), (o ++ [(s1 - e, 0)]).length) (Tr.run follows_mixed (A := [(4000, aT h4000), (5001, aX i l.length 1 (by omega)), (5002, aL encI_k hs1), (6001, aCb (in_ok (s1)) h6001), (6005, aT h6005), (6009, aF h6009), (8001, aF h8001), (8005, aT h8005), (9003, aI .i64 .i64 (s1 - e) (s1 - e) (wrap_i64 (by omega) (by omega))), (9006, aA encS_k o [(s1 - e, 0)] (by simp; omega)), (10003, aI .i64 .i64 ((((o ++ [(s1 - e, 0)]).length : Nat) : Int) - 1) ((((o ++ [(s1 - e, 0)]).length - 1 : Nat) : Int)) (wrap_i64' (by omega) (by omega) (by omega))), (10004, aX ((o ++ [(s1 - e, 0)]).length - 1) ((o ++ [(s1 - e, 0)]).length) 2 (by omega)), (10006, aL encS_k (by simp : (o ++ [(s1 - e, (0 : Int))])[(o ++ [(s1 - e, (0 : Int))]).length - 1]? = some (s1 - e, (0 : Int))) 1), (10007, aI .i64 .i64 (((s1 - e, 0) : Sp).2 + 1) (((s1 - e, 0) : Sp).2 + 1) (wrap_i64 (by omega) (by omega))), (10008, aX ((o ++ [(s1 - e, 0)]).length - 1) ((o ++ [(s1 - e, 0)]).length) 2 (by omega)), (10010, aS encS_k (by simp : (o ++ [(s1 - e, (0 : Int))])[(o ++ [(s1 - e, (0 : Int))]).length - 1]? = some (s1 - e, (0 : Int))) 1 (((s1 - e, 0) : Sp).1, ((s1 - e, 0) : Sp).2 + 1)), (11001, aI .i64 .i64 (s1 + 1) (s1 + 1) (wrap_i64 (by omega) (by omega))), (12000, aI .i64 .i64 (((i : Nat) : Int) + 1) (((i + 1 : Nat) : Int)) (wrap_i64' (by omega) (by omega) (by omega)))]) (rows := [0, 1]) (by kernel_rfl) (.cons (fun _ => encI_sc _) (.cons (fun _ => encS_sc _) .nil)) (le_ble rfl)) (show frm_inv l (i + 1) (s1 + 1) ((o ++ [(s1 - e, 0)]).set ((o ++ [(s1 - e, 0)]).length - 1) (((s1 - e, 0) : Sp).1, ((s1 - e, 0) : Sp).2 + 1)) ((o ++ [(s1 - e, 0)]).length) from ⟨by simp, by omega, hstep, hok, by omega, by omega⟩) (by show l.length - (i + 1) < l.length - i; omega)
            · skip
              obtain ⟨s2, hs2⟩ : ∃ s, o[o.length - 1]? = some s := ⟨_, List.getElem?_eq_getElem (by omega)⟩
              have hb := hf3 _ (List.mem_of_getElem? hs2)
              have hstep : (o.set (o.length - 1) (s2.1, s2.2 + 1), s1 + 1) = runsG (l.take (i + 1)) := by
                rw [runsG_next hs1, ← ho]
                show _ = (bump (if o = [] ∨ s1 ≠ e then o ++ [(s1 - e, 0)] else o), s1 + 1)
                have hc : ¬ (o = [] ∨ s1 ≠ e) := by
                  intro q; rcases q with q | q
                  · have := hne (by omega); rw [q] at this; simp at this
                  · omega
                rw [if_neg hc, ← bump_eq hs2]
              have hok : okPl l = okGo (l.drop (i + 1)) ((i + 1) == 0) (s1 + 1) := by
                rw [hk, drop_idx hs1, okGo, h6001]
                have h1 : ((i == 0) || decide (e ≤ s1)) = true := by simp; omega
                rw [h1]; simp
              exact Tr.again (Inv := (frm_vu l)) (I := (frm_Iu l)) (m := (frm_m l)) (i + 1, s1 + 1, o.set (o.length - 1) (s2.1, s2.2 + 1), o.length) (Tr.run follows_mixed (A := [(4000, aT h4000), (5001, aX i l.length 1 (by omega)), (5002, aL encI_k hs1), (6001, aCb (in_ok (s1)) h6001), (6005, aT h6005), (6009, aF h6009), (8001, aF h8001), (8005, aF h8005), (10003, aI .i64 .i64 (((o.length : Nat) : Int) - 1) (((o.length - 1 : Nat) : Int)) (wrap_i64' (by omega) (by omega) (by omega))), (10004, aX (o.length - 1) o.length 2 (by omega)), (10006, aL encS_k hs2 1), (10007, aI .i64 .i64 (s2.2 + 1) (s2.2 + 1) (wrap_i64 (by omega) (by omega))), (10008, aX (o.length - 1) o.length 2 (by omega)), (10010, aS encS_k hs2 1 (s2.1, s2.2 + 1)), (11001, aI .i64 .i64 (s1 + 1) (s1 + 1) (wrap_i64 (by omega) (by omega))), (12000, aI .i64 .i64 (((i : Nat) : Int) + 1) (((i + 1 : Nat) : Int)) (wrap_i64' (by omega) (by omega) (by omega)))]) (rows := [0, 1]) (by kernel_rfl) (.cons (fun _ => encI_sc _) (.cons (fun _ => encS_sc _) .nil)) (le_ble rfl)) (show frm_inv l (i + 1) (s1 + 1) (o.set (o.length - 1) (s2.1, s2.2 + 1)) o.length from ⟨by simp, by omega, hstep, hok, by omega, by omega⟩) (by show l.length - (i + 1) < l.length - i; omega)
      · skip
        by_cases h8001 : ((((i : Nat) : Int) : Int) = 0)
        · skip
          have hstep : ((o ++ [(s1 - e, 0)]).set ((o ++ [(s1 - e, 0)]).length - 1) (((s1 - e, 0) : Sp).1, ((s1 - e, 0) : Sp).2 + 1), s1 + 1) = runsG (l.take (i + 1)) := by
            rw [runsG_next hs1, ← ho]
            show _ = (bump (if o = [] ∨ s1 ≠ e then o ++ [(s1 - e, 0)] else o), s1 + 1)
            have hc : o = [] ∨ s1 ≠ e := .inl (ho0 (by omega))
            rw [if_pos hc, ← bump_eq (s := (s1 - e, 0)) (by simp)]
          have hok : okPl l = okGo (l.drop (i + 1)) ((i + 1) == 0) (s1 + 1) := by
            rw [hk, drop_idx hs1, okGo, h6001]
            have h1 : ((i == 0) || decide (e ≤ s1)) = true := by simp; omega
            rw [h1]; simp
          exact Tr.again (Inv := (frm_vu l)) (I := (frm_Iu l)) (m := (frm_m l)) (i + 1, s1 + 1, (o ++ [(s1 - e, 0)]).set ((o ++ [(s1 - e, 0)]).length - 1) (((s1 - e, 0) : Sp).1, ((s1 - e, 0) : Sp).2 + 1), (o ++ [(s1 - e, 0)]).length) (Tr.run follows_mixed (A := [(4000, aT h4000), (5001, aX i l.length 1 (by omega)), (5002, aL encI_k hs1), (6001, aCb (in_ok (s1)) h6001), (6005, aF h6005), (8001, aT h8001), (9003, aI .i64 .i64 (s1 - e) (s1 - e) (wrap_i64 (by omega) (by omega))), (9006, aA encS_k o [(s1 - e, 0)] (by simp; omega)), (10003, aI .i64 .i64 ((((o ++ [(s1 - e, 0)]).length : Nat) : Int) - 1) ((((o ++ [(s1 - e, 0)]).length - 1 : Nat) : Int)) (wrap_i64' (by omega) (by omega) (by omega))), (10004, aX ((o ++ [(s1 - e, 0)]).length - 1) ((o ++ [(s1 - e, 0)]).length) 2 (by omega)), (10006, aL encS_k (by simp : (o ++ [(s1 - e, (0 : Int))])[(o ++ [(s1 - e, (0 : Int))]).length - 1]? = some (s1 - e, (0 : Int))) 1), (10007, aI .i64 .i64 (((s1 - e, 0) : Sp).2 + 1) (((s1 - e, 0) : Sp).2 + 1) (wrap_i64 (by omega) (by omega))), (10008, aX ((o ++ [(s1 - e, 0)]).length - 1) ((o ++ [(s1 - e, 0)]).length) 2 (by omega)), (10010, aS encS_k (by simp : (o ++ [(s1 - e, (0 : Int))])[(o ++ [(s1 - e, (0 : Int))]).length - 1]? = some (s1 - e, (0 : Int))) 1 (((s1 - e, 0) : Sp).1, ((s1 - e, 0) : Sp).2 + 1)), (11001, aI .i64 .i64 (s1 + 1) (s1 + 1) (wrap_i64 (by omega) (by omega))), (12000, aI .i64 .i64 (((i : Nat) : Int) + 1) (((i + 1 : Nat) : Int)) (wrap_i64' (by omega) (by omega) (by omega)))]) (rows := [0, 1]) (by kernel_rfl) (.cons (fun _ => encI_sc _) (.cons (fun _ => encS_sc _) .nil)) (le_ble rfl)) (show frm_inv l (i + 1) (s1 + 1) ((o ++ [(s1 - e, 0)]).set ((o ++ [(s1 - e, 0)]).length - 1) (((s1 - e, 0) : Sp).1, ((s1 - e, 0) : Sp).2 + 1)) ((o ++ [(s1 - e, 0)]).length) from ⟨by simp, by omega, hstep, hok, by omega, by omega⟩) (by show l.length - (i + 1) < l.length - i; omega)
        · skip
          omega
    | false =>
      have g6001 := inPlace_not.1 h6001
      have hb : okPl l = false := by
        rw [hk, drop_idx hs1, okGo]
        simp [h6001]
      exact Tr.out (I := (frm_Iu l)) (m := (frm_m l)) (Tr.run follows_mixed (A := [(4000, aT h4000), (5001, aX i l.length 1 (by omega)), (5002, aL encI_k hs1), (6001, aCb (in_ok (s1)) h6001)]) (rows := []) (by kernel_rfl) .nil (le_ble rfl)) (.inr ⟨hb, rfl, rfl⟩) (by simp)
  · skip
    rw [drop_none (by omega)] at hk
    rw [take_all (by omega)] at ho
    have ho2 : o = runsF l := congrArg Prod.fst ho
    subst ho2
    exact Tr.out (I := (frm_Iu l)) (m := (frm_m l)) (Tr.run follows_mixed (A := [(4000, aF h4000)]) (rows := [0, 1]) (by kernel_rfl) (.cons (fun _ => encI_sc _) (.cons (fun _ => encS_sc _) .nil)) (le_ble rfl)) (.inl ⟨(by rw [hk]; rfl), rfl, rfl⟩) (by simp)

theorem frm_loop (l : List Int) (h_n : l.length ≤ 4294967296) (i : Nat) (e : Int) (o : List Sp) (n : Nat) (hinv : frm_inv l i e o n) {ds : List Deferred} : Tr Try.prog none ⟨63, ds⟩ 1 (.loop (nthLoop Try.f244 0)) (frm_I l i e o n) (frm_K l) :=
  Tr.rounds (Inv := (frm_vu l)) (I := (frm_Iu l)) (m := (frm_m l)) (fun x h => frm_round l h_n x.1 x.2.1 x.2.2.1 x.2.2.2 h) (i, e, o, n) hinv
theorem from_ok (l : List Int) (h_n : l.length ≤ 4294967296) : FnC Try.prog 244 [.slice (some ⟨0, 0, none⟩) l.length (l.length + 1)] [(0, ⟨(l).flatMap encI, 1, [], 1⟩)] 1 (.tuple #[.slice (some ⟨1, 0, none⟩) ((fromR l).length) ((fromR l).length + 1), .int .i64 (fromE l)]) 1 [(1, ⟨(fromR l).flatMap encS, 2, [], 2⟩)] := by
  rcases Bool.eq_false_or_eq_true (okPl l) with hk | hk
  · skip
    by_cases h13002 : (((l.length : Nat) : Int) > 4096)
    · skip
      have he : fromE l = 12 := by unfold fromE; rw [hk]; simp; omega
      rw [fromR_bad (by rw [he]; decide), he]
      exact FnC.run (m := false) follows_mixed has244 [(900000, .stmt (.loop (nthLoop Try.f244 0)) [0, 1] (frm_I l 0 0 [] 0) (.exit 0) ⟨[(0, .slice (some ⟨0, 0, none⟩) l.length (l.length + 1)), (4, .slice (some ⟨1, 0, none⟩) ((runsF l).length) ((runsF l).length + 1))], [(0, ⟨(l).flatMap encI, 1, [], 1⟩), (1, ⟨(runsF l).flatMap encS, 2, [], 2⟩)], 2⟩ (.cons (fun _ => encI_sc _) (.cons (fun _ => encS_sc _) .nil)) (fun ds => (frm_loop l h_n 0 0 [] 0 ⟨rfl, by omega, rfl, by rw [okPl]; rfl, by omega, by omega⟩).pick (fun e s h => by rcases h with ⟨_, h⟩ | ⟨h0, _⟩; exact h; rw [hk] at h0; cases h0)) (le_ble rfl)), (13002, aT h13002)] (by kernel_rfl) (by kernel_rfl) (.cons (encI_sc _) .nil) (.cons (encS_sc _) .nil)
    · skip
      by_cases h13006 : ((((runsF l).length : Nat) : Int) > 1024)
      · skip
        have he : fromE l = 12 := by unfold fromE; rw [hk]; simp; omega
        rw [fromR_bad (by rw [he]; decide), he]
        exact FnC.run (m := false) follows_mixed has244 [(900000, .stmt (.loop (nthLoop Try.f244 0)) [0, 1] (frm_I l 0 0 [] 0) (.exit 0) ⟨[(0, .slice (some ⟨0, 0, none⟩) l.length (l.length + 1)), (4, .slice (some ⟨1, 0, none⟩) ((runsF l).length) ((runsF l).length + 1))], [(0, ⟨(l).flatMap encI, 1, [], 1⟩), (1, ⟨(runsF l).flatMap encS, 2, [], 2⟩)], 2⟩ (.cons (fun _ => encI_sc _) (.cons (fun _ => encS_sc _) .nil)) (fun ds => (frm_loop l h_n 0 0 [] 0 ⟨rfl, by omega, rfl, by rw [okPl]; rfl, by omega, by omega⟩).pick (fun e s h => by rcases h with ⟨_, h⟩ | ⟨h0, _⟩; exact h; rw [hk] at h0; cases h0)) (le_ble rfl)), (13002, aF h13002), (13006, aT h13006)] (by kernel_rfl) (by kernel_rfl) (.cons (encI_sc _) .nil) (.cons (encS_sc _) .nil)
      · skip
        have he : fromE l = 0 := by unfold fromE; rw [hk]; simp; omega
        have hr : fromR l = runsF l := by unfold fromR; rw [if_pos he]
        rw [hr, he]
        exact FnC.run (m := false) follows_mixed has244 [(900000, .stmt (.loop (nthLoop Try.f244 0)) [0, 1] (frm_I l 0 0 [] 0) (.exit 0) ⟨[(0, .slice (some ⟨0, 0, none⟩) l.length (l.length + 1)), (4, .slice (some ⟨1, 0, none⟩) ((runsF l).length) ((runsF l).length + 1))], [(0, ⟨(l).flatMap encI, 1, [], 1⟩), (1, ⟨(runsF l).flatMap encS, 2, [], 2⟩)], 2⟩ (.cons (fun _ => encI_sc _) (.cons (fun _ => encS_sc _) .nil)) (fun ds => (frm_loop l h_n 0 0 [] 0 ⟨rfl, by omega, rfl, by rw [okPl]; rfl, by omega, by omega⟩).pick (fun e s h => by rcases h with ⟨_, h⟩ | ⟨h0, _⟩; exact h; rw [hk] at h0; cases h0)) (le_ble rfl)), (13002, aF h13002), (13006, aF h13006)] (by kernel_rfl) (by kernel_rfl) (.cons (encI_sc _) .nil) (.cons (encS_sc _) .nil)
  · skip
    have he : fromE l = 11 := by unfold fromE; rw [hk]; rfl
    rw [fromR_bad (by rw [he]; decide), he]
    exact FnC.run (m := false) follows_mixed has244 [(900000, .stmt (.loop (nthLoop Try.f244 0)) [0, 1] (frm_I l 0 0 [] 0) (.ret) ⟨[(2, .slice none 0 0), (3, .int .i64 11)], [], 2⟩ (.cons (fun _ => encI_sc _) (.cons (fun _ => encS_sc _) .nil)) (fun ds => (frm_loop l h_n 0 0 [] 0 ⟨rfl, by omega, rfl, by rw [okPl]; rfl, by omega, by omega⟩).pick (fun e s h => by rcases h with ⟨h0, _⟩ | ⟨_, h⟩; rw [hk] at h0; cases h0; exact h)) (le_ble rfl))] (by kernel_rfl) (by kernel_rfl) (.cons (encI_sc _) .nil) (.cons (encS_sc _) .nil)
def fsts (l : List (Int × Int)) : List Int := l.map (·.1)
def snds (l : List (Int × Int)) : List Int := l.map (·.2)
theorem fsts_len (l : List (Int × Int)) : (fsts l).length = l.length := List.length_map _
theorem snds_len (l : List (Int × Int)) : (snds l).length = l.length := List.length_map _
def unzV (l : List (Int × Int)) : List Int := if fromE (fsts l) = 0 then snds l else []
abbrev unzI_I (l : List (Int × Int)) (i : Nat) (a : List Int) (v : List Int) : AS := ⟨[(5, .slice (some ⟨1, 0, none⟩) a.length (a.length + 1)), (6, .slice (some ⟨2, 0, none⟩) v.length (v.length + 1)), (11, .slice (some ⟨0, 0, none⟩) l.length (l.length + 1)), (12, .int .i64 ((l.length : Nat) : Int)), (13, .int .i64 ((i : Nat) : Int))], [(0, ⟨(l).flatMap encS, 1, [], 2⟩), (1, ⟨(a).flatMap encI, 2, [], 1⟩), (2, ⟨(v).flatMap encI, 2, [], 1⟩)], 3⟩
abbrev unzI_inv (l : List (Int × Int)) (i : Nat) (a : List Int) (v : List Int) : Prop := i ≤ l.length ∧ a = fsts (l.take i) ∧ v = snds (l.take i)
def unzI_K (l : List (Int × Int)) : Exit → AS → Prop := fun e s => (e = .exit 0 ∧ s = ⟨[(5, .slice (some ⟨1, 0, none⟩) ((fsts l).length) ((fsts l).length + 1)), (6, .slice (some ⟨2, 0, none⟩) ((snds l).length) ((snds l).length + 1))], [(1, ⟨(fsts l).flatMap encI, 2, [], 1⟩), (2, ⟨(snds l).flatMap encI, 2, [], 1⟩)], 3⟩)
abbrev unzI_Iu (l : List (Int × Int)) : Nat × List Int × List Int → AS := fun x => unzI_I l x.1 x.2.1 x.2.2
abbrev unzI_vu (l : List (Int × Int)) : Nat × List Int × List Int → Prop := fun x => unzI_inv l x.1 x.2.1 x.2.2
abbrev unzI_m (l : List (Int × Int)) : Nat × List Int × List Int → Nat := fun x => (fun (i : Nat) (a : List Int) (v : List Int) => l.length - i) x.1 x.2.1 x.2.2
theorem unzI_round (l : List (Int × Int)) (h_n : l.length ≤ 4294967296) (i : Nat) (a : List Int) (v : List Int) (hinv : unzI_inv l i a v) {ds : List Deferred} : Tr Try.prog none ⟨38, ds⟩ 1 (nthLoop Try.f265 0) (unzI_I l i a v) (RK (unzI_vu l) (unzI_Iu l) (unzI_m l) (unzI_K l) (i, a, v)) := by
  obtain ⟨hi0, ha, hv⟩ := hinv
  have hla : a.length = i := by rw [ha, fsts_len]; simp; omega
  have hlv : v.length = i := by rw [hv, snds_len]; simp; omega
  by_cases h4000 : (((i : Nat) : Int) < ((l.length : Nat) : Int))
  · skip
    obtain ⟨s1, hs1⟩ : ∃ s, l[i]? = some s := ⟨_, List.getElem?_eq_getElem (by omega)⟩
    exact Tr.again (Inv := (unzI_vu l)) (I := (unzI_Iu l)) (m := (unzI_m l)) (i + 1, a ++ [s1.1], v ++ [s1.2]) (Tr.run follows_mixed (A := [(4000, aT h4000), (5000, aX i l.length 2 (by omega)), (5001, aL encS_k hs1), (6004, aA encI_k a [s1.1] (by simp; omega)), (6009, aA encI_k v [s1.2] (by simp; omega)), (7000, aI .i64 .i64 (((i : Nat) : Int) + 1) (((i + 1 : Nat) : Int)) (wrap_i64' (by omega) (by omega) (by omega)))]) (rows := [0, 1, 2]) (by kernel_rfl) (.cons (fun _ => encS_sc _) (.cons (fun _ => encI_sc _) (.cons (fun _ => encI_sc _) .nil))) (le_ble rfl)) (show unzI_inv l (i + 1) (a ++ [s1.1]) (v ++ [s1.2]) from ⟨by omega, by rw [ha, take_next hs1]; simp [fsts], by rw [hv, take_next hs1]; simp [snds]⟩) (by show l.length - (i + 1) < l.length - i; omega)
  · skip
    rw [take_all (by omega)] at ha hv
    subst ha; subst hv
    exact Tr.out (I := (unzI_Iu l)) (m := (unzI_m l)) (Tr.run follows_mixed (A := [(4000, aF h4000)]) (rows := [1, 2]) (by kernel_rfl) (.cons (fun _ => encI_sc _) (.cons (fun _ => encI_sc _) .nil)) (le_ble rfl)) ⟨rfl, rfl⟩ (by simp)

theorem unzI_loop (l : List (Int × Int)) (h_n : l.length ≤ 4294967296) (i : Nat) (a : List Int) (v : List Int) (hinv : unzI_inv l i a v) {ds : List Deferred} : Tr Try.prog none ⟨38, ds⟩ 1 (.loop (nthLoop Try.f265 0)) (unzI_I l i a v) (unzI_K l) :=
  Tr.rounds (Inv := (unzI_vu l)) (I := (unzI_Iu l)) (m := (unzI_m l)) (fun x h => unzI_round l h_n x.1 x.2.1 x.2.2 h) (i, a, v) hinv
theorem unzI_ok (l : List (Int × Int)) (h_n : l.length ≤ 4294967296) : FnC Try.prog 265 [.slice (some ⟨0, 0, none⟩) l.length (l.length + 1)] [(0, ⟨(l).flatMap encS, 1, [], 2⟩)] 1 (.tuple #[.slice (some ⟨1, 0, none⟩) ((fromR (fsts l)).length) ((fromR (fsts l)).length + 1), .slice (some ⟨2, 0, none⟩) ((unzV l).length) ((unzV l).length + 1), .int .i64 (fromE (fsts l))]) 2 [(1, ⟨(fromR (fsts l)).flatMap encS, 2, [], 2⟩), (2, ⟨(unzV l).flatMap encI, 2, [], 1⟩)] := by
  by_cases h9001 : ((fromE (fsts l) : Int) = 0)
  · skip
    have hv : unzV l = snds l := by unfold unzV; rw [if_pos h9001]
    rw [hv, h9001]
    exact FnC.run (m := false) follows_mixed has265 [(900000, .stmt (.loop (nthLoop Try.f265 0)) [0, 1, 2] (unzI_I l 0 [] []) (.exit 0) ⟨[(5, .slice (some ⟨1, 0, none⟩) ((fsts l).length) ((fsts l).length + 1)), (6, .slice (some ⟨2, 0, none⟩) ((snds l).length) ((snds l).length + 1))], [(1, ⟨(fsts l).flatMap encI, 2, [], 1⟩), (2, ⟨(snds l).flatMap encI, 2, [], 1⟩)], 3⟩ (.cons (fun _ => encS_sc _) (.cons (fun _ => encI_sc _) (.cons (fun _ => encI_sc _) .nil))) (fun ds => (unzI_loop l h_n 0 [] [] ⟨by omega, by simp [fsts], by simp [snds]⟩).pick (fun e s h => h)) (le_ble rfl)), (8001, aC (from_ok (fsts l) (Nat.le_trans (Nat.le_of_eq (fsts_len _)) h_n))), (9001, aNT h9001)] (by kernel_rfl) (by kernel_rfl) (.cons (encS_sc _) .nil) (.cons (encS_sc _) (.cons (encI_sc _) .nil))
  · skip
    have hv : unzV l = [] := by unfold unzV; rw [if_neg h9001]
    rw [hv, fromR_bad h9001]
    exact FnC.run (m := false) follows_mixed has265 [(900000, .stmt (.loop (nthLoop Try.f265 0)) [0, 1, 2] (unzI_I l 0 [] []) (.exit 0) ⟨[(5, .slice (some ⟨1, 0, none⟩) ((fsts l).length) ((fsts l).length + 1)), (6, .slice (some ⟨2, 0, none⟩) ((snds l).length) ((snds l).length + 1))], [(1, ⟨(fsts l).flatMap encI, 2, [], 1⟩), (2, ⟨(snds l).flatMap encI, 2, [], 1⟩)], 3⟩ (.cons (fun _ => encS_sc _) (.cons (fun _ => encI_sc _) (.cons (fun _ => encI_sc _) .nil))) (fun ds => (unzI_loop l h_n 0 [] [] ⟨by omega, by simp [fsts], by simp [snds]⟩).pick (fun e s h => h)) (le_ble rfl)), (8001, aC (from_ok (fsts l) (Nat.le_trans (Nat.le_of_eq (fsts_len _)) h_n))), (9001, aNF h9001)] (by kernel_rfl) (by kernel_rfl) (.cons (encS_sc _) .nil) (.cons (encS_sc _) (.cons (encI_sc _) .nil))
theorem has191 : Has Try.prog 191 Try.f191 (bodyOf Try.f191) := ⟨Try.func191, by kernel_rfl, by kernel_rfl⟩
abbrev unzU_I (l : List (Int × Int)) (i : Nat) (a : List Int) (v : List Int) : AS := ⟨[(5, .slice (some ⟨1, 0, none⟩) a.length (a.length + 1)), (6, .slice (some ⟨2, 0, none⟩) v.length (v.length + 1)), (11, .slice (some ⟨0, 0, none⟩) l.length (l.length + 1)), (12, .int .i64 ((l.length : Nat) : Int)), (13, .int .i64 ((i : Nat) : Int))], [(0, ⟨(l).flatMap encU, 1, [], 2⟩), (1, ⟨(a).flatMap encI, 2, [], 1⟩), (2, ⟨(v).flatMap encW, 2, [], 1⟩)], 3⟩
abbrev unzU_inv (l : List (Int × Int)) (i : Nat) (a : List Int) (v : List Int) : Prop := i ≤ l.length ∧ a = fsts (l.take i) ∧ v = snds (l.take i)
def unzU_K (l : List (Int × Int)) : Exit → AS → Prop := fun e s => (e = .exit 0 ∧ s = ⟨[(5, .slice (some ⟨1, 0, none⟩) ((fsts l).length) ((fsts l).length + 1)), (6, .slice (some ⟨2, 0, none⟩) ((snds l).length) ((snds l).length + 1))], [(1, ⟨(fsts l).flatMap encI, 2, [], 1⟩), (2, ⟨(snds l).flatMap encW, 2, [], 1⟩)], 3⟩)
abbrev unzU_Iu (l : List (Int × Int)) : Nat × List Int × List Int → AS := fun x => unzU_I l x.1 x.2.1 x.2.2
abbrev unzU_vu (l : List (Int × Int)) : Nat × List Int × List Int → Prop := fun x => unzU_inv l x.1 x.2.1 x.2.2
abbrev unzU_m (l : List (Int × Int)) : Nat × List Int × List Int → Nat := fun x => (fun (i : Nat) (a : List Int) (v : List Int) => l.length - i) x.1 x.2.1 x.2.2
theorem unzU_round (l : List (Int × Int)) (h_n : l.length ≤ 4294967296) (i : Nat) (a : List Int) (v : List Int) (hinv : unzU_inv l i a v) {ds : List Deferred} : Tr Try.prog none ⟨38, ds⟩ 1 (nthLoop Try.f191 0) (unzU_I l i a v) (RK (unzU_vu l) (unzU_Iu l) (unzU_m l) (unzU_K l) (i, a, v)) := by
  obtain ⟨hi0, ha, hv⟩ := hinv
  have hla : a.length = i := by rw [ha, fsts_len]; simp; omega
  have hlv : v.length = i := by rw [hv, snds_len]; simp; omega
  by_cases h4000 : (((i : Nat) : Int) < ((l.length : Nat) : Int))
  · skip
    obtain ⟨s1, hs1⟩ : ∃ s, l[i]? = some s := ⟨_, List.getElem?_eq_getElem (by omega)⟩
    exact Tr.again (Inv := (unzU_vu l)) (I := (unzU_Iu l)) (m := (unzU_m l)) (i + 1, a ++ [s1.1], v ++ [s1.2]) (Tr.run follows_mixed (A := [(4000, aT h4000), (5000, aX i l.length 2 (by omega)), (5001, aL encU_k hs1), (6004, aA encI_k a [s1.1] (by simp; omega)), (6009, aA encW_k v [s1.2] (by simp; omega)), (7000, aI .i64 .i64 (((i : Nat) : Int) + 1) (((i + 1 : Nat) : Int)) (wrap_i64' (by omega) (by omega) (by omega)))]) (rows := [0, 1, 2]) (by kernel_rfl) (.cons (fun _ => encU_sc _) (.cons (fun _ => encI_sc _) (.cons (fun _ => encW_sc _) .nil))) (le_ble rfl)) (show unzU_inv l (i + 1) (a ++ [s1.1]) (v ++ [s1.2]) from ⟨by omega, by rw [ha, take_next hs1]; simp [fsts], by rw [hv, take_next hs1]; simp [snds]⟩) (by show l.length - (i + 1) < l.length - i; omega)
  · skip
    rw [take_all (by omega)] at ha hv
    subst ha; subst hv
    exact Tr.out (I := (unzU_Iu l)) (m := (unzU_m l)) (Tr.run follows_mixed (A := [(4000, aF h4000)]) (rows := [1, 2]) (by kernel_rfl) (.cons (fun _ => encI_sc _) (.cons (fun _ => encW_sc _) .nil)) (le_ble rfl)) ⟨rfl, rfl⟩ (by simp)

theorem unzU_loop (l : List (Int × Int)) (h_n : l.length ≤ 4294967296) (i : Nat) (a : List Int) (v : List Int) (hinv : unzU_inv l i a v) {ds : List Deferred} : Tr Try.prog none ⟨38, ds⟩ 1 (.loop (nthLoop Try.f191 0)) (unzU_I l i a v) (unzU_K l) :=
  Tr.rounds (Inv := (unzU_vu l)) (I := (unzU_Iu l)) (m := (unzU_m l)) (fun x h => unzU_round l h_n x.1 x.2.1 x.2.2 h) (i, a, v) hinv
theorem unzU_ok (l : List (Int × Int)) (h_n : l.length ≤ 4294967296) : FnC Try.prog 191 [.slice (some ⟨0, 0, none⟩) l.length (l.length + 1)] [(0, ⟨(l).flatMap encU, 1, [], 2⟩)] 1 (.tuple #[.slice (some ⟨1, 0, none⟩) ((fromR (fsts l)).length) ((fromR (fsts l)).length + 1), .slice (some ⟨2, 0, none⟩) ((unzV l).length) ((unzV l).length + 1), .int .i64 (fromE (fsts l))]) 2 [(1, ⟨(fromR (fsts l)).flatMap encS, 2, [], 2⟩), (2, ⟨(unzV l).flatMap encW, 2, [], 1⟩)] := by
  by_cases h9001 : ((fromE (fsts l) : Int) = 0)
  · skip
    have hv : unzV l = snds l := by unfold unzV; rw [if_pos h9001]
    rw [hv, h9001]
    exact FnC.run (m := false) follows_mixed has191 [(900000, .stmt (.loop (nthLoop Try.f191 0)) [0, 1, 2] (unzU_I l 0 [] []) (.exit 0) ⟨[(5, .slice (some ⟨1, 0, none⟩) ((fsts l).length) ((fsts l).length + 1)), (6, .slice (some ⟨2, 0, none⟩) ((snds l).length) ((snds l).length + 1))], [(1, ⟨(fsts l).flatMap encI, 2, [], 1⟩), (2, ⟨(snds l).flatMap encW, 2, [], 1⟩)], 3⟩ (.cons (fun _ => encU_sc _) (.cons (fun _ => encI_sc _) (.cons (fun _ => encW_sc _) .nil))) (fun ds => (unzU_loop l h_n 0 [] [] ⟨by omega, by simp [fsts], by simp [snds]⟩).pick (fun e s h => h)) (le_ble rfl)), (8001, aC (from_ok (fsts l) (Nat.le_trans (Nat.le_of_eq (fsts_len _)) h_n))), (9001, aNT h9001)] (by kernel_rfl) (by kernel_rfl) (.cons (encU_sc _) .nil) (.cons (encS_sc _) (.cons (encW_sc _) .nil))
  · skip
    have hv : unzV l = [] := by unfold unzV; rw [if_neg h9001]
    rw [hv, fromR_bad h9001]
    exact FnC.run (m := false) follows_mixed has191 [(900000, .stmt (.loop (nthLoop Try.f191 0)) [0, 1, 2] (unzU_I l 0 [] []) (.exit 0) ⟨[(5, .slice (some ⟨1, 0, none⟩) ((fsts l).length) ((fsts l).length + 1)), (6, .slice (some ⟨2, 0, none⟩) ((snds l).length) ((snds l).length + 1))], [(1, ⟨(fsts l).flatMap encI, 2, [], 1⟩), (2, ⟨(snds l).flatMap encW, 2, [], 1⟩)], 3⟩ (.cons (fun _ => encU_sc _) (.cons (fun _ => encI_sc _) (.cons (fun _ => encW_sc _) .nil))) (fun ds => (unzU_loop l h_n 0 [] [] ⟨by omega, by simp [fsts], by simp [snds]⟩).pick (fun e s h => h)) (le_ble rfl)), (8001, aC (from_ok (fsts l) (Nat.le_trans (Nat.le_of_eq (fsts_len _)) h_n))), (9001, aNF h9001)] (by kernel_rfl) (by kernel_rfl) (.cons (encU_sc _) .nil) (.cons (encS_sc _) (.cons (encW_sc _) .nil))
def dltGo : Int → List Int → List Int
  | _, [] => []
  | a, v :: r => (v - a) :: dltGo v r
def dlt (l : List Int) : List Int := dltGo 0 l
def N63 (x : Int) : Prop := 0 ≤ x ∧ x ≤ 9223372036854775807
theorem dltGo_length : ∀ (l : List Int) (a : Int), (dltGo a l).length = l.length
  | [], _ => rfl
  | v :: r, a => by simp [dltGo, dltGo_length r v]
theorem dlt_length (l : List Int) : (dlt l).length = l.length := dltGo_length l 0
theorem dltGo_in : ∀ {l : List Int} {a : Int}, N63 a → (∀ x ∈ l, N63 x) → L64 (dltGo a l)
  | [], a, ha, h => by intro x hx; simp [dltGo] at hx
  | v :: r, a, ha, h => by
    have hv := h v (List.mem_cons_self ..)
    intro x hx
    simp only [dltGo] at hx
    rcases List.mem_cons.1 hx with rfl | hx
    · unfold N63 at ha hv; unfold I64; omega
    · exact dltGo_in hv (fun y hy => h y (List.mem_cons_of_mem _ hy)) x hx
theorem dlt_in {l : List Int} (h : ∀ x ∈ l, N63 x) : L64 (dlt l) := dltGo_in ⟨by omega, by omega⟩ h
theorem less_ok (x y : Int) (h_x : N63 x) (h_y : N63 y) : FnC Try.prog 284 [.int .i64 x, .int .i64 y] [] 0 (.tuple #[.int .i64 (x - y), .bool true]) 0 [] := by
  unfold N63 at h_x h_y
  by_cases h2003 : (x - y < x)
  · skip
    by_cases h2005 : (y > 0)
    · skip
      exact FnC.eq (v := .tuple #[.int .i64 (x - y), .bool true]) (FnC.run (m := false) follows_mixed has284 [(1002, aI .i64 .i64 (x - y) (x - y) (wrap_i64 (by omega) (by omega))), (2003, aT h2003), (2005, aT h2005)] (by kernel_rfl) (by kernel_rfl) .nil .nil) (by congr 5 <;> simp <;> omega)
    · skip
      exact FnC.eq (v := .tuple #[.int .i64 (x - y), .bool false]) (FnC.run (m := false) follows_mixed has284 [(1002, aI .i64 .i64 (x - y) (x - y) (wrap_i64 (by omega) (by omega))), (2003, aT h2003), (2005, aF h2005)] (by kernel_rfl) (by kernel_rfl) .nil .nil) (by congr 5 <;> simp <;> omega)
  · skip
    by_cases h2005 : (y > 0)
    · skip
      exact FnC.eq (v := .tuple #[.int .i64 (x - y), .bool false]) (FnC.run (m := false) follows_mixed has284 [(1002, aI .i64 .i64 (x - y) (x - y) (wrap_i64 (by omega) (by omega))), (2003, aF h2003), (2005, aT h2005)] (by kernel_rfl) (by kernel_rfl) .nil .nil) (by congr 5 <;> simp <;> omega)
    · skip
      exact FnC.eq (v := .tuple #[.int .i64 (x - y), .bool true]) (FnC.run (m := false) follows_mixed has284 [(1002, aI .i64 .i64 (x - y) (x - y) (wrap_i64 (by omega) (by omega))), (2003, aF h2003), (2005, aF h2005)] (by kernel_rfl) (by kernel_rfl) .nil .nil) (by congr 5 <;> simp <;> omega)
abbrev dl_I (l : List Int) (i : Nat) (a : Int) (o : List Int) : AS := ⟨[(4, .slice (some ⟨1, 0, none⟩) o.length (o.length + 1)), (5, .int .i64 a), (10, .slice (some ⟨0, 0, none⟩) l.length (l.length + 1)), (11, .int .i64 ((l.length : Nat) : Int)), (12, .int .i64 ((i : Nat) : Int))], [(0, ⟨(l).flatMap encI, 1, [], 1⟩), (1, ⟨(o).flatMap encI, 2, [], 1⟩)], 2⟩
abbrev dl_inv (l : List Int) (i : Nat) (a : Int) (o : List Int) : Prop := i ≤ l.length ∧ N63 a ∧ o.length = i ∧ dlt l = o ++ dltGo a (l.drop i)
def dl_K (l : List Int) : Exit → AS → Prop := fun e s => (e = .exit 0 ∧ s = ⟨[(4, .slice (some ⟨1, 0, none⟩) ((dlt l).length) ((dlt l).length + 1))], [(1, ⟨(dlt l).flatMap encI, 2, [], 1⟩)], 2⟩)
abbrev dl_Iu (l : List Int) : Nat × Int × List Int → AS := fun x => dl_I l x.1 x.2.1 x.2.2
abbrev dl_vu (l : List Int) : Nat × Int × List Int → Prop := fun x => dl_inv l x.1 x.2.1 x.2.2
abbrev dl_m (l : List Int) : Nat × Int × List Int → Nat := fun x => (fun (i : Nat) (a : Int) (o : List Int) => l.length - i) x.1 x.2.1 x.2.2
theorem dl_round (l : List Int) (h_p : ∀ x ∈ l, N63 x) (h_n : l.length ≤ 4294967296) (i : Nat) (a : Int) (o : List Int) (hinv : dl_inv l i a o) {ds : List Deferred} : Tr Try.prog none ⟨31, ds⟩ 1 (nthLoop Try.f266 0) (dl_I l i a o) (RK (dl_vu l) (dl_Iu l) (dl_m l) (dl_K l) (i, a, o)) := by
  obtain ⟨hi0, ha, hol, hg⟩ := hinv
  by_cases h4000 : (((i : Nat) : Int) < ((l.length : Nat) : Int))
  · skip
    obtain ⟨s1, hs1⟩ : ∃ s, l[i]? = some s := ⟨_, List.getElem?_eq_getElem (by omega)⟩
    exact Tr.again (Inv := (dl_vu l)) (I := (dl_Iu l)) (m := (dl_m l)) (i + 1, s1, o ++ [s1 - a]) (Tr.run follows_mixed (A := [(4000, aT h4000), (5000, aX i l.length 1 (by omega)), (5001, aL encI_k hs1), (6002, aC (less_ok (s1) (a) (h_p _ (List.mem_of_getElem? hs1)) ha)), (9003, aA encI_k o [s1 - a] (by simp; omega)), (10000, aI .i64 .i64 (((i : Nat) : Int) + 1) (((i + 1 : Nat) : Int)) (wrap_i64' (by omega) (by omega) (by omega)))]) (rows := [0, 1]) (by kernel_rfl) (.cons (fun _ => encI_sc _) (.cons (fun _ => encI_sc _) .nil)) (le_ble rfl)) (show dl_inv l (i + 1) s1 (o ++ [s1 - a]) from ⟨by omega, h_p _ (List.mem_of_getElem? hs1), by simp [hol], by rw [hg, drop_idx hs1]; simp [dltGo]⟩) (by show l.length - (i + 1) < l.length - i; omega)
  · skip
    rw [drop_none (by omega)] at hg
    have ho : o = dlt l := by rw [hg]; simp [dltGo]
    subst ho
    exact Tr.out (I := (dl_Iu l)) (m := (dl_m l)) (Tr.run follows_mixed (A := [(4000, aF h4000)]) (rows := [1]) (by kernel_rfl) (.cons (fun _ => encI_sc _) .nil) (le_ble rfl)) ⟨rfl, rfl⟩ (by simp)

theorem dl_loop (l : List Int) (h_p : ∀ x ∈ l, N63 x) (h_n : l.length ≤ 4294967296) (i : Nat) (a : Int) (o : List Int) (hinv : dl_inv l i a o) {ds : List Deferred} : Tr Try.prog none ⟨31, ds⟩ 1 (.loop (nthLoop Try.f266 0)) (dl_I l i a o) (dl_K l) :=
  Tr.rounds (Inv := (dl_vu l)) (I := (dl_Iu l)) (m := (dl_m l)) (fun x h => dl_round l h_p h_n x.1 x.2.1 x.2.2 h) (i, a, o) hinv
theorem deltas_ok (l : List Int) (h_p : ∀ x ∈ l, N63 x) (h_n : l.length ≤ 4294967296) : FnC Try.prog 266 [.slice (some ⟨0, 0, none⟩) l.length (l.length + 1)] [(0, ⟨(l).flatMap encI, 1, [], 1⟩)] 1 (.tuple #[.slice (some ⟨1, 0, none⟩) ((dlt l).length) ((dlt l).length + 1), .int .i64 0]) 1 [(1, ⟨(dlt l).flatMap encI, 2, [], 1⟩)] := by
  exact FnC.run (m := false) follows_mixed has266 [(900000, .stmt (.loop (nthLoop Try.f266 0)) [0, 1] (dl_I l 0 0 []) (.exit 0) ⟨[(4, .slice (some ⟨1, 0, none⟩) ((dlt l).length) ((dlt l).length + 1))], [(1, ⟨(dlt l).flatMap encI, 2, [], 1⟩)], 2⟩ (.cons (fun _ => encI_sc _) (.cons (fun _ => encI_sc _) .nil)) (fun ds => (dl_loop l h_p h_n 0 0 [] ⟨by omega, ⟨by omega, by omega⟩, rfl, rfl⟩).pick (fun e s h => h)) (le_ble rfl))] (by kernel_rfl) (by kernel_rfl) (.cons (encI_sc _) .nil) (.cons (encI_sc _) .nil)
def layD (l : List (Int × Int)) : List Int := if fromE (fsts l) = 0 then dlt (snds l) else []
theorem unzV_row {l : List (Int × Int)} (h : PRow l) : ∀ x ∈ unzV l, N63 x := by
  intro x hx
  unfold unzV at hx
  split at hx
  · obtain ⟨y, hy, rfl⟩ := List.mem_map.1 hx
    exact h y hy
  · simp at hx
theorem unzV_le (l : List (Int × Int)) : (unzV l).length ≤ l.length := by unfold unzV; split <;> simp [snds_len]
theorem layD_in {l : List (Int × Int)} (h : PRow l) : L64 (layD l) := by
  unfold layD
  split
  · refine dlt_in fun x hx => ?_
    obtain ⟨y, hy, rfl⟩ := List.mem_map.1 hx
    exact h y hy
  · intro x hx; simp at hx
theorem layD_le (l : List (Int × Int)) : (layD l).length ≤ l.length := by unfold layD; split <;> simp [dlt_length, snds_len]
theorem lay_ok (l : List (Int × Int)) (h_p : PRow l) (h_n : l.length ≤ 4294967296) : FnC Try.prog 219 [.slice (some ⟨0, 0, none⟩) l.length (l.length + 1)] [(0, ⟨(l).flatMap encS, 1, [], 2⟩)] 1 (.tuple #[.slice (some ⟨1, 0, none⟩) ((fromR (fsts l)).length) ((fromR (fsts l)).length + 1), .slice (some ⟨2, 0, none⟩) ((layD l).length) ((layD l).length + 1), .int .i64 (fromE (fsts l))]) 2 [(1, ⟨(fromR (fsts l)).flatMap encS, 2, [], 2⟩), (2, ⟨(layD l).flatMap encI, 2, [], 1⟩)] := by
  by_cases h2001 : ((fromE (fsts (l)) : Int) = 0)
  · skip
    have hd : layD l = dlt (unzV l) := by unfold layD unzV; rw [if_pos h2001, if_pos h2001]
    rw [hd, h2001]
    exact FnC.run (m := false) follows_mixed has219 [(1001, aC (unzI_ok (l) h_n)), (2001, aNT h2001), (4001, aC (deltas_ok (unzV (l)) (unzV_row h_p) (Nat.le_trans (unzV_le l) h_n)))] (by kernel_rfl) (by kernel_rfl) (.cons (encS_sc _) .nil) (.cons (encS_sc _) (.cons (encI_sc _) .nil))
  · skip
    have hd : layD l = [] := by unfold layD; rw [if_neg h2001]
    rw [fromR_bad h2001, hd]
    exact FnC.run (m := false) follows_mixed has219 [(1001, aC (unzI_ok (l) h_n)), (2001, aNF h2001)] (by kernel_rfl) (by kernel_rfl) (.cons (encS_sc _) .nil) (.cons (encS_sc _) (.cons (encI_sc _) .nil))
def HI0 : HI := ⟨0, 0, 0, 0, 0, [], [], [], []⟩
def laid (h : HI) (p q : List (Int × Int)) : HI := { h with pos := fromR (fsts p), neg := fromR (fsts q), pd := layD p, nd := layD q }
def makeE (h : HI) (p q : List (Int × Int)) : Int := if fromE (fsts p) ≠ 0 then fromE (fsts p) else if fromE (fsts q) ≠ 0 then fromE (fsts q) else openE (laid h p q)
def makeH (h : HI) (p q : List (Int × Int)) : HI := if makeE h p q = 0 then laid h p q else HI0
theorem makeH_bad {h : HI} {p q : List (Int × Int)} (e : makeE h p q ≠ 0) : makeH h p q = HI0 := by unfold makeH; rw [if_neg e]
/-- the five numbers are right -/
structure HNum (h : HI) : Prop where
  schema : I64 h.schema
  zero : U64 h.zero
  zc : U64 h.zc
  count : U64 h.count
  sum : U64 h.sum
theorem HWf.num {h : HI} (w : HWf h) : HNum h := ⟨w.schema, w.zero, w.zc, w.count, w.sum⟩
theorem laid_wf {h : HI} {p q : List (Int × Int)} (w : HNum h) (hp : PRow p) (hq : PRow q) (lp : p.length ≤ 4294967296) (lq : q.length ≤ 4294967296) : HWf (laid h p q) :=
  ⟨w.schema, w.zero, w.zc, w.count, w.sum, layD_in hp, layD_in hq, Nat.le_trans (layD_le p) lp, Nat.le_trans (layD_le q) lq⟩
theorem hmake_ok (h : HI) (p q : List (Int × Int)) (h_w : HNum h) (h_p : PRow p) (h_q : PRow q) (h_lp : p.length ≤ 4294967296) (h_lq : q.length ≤ 4294967296) : FnC Try.prog 135 [.agg #[.int .i64 h.schema, .int .u64 h.zero, .int .u64 h.zc, .int .u64 h.count, .int .u64 h.sum, .slice (some ⟨0, 0, none⟩) h.pos.length (h.pos.length + 1), .slice (some ⟨1, 0, none⟩) h.neg.length (h.neg.length + 1), .slice (some ⟨2, 0, none⟩) h.pd.length (h.pd.length + 1), .slice (some ⟨3, 0, none⟩) h.nd.length (h.nd.length + 1)], .slice (some ⟨4, 0, none⟩) p.length (p.length + 1), .slice (some ⟨5, 0, none⟩) q.length (q.length + 1)] [(4, ⟨(p).flatMap encS, 1, [], 2⟩), (5, ⟨(q).flatMap encS, 1, [], 2⟩)] 6 (.tuple #[.agg #[.int .i64 ((makeH h p q).schema), .int .u64 ((makeH h p q).zero), .int .u64 ((makeH h p q).zc), .int .u64 ((makeH h p q).count), .int .u64 ((makeH h p q).sum), .slice (some ⟨6, 0, none⟩) (((makeH h p q).pos).length) (((makeH h p q).pos).length + 1), .slice (some ⟨7, 0, none⟩) (((makeH h p q).neg).length) (((makeH h p q).neg).length + 1), .slice (some ⟨8, 0, none⟩) (((makeH h p q).pd).length) (((makeH h p q).pd).length + 1), .slice (some ⟨9, 0, none⟩) (((makeH h p q).nd).length) (((makeH h p q).nd).length + 1)], .int .i64 (makeE h p q)]) 4 [(6, ⟨((makeH h p q).pos).flatMap encS, 2, [], 2⟩), (7, ⟨((makeH h p q).neg).flatMap encS, 2, [], 2⟩), (8, ⟨((makeH h p q).pd).flatMap encI, 2, [], 1⟩), (9, ⟨((makeH h p q).nd).flatMap encI, 2, [], 1⟩)] := by
  by_cases h3001 : ((fromE (fsts (p)) : Int) = 0)
  · skip
    by_cases h6001 : ((fromE (fsts (q)) : Int) = 0)
    · skip
      by_cases h9001 : ((openE (laid h p q) : Int) = 0)
      · skip
        have he : makeE h p q = 0 := by simp [makeE, h3001, h6001, h9001]
        have hm : makeH h p q = laid h p q := by unfold makeH; rw [if_pos he]
        rw [hm, he]
        exact FnC.run (m := false) follows_mixed has135 [(2001, aC (lay_ok (p) h_p h_lp)), (3001, aNT h3001), (5001, aC (lay_ok (q) h_q h_lq)), (6001, aNT h6001), (8001, aC (hcheck_ok (laid h p q) (laid_wf h_w h_p h_q h_lp h_lq))), (9001, aNT h9001)] (by kernel_rfl) (by kernel_rfl) (.cons (encS_sc _) (.cons (encS_sc _) .nil)) (.cons (encS_sc _) (.cons (encS_sc _) (.cons (encI_sc _) (.cons (encI_sc _) .nil))))
      · skip
        have he : makeE h p q = openE (laid h p q) := by simp [makeE, h3001, h6001]
        have hn : makeE h p q ≠ 0 := by rw [he]; exact h9001
        rw [makeH_bad hn, he]
        exact FnC.run (m := false) follows_mixed has135 [(2001, aC (lay_ok (p) h_p h_lp)), (3001, aNT h3001), (5001, aC (lay_ok (q) h_q h_lq)), (6001, aNT h6001), (8001, aC (hcheck_ok (laid h p q) (laid_wf h_w h_p h_q h_lp h_lq))), (9001, aNF h9001)] (by kernel_rfl) (by kernel_rfl) (.cons (encS_sc _) (.cons (encS_sc _) .nil)) (.cons (encS_sc _) (.cons (encS_sc _) (.cons (encI_sc _) (.cons (encI_sc _) .nil))))
    · skip
      have he : makeE h p q = fromE (fsts q) := by simp [makeE, h3001, h6001]
      have hn : makeE h p q ≠ 0 := by rw [he]; exact h6001
      rw [makeH_bad hn, he]
      exact FnC.run (m := false) follows_mixed has135 [(2001, aC (lay_ok (p) h_p h_lp)), (3001, aNT h3001), (5001, aC (lay_ok (q) h_q h_lq)), (6001, aNF h6001)] (by kernel_rfl) (by kernel_rfl) (.cons (encS_sc _) (.cons (encS_sc _) .nil)) (.cons (encS_sc _) (.cons (encS_sc _) (.cons (encI_sc _) (.cons (encI_sc _) .nil))))
  · skip
    have he : makeE h p q = fromE (fsts p) := by simp [makeE, h3001]
    have hn : makeE h p q ≠ 0 := by rw [he]; exact h3001
    rw [makeH_bad hn, he]
    exact FnC.run (m := false) follows_mixed has135 [(2001, aC (lay_ok (p) h_p h_lp)), (3001, aNF h3001)] (by kernel_rfl) (by kernel_rfl) (.cons (encS_sc _) (.cons (encS_sc _) .nil)) (.cons (encS_sc _) (.cons (encS_sc _) (.cons (encI_sc _) (.cons (encI_sc _) .nil))))
end Go.Am
