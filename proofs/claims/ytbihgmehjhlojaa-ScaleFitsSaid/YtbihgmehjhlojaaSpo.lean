/-
Package span: Clone, All, Places.
-/
import Derived.Test.YtbihgmehjhlojaaSpn
set_option linter.unusedVariables false
set_option linter.unusedSimpArgs false
set_option maxRecDepth 100000
namespace Go.Am
open Go Go.RowKit Go.Proofs
theorem has247 : Has Try.prog 247 Try.f247 (bodyOf Try.f247) := ⟨Try.func247, by kernel_rfl, by kernel_rfl⟩
theorem has274 : Has Try.prog 274 Try.f274 (bodyOf Try.f274) := ⟨Try.func274, by kernel_rfl, by kernel_rfl⟩
theorem has283 : Has Try.prog 283 Try.f283 (bodyOf Try.f283) := ⟨Try.func283, by kernel_rfl, by kernel_rfl⟩
theorem cloneS_nil : FnC Try.prog 115 [.slice none 0 0] [(0, ⟨([] : List Sp).flatMap encS, 1, [], 2⟩)] 1 (.slice (some ⟨1, 0, none⟩) 0 1) 1 [(1, ⟨([] : List Sp).flatMap encS, 2, [], 2⟩)] :=
  FnC.run (m := false) follows_mixed has115 [] (by kernel_rfl) (by kernel_rfl) (.cons (encS_sc _) .nil) (.cons (encS_sc _) .nil)
theorem cloneS_empty : FnC Try.prog 115 [.slice (some ⟨0, 0, none⟩) 0 2] [(0, ⟨([] : List Sp).flatMap encS, 1, [], 2⟩)] 1 (.slice (some ⟨1, 0, none⟩) 0 1) 1 [(1, ⟨([] : List Sp).flatMap encS, 2, [], 2⟩)] :=
  FnC.run (m := false) follows_mixed has115 [] (by kernel_rfl) (by kernel_rfl) (.cons (encS_sc _) .nil) (.cons (encS_sc _) .nil)
theorem cloneS_ok (l : List Sp) (h_l : l.length ≤ 8589934592) : FnC Try.prog 115 [.slice (some ⟨0, 0, none⟩) l.length (l.length + 1)] [(0, ⟨l.flatMap encS, 1, [], 2⟩)] 1 (.slice (some ⟨1, 0, none⟩) l.length (l.length + 1)) 1 [(1, ⟨l.flatMap encS, 2, [], 2⟩)] := by
  cases l with
  | nil => exact FnC.nil1 cloneS_nil cloneS_empty
  | cons s r => exact FnC.run (m := false) follows_mixed has115 [(3002, aAll encS_k (s :: r) h_l (by simp))] (by kernel_rfl) (by kernel_rfl) (.cons (encS_sc _) .nil) (.cons (encS_sc _) .nil)
theorem all_ok (l : List Sp) (h_l : l.length ≤ 8589934592) : FnG Try.prog 247 [.slice (some ⟨0, 0, none⟩) l.length (l.length + 1)] [(0, ⟨l.flatMap encS, 1, [], 2⟩)] 1 (.func (.func 274) #[] #[.pointer (some ⟨1, 0, none⟩)]) 2 [(1, ⟨[.slice (some ⟨2, 0, none⟩) l.length (l.length + 1)], 2, [], 1⟩), (2, ⟨l.flatMap encS, 2, [], 2⟩)] [0, 2] :=
  FnG.run (m := false) follows_mixed has247 [(1001, aC (cloneS_ok l h_l))] (by kernel_rfl) (by kernel_rfl) (.cons (fun _ => encS_sc _) .nil) (.skip rfl (.cons (fun _ => encS_sc _) .nil))

/-! ### All's function -/
def encII (x : Int × Int) : List Value := [.int .i64 x.1, .int .i64 x.2]
def run1 (n a : Int) : Nat → List (Int × Int)
  | 0 => []
  | k + 1 => (n, a) :: run1 (n + 1) (a + 1) k
theorem run1_length (k : Nat) : ∀ n a, (run1 n a k).length = k := by
  induction k with
  | zero => intro n a; rfl
  | succ k ih => intro n a; simp [run1, ih]
def pairsGo : List Sp → Int → Int → List (Int × Int)
  | [], _, _ => []
  | s :: r, a, n => run1 n (a + s.1) s.2.toNat ++ pairsGo r (a + s.1 + s.2) (n + s.2)
def allPairs (l : List Sp) : List (Int × Int) := if checkS l = 0 then pairsGo l 0 0 else []
abbrev yl (k : Nat) : Value := .func (.yield k) #[] #[]
abbrev allH (l : List Sp) : Heap := [(0, ⟨[.slice (some ⟨1, 0, none⟩) l.length (l.length + 1)], 1, [], 1⟩), (1, ⟨l.flatMap encS, 1, [], 2⟩)]
abbrev allO (y : Nat) (l : List Sp) (i : Nat) (a n : Int) : AS := ⟨[(0, yl y), (3, .int .i64 a), (4, .int .i64 n), (10, .slice (some ⟨1, 0, none⟩) l.length (l.length + 1)), (11, .int .i64 ((l.length : Nat) : Int)), (12, .int .i64 ((i : Nat) : Int))], allH l, 2⟩
abbrev allM (y : Nat) (l : List Sp) (i : Nat) (a n m j : Int) : AS := ⟨[(0, yl y), (3, .int .i64 a), (4, .int .i64 n), (10, .slice (some ⟨1, 0, none⟩) l.length (l.length + 1)), (11, .int .i64 ((l.length : Nat) : Int)), (12, .int .i64 ((i : Nat) : Int)), (21, .int .i64 m), (22, .int .i64 j)], allH l, 2⟩
theorem rightGo_at : ∀ {l : List Sp} {f : Bool} {a n : Int} {s : Sp} {r : List Sp}, rightGo (s :: r) f a n = true → l = r → 0 ≤ s.2 ∧ s.2 ≤ 4096 ∧ -1048576 ≤ a + s.1 ∧ a + s.1 ≤ 1048576 ∧ a + s.1 + s.2 ≤ 1048577 ∧ n + s.2 ≤ 4096 ∧ rightGo r false (a + s.1 + s.2) (n + s.2) = true := by
  intro l f a n s r h _
  rw [rightGo_cons] at h
  split at h
  · cases h
  · rename_i h1
    split at h
    · cases h
    · rename_i h2
      simp [bad1, bad2, inPlace] at h1 h2
      refine ⟨by omega, by omega, by omega, by omega, by omega, by omega, h⟩
noncomputable abbrev aLoop1 : Code := cB (cR (cR (cR (bodyOf Try.f274))))
noncomputable abbrev aRound1 : Code := cB aLoop1
noncomputable abbrev aBlock1 : Code := cB (cL (cR (cR aRound1)))
noncomputable abbrev aLoop2 : Code := cB (cR (cR (cR aBlock1)))
noncomputable abbrev aRound2 : Code := cB aLoop2
noncomputable abbrev aBlock2 : Code := cB (cL (cR (cR aRound2)))
theorem all_scr (l : List Sp) : SCR [1] (allH l) := .skip rfl (.cons (fun _ => encS_sc _) .nil)
theorem allPairs_seq (l : List Sp) (h_l : l.length ≤ 8589934592) : SeqC Try.prog 274 [.pointer (some ⟨0, 0, none⟩)] (allH l) 2 [1] encII (allPairs l) := by
  refine SeqC.of_trJ has274 (all_scr l) (by kernel_rfl) (fun i b hi v hv => ?_) (by decide) rfl fun μ0 C hNN hr1 hr2 => ?_
  · simp only [get] at hi
    split at hi
    · injection hi with hi; subst hi; simp at hv; subst hv; rfl
    · split at hi
      · injection hi with hi; subst hi; exact scal_shp1 (encS_sc l v hv) 2
      · cases hi
  refine TrJ.seqC (by kernel_rfl) ?_
  by_cases hz : checkS l = 0
  · obtain ⟨hl, hR⟩ := checkS_zero.1 hz
    have hxs : allPairs l = pairsGo l 0 0 := by simp [allPairs, hz]
    refine TrJ.run (A := [(1, aC (check_ok l)), (2, aNT hz)]) (rows := [1]) (ex := .normal) (σ0 := ⟨[(0, yl C.l), (1, .pointer (some ⟨0, 0, none⟩))], allH l, 2⟩) follows_mixed (by kernel_rfl) (all_scr l) (le_ble rfl) (by kernel_rfl) ?_
    refine TrJ.seqC (by kernel_rfl) ?_
    refine TrJ.run (A := []) (rows := [1]) (ex := .normal) (σ0 := ⟨[(0, yl C.l), (1, .pointer (some ⟨0, 0, none⟩)), (3, .int .i64 0), (4, .int .i64 0)], allH l, 2⟩) follows_mixed (by kernel_rfl) (all_scr l) (le_ble rfl) (by kernel_rfl) ?_
    refine TrJ.seqC (by kernel_rfl) ?_
    refine TrJ.run (A := []) (rows := [1]) (ex := .normal) (σ0 := allO C.l l 0 0 0) follows_mixed (by kernel_rfl) (all_scr l) (le_ble rfl) (by kernel_rfl) ?_
    refine TrJ.blockC (by kernel_rfl) ?_
    refine TrJ.loopC (by kernel_rfl) (ι := { x : Nat × Int × Int × List (Int × Int) // x.1 ≤ l.length ∧ x.2.2.2 ++ pairsGo (l.drop x.1) x.2.1 x.2.2.1 = pairsGo l 0 0 ∧ rightGo (l.drop x.1) (x.1 == 0) x.2.1 x.2.2.1 = true ∧ -1048576 ≤ x.2.1 ∧ x.2.1 ≤ 1048577 ∧ 0 ≤ x.2.2.1 ∧ x.2.2.1 ≤ 4096 }) (fun x => allO C.l l x.1.1 x.1.2.1 x.1.2.2.1) (fun x => x.1.2.2.2) (fun x => l.length - x.1.1) (fun _ => True) ?_ ⟨(0, 0, 0, []), by omega, by simp, by simpa [right] using hR, by decide, by decide, by decide, by decide⟩ trivial
    rintro ⟨⟨i, a, n, pre⟩, hi, hp, hg, ha1, ha2, hn1, hn2⟩ _
    simp only at hi hp hg ha1 ha2 hn1 hn2
    refine TrJ.seqC (by kernel_rfl) ?_
    by_cases hlt : i < l.length
    · obtain ⟨s, hs⟩ : ∃ s, l[i]? = some s := ⟨_, List.getElem?_eq_getElem hlt⟩
      have hdr := drop_idx hs
      rw [hdr] at hp hg
      obtain ⟨b1, b2, b3, b4, b5, b6, hg2⟩ := rightGo_at (l := l.drop (i + 1)) hg rfl
      have hlti : (i : Int) < (l.length : Int) := by omega
      refine TrJ.run (A := [(3000, aT hlti)]) (rows := [1]) (ex := .normal) (σ0 := ⟨(allO C.l l i a n).ts ++ [(13, .bool true)], allH l, 2⟩) follows_mixed (by kernel_rfl) (all_scr l) (le_ble rfl) (by kernel_rfl) ?_
      refine TrJ.seqC (by kernel_rfl) ?_
      refine TrJ.run (A := []) (rows := [1]) (ex := .normal) (σ0 := allO C.l l i a n) follows_mixed (by kernel_rfl) (all_scr l) (le_ble rfl) (by kernel_rfl) ?_
      refine TrJ.seqC (by kernel_rfl) ?_
      refine TrJ.blockC (by kernel_rfl) ?_
      refine TrJ.seqC (by kernel_rfl) ?_
      refine TrJ.run (A := [(4000, aX i l.length 2 hlt), (4001, aL encS_k hs)]) (rows := [1]) (ex := .normal) (σ0 := ⟨(allO C.l l i a n).ts ++ [(6, .pointer (some ⟨2, 0, none⟩))], allH l ++ [(2, ⟨encS s, 1, [], 1⟩)], 3⟩) follows_mixed (by kernel_rfl) (.skip rfl (.cons (fun _ => encS_sc _) (.skip rfl .nil))) (le_ble rfl) (by kernel_rfl) ?_
      refine TrJ.seqC (by kernel_rfl) ?_
      refine TrJ.run (A := [(5003, aI .i64 .i64 (a + s.1) (a + s.1) (wrap_i64 (by omega) (by omega)))]) (rows := [1]) (ex := .normal) (σ0 := ⟨(allO C.l l i (a + s.1) n).ts ++ [(6, .pointer (some ⟨2, 0, none⟩))], allH l ++ [(2, ⟨encS s, 1, [], 1⟩)], 3⟩) follows_mixed (by kernel_rfl) (.skip rfl (.cons (fun _ => encS_sc _) (.skip rfl .nil))) (le_ble rfl) (by kernel_rfl) ?_
      refine TrJ.seqC (by kernel_rfl) ?_
      refine TrJ.run (A := []) (rows := [1]) (ex := .normal) (σ0 := allM C.l l i (a + s.1) n s.2 0) follows_mixed (by kernel_rfl) (all_scr l) (le_ble rfl) (by kernel_rfl) ?_
      refine TrJ.blockC (by kernel_rfl) ?_
      refine TrJ.loopC (by kernel_rfl) (ι := { x : Nat × Int × Int × List (Int × Int) // (x.1 : Int) ≤ s.2 ∧ x.2.1 = a + s.1 + x.1 ∧ x.2.2.1 = n + x.1 ∧ x.2.2.2 ++ (run1 x.2.2.1 x.2.1 (s.2.toNat - x.1) ++ pairsGo (l.drop (i + 1)) (a + s.1 + s.2) (n + s.2)) = pairsGo l 0 0 }) (fun x => allM C.l l i x.1.2.1 x.1.2.2.1 s.2 ((x.1.1 : Nat) : Int)) (fun x => x.1.2.2.2) (fun x => s.2.toNat - x.1.1) (fun _ => True) ?_ ⟨(0, a + s.1, n, pre), by simp only; omega, by simp, by simp, by simpa [pairsGo] using hp⟩ trivial
      rintro ⟨⟨j, a', n', pre2⟩, hj, ha', hn', hp2⟩ _
      simp only at hj ha' hn' hp2
      refine TrJ.seqC (by kernel_rfl) ?_
      by_cases hjl : (j : Int) < s.2
      · refine TrJ.run (A := [(7000, aT hjl)]) (rows := [1]) (ex := .normal) (σ0 := ⟨(allM C.l l i a' n' s.2 j).ts ++ [(23, .bool true)], allH l, 2⟩) follows_mixed (by kernel_rfl) (all_scr l) (le_ble rfl) (by kernel_rfl) ?_
        refine TrJ.seqC (by kernel_rfl) ?_
        refine TrJ.run (A := []) (rows := [1]) (ex := .normal) (σ0 := allM C.l l i a' n' s.2 j) follows_mixed (by kernel_rfl) (all_scr l) (le_ble rfl) (by kernel_rfl) ?_
        obtain ⟨k, hk⟩ : ∃ k, s.2.toNat - j = k + 1 := ⟨s.2.toNat - j - 1, by omega⟩
        have hk2 : s.2.toNat - (j + 1) = k := by omega
        rw [hk, run1] at hp2
        have hx : pre2 ++ [(n', a')] <+: allPairs l := by
          rw [hxs, ← hp2]
          simp
        have hlen : pre2.length < (allPairs l).length := by
          have := hx.length_le
          simp at this; omega
        refine TrJ.seqC (by kernel_rfl) ?_
        refine TrJ.blockC (by kernel_rfl) ?_
        refine TrJ.seqC (by kernel_rfl) ?_
        refine TrJ.seqC (by kernel_rfl) ?_
        rw [kind5 (c := cL (cL aBlock2)) (by kernel_rfl)]
        refine TrJ.yield (l1 := (cOps (cL (cL aBlock2))).toList.take 3) (l2 := (cOps (cL (cL aBlock2))).toList.drop 4) (o := (cOps (cL (cL aBlock2))).toList[3]'(le_ble (by kernel_rfl))) (by kernel_rfl) (σ1 := ⟨(allM C.l l i a' n' s.2 j).ts ++ [(24, yl C.l), (25, .int .i64 n'), (26, .int .i64 a')], allH l, 2⟩)
          (σ2 := fun v => ⟨(allM C.l l i a' n' s.2 j).ts ++ [(24, yl C.l), (25, .int .i64 n'), (26, .int .i64 a'), (27, .bool v), (28, .bool (!v))], if v then allH l else [], 2⟩) (TrL.ev (le_ble rfl) (by kernel_rfl)) (fo := .tmp 24) (aos := #[.tmp 25, .tmp 26]) (ats := #[3, 3]) (by kernel_rfl) (by kernel_rfl) (by kernel_rfl) (by kernel_rfl) (x := (n', a')) (by kernel_rfl) (by kernel_rfl) (fun i b hi => (roOK_ok (nI := 2) (H := allH l) (by kernel_rfl) i b hi).1) (le_ble rfl) hr1 hr2 (by rw [hNN]; exact hlen)
          (fun v => by cases v <;> exact TrL.ev (le_ble rfl) (by kernel_rfl)) (fun v i b hi => by cases v; simp [get] at hi; exact (roOK_ok (nI := 2) (H := allH l) (by kernel_rfl) i b hi).1) ?_ ?_
        · -- on
          refine TrJ.run (A := []) (rows := [1]) (ex := .normal) (σ0 := allM C.l l i a' n' s.2 j) follows_mixed (by kernel_rfl) (all_scr l) (le_ble rfl) (by kernel_rfl) ?_
          refine TrJ.run (A := [(9001, aI .i64 .i64 (a' + 1) (a' + 1) (wrap_i64 (by omega) (by omega))), (10001, aI .i64 .i64 (n' + 1) (n' + 1) (wrap_i64 (by omega) (by omega)))]) (rows := [1]) (ex := .normal) (σ0 := allM C.l l i (a' + 1) (n' + 1) s.2 j) follows_mixed (by kernel_rfl) (all_scr l) (le_ble rfl) (by kernel_rfl) ?_
          refine TrJ.run (A := [(11000, aI .i64 .i64 ((j : Int) + 1) ((j + 1 : Nat) : Int) (wrap_i64' (by omega) (by omega) (by omega)))]) (rows := [1]) (ex := .normal) (σ0 := allM C.l l i (a' + 1) (n' + 1) s.2 ((j + 1 : Nat) : Int)) follows_mixed (by kernel_rfl) (all_scr l) (le_ble rfl) (by kernel_rfl) ?_
          refine ⟨⟨(j + 1, a' + 1, n' + 1, pre2 ++ [(n', a')]), by simp only; omega, by simp only; omega, by simp only; omega, ?_⟩, trivial, rfl, rfl, rfl, by simp only; omega⟩
          rw [← hp2]
          simp only [List.append_assoc, List.cons_append, List.nil_append, hk2]
        · -- stopped
          refine TrJ.run (A := []) (rows := []) (ex := .ret) (σ0 := ⟨[], [], 2⟩) follows_mixed (by kernel_rfl) .nil (le_ble rfl) (by kernel_rfl) ?_
          exact ⟨rfl, .inr ⟨rfl, hx⟩⟩
      · refine TrJ.run (A := [(7000, aF hjl)]) (rows := [1]) (ex := .normal) (σ0 := ⟨(allM C.l l i a' n' s.2 j).ts ++ [(23, .bool false)], allH l, 2⟩) follows_mixed (by kernel_rfl) (all_scr l) (le_ble rfl) (by kernel_rfl) ?_
        refine TrJ.seqC (by kernel_rfl) ?_
        have hjs : (j : Int) = s.2 := by omega
        refine TrJ.run (A := []) (rows := [1]) (ex := .exit 2) (σ0 := allM C.l l i a' n' s.2 j) follows_mixed (by kernel_rfl) (all_scr l) (le_ble rfl) (by kernel_rfl) ?_
        show inBlkJ _ _ (.exit 2) _ _ _
        refine TrJ.run (A := [(12000, aI .i64 .i64 ((i : Int) + 1) ((i + 1 : Nat) : Int) (wrap_i64' (by omega) (by omega) (by omega)))]) (rows := [1]) (ex := .normal) (σ0 := allO C.l l (i + 1) a' n') follows_mixed (by kernel_rfl) (all_scr l) (le_ble rfl) (by kernel_rfl) ?_
        refine ⟨⟨(i + 1, a', n', pre2), by simp only; omega, ?_, ?_, ?_⟩, trivial, rfl, rfl, rfl, by simp only; omega⟩
        · have : s.2.toNat - j = 0 := by omega
          rw [this, run1] at hp2
          simp only
          rw [ha', hn', hjs]
          simpa using hp2
        · simp only; rw [ha', hn', hjs]; exact hg2
        · simp only; omega
    · have hlti : ¬ (i : Int) < (l.length : Int) := by omega
      refine TrJ.run (A := [(3000, aF hlti)]) (rows := [1]) (ex := .normal) (σ0 := ⟨(allO C.l l i a n).ts ++ [(13, .bool false)], allH l, 2⟩) follows_mixed (by kernel_rfl) (all_scr l) (le_ble rfl) (by kernel_rfl) ?_
      refine TrJ.seqC (by kernel_rfl) ?_
      refine TrJ.run (A := []) (rows := [1]) (ex := .exit 0) (σ0 := allO C.l l i a n) follows_mixed (by kernel_rfl) (all_scr l) (le_ble rfl) (by kernel_rfl) ?_
      refine ⟨rfl, .inl ⟨rfl, ?_⟩⟩
      have hd : l.drop i = [] := List.drop_eq_nil_of_le (by omega)
      rw [hd] at hp
      show pre = allPairs l
      rw [hxs, ← hp]; simp [pairsGo]
  · have hxs : allPairs l = [] := by simp [allPairs, hz]
    refine TrJ.run (A := [(1, aC (check_ok l)), (2, aNF hz)]) (rows := [1]) (ex := .ret) (σ0 := ⟨[], allH l, 2⟩) follows_mixed (by kernel_rfl) (all_scr l) (le_ble rfl) (by kernel_rfl) ?_
    exact ⟨rfl, .inl ⟨rfl, hxs.symm⟩⟩

/-! ### Places -/
def places (l : List Sp) : List Int := (allPairs l).map (·.2)
theorem pairsGo_length : ∀ {l : List Sp} {a n : Int}, (∀ s ∈ l, 0 ≤ s.2) → ((pairsGo l a n).length : Int) = lens l
  | [], a, n, h => by simp [pairsGo, lens]
  | s :: r, a, n, h => by
    have h1 := h s (List.mem_cons_self ..)
    have ih := pairsGo_length (l := r) (a := a + s.1 + s.2) (n := n + s.2) fun x hx => h x (List.mem_cons_of_mem _ hx)
    simp [pairsGo, run1_length, lens] at ih ⊢
    omega
theorem allPairs_length (l : List Sp) : ((allPairs l).length : Int) = countS l := by
  unfold allPairs countS
  split
  · rename_i h
    obtain ⟨_, hR⟩ := checkS_zero.1 h
    exact pairsGo_length fun s hs => ((rightGo_lens hR 0).2.2 s hs).1
  · simp
theorem countS_le (l : List Sp) : 0 ≤ countS l ∧ countS l ≤ 4096 := by
  unfold countS
  split
  · rename_i h
    obtain ⟨_, hR⟩ := checkS_zero.1 h
    have := lens_bound hR l.length
    rwa [List.take_length] at this
  · omega
theorem places_length (l : List Sp) : ((places l).length : Int) = countS l := by unfold places; rw [List.length_map]; exact allPairs_length l
abbrev plI (l : List Sp) (out : List Int) : Heap × Nat := ([(1, ⟨[.slice (some ⟨4, 0, none⟩) out.length (out.length + 1)], 2, [], 1⟩), (2, ⟨[.slice (some ⟨3, 0, none⟩) l.length (l.length + 1)], 1, [], 1⟩), (3, ⟨l.flatMap encS, 1, [], 2⟩), (4, ⟨out.flatMap encI, 2, [], 1⟩)], 5)
abbrev plTs : List (Nat × Value) := [(5, .pointer (some ⟨1, 0, none⟩)), (14, .func (.func 274) #[] #[.pointer (some ⟨2, 0, none⟩)])]
noncomputable abbrev plRF : Code := cB (cR (cL (cR (cR (cR (bodyOf Try.f283))))))
theorem pl_scr (l : List Sp) (out : List Int) : SCR [3, 4] (plI l out).1 := .skip rfl (.skip rfl (.cons (fun _ => encS_sc _) (.cons (fun _ => encI_sc _) .nil)))
theorem foldl_snd : ∀ (xs : List (Int × Int)) (out : List Int), xs.foldl (fun o x => o ++ [x.2]) out = out ++ xs.map (·.2)
  | [], out => by simp
  | x :: r, out => by simp [foldl_snd r]
noncomputable def rfG : Code → Operand | .rangeFunc g _ _ _ => g | _ => .tmp 0
noncomputable def rfP : Code → Array Tmp | .rangeFunc _ ps _ _ => ps | _ => #[]
noncomputable def rfA : Code → Code | .rangeFunc _ _ a _ => a | _ => .skip
noncomputable def isRF : Code → Bool | .rangeFunc .. => true | _ => false
theorem kindRF {c : Code} (h : isRF c = true) : c = .rangeFunc (rfG c) (rfP c) (rfA c) (cB c) := by cases c <;> simp_all [isRF, rfG, rfP, rfA, cB]
theorem places_rng (l : List Sp) (h_l : l.length ≤ 8589934592) : TrM Try.prog 22 1 plRF ⟨plTs, (plI l []).1, 5⟩ fun e s => e = .normal ∧ s = ⟨plTs, (plI l (places l)).1, 5⟩ := by
  rw [kindRF (c := plRF) (by kernel_rfl)]
  have hc := countS_le l
  have hal := allPairs_length l
  refine TrM.range (allPairs_seq l h_l) 4 (N := 22) (nI := 1) (caps := [.pointer (some ⟨2, 0, none⟩)]) (by kernel_rfl) (p := [(0, some 2)]) (cc := [(.n 0, .n 0)]) (by kernel_rfl) (fun p hp => by simp at hp; subst hp; rfl) (pr := [(0, some 2), (0, some 2), (1, some 3), (1, some 3)]) (c2 := [(.n 0, .n 0), (.n l.length, .n l.length), (.n (l.length + 1), .n (l.length + 1)), (.l (l.flatMap encS), .l (l.flatMap encS))]) (by kernel_rfl) (by kernel_rfl)
    (plI l) (fun out => by kernel_rfl) (fun p hp => by simp at hp; rcases hp with rfl | rfl | rfl | rfl <;> rfl) (fun out x => out ++ [x.2]) (fun k out => out.length = k) [] rfl rfl (fun x => by kernel_rfl)
    (fun x => put (put (put plTs 15 (.int .i64 x.1)) 16 (.int .i64 x.2)) 7 (.int .i64 x.2)) (fun a x => Act.put { tmps := (#[15, 16].zip #[.int .i64 x.1, .int .i64 x.2]).foldl (fun t (p, v) => t.setIfInBounds p v) a.tmps, defers := [] } (some 7) (((#[15, 16].zip #[.int .i64 x.1, .int .i64 x.2]).foldl (fun t (p, v) => t.setIfInBounds p v) a.tmps).getD 16 undef))
    (fun l m a x W K hK => ?_) (fun μ ds a x h => frame2 h (by decide) (by decide) (by decide) rfl rfl) (fun k s x ex s' => False) (fun y k out x hk hkl => ?_) (by decide) (fun t v hv => ?_) (fun hd => ?_) (fun pre x ex s' _ hf => hf.elim)
  · have he : rfA plRF = .region 6 #[(cOps (rfA plRF)).toList[0]'(le_ble (by kernel_rfl))] false := by kernel_rfl
    rw [he]
    exact wpIn_assign1 (j := 16) (d := 7) (by kernel_rfl) (by kernel_rfl) (by kernel_rfl) hK
  · have hkl' : (out.length : Int) < 4096 := by omega
    refine (Tr.run follows_mixed (A := [(7003, aA encI_k out [x.2] (by simp; omega))]) (rows := [3, 4]) (ex := .normal) (σ0 := ⟨[], (plI l (out ++ [x.2])).1, 5⟩) (by kernel_rfl) (pl_scr l _) (le_ble rfl)).mono fun e s ⟨q1, q2⟩ => ?_
    subst q1; subst q2
    exact .inl ⟨rfl, rfl, by simp [hk]⟩
  · simp only [get] at hv
    split at hv
    · injection hv with hv; subst hv; rfl
    · split at hv
      · injection hv with hv; subst hv; rfl
      · cases hv
  · rw [foldl_snd]
    exact ⟨rfl, rfl⟩

theorem places_ok (l : List Sp) : FnC Try.prog 283 [.slice (some ⟨0, 0, none⟩) l.length (l.length + 1)] [(0, ⟨l.flatMap encS, 1, [], 2⟩)] 1 (.tuple #[.slice (some ⟨1, 0, none⟩) ((places l).length) ((places l).length + 1), .int .i64 (checkS l)]) 1 [(1, ⟨(places l).flatMap encI, 2, [], 1⟩)] := by
  by_cases hz : checkS l = 0
  · obtain ⟨hl, hR⟩ := checkS_zero.1 hz
    rw [hz]
    exact FnC.run (m := true) follows_mixed has283 [(1001, aC (check_ok l)), (2001, aNT hz), (5001, aG (all_ok l (by omega))), (900000, .rng rfl plRF [3, 4] ⟨plTs, (plI l []).1, 5⟩ .normal ⟨plTs, (plI l (places l)).1, 5⟩ (pl_scr l []) (places_rng l (by omega)) (le_ble rfl))] (by kernel_rfl) (by kernel_rfl) (.cons (encS_sc l) .nil) (.cons (encI_sc _) .nil)
  · have hp : places l = [] := by simp [places, allPairs, hz]
    rw [hp]
    exact FnC.run (m := false) follows_mixed has283 [(1001, aC (check_ok l)), (2001, aNF hz)] (by kernel_rfl) (by kernel_rfl) (.cons (encS_sc l) .nil) (.cons (encI_sc _) .nil)

end Go.Am
