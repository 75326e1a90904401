/-
Package scale: wider buckets, whole and floats.
-/
import Derived.Test.YtbihgmehjhlojaaFlt
set_option linter.unusedVariables false
set_option linter.unusedSimpArgs false
set_option maxRecDepth 100000
namespace Go.Am
open Go Go.RowKit Go.Proofs
theorem has95 : Has Try.prog 95 Try.f95 (bodyOf Try.f95) := ⟨Try.func95, by kernel_rfl, by kernel_rfl⟩
theorem has223 : Has Try.prog 223 Try.f223 (bodyOf Try.f223) := ⟨Try.func223, by kernel_rfl, by kernel_rfl⟩
theorem has144 : Has Try.prog 144 Try.f144 (bodyOf Try.f144) := ⟨Try.func144, by kernel_rfl, by kernel_rfl⟩
theorem has133 : Has Try.prog 133 Try.f133 (bodyOf Try.f133) := ⟨Try.func133, by kernel_rfl, by kernel_rfl⟩
theorem has143 : Has Try.prog 143 Try.f143 (bodyOf Try.f143) := ⟨Try.func143, by kernel_rfl, by kernel_rfl⟩
theorem has150 : Has Try.prog 150 Try.f150 (bodyOf Try.f150) := ⟨Try.func150, by kernel_rfl, by kernel_rfl⟩
theorem fright_ok (v : Int) : FnC Try.prog 95 [.int .u64 v] [] 0 (.bool (thrS v)) 0 [] := by
  exact FnC.run (m := false) follows_mixed has95 [(1001, aC (thr_ok v))] (by kernel_rfl) (by kernel_rfl) .nil .nil
theorem fwrong_ok (v : Int) : FnC Try.prog 223 [.int .u64 v] [] 0 (.bool (!thrS v)) 0 [] := by
  cases h1001 : (thrS v) with
  | true =>
    exact FnC.eq (v := .bool false) (FnC.run (m := false) follows_mixed has223 [(1001, aCb (fright_ok (v)) h1001)] (by kernel_rfl) (by kernel_rfl) .nil .nil) (by simp_all)
  | false =>
    exact FnC.eq (v := .bool true) (FnC.run (m := false) follows_mixed has223 [(1001, aCb (fright_ok (v)) h1001)] (by kernel_rfl) (by kernel_rfl) .nil .nil) (by simp_all)
def fadd (a b : Int) : Int := (((Ieee.double.add a.toNat b.toNat).getD 0 : Nat) : Int)
def FOK (x : Int) : Prop := 0 ≤ x ∧ x < 9218868437227405312
theorem fadd_facts {a b : Int} (ha : FOK a) (hb : FOK b) : Ieee.double.add a.toNat b.toNat = some (fadd a b).toNat ∧ 0 ≤ fadd a b ∧ fadd a b ≤ 9218868437227405312 := by
  have h1 : a.toNat < 2047 * 2 ^ 52 := by unfold FOK at ha; omega
  have h2 : b.toNat < 2047 * 2 ^ 52 := by unfold FOK at hb; omega
  obtain ⟨r, hr, hle⟩ := TP.add_right h1 h2
  unfold fadd
  rw [hr]
  refine ⟨by simp, by simp, ?_⟩
  simp only [Option.getD_some]
  omega
theorem fadd_val {P : Program} {t : TypeId} {x y : Operand} {a b : Int} (ha : FOK a) (hb : FOK b) : valBin P .add t x y (.float .f64 a.toNat) (.float .f64 b.toNat) = some (.float .f64 (fadd a b).toNat) := by
  have h := (fadd_facts ha hb).1
  have e : FloatKind.f64.format = Ieee.double := rfl
  simp [valBin, flat, scalar, runFlat, eqGuard, binOp, Op.floatArith, e, h]
  rfl
/-- counts of floats, together -/
def addF (a b : Int) : Option Int := if thrS (fadd a b) then some (fadd a b) else none
def addI (a b : Int) : Option Int := if a + b ≤ 9223372036854775807 then some (a + b) else none
theorem bits_val {n : Int} (h : 0 ≤ n) : (Value.int .u64 (Int.ofNat n.toNat)) = .int .u64 n := by congr 1; simp; omega
theorem ffloat_ok (a b : Int) (h_a : FOK a) (h_b : FOK b) : FnC Try.prog 144 [.int .u64 a, .int .u64 b] [] 0 (.tuple #[.int .u64 (fadd a b), .bool (thrS (fadd a b))]) 0 [] := by
  have hf := fadd_facts h_a h_b
  exact FnC.run (m := false) follows_mixed has144 [(1001, aExt (g := 94) (args := [.int .u64 a]) (u := .float .f64 a.toNat) rfl rfl (fun n => rfl)), (1003, aExt (g := 94) (args := [.int .u64 b]) (u := .float .f64 b.toNat) rfl rfl (fun n => rfl)), (1004, aBin (fadd_val (a := a) (b := b) (t := 123) (x := (.tmp 8)) (y := (.tmp 10)) h_a h_b)), (1005, aExt (g := 97) (args := [.float .f64 ((fadd a b).toNat)]) (u := .int .u64 (fadd a b)) rfl (bits_val (by omega)) (fun n => rfl)), (2002, aC (fright_ok ((fadd a b))))] (by kernel_rfl) (by kernel_rfl) .nil .nil

/-! ### widen -/
def lastP (o : List (Int × Int)) : Int × Int := o.getD (o.length - 1) (0, 0)
def widStep (add : Int → Int → Option Int) (b : Int) (o : List (Int × Int)) (p : Int × Int) : Option (List (Int × Int)) :=
  if o ≠ [] ∧ (lastP o).1 = placeS p.1 b then (match add (lastP o).2 p.2 with | some v => some (o.set (o.length - 1) ((lastP o).1, v)) | none => none) else some (o ++ [(placeS p.1 b, p.2)])
def widGo (add : Int → Int → Option Int) (b : Int) : List (Int × Int) → List (Int × Int) → Option (List (Int × Int))
  | [], o => some o
  | p :: r, o => match widStep add b o p with | some o' => widGo add b r o' | none => none
def widF (add : Int → Int → Option Int) (b : Int) (l : List (Int × Int)) : Option (List (Int × Int)) := widGo add b l []
def widR (add : Int → Int → Option Int) (b : Int) (l : List (Int × Int)) : List (Int × Int) := (widF add b l).getD []
theorem lastP_eq {o : List (Int × Int)} {s : Int × Int} (h : o[o.length - 1]? = some s) : lastP o = s := by unfold lastP; rw [List.getD_eq_getElem?_getD, h]; rfl
theorem widStep_join {add : Int → Int → Option Int} {b v : Int} {o : List (Int × Int)} {p s : Int × Int} (hs : o[o.length - 1]? = some s) (he : s.1 = placeS p.1 b) (hv : add s.2 p.2 = some v) : widStep add b o p = some (o.set (o.length - 1) (s.1, v)) := by
  have hl := lastP_eq hs
  have ho : o ≠ [] := by rintro rfl; simp at hs
  unfold widStep
  rw [hl, if_pos ⟨ho, he⟩, hv]
theorem widStep_fail {add : Int → Int → Option Int} {b : Int} {o : List (Int × Int)} {p s : Int × Int} (hs : o[o.length - 1]? = some s) (he : s.1 = placeS p.1 b) (hv : add s.2 p.2 = none) : widStep add b o p = none := by
  have hl := lastP_eq hs
  have ho : o ≠ [] := by rintro rfl; simp at hs
  unfold widStep
  rw [hl, if_pos ⟨ho, he⟩, hv]
theorem widStep_new {add : Int → Int → Option Int} {b : Int} {o : List (Int × Int)} {p s : Int × Int} (hs : o[o.length - 1]? = some s) (he : ¬ s.1 = placeS p.1 b) : widStep add b o p = some (o ++ [(placeS p.1 b, p.2)]) := by
  unfold widStep
  rw [lastP_eq hs, if_neg (fun q => he q.2)]
theorem widStep_first {add : Int → Int → Option Int} {b : Int} {o : List (Int × Int)} {p : Int × Int} (ho : ¬ ((o.length : Nat) : Int) > 0) : widStep add b o p = some (o ++ [(placeS p.1 b, p.2)]) := by
  unfold widStep
  rw [if_neg (fun q => q.1 (List.eq_nil_of_length_eq_zero (by omega)))]
def FRow (l : List (Int × Int)) : Prop := ∀ x ∈ l, FOK x.2
def WOK (Q : Int → Prop) (l : List (Int × Int)) : Prop := ∀ x ∈ l, I64 x.1 ∧ Q x.2
theorem WOK.set {Q : Int → Prop} {l : List (Int × Int)} (h : WOK Q l) {i : Nat} {x : Int × Int} (hx : I64 x.1 ∧ Q x.2) : WOK Q (l.set i x) := fun y hy => by
  rcases List.mem_or_eq_of_mem_set hy with q | rfl
  · exact h y q
  · exact hx
theorem WOK.app {Q : Int → Prop} {l : List (Int × Int)} (h : WOK Q l) {x : Int × Int} (hx : I64 x.1 ∧ Q x.2) : WOK Q (l ++ [x]) := fun y hy => by
  rcases List.mem_append.1 hy with q | q
  · exact h y q
  · simp at q; subst q; exact hx
abbrev widI_I (l : List (Int × Int)) (b : Int) (i : Nat) (o : List (Int × Int)) (n : Nat) : AS := ⟨[(1, .int .i64 b), (2, .func (.func 134) #[] #[]), (8, .slice (some ⟨1, 0, none⟩) n (n + 1)), (15, .slice (some ⟨0, 0, none⟩) l.length (l.length + 1)), (16, .int .i64 ((l.length : Nat) : Int)), (17, .int .i64 ((i : Nat) : Int))], [(0, ⟨(l).flatMap encS, 1, [], 2⟩), (1, ⟨(o).flatMap encS, 2, [], 2⟩)], 2⟩
abbrev widI_inv (l : List (Int × Int)) (b : Int) (i : Nat) (o : List (Int × Int)) (n : Nat) : Prop := n = o.length ∧ i ≤ l.length ∧ o.length ≤ i ∧ widF addI b l = widGo addI b (l.drop i) o ∧ WOK N63 o
def widI_K (l : List (Int × Int)) (b : Int) : Exit → AS → Prop := fun e s => ((widF addI b l).isSome = true ∧ e = .exit 0 ∧ s = ⟨[(8, .slice (some ⟨1, 0, none⟩) ((widR addI b l).length) ((widR addI b l).length + 1))], [(1, ⟨(widR addI b l).flatMap encS, 2, [], 2⟩)], 2⟩) ∨ ((widF addI b l).isSome = false ∧ e = .ret ∧ s = ⟨[(6, .slice none 0 0), (7, .bool false)], [], 2⟩)
abbrev widI_Iu (l : List (Int × Int)) (b : Int) : Nat × List (Int × Int) × Nat → AS := fun x => widI_I l b x.1 x.2.1 x.2.2
abbrev widI_vu (l : List (Int × Int)) (b : Int) : Nat × List (Int × Int) × Nat → Prop := fun x => widI_inv l b x.1 x.2.1 x.2.2
abbrev widI_m (l : List (Int × Int)) (b : Int) : Nat × List (Int × Int) × Nat → Nat := fun x => (fun (i : Nat) (o : List (Int × Int)) (n : Nat) => l.length - i) x.1 x.2.1 x.2.2
theorem widI_round (l : List (Int × Int)) (b : Int) (h_l : WOK N63 l) (h_n : l.length ≤ 4294967296) (i : Nat) (o : List (Int × Int)) (n : Nat) (hinv : widI_inv l b i o n) {ds : List Deferred} : Tr Try.prog none ⟨69, ds⟩ 1 (nthLoop Try.f133 0) (widI_I l b i o n) (RK (widI_vu l b) (widI_Iu l b) (widI_m l b) (widI_K l b) (i, o, n)) := by
  obtain ⟨hnn, hi0, hol, hg, hw⟩ := hinv
  subst hnn
  by_cases h3000 : (((i : Nat) : Int) < ((l.length : Nat) : Int))
  · skip
    obtain ⟨s1, hs1⟩ : ∃ s, l[i]? = some s := ⟨_, List.getElem?_eq_getElem (by omega)⟩
    have hl1 := h_l _ (List.mem_of_getElem? hs1)
    have hq1 := hl1.2
    by_cases h7001 : (((o.length : Nat) : Int) > 0)
    · skip
      obtain ⟨s2, hs2⟩ : ∃ s, o[o.length - 1]? = some s := ⟨_, List.getElem?_eq_getElem (by omega)⟩
      have hl2 := hw _ (List.mem_of_getElem? hs2)
      have hq2 := hl2.2
      by_cases h7010 : ((s2.1 : Int) = placeS s1.1 b)
      · skip
        cases h8012 : (decide (s2.2 + s1.2 ≤ 9223372036854775807)) with
        | true =>
          have hok : s2.2 + s1.2 ≤ 9223372036854775807 := by simpa using h8012
          have hv : addI s2.2 s1.2 = some (s2.2 + s1.2) := by unfold addI; rw [if_pos hok]
          have hst := widStep_join (add := addI) (b := b) hs2 h7010 hv
          have hq3 : N63 (s2.2 + s1.2) := ⟨by have := hq2.1; have := hq1.1; omega, hok⟩
          exact Tr.again (Inv := (widI_vu l b)) (I := (widI_Iu l b)) (m := (widI_m l b)) (i + 1, o.set (o.length - 1) (s2.1, s2.2 + s1.2), o.length) (Tr.run follows_mixed (A := [(3000, aT h3000), (4000, aX i l.length 2 (by omega)), (4001, aL encS_k hs1), (5003, aC (place_ok (s1.1) (b) hl1.1)), (7001, aT h7001), (7005, aI .i64 .i64 (((o.length : Nat) : Int) - 1) (((o.length - 1 : Nat) : Int)) (wrap_i64' (by omega) (by omega) (by omega))), (7006, aX (o.length - 1) o.length 2 (by omega)), (7008, aL encS_k hs2), (7010, aT h7010), (8003, aI .i64 .i64 (((o.length : Nat) : Int) - 1) (((o.length - 1 : Nat) : Int)) (wrap_i64' (by omega) (by omega) (by omega))), (8004, aX (o.length - 1) o.length 2 (by omega)), (8006, aL encS_k hs2 1), (8009, aC (whole_ok (s2.2) (s1.2) hq2 hq1)), (8011, aI .i64 .i64 (s2.2 + s1.2) (s2.2 + s1.2) (wrap_i64 (by have := hq2.1; have := hq1.1; omega) (by simpa using h8012))), (8012, aB h8012), (11002, aI .i64 .i64 (((o.length : Nat) : Int) - 1) (((o.length - 1 : Nat) : Int)) (wrap_i64' (by omega) (by omega) (by omega))), (11004, aX (o.length - 1) o.length 2 (by omega)), (11006, aS encS_k hs2 1 (s2.1, s2.2 + s1.2)), (13000, aI .i64 .i64 (((i : Nat) : Int) + 1) (((i + 1 : Nat) : Int)) (wrap_i64' (by omega) (by omega) (by omega)))]) (rows := [0, 1]) (by kernel_rfl) (.cons (fun _ => encS_sc _) (.cons (fun _ => encS_sc _) .nil)) (le_ble rfl)) (show widI_inv l b (i + 1) (o.set (o.length - 1) (s2.1, s2.2 + s1.2)) o.length from ⟨by simp, by omega, by simp; omega, by rw [hg, drop_idx hs1, widGo, hst], hw.set ⟨hl2.1, hq3⟩⟩) (by show l.length - (i + 1) < l.length - i; omega)
        | false =>
          have hv : addI s2.2 s1.2 = none := by unfold addI; rw [if_neg (by simpa using h8012)]
          have hnone : (widF addI b l).isSome = false := by rw [hg, drop_idx hs1, widGo, widStep_fail hs2 h7010 hv]; rfl
          exact Tr.out (I := (widI_Iu l b)) (m := (widI_m l b)) (Tr.run follows_mixed (A := [(3000, aT h3000), (4000, aX i l.length 2 (by omega)), (4001, aL encS_k hs1), (5003, aC (place_ok (s1.1) (b) hl1.1)), (7001, aT h7001), (7005, aI .i64 .i64 (((o.length : Nat) : Int) - 1) (((o.length - 1 : Nat) : Int)) (wrap_i64' (by omega) (by omega) (by omega))), (7006, aX (o.length - 1) o.length 2 (by omega)), (7008, aL encS_k hs2), (7010, aT h7010), (8003, aI .i64 .i64 (((o.length : Nat) : Int) - 1) (((o.length - 1 : Nat) : Int)) (wrap_i64' (by omega) (by omega) (by omega))), (8004, aX (o.length - 1) o.length 2 (by omega)), (8006, aL encS_k hs2 1), (8009, aC (whole_ok (s2.2) (s1.2) hq2 hq1)), (8012, aB h8012)]) (rows := []) (by kernel_rfl) .nil (le_ble rfl)) (.inr ⟨hnone, rfl, rfl⟩) (by simp)
      · skip
        have hst := widStep_new (add := addI) (b := b) (p := s1) hs2 h7010
        exact Tr.again (Inv := (widI_vu l b)) (I := (widI_Iu l b)) (m := (widI_m l b)) (i + 1, o ++ [(placeS s1.1 b, s1.2)], (o ++ [(placeS s1.1 b, s1.2)]).length) (Tr.run follows_mixed (A := [(3000, aT h3000), (4000, aX i l.length 2 (by omega)), (4001, aL encS_k hs1), (5003, aC (place_ok (s1.1) (b) hl1.1)), (7001, aT h7001), (7005, aI .i64 .i64 (((o.length : Nat) : Int) - 1) (((o.length - 1 : Nat) : Int)) (wrap_i64' (by omega) (by omega) (by omega))), (7006, aX (o.length - 1) o.length 2 (by omega)), (7008, aL encS_k hs2), (7010, aF h7010), (12006, aA encS_k o [(placeS s1.1 b, s1.2)] (by simp; omega)), (13000, aI .i64 .i64 (((i : Nat) : Int) + 1) (((i + 1 : Nat) : Int)) (wrap_i64' (by omega) (by omega) (by omega)))]) (rows := [0, 1]) (by kernel_rfl) (.cons (fun _ => encS_sc _) (.cons (fun _ => encS_sc _) .nil)) (le_ble rfl)) (show widI_inv l b (i + 1) (o ++ [(placeS s1.1 b, s1.2)]) ((o ++ [(placeS s1.1 b, s1.2)]).length) from ⟨by simp, by omega, by simp; omega, by rw [hg, drop_idx hs1, widGo, hst], hw.app ⟨placeS_in hl1.1, hq1⟩⟩) (by show l.length - (i + 1) < l.length - i; omega)
    · skip
      have hst := widStep_first (add := addI) (b := b) (p := s1) h7001
      exact Tr.again (Inv := (widI_vu l b)) (I := (widI_Iu l b)) (m := (widI_m l b)) (i + 1, o ++ [(placeS s1.1 b, s1.2)], (o ++ [(placeS s1.1 b, s1.2)]).length) (Tr.run follows_mixed (A := [(3000, aT h3000), (4000, aX i l.length 2 (by omega)), (4001, aL encS_k hs1), (5003, aC (place_ok (s1.1) (b) hl1.1)), (7001, aF h7001), (12006, aA encS_k o [(placeS s1.1 b, s1.2)] (by simp; omega)), (13000, aI .i64 .i64 (((i : Nat) : Int) + 1) (((i + 1 : Nat) : Int)) (wrap_i64' (by omega) (by omega) (by omega)))]) (rows := [0, 1]) (by kernel_rfl) (.cons (fun _ => encS_sc _) (.cons (fun _ => encS_sc _) .nil)) (le_ble rfl)) (show widI_inv l b (i + 1) (o ++ [(placeS s1.1 b, s1.2)]) ((o ++ [(placeS s1.1 b, s1.2)]).length) from ⟨by simp, by omega, by simp; omega, by rw [hg, drop_idx hs1, widGo, hst], hw.app ⟨placeS_in hl1.1, hq1⟩⟩) (by show l.length - (i + 1) < l.length - i; omega)
  · skip
    rw [drop_none (by omega), widGo] at hg
    have ho : o = widR addI b l := by unfold widR; rw [hg]; rfl
    have hsome : (widF addI b l).isSome = true := by rw [hg]; rfl
    subst ho
    exact Tr.out (I := (widI_Iu l b)) (m := (widI_m l b)) (Tr.run follows_mixed (A := [(3000, aF h3000)]) (rows := [1]) (by kernel_rfl) (.cons (fun _ => encS_sc _) .nil) (le_ble rfl)) (.inl ⟨hsome, rfl, rfl⟩) (by simp)

theorem widI_loop (l : List (Int × Int)) (b : Int) (h_l : WOK N63 l) (h_n : l.length ≤ 4294967296) (i : Nat) (o : List (Int × Int)) (n : Nat) (hinv : widI_inv l b i o n) {ds : List Deferred} : Tr Try.prog none ⟨69, ds⟩ 1 (.loop (nthLoop Try.f133 0)) (widI_I l b i o n) (widI_K l b) :=
  Tr.rounds (Inv := (widI_vu l b)) (I := (widI_Iu l b)) (m := (widI_m l b)) (fun x h => widI_round l b h_l h_n x.1 x.2.1 x.2.2 h) (i, o, n) hinv
theorem widenI_ok (l : List (Int × Int)) (b : Int) (h_l : WOK N63 l) (h_n : l.length ≤ 4294967296) : FnC Try.prog 133 [.slice (some ⟨0, 0, none⟩) l.length (l.length + 1), .int .i64 b, .func (.func 134) #[] #[]] [(0, ⟨(l).flatMap encS, 1, [], 2⟩)] 1 (.tuple #[.slice (some ⟨1, 0, none⟩) ((widR addI b l).length) ((widR addI b l).length + 1), .bool ((widF addI b l).isSome)]) 1 [(1, ⟨(widR addI b l).flatMap encS, 2, [], 2⟩)] := by
  rcases Bool.eq_false_or_eq_true ((widF addI b l).isSome) with hz | hz
  · skip
    rw [hz]
    exact FnC.run (m := false) follows_mixed has133 [(900000, .stmt (.loop (nthLoop Try.f133 0)) [0, 1] (widI_I l b 0 [] 0) (.exit 0) ⟨[(8, .slice (some ⟨1, 0, none⟩) ((widR addI b l).length) ((widR addI b l).length + 1))], [(1, ⟨(widR addI b l).flatMap encS, 2, [], 2⟩)], 2⟩ (.cons (fun _ => encS_sc _) (.cons (fun _ => encS_sc _) .nil)) (fun ds => (widI_loop l b h_l h_n 0 [] 0 ⟨rfl, by omega, by simp, rfl, fun x hx => by simp at hx⟩).pick (fun e s h => by rcases h with ⟨_, h⟩ | ⟨h0, _⟩; exact h; rw [hz] at h0; cases h0)) (le_ble rfl))] (by kernel_rfl) (by kernel_rfl) (.cons (encS_sc _) .nil) (.cons (encS_sc _) .nil)
  · skip
    have hr : widR addI b l = [] := by unfold widR; cases h : widF addI b l; rfl; rw [h] at hz; cases hz
    rw [hr, hz]
    exact FnC.run (m := false) follows_mixed has133 [(900000, .stmt (.loop (nthLoop Try.f133 0)) [0, 1] (widI_I l b 0 [] 0) (.ret) ⟨[(6, .slice none 0 0), (7, .bool false)], [], 2⟩ (.cons (fun _ => encS_sc _) (.cons (fun _ => encS_sc _) .nil)) (fun ds => (widI_loop l b h_l h_n 0 [] 0 ⟨rfl, by omega, by simp, rfl, fun x hx => by simp at hx⟩).pick (fun e s h => by rcases h with ⟨h0, _⟩ | ⟨_, h⟩; rw [hz] at h0; cases h0; exact h)) (le_ble rfl))] (by kernel_rfl) (by kernel_rfl) (.cons (encS_sc _) .nil) (.cons (encS_sc _) .nil)
abbrev widU_I (l : List (Int × Int)) (b : Int) (i : Nat) (o : List (Int × Int)) (n : Nat) : AS := ⟨[(1, .int .i64 b), (2, .func (.func 144) #[] #[]), (8, .slice (some ⟨1, 0, none⟩) n (n + 1)), (15, .slice (some ⟨0, 0, none⟩) l.length (l.length + 1)), (16, .int .i64 ((l.length : Nat) : Int)), (17, .int .i64 ((i : Nat) : Int))], [(0, ⟨(l).flatMap encU, 1, [], 2⟩), (1, ⟨(o).flatMap encU, 2, [], 2⟩)], 2⟩
abbrev widU_inv (l : List (Int × Int)) (b : Int) (i : Nat) (o : List (Int × Int)) (n : Nat) : Prop := n = o.length ∧ i ≤ l.length ∧ o.length ≤ i ∧ widF addF b l = widGo addF b (l.drop i) o ∧ WOK FOK o
def widU_K (l : List (Int × Int)) (b : Int) : Exit → AS → Prop := fun e s => ((widF addF b l).isSome = true ∧ e = .exit 0 ∧ s = ⟨[(8, .slice (some ⟨1, 0, none⟩) ((widR addF b l).length) ((widR addF b l).length + 1))], [(1, ⟨(widR addF b l).flatMap encU, 2, [], 2⟩)], 2⟩) ∨ ((widF addF b l).isSome = false ∧ e = .ret ∧ s = ⟨[(6, .slice none 0 0), (7, .bool false)], [], 2⟩)
abbrev widU_Iu (l : List (Int × Int)) (b : Int) : Nat × List (Int × Int) × Nat → AS := fun x => widU_I l b x.1 x.2.1 x.2.2
abbrev widU_vu (l : List (Int × Int)) (b : Int) : Nat × List (Int × Int) × Nat → Prop := fun x => widU_inv l b x.1 x.2.1 x.2.2
abbrev widU_m (l : List (Int × Int)) (b : Int) : Nat × List (Int × Int) × Nat → Nat := fun x => (fun (i : Nat) (o : List (Int × Int)) (n : Nat) => l.length - i) x.1 x.2.1 x.2.2
theorem widU_round (l : List (Int × Int)) (b : Int) (h_l : WOK FOK l) (h_n : l.length ≤ 4294967296) (i : Nat) (o : List (Int × Int)) (n : Nat) (hinv : widU_inv l b i o n) {ds : List Deferred} : Tr Try.prog none ⟨69, ds⟩ 1 (nthLoop Try.f143 0) (widU_I l b i o n) (RK (widU_vu l b) (widU_Iu l b) (widU_m l b) (widU_K l b) (i, o, n)) := by
  obtain ⟨hnn, hi0, hol, hg, hw⟩ := hinv
  subst hnn
  by_cases h3000 : (((i : Nat) : Int) < ((l.length : Nat) : Int))
  · skip
    obtain ⟨s1, hs1⟩ : ∃ s, l[i]? = some s := ⟨_, List.getElem?_eq_getElem (by omega)⟩
    have hl1 := h_l _ (List.mem_of_getElem? hs1)
    have hq1 := hl1.2
    by_cases h7001 : (((o.length : Nat) : Int) > 0)
    · skip
      obtain ⟨s2, hs2⟩ : ∃ s, o[o.length - 1]? = some s := ⟨_, List.getElem?_eq_getElem (by omega)⟩
      have hl2 := hw _ (List.mem_of_getElem? hs2)
      have hq2 := hl2.2
      by_cases h7010 : ((s2.1 : Int) = placeS s1.1 b)
      · skip
        cases h8012 : (thrS (fadd s2.2 s1.2)) with
        | true =>
          have hok : thrS (fadd s2.2 s1.2) = true := h8012
          have hv : addF s2.2 s1.2 = some (fadd s2.2 s1.2) := by unfold addF; rw [if_pos hok]
          have hst := widStep_join (add := addF) (b := b) hs2 h7010 hv
          have hq3 : FOK (fadd s2.2 s1.2) := ⟨(fadd_facts hq2 hq1).2.1, by simpa [thrS] using hok⟩
          exact Tr.again (Inv := (widU_vu l b)) (I := (widU_Iu l b)) (m := (widU_m l b)) (i + 1, o.set (o.length - 1) (s2.1, fadd s2.2 s1.2), o.length) (Tr.run follows_mixed (A := [(3000, aT h3000), (4000, aX i l.length 2 (by omega)), (4001, aL encU_k hs1), (5003, aC (place_ok (s1.1) (b) hl1.1)), (7001, aT h7001), (7005, aI .i64 .i64 (((o.length : Nat) : Int) - 1) (((o.length - 1 : Nat) : Int)) (wrap_i64' (by omega) (by omega) (by omega))), (7006, aX (o.length - 1) o.length 2 (by omega)), (7008, aL encU_k hs2), (7010, aT h7010), (8003, aI .i64 .i64 (((o.length : Nat) : Int) - 1) (((o.length - 1 : Nat) : Int)) (wrap_i64' (by omega) (by omega) (by omega))), (8004, aX (o.length - 1) o.length 2 (by omega)), (8006, aL encU_k hs2 1), (8009, aC (ffloat_ok (s2.2) (s1.2) hq2 hq1)), (8012, aB h8012), (11002, aI .i64 .i64 (((o.length : Nat) : Int) - 1) (((o.length - 1 : Nat) : Int)) (wrap_i64' (by omega) (by omega) (by omega))), (11004, aX (o.length - 1) o.length 2 (by omega)), (11006, aS encU_k hs2 1 (s2.1, fadd s2.2 s1.2)), (13000, aI .i64 .i64 (((i : Nat) : Int) + 1) (((i + 1 : Nat) : Int)) (wrap_i64' (by omega) (by omega) (by omega)))]) (rows := [0, 1]) (by kernel_rfl) (.cons (fun _ => encU_sc _) (.cons (fun _ => encU_sc _) .nil)) (le_ble rfl)) (show widU_inv l b (i + 1) (o.set (o.length - 1) (s2.1, fadd s2.2 s1.2)) o.length from ⟨by simp, by omega, by simp; omega, by rw [hg, drop_idx hs1, widGo, hst], hw.set ⟨hl2.1, hq3⟩⟩) (by show l.length - (i + 1) < l.length - i; omega)
        | false =>
          have hv : addF s2.2 s1.2 = none := by unfold addF; rw [if_neg (by simpa using h8012)]
          have hnone : (widF addF b l).isSome = false := by rw [hg, drop_idx hs1, widGo, widStep_fail hs2 h7010 hv]; rfl
          exact Tr.out (I := (widU_Iu l b)) (m := (widU_m l b)) (Tr.run follows_mixed (A := [(3000, aT h3000), (4000, aX i l.length 2 (by omega)), (4001, aL encU_k hs1), (5003, aC (place_ok (s1.1) (b) hl1.1)), (7001, aT h7001), (7005, aI .i64 .i64 (((o.length : Nat) : Int) - 1) (((o.length - 1 : Nat) : Int)) (wrap_i64' (by omega) (by omega) (by omega))), (7006, aX (o.length - 1) o.length 2 (by omega)), (7008, aL encU_k hs2), (7010, aT h7010), (8003, aI .i64 .i64 (((o.length : Nat) : Int) - 1) (((o.length - 1 : Nat) : Int)) (wrap_i64' (by omega) (by omega) (by omega))), (8004, aX (o.length - 1) o.length 2 (by omega)), (8006, aL encU_k hs2 1), (8009, aC (ffloat_ok (s2.2) (s1.2) hq2 hq1)), (8012, aB h8012)]) (rows := []) (by kernel_rfl) .nil (le_ble rfl)) (.inr ⟨hnone, rfl, rfl⟩) (by simp)
      · skip
        have hst := widStep_new (add := addF) (b := b) (p := s1) hs2 h7010
        exact Tr.again (Inv := (widU_vu l b)) (I := (widU_Iu l b)) (m := (widU_m l b)) (i + 1, o ++ [(placeS s1.1 b, s1.2)], (o ++ [(placeS s1.1 b, s1.2)]).length) (Tr.run follows_mixed (A := [(3000, aT h3000), (4000, aX i l.length 2 (by omega)), (4001, aL encU_k hs1), (5003, aC (place_ok (s1.1) (b) hl1.1)), (7001, aT h7001), (7005, aI .i64 .i64 (((o.length : Nat) : Int) - 1) (((o.length - 1 : Nat) : Int)) (wrap_i64' (by omega) (by omega) (by omega))), (7006, aX (o.length - 1) o.length 2 (by omega)), (7008, aL encU_k hs2), (7010, aF h7010), (12006, aA encU_k o [(placeS s1.1 b, s1.2)] (by simp; omega)), (13000, aI .i64 .i64 (((i : Nat) : Int) + 1) (((i + 1 : Nat) : Int)) (wrap_i64' (by omega) (by omega) (by omega)))]) (rows := [0, 1]) (by kernel_rfl) (.cons (fun _ => encU_sc _) (.cons (fun _ => encU_sc _) .nil)) (le_ble rfl)) (show widU_inv l b (i + 1) (o ++ [(placeS s1.1 b, s1.2)]) ((o ++ [(placeS s1.1 b, s1.2)]).length) from ⟨by simp, by omega, by simp; omega, by rw [hg, drop_idx hs1, widGo, hst], hw.app ⟨placeS_in hl1.1, hq1⟩⟩) (by show l.length - (i + 1) < l.length - i; omega)
    · skip
      have hst := widStep_first (add := addF) (b := b) (p := s1) h7001
      exact Tr.again (Inv := (widU_vu l b)) (I := (widU_Iu l b)) (m := (widU_m l b)) (i + 1, o ++ [(placeS s1.1 b, s1.2)], (o ++ [(placeS s1.1 b, s1.2)]).length) (Tr.run follows_mixed (A := [(3000, aT h3000), (4000, aX i l.length 2 (by omega)), (4001, aL encU_k hs1), (5003, aC (place_ok (s1.1) (b) hl1.1)), (7001, aF h7001), (12006, aA encU_k o [(placeS s1.1 b, s1.2)] (by simp; omega)), (13000, aI .i64 .i64 (((i : Nat) : Int) + 1) (((i + 1 : Nat) : Int)) (wrap_i64' (by omega) (by omega) (by omega)))]) (rows := [0, 1]) (by kernel_rfl) (.cons (fun _ => encU_sc _) (.cons (fun _ => encU_sc _) .nil)) (le_ble rfl)) (show widU_inv l b (i + 1) (o ++ [(placeS s1.1 b, s1.2)]) ((o ++ [(placeS s1.1 b, s1.2)]).length) from ⟨by simp, by omega, by simp; omega, by rw [hg, drop_idx hs1, widGo, hst], hw.app ⟨placeS_in hl1.1, hq1⟩⟩) (by show l.length - (i + 1) < l.length - i; omega)
  · skip
    rw [drop_none (by omega), widGo] at hg
    have ho : o = widR addF b l := by unfold widR; rw [hg]; rfl
    have hsome : (widF addF b l).isSome = true := by rw [hg]; rfl
    subst ho
    exact Tr.out (I := (widU_Iu l b)) (m := (widU_m l b)) (Tr.run follows_mixed (A := [(3000, aF h3000)]) (rows := [1]) (by kernel_rfl) (.cons (fun _ => encU_sc _) .nil) (le_ble rfl)) (.inl ⟨hsome, rfl, rfl⟩) (by simp)

theorem widU_loop (l : List (Int × Int)) (b : Int) (h_l : WOK FOK l) (h_n : l.length ≤ 4294967296) (i : Nat) (o : List (Int × Int)) (n : Nat) (hinv : widU_inv l b i o n) {ds : List Deferred} : Tr Try.prog none ⟨69, ds⟩ 1 (.loop (nthLoop Try.f143 0)) (widU_I l b i o n) (widU_K l b) :=
  Tr.rounds (Inv := (widU_vu l b)) (I := (widU_Iu l b)) (m := (widU_m l b)) (fun x h => widU_round l b h_l h_n x.1 x.2.1 x.2.2 h) (i, o, n) hinv
theorem widenU_ok (l : List (Int × Int)) (b : Int) (h_l : WOK FOK l) (h_n : l.length ≤ 4294967296) : FnC Try.prog 143 [.slice (some ⟨0, 0, none⟩) l.length (l.length + 1), .int .i64 b, .func (.func 144) #[] #[]] [(0, ⟨(l).flatMap encU, 1, [], 2⟩)] 1 (.tuple #[.slice (some ⟨1, 0, none⟩) ((widR addF b l).length) ((widR addF b l).length + 1), .bool ((widF addF b l).isSome)]) 1 [(1, ⟨(widR addF b l).flatMap encU, 2, [], 2⟩)] := by
  rcases Bool.eq_false_or_eq_true ((widF addF b l).isSome) with hz | hz
  · skip
    rw [hz]
    exact FnC.run (m := false) follows_mixed has143 [(900000, .stmt (.loop (nthLoop Try.f143 0)) [0, 1] (widU_I l b 0 [] 0) (.exit 0) ⟨[(8, .slice (some ⟨1, 0, none⟩) ((widR addF b l).length) ((widR addF b l).length + 1))], [(1, ⟨(widR addF b l).flatMap encU, 2, [], 2⟩)], 2⟩ (.cons (fun _ => encU_sc _) (.cons (fun _ => encU_sc _) .nil)) (fun ds => (widU_loop l b h_l h_n 0 [] 0 ⟨rfl, by omega, by simp, rfl, fun x hx => by simp at hx⟩).pick (fun e s h => by rcases h with ⟨_, h⟩ | ⟨h0, _⟩; exact h; rw [hz] at h0; cases h0)) (le_ble rfl))] (by kernel_rfl) (by kernel_rfl) (.cons (encU_sc _) .nil) (.cons (encU_sc _) .nil)
  · skip
    have hr : widR addF b l = [] := by unfold widR; cases h : widF addF b l; rfl; rw [h] at hz; cases hz
    rw [hr, hz]
    exact FnC.run (m := false) follows_mixed has143 [(900000, .stmt (.loop (nthLoop Try.f143 0)) [0, 1] (widU_I l b 0 [] 0) (.ret) ⟨[(6, .slice none 0 0), (7, .bool false)], [], 2⟩ (.cons (fun _ => encU_sc _) (.cons (fun _ => encU_sc _) .nil)) (fun ds => (widU_loop l b h_l h_n 0 [] 0 ⟨rfl, by omega, by simp, rfl, fun x hx => by simp at hx⟩).pick (fun e s h => by rcases h with ⟨h0, _⟩ | ⟨_, h⟩; rw [hz] at h0; cases h0; exact h)) (le_ble rfl))] (by kernel_rfl) (by kernel_rfl) (.cons (encU_sc _) .nil) (.cons (encU_sc _) .nil)
end Go.Am
