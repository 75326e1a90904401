/-
An abstract machine over the kit's wp calculus, part Y: ranges over functions.
-/
import Derived.Test.YtbihgmehjhlojaaAmF
set_option linter.unusedVariables false
set_option linter.unusedSimpArgs false
namespace Go.Am
open Go Go.RowKit

structure WRel (B : Nat) (w0 : World) (μ : Nat → Option Loc) (nx : Nat) (hp : Heap) (w : World) : Prop where
  h : HRel B μ hp w
  below : Kept B w0 w
  size : B ≤ w.heap.size
  free : ∀ i, nx ≤ i → μ i = none
  st : ∀ i b, get hp i = some b → b.st ≤ 2
  dom : ∀ i b, nx ≤ i → get hp i = some b → b.st = 0
theorem Rel.toW {B : Nat} {w0 : World} {μ : Nat → Option Loc} {nt : NT} {σ : AS} {a : Act} {w : World} (h : RelS B w0 μ nt σ a w) : WRel B w0 μ σ.nx σ.hp w := ⟨h.h, h.below, h.size, h.free, h.st, h.dom⟩
theorem WRel.rel {B : Nat} {w0 : World} {μ : Nat → Option Loc} {nt : NT} {nx : Nat} {hp : Heap} {ts : List (Nat × Value)} {a : Act} {w : World} (h : WRel B w0 μ nx hp w) (ht : TRel μ ts nt a) : RelS B w0 μ nt ⟨ts, hp, nx⟩ a w := ⟨ht, h.h, h.below, h.size, h.free, h.st, h.dom⟩
theorem others_grown {W W' : World} {row : Option Nat} (hg : W.grownBy W' row) (hr : ∀ r, row = some r → ∃ o : Obj, W.heap[r]? = some o ∧ o.isCells = false) : ∀ (k : Nat) (o : Obj), W.heap[k]? = some o → o.isCells = true → W'.heap[k]? = some o := fun k o hk ho => by
  refine (hg.block k (Array.getElem?_eq_some_iff.1 hk).1 ?_).trans hk
  intro e
  obtain ⟨o', ho', hw'⟩ := hr k e.symm
  rw [hk] at ho'; injection ho' with ho'; subst ho'; rw [ho] at hw'; cases hw'
theorem WRel.grown {B : Nat} {w0 : World} {μ : Nat → Option Loc} {nx : Nat} {hp : Heap} {W W' : World} {row : Option Nat} (h : WRel B w0 μ nx hp W) (hg : W.grownBy W' row) {lo : Nat} (hB : B ≤ lo) (hw0 : w0.heap.size ≤ lo) (hr : ∀ r, row = some r → lo ≤ r ∧ ∃ o : Obj, W.heap[r]? = some o ∧ o.isCells = false) : WRel B w0 μ nx hp W' := by
  refine ⟨h.h.others (others_grown hg fun r e => (hr r e).2), ⟨h.below.b.trans ((Below.refl B W).grown hg h.size fun k e => Nat.le_trans hB (hr k e).1), ⟨Nat.le_trans h.below.o.size hg.size, fun k x hk hx => ?_⟩⟩, Nat.le_trans h.size hg.size, h.free, h.st, h.dom⟩
  have hlt := (Array.getElem?_eq_some_iff.1 hk).1
  have h2 := h.below.o.same k x hk hx
  refine (hg.block k (Array.getElem?_eq_some_iff.1 h2).1 ?_).trans h2
  intro e
  have := (hr k e.symm).1
  omega
theorem keepsOthers_grown {w W W' : World} {row : Option Nat} (h : KeepsOthers w W) (hg : W.grownBy W' row) (hr : ∀ r, row = some r → w.heap.size ≤ r) : KeepsOthers w W' := by
  refine ⟨Nat.le_trans h.size hg.size, fun k x hk hx => ?_⟩
  have hlt := (Array.getElem?_eq_some_iff.1 hk).1
  have h2 := h.same k x hk hx
  refine (hg.block k (Array.getElem?_eq_some_iff.1 h2).1 ?_).trans h2
  intro e
  have := hr k e.symm
  omega
/-- a heap that is read alone, in other numbers -/
theorem HRel.ro {B : Nat} {μ : Nat → Option Loc} {hp H0 : Heap} {w : World} (h : HRel B μ hp w) {pr : Prs} {n0 : Nat} (hid : ∀ i b, get H0 i = some b → b.st ≤ 1 ∧ i < n0) (hB : ∀ p ∈ H0, BOK pr n0 1 hp p.1 p.2) : HRel 0 (mu0 (nlOf pr) (rhoOf pr) n0 μ) H0 w := by
  have hm' : ∀ i L, mu0 (nlOf pr) (rhoOf pr) n0 μ i = some L → nlOf pr i = false ∧ μ (rhoOf pr i) = some L := fun i L hL => by
    unfold mu0 at hL
    split at hL
    · rename_i hi; exact ⟨hi.2, hL⟩
    · cases hL
  refine ⟨fun i b hi h1 j v hj => ?_, fun i b L hi h1 hL => ?_, fun i b hi h2 => ?_, fun i b j b' L L' hi hj h2 => ?_⟩
  · rcases hB _ (get_mem hi) with ⟨g1, g2⟩ | ⟨g1, b2, g2, g3, g4, g5, g6, g7⟩
    · simp only at g2; rw [g2] at hj; simp at hj
    · obtain ⟨q1, u, q2, q3⟩ := g7 j v hj
      obtain ⟨L, v', r1, r2, r3, r4⟩ := h.read _ b2 g2 g3 j u q2
      exact ⟨L, v', by unfold mu0; rw [if_pos ⟨(hid i b hi).2, g1⟩]; exact r1, r2, q3 μ v' r3, q1⟩
  · obtain ⟨n1, n2⟩ := hm' i L hL
    rcases hB _ (get_mem hi) with ⟨g1, g2⟩ | ⟨g1, b2, g2, g3, g4, g5, g6, g7⟩
    · rw [n1] at g1; cases g1
    · simp only at g5; rw [← g5]; exact h.esz _ b2 L g2 g3 n2
  · have := (hid i b hi).1; omega
  · have := (hid i b hi).1; omega

/-- A FUNCTION THAT IS RANGED OVER: what it yields, one behind the other; xs is all that comes -/
structure SeqC {α : Type} (P : Program) (gf : FuncId) (caps0 : List Value) (H0 : Heap) (n0 : Nat) (rows : List Nat) (enc : α → List Value) (xs : List α) : Prop where
  has : ∃ fn c, Has P gf fn c
  sc : SCR rows H0
  ro : roOK n0 H0 = true
  seq : ∀ (μ0 : Nat → Option Loc) (w0 : World) (ccaps : List Value) (n : Nat), VRels μ0 caps0 ccaps → HRel 0 μ0 H0 w0 → (∀ i, n0 ≤ i → μ0 i = none) →
    SeqStopsK (fen none) n P gf ccaps.toArray (fun x => (enc x).toArray) (fun A B => HRel 0 μ0 H0 A → HRel 0 μ0 H0 B) (fun ys => ys = xs) (fun ys => ys <+: xs) xs.length w0

theorem TRel.low {μ μ' : Nat → Option Loc} {nI : Nat} {ts : List (Nat × Value)} {nt : NT} {a : Act} (h : TRel μ ts nt a) (hx : ExtI nI μ μ') (hs : ∀ t v, get ts t = some v → shp nI v = true) : TRel μ' ts nt a :=
  ⟨h.defers, h.size, fun t v hv => by
    obtain ⟨v', q1, q2⟩ := h.val t v hv
    refine ⟨v', q1, ren_of (ρ := id) (fun i hi L hL => by rw [hx i hi]; exact hL) (hs t v hv) (by rw [ren_id (ρ := id) fun i => rfl]; exact q2)⟩⟩
def exitCode : Exit → Code
  | .ret => .ret
  | .exit id => .exit id
  | _ => .skip
theorem TrM.range {P : Program} {α ι : Type} {gf : FuncId} {caps0 : List Value} {H0 : Heap} {n0 : Nat} {rows : List Nat} {enc : α → List Value} {xs : List α} (hseq : SeqC P gf caps0 H0 n0 rows enc xs) {N nI : Nat} (nI' : Nat) {g : Operand} {ps : Array Tmp} {assign body : Code} {σ : AS} {caps : List Value}
    (hg : ev σ.ts g = some (.func (.func gf) #[] ⟨caps⟩)) {p : Prs} {cc : Cls} (hL : mL mV3 caps caps0 = some (p, cc)) (hcc : CIn cc) {pr : Prs} {c2 : Cls} (hok : prsOK 0 n0 pr = true) (hlow : (List.range n0).all (fun i => nlOf pr i || decide (rhoOf pr i < nI')) = true)
    (I : ι → Heap × Nat) (hH : ∀ s, mH rows 1 (I s).1 H0 p = some (pr, c2)) (hc2 : CIn c2) (step : ι → α → ι) (Inv : Nat → ι → Prop) (s0 : ι) (h0 : I s0 = (σ.hp, σ.nx)) (hi0 : Inv 0 s0) (hps : ∀ x, (enc x).length = ps.size)
    (ts1 : α → List (Nat × Value)) (a₁ : Act → α → Act)
    (hassign : ∀ l m a x W (K : Act → World → Prop), K (a₁ a x) W → assign.wpIn (fen (some l)) m P (Exit.then K (fun _ _ _ => False)) { tmps := (ps.zip (enc x).toArray).foldl (fun t (p, v) => t.setIfInBounds p v) a.tmps, defers := [] } W)
    (hts1 : ∀ μ ds a x, TRel μ σ.ts ⟨N, ds⟩ a → TRel μ (ts1 x) ⟨N, []⟩ (a₁ a x)) (X : Nat → ι → α → Exit → AS → Prop)
    (hbody : ∀ l k s x, Inv k s → k < xs.length → Tr P (some l) ⟨N, []⟩ nI' body ⟨ts1 x, (I s).1, (I s).2⟩ fun ex s' => (ex = .normal ∧ I (step s x) = (s'.hp, s'.nx) ∧ Inv (k + 1) (step s x)) ∨ ((ex = .ret ∨ ∃ id, ex = .exit id) ∧ X k s x ex s'))
    (hnI : nI ≤ nI') (hshp : ∀ t v, get σ.ts t = some v → shp nI' v = true) {K : Exit → AS → Prop} (hdone : Inv xs.length (xs.foldl step s0) → K .normal ⟨σ.ts, (I (xs.foldl step s0)).1, (I (xs.foldl step s0)).2⟩)
    (hstop : ∀ pre x ex s', (pre ++ [x]) <+: xs → X pre.length (pre.foldl step s0) x ex s' → K ex ⟨σ.ts, s'.hp, s'.nx⟩) : TrM P N nI (.rangeFunc g ps assign body) σ K := by
  intro ds n B w0 μ a w Q h1 hr hq
  obtain ⟨caps', ef, _, hcaps⟩ := (ev_ok hr.t hg).funcOf
  obtain ⟨fn, c0, hhas⟩ := hseq.has
  have hro := roOK_ok hseq.ro
  obtain ⟨hP, _⟩ := prsOK_ok hok
  obtain ⟨q, hq0⟩ := mH_mono (hH s0)
  have hPp : PIn pr n0 p := fun x hx => hP x (by rw [hq0]; simp [hx])
  have hargs := mL_ok mV3_ok hL hPp hcc μ caps'.toList hcaps
  have hBB : ∀ s, ∀ p ∈ H0, BOK pr n0 1 (I s).1 p.1 p.2 := fun s => mH_ok (hH s) hP hc2 hseq.sc
  have hmu : ∀ μ', ExtI nI' μ μ' → mu0 (nlOf pr) (rhoOf pr) n0 μ' = mu0 (nlOf pr) (rhoOf pr) n0 μ := fun μ' hx => by
    funext i
    unfold mu0
    split
    · rename_i hi
      have := List.all_eq_true.1 hlow i (List.mem_range.2 hi.1)
      simp only [hi.2, Bool.false_or, decide_eq_true_eq] at this
      exact hx _ this
    · rfl
  have hrd : ∀ s μ' W, ExtI nI' μ μ' → HRel B μ' (I s).1 W → HRel 0 (mu0 (nlOf pr) (rhoOf pr) n0 μ) H0 W := fun s μ' W hx h => by
    rw [← hmu μ' hx]; exact h.ro hro (hBB s)
  have hw0 : WRel B w0 μ (I s0).2 (I s0).1 w := by rw [h0]; exact hr.toW
  let IW : List α → World → Prop := fun pre W => Inv pre.length (pre.foldl step s0) ∧ KeepsOthers w W ∧ ∃ μ', ExtI nI' μ μ' ∧ WRel B w0 μ' (I (pre.foldl step s0)).2 (I (pre.foldl step s0)).1 W
  let IX : Code → List α → World → Prop := fun c ys W => ∃ pre x ex s', ys = pre ++ [x] ∧ (ex = .ret ∨ ∃ id, ex = .exit id) ∧ c = exitCode ex ∧ X pre.length (pre.foldl step s0) x ex s' ∧ KeepsOthers w W ∧ ∃ μ', ExtI nI' μ μ' ∧ WRel B w0 μ' s'.nx s'.hp W
  have hBw : B ≤ w.heap.size := hr.size
  have hw0w : w0.heap.size ≤ w.heap.size := hr.below.o.size
  refine wpIn_rangeFunc_ownF (w0 := w) (Kp := fun A B => HRel 0 (mu0 (nlOf pr) (rhoOf pr) n0 μ) H0 A → HRel 0 (mu0 (nlOf pr) (rhoOf pr) n0 μ) H0 B) rfl h1 ef trivial (fun args w => run_callFunc hhas args w) (by
      have := hseq.seq (mu0 (nlOf pr) (rhoOf pr) n0 μ) w caps'.toList (n - 1) hargs (hrd s0 μ w (ExtI.refl _ _) hw0.h) (fun i hi => by unfold mu0; rw [if_neg (by rintro ⟨q, _⟩; omega)])
      simpa using this) (fun h k x => k (h x)) (fun W l o o' hl ho hc _ h => h.others (putObj_cells ho hc)) (Below.refl _ _) (fun x => by simpa using hps x) IW IX
      (fun s W W' row hs hg hr2 => ⟨hs.1, keepsOthers_grown hs.2.1 hg fun r e => (hr2 r e).1, by
        obtain ⟨μ', g1, g2⟩ := hs.2.2
        exact ⟨μ', g1, g2.grown hg hBw hw0w hr2⟩⟩)
      (fun c s W W' row hs hg hr2 => by
        obtain ⟨pre, x, ex, s', e1, e2, e3, e4, e5, μ', g1, g2⟩ := hs
        exact ⟨pre, x, ex, s', e1, e2, e3, e4, keepsOthers_grown e5 hg fun r e => (hr2 r e).1, μ', g1, g2.grown hg hBw hw0w hr2⟩)
      ⟨hi0, KeepsOthers.refl _, μ, ExtI.refl _ _, hw0⟩ (fun x => a₁ a x) (fun l x W K hK => hassign l _ a x W K hK) ?_ ?_ ?_
  · -- a round
    intro l pre x W hIW hlen
    obtain ⟨g1, g2, μ', g3, g4⟩ := hIW
    have ht : TRel μ' (ts1 x) ⟨N, []⟩ (a₁ a x) := hts1 μ' ds a x (hr.t.low g3 hshp)
    have hrel : RelS B W μ' ⟨N, []⟩ ⟨ts1 x, (I (pre.foldl step s0)).1, (I (pre.foldl step s0)).2⟩ (a₁ a x) W := (g4.rel ht).self
    refine hbody l pre.length _ x g1 hlen (n - 1 - 1) B W μ' (a₁ a x) W _ hrel fun ex s' μ2 a2 w2 hK hx2 hr2 => ?_
    have hx3 : ExtI nI' μ μ2 := g3.trans hx2
    rcases hK with ⟨rfl, e2, e3⟩ | ⟨hex, hX⟩
    · have hw2 : WRel B w0 μ2 (I (step (pre.foldl step s0) x)).2 (I (step (pre.foldl step s0) x)).1 w2 := by
        rw [e2]; exact (hr2.base g4.below).toW
      refine ⟨hr2.below.o, fun _ => hrd _ μ2 w2 hx3 hw2.h, ?_, g2.trans hr2.below.o, μ2, hx3, ?_⟩
      · simpa using e3
      · simpa using hw2
    · have hfin : IX (exitCode ex) (pre ++ [x]) w2 := ⟨pre, x, ex, s', rfl, hex, rfl, hX, g2.trans hr2.below.o, μ2, hx3, (hr2.base g4.below).toW⟩
      rcases hex with rfl | ⟨id, rfl⟩
      · exact ⟨hr2.below.o, hfin⟩
      · exact ⟨hr2.below.o, hfin⟩
  · -- behind all
    intro D ys W hD hys hIW hDW
    subst hys
    obtain ⟨g1, g2, μ', g3, g4⟩ := hIW
    refine hq .normal _ μ' _ W [{ target := .collected D, args := #[] }] (hdone g1) (fun i hi => g3 i (by omega)) ⟨fun d hd => ?_, by simp⟩ g2 (g4.rel ?_)
    · simp at hd; subst hd; exact ⟨D, rfl, hD, hDW⟩
    · have := hr.t.low g3 hshp
      exact ⟨by simp [this.defers], this.size, this.val⟩
  · -- a way out
    intro D c ys W hD hys hIX hDW
    obtain ⟨pre, x, ex, s', rfl, hex, rfl, hX, e5, μ', g3, g4⟩ := hIX
    have hfin : Q ex { a with defers := { target := .collected D, args := #[] } :: a.defers } W := by
      refine hq ex _ μ' _ W [{ target := .collected D, args := #[] }] (hstop pre x ex s' hys hX) (fun i hi => g3 i (by omega)) ⟨fun d hd => ?_, by simp⟩ e5 (g4.rel ?_)
      · simp at hd; subst hd; exact ⟨D, rfl, hD, hDW⟩
      · have := hr.t.low g3 hshp
        exact ⟨by simp [this.defers], this.size, this.val⟩
    rcases hex with rfl | ⟨id, rfl⟩
    · exact wpIn_ret hfin
    · exact wpIn_exit hfin
/-- of what a range comes to one way is told -/
theorem TrM.pick {P : Program} {N nI : Nat} {c : Code} {σ : AS} {K : Exit → AS → Prop} {ex : Exit} {s0 : AS} (h : TrM P N nI c σ K) (hk : ∀ e s, K e s → e = ex ∧ s = s0) : TrM P N nI c σ fun e s => e = ex ∧ s = s0 := h.mono hk

/-! ### the rounds' variables -/
theorem wpIn_assign1 {P : Program} {r : Option Nat} {m id d j : Nat} {K : Act → World → Prop} {Q : Exit → Act → World → Prop} {a : Act} {W : World} {o : Oper} (ho : o.op = .assign (.tmp j)) (hg : o.guard = none) (hd : o.dst = some d) (h : K (a.put (some d) (a.tmps.getD j undef)) W) : (Code.region id #[o] false).wpIn (fen r) m P (Exit.then K Q) a W := by
  refine wpIn_region_list ?_
  show wpListIn (fen r) m P #[o] (Exit.then K Q) [o] a W
  unfold wpListIn
  rw [if_pos (by unfold Region.wanted; rw [hg])]
  refine wpIn_of_wp (by rw [ho]; rintro c ⟨⟩) ?_
  unfold Oper.wp
  simp only [execOp, ho, Sem.run_pure, Oper.upon_value, hd]
  exact wpListIn_nil h
theorem TRel.set {μ : Nat → Option Loc} {ts : List (Nat × Value)} {N : Nat} {ds ds' : List Deferred} {tm : Array Value} (h : TRel μ ts ⟨N, ds⟩ ⟨tm, ds⟩) (d : Nat) (hd : d < N) {v v' : Value} (hv : VRel μ v v') : TRel μ (Am.put ts d v) ⟨N, ds'⟩ ⟨tm.setIfInBounds d v', ds'⟩ := by
  have := h.put (some d) (fun x hx => by injection hx with hx; subst hx; exact hd) (some v) v' fun x hx => by injection hx with hx; subst hx; exact hv
  exact ⟨rfl, this.size, this.val⟩
/-- a range's frame: the elements' values, and one of them as the variable -/
theorem frame2 {μ : Nat → Option Loc} {ts : List (Nat × Value)} {N : Nat} {ds : List Deferred} {a : Act} (h : TRel μ ts ⟨N, ds⟩ a) {p q d : Nat} (hp : p < N) (hq : q < N) (hd : d < N) {x y : Value} (hx : flat x = true) (hy : flat y = true) :
    TRel μ (put (put (put ts p x) q y) d y) ⟨N, []⟩ (Act.put { tmps := (#[p, q].zip #[x, y]).foldl (fun t (p, v) => t.setIfInBounds p v) a.tmps, defers := [] } (some d) (((#[p, q].zip #[x, y]).foldl (fun t (p, v) => t.setIfInBounds p v) a.tmps).getD q undef)) := by
  have h0 : TRel μ ts ⟨N, ds⟩ ⟨a.tmps, ds⟩ := ⟨rfl, h.size, h.val⟩
  have h1 := h0.set (ds' := []) p hp (.flat (μ := μ) x hx)
  have h2 := h1.set (ds' := []) q hq (.flat (μ := μ) y hy)
  have hz : (#[p, q].zip #[x, y]).foldl (fun t (p, v) => t.setIfInBounds p v) a.tmps = (a.tmps.setIfInBounds p x).setIfInBounds q y := by simp
  rw [hz]
  have hg : ((a.tmps.setIfInBounds p x).setIfInBounds q y).getD q undef = y := by
    have : q < ((a.tmps.setIfInBounds p x)).size := by simpa using (by rw [h.size]; exact hq : q < a.tmps.size)
    simp [Array.getD_eq_getD_getElem?, this]
    intro hh
    simp at this; omega
  rw [hg]
  exact h2.set (ds' := []) d hd (.flat (μ := μ) y hy)
end Go.Am
