/-
An abstract machine over the kit's wp calculus, part 12: a region that draws its order comes to what its text's order comes to.
-/
import Derived.Test.YtbihgmehjhlojaaAm11
set_option linter.unusedVariables false
set_option linter.unusedSimpArgs false
namespace Go.Am
open Go Go.RowKit

theorem Rel.congr {B : Nat} {w0 : World} {μ : Nat → Option Loc} {F F' : Nat → Prop} {ts ts' : List (Nat × Value)} {hp hp' : Heap} {nt : NT} {a : Act} {w : World} (h : Rel B w0 μ F ts hp nt a w) (ht : ∀ t, get ts' t = get ts t) (hh : ∀ i, get hp' i = get hp i) (hF : ∀ i, F' i → F i) : Rel B w0 μ F' ts' hp' nt a w :=
  ⟨⟨h.t.defers, h.t.size, fun t v hv => h.t.val t v (by rw [← ht]; exact hv)⟩, h.h.le h.st (HLe.of_get fun i b hi => by rw [← hh]; exact hi), h.below, h.size, fun i hi => h.free i (hF i hi), fun i b hi => h.st i b (by rw [← hh]; exact hi), fun i b hi hb => h.dom i b (hF i hi) (by rw [← hh]; exact hb)⟩
theorem Rel.drew {B : Nat} {w0 : World} {μ : Nat → Option Loc} {F : Nat → Prop} {ts : List (Nat × Value)} {hp : Heap} {nt : NT} {a : Act} {w : World} (h : Rel B w0 μ F ts hp nt a w) : Rel B w0 μ F ts hp nt a { w with drawn := w.drawn + 1 } :=
  ⟨h.t, h.h.drew, h.below.drew, h.size, h.free, h.st, h.dom⟩
theorem lastW_take {α : Type} {S : Nat → Bool} {β : Type} (f : β → Option (Option α)) : ∀ (its : List β) (n k : Nat) (d : Option α), (∀ j, k + n ≤ j → S j = false) → lastW S k ((its.take n).map f) d = lastW S k (its.map f) d
  | [], n, k, d, h => by simp
  | x :: r, 0, k, d, h => by
    simp only [List.take_zero, List.map_nil]
    exact (lastW_none fun j v _ => h _ (by omega)).symm
  | x :: r, n + 1, k, d, h => by
    simp only [List.take_succ_cons, List.map_cons, lastW]
    exact lastW_take f r n (k + 1) _ fun j hj => h j (by omega)
theorem mem_ready {ops : Array Oper} {listed : Array Bool} {i : Nat} (h : i ∈ Region.ready .any ops listed) : ∃ o, ops.toList[i]? = some o ∧ listed.getD i true = false ∧ ∀ k ∈ bindsOn o, listed.getD k false = true := by
  unfold Region.ready at h
  simp only [List.mem_filter, List.mem_range, Bool.and_eq_true, Bool.not_eq_true'] at h
  obtain ⟨h1, h2, h3⟩ := h
  refine ⟨ops[i], by simp [h1], h2, fun k hk => ?_⟩
  rw [Array.getElem?_eq_getElem h1] at h3
  simp only [Option.map_some, Option.getD_some, Array.all_eq_true_iff_forall_mem] at h3
  unfold bindsOn at hk
  simp only [List.mem_filterMap] at hk
  obtain ⟨e, he, hk⟩ := hk
  split at hk
  · rename_i hb
    injection hk with hk; subst hk
    have := h3 e (Array.mem_def.2 he)
    rw [hb] at this
    simpa using this
  · cases hk
theorem ready_mem {ops : Array Oper} {listed : Array Bool} {i : Nat} {o : Oper} (ho : ops.toList[i]? = some o) (hl : listed.getD i true = false) (hk : ∀ k ∈ bindsOn o, listed.getD k false = true) : i ∈ Region.ready .any ops listed := by
  have hi : i < ops.size := by have := (List.getElem?_eq_some_iff.1 ho).1; simpa using this
  have ho' : ops[i]? = some o := by rw [← ho]; simp
  unfold Region.ready
  simp only [List.mem_filter, List.mem_range, Bool.and_eq_true, Bool.not_eq_true']
  refine ⟨hi, hl, ?_⟩
  rw [ho']
  simp only [Option.map_some, Option.getD_some, Array.all_eq_true_iff_forall_mem]
  intro e he
  by_cases hb : Region.binds .any e = true
  · have : e.on ∈ bindsOn o := List.mem_filterMap.2 ⟨e, Array.mem_def.1 he, by rw [if_pos hb]⟩
    simp [hk _ this]
  · simp [hb]

section
variable {P : Program} {r : Option Nat} {nt : NT} {nI : Nat} {ops : Array Oper} {its : List Item} {A : List Nat} {σ : AS} {nx : Nat}

/-- A REGION THAT DRAWS ITS ORDER. -/
theorem Tr.draw {id : Nat} {K : Exit → AS → Prop} (hm : P.follows .mixedOrders = true) (hops : ops.toList = its.map (·.o)) (hA : ancs ops.toList = A) (hb : bindsOK 0 ops.toList = true) (hw : wOK A (ops.toList.map (·.dst)) = true) (has : AsideOK A its σ) (hch : chain σ.nx its nx)
    (hst : ∀ i it, its[i]? = some it → StepOK P ops nt it.o (leanTs A (ops.toList.map (·.dst)) (its.take i) σ i) (leanHp A (its.take i) σ i it.dl) it.lo it.hi it.e) (hnI : nI ≤ σ.nx)
    (hK : K .normal { ts := (stAt (fun _ => true) 0 its σ.ts σ.hp).1, hp := (stAt (fun _ => true) 0 its σ.ts σ.hp).2, nx := nx }) : Tr P r nt nI (.region id ops true) σ K := by
  have hks : ∀ {i : Nat} {it : Item}, its[i]? = some it → (ops.toList.map (·.dst))[i]? = some it.o.dst := fun hi => by rw [hops]; simp [hi]
  generalize hksd : ops.toList.map (·.dst) = ks at *
  have hAok : AncOK ops.toList A := by rw [← hA]; exact ancs_ok _
  intro n B w0 μ0 a0 w1 Q hr0 hq
  refine wpIn_region_any hm ?_
  have hlen : ops.size = its.length := by have := congrArg List.length hops; simpa using this
  -- the invariant
  let S : Array Bool → Nat → Bool := fun listed j => listed.getD j false
  let Fr : Array Bool → Nat → Prop := fun listed i => σ.nx ≤ i ∧ ∀ (j : Nat) (it : Item), its[j]? = some it → S listed j = true → ¬ (it.lo ≤ i ∧ i < it.hi)
  have key : ∀ (fuel : Nat) (listed : Array Bool) (μ : Nat → Option Loc) (ts : List (Nat × Value)) (hp : Heap) (a : Act) (w : World), listed.size = ops.size → listed.toList.count false = fuel → Down ops.toList (S listed) → ExtI nI μ0 μ →
      Rel B w0 μ (Fr listed) ts hp nt a w → (∀ t, get ts t = lastW (S listed) 0 (wsT its t) (get σ.ts t)) → (∀ i, get hp i = lastW (S listed) 0 (wsH its i) (get σ.hp i)) → wpAnyIn (fen r) n P .any ops Q fuel listed a w := by
    intro fuel
    induction fuel with
    | zero =>
      intro listed μ ts hp a w hsz hcnt hdn hx hr hts hhp
      have hall : ∀ j, j < ops.size → listed.getD j true = true ∧ S listed j = true := by
        intro j hj
        have hj' : j < listed.size := by omega
        have h0 : listed[j] = true := by
          cases hb' : listed[j] with
          | true => rfl
          | false =>
            have hmem : false ∈ listed.toList := by
              rw [← hb', List.mem_iff_getElem]
              exact ⟨j, by simpa using hj', by simp⟩
            exact absurd hcnt (Nat.pos_iff_ne_zero.1 (List.count_pos_iff.2 hmem))
        constructor
        · rw [Array.getD_eq_getD_getElem?, Array.getElem?_eq_getElem hj']; simpa using h0
        · show listed.getD j false = true
          rw [Array.getD_eq_getD_getElem?, Array.getElem?_eq_getElem hj']; simpa using h0
      refine ⟨?_, ?_⟩
      · rw [List.eq_nil_iff_forall_not_mem]
        intro i hi
        obtain ⟨o, ho, hl, _⟩ := mem_ready hi
        have hio : i < ops.size := by have := (List.getElem?_eq_some_iff.1 ho).1; simpa using this
        rw [(hall i hio).1] at hl; cases hl
      · have eS : ∀ {α : Type} (ws : List (Option (Option α))) (d : Option α), ws.length = its.length → lastW (S listed) 0 ws d = lastW (fun _ => true) 0 ws d := fun ws d hws => lastW_agree fun j v hv => by
          have := (List.getElem?_eq_some_iff.1 hv).1
          simpa using (hall j (by omega)).2
        refine hq .normal _ μ a w hK hx (hr.congr (fun t => ?_) (fun i => ?_) fun i hi => ?_)
        · rw [stAt_ts, hts, eS _ _ (by simp [wsT])]
        · rw [stAt_hp, hhp, eS _ _ (by simp [wsH])]
        · have hi : nx ≤ i := hi
          refine ⟨by have := chain_le hch; omega, fun j it hj _ hlo => ?_⟩
          have := chain_in hch hj; omega
    | succ fuel ih =>
      intro listed μ ts hp a w hsz hcnt hdn hx hr hts hhp
      refine ⟨fun hnil => ?_, fun i hi => ?_⟩
      · -- one is ready
        exfalso
        have hex : ∃ j, j < ops.size ∧ S listed j = false := by
          have : false ∈ listed.toList := List.count_pos_iff.1 (by omega)
          obtain ⟨j, hj, hje⟩ := List.mem_iff_getElem.1 this
          refine ⟨j, by simpa [hsz] using hj, ?_⟩
          show listed.getD j false = false
          rw [Array.getD_eq_getD_getElem?]
          simp at hj
          rw [Array.getElem?_eq_getElem hj]
          simpa using hje
        obtain ⟨i, ⟨hi, hS⟩, hmin⟩ : ∃ i, (i < ops.size ∧ S listed i = false) ∧ ∀ j, j < i → ¬ (j < ops.size ∧ S listed j = false) := by
          obtain ⟨j, hj⟩ := hex
          clear hnil hcnt
          induction j using Nat.strongRecOn with
          | _ j ihj =>
            by_cases hlow : ∃ k, k < j ∧ (k < ops.size ∧ S listed k = false)
            · obtain ⟨k, hkj, hk⟩ := hlow
              exact ihj k hkj hk
            · exact ⟨j, hj, fun k hk hh => hlow ⟨k, hk, hh⟩⟩
        have ho : ops.toList[i]? = some ops[i] := by simp [hi]
        have hmem : i ∈ Region.ready .any ops listed := ready_mem ho (by
            have : listed.getD i false = false := hS
            rw [Array.getD_eq_getD_getElem?, Array.getElem?_eq_getElem (by omega)] at this ⊢
            simpa using this) fun k hk => by
          have hki := bindsOK_ok hb ho k hk
          rw [Nat.zero_add] at hki
          cases hSk : S listed k with
          | true => exact hSk
          | false => exact absurd ⟨by omega, hSk⟩ (hmin k hki)
        rw [hnil] at hmem; cases hmem
      · -- it is carried out
        obtain ⟨o, ho, hl, hbo⟩ := mem_ready hi
        have hio : i < ops.size := by have := (List.getElem?_eq_some_iff.1 ho).1; simpa using this
        have hil : i < its.length := by omega
        obtain ⟨it, hit⟩ : ∃ it, its[i]? = some it := ⟨its[i], List.getElem?_eq_getElem hil⟩
        have hoit : it.o = o := by
          have : (its.map (·.o))[i]? = some o := by rw [← hops]; exact ho
          rw [List.getElem?_map, hit] at this; simpa using this
        subst hoit
        have hSi : S listed i = false := by
          show listed.getD i false = false
          rw [Array.getD_eq_getD_getElem?, Array.getElem?_eq_getElem (by omega)] at hl ⊢
          simpa using hl
        have hin : ∀ o ∈ ops.toList, ∀ k ∈ bindsOn o, k < ops.toList.length := fun o ho k hk => by
          obtain ⟨j, hj, hje⟩ := List.mem_iff_getElem.1 ho
          have := bindsOK_ok hb (i := j) (List.getElem?_eq_some_iff.2 ⟨hj, hje⟩) k hk
          omega
        have hanc : ∀ j, (A.getD i 0).testBit j = true → S listed j = true := fun j hj => by
          have hji := anc_lt hAok hb ho hj
          exact Down.anc hAok hdn ho (.inr hbo) hj (by simpa using Nat.lt_trans hji hio) hin
        have hdesc : ∀ j, j < its.length → (A.getD j 0).testBit i = true → S listed j = false := fun j hj hji => by
          cases hSj : S listed j with
          | false => rfl
          | true =>
            have hoj : ops.toList[j]? = some ops[j] := by simp [hlen, hj]
            have := Down.anc hAok hdn hoj (.inl hSj) hji (by simpa using hio) hin
            rw [this] at hSi; cases hSi
        have hbits : ∀ j, i ≤ j → bitS (A.getD i 0) j = false := fun j hj => by
          cases hbj : (A.getD i 0).testBit j with
          | false => exact hbj
          | true => have := anc_lt hAok hb ho hbj; omega
        obtain ⟨hdst, hst'⟩ := hst i it hit
        -- what it leans on lies there
        have leanT : TLe (leanTs A ks (its.take i) σ i) ts := by
          intro t v hv
          unfold leanTs at hv
          rw [get_dels] at hv
          split at hv
          · cases hv
          · rename_i hna
            rw [stAt_ts] at hv
            rw [hts, ← hv]
            unfold wsT
            rw [lastW_take _ its i 0 _ (fun j hj => hbits j (by omega))]
            refine lastW_agree fun j u hu => ?_
            rw [Nat.zero_add]
            rw [List.getElem?_map] at hu
            obtain ⟨jt, hjt, hju⟩ := Option.map_eq_some_iff.1 hu
            split at hju
            · rename_i hd
              have hk' := hks hjt
              rw [hd] at hk'
              have : aside A i j = false := by
                cases ha : aside A i j with
                | false => rfl
                | true => exact absurd (asideT_mem hk' (by rwa [Nat.zero_add])) hna
              unfold aside at this
              by_cases e1 : j = i
              · subst e1; rw [hSi]; exact (hbits j (Nat.le_refl _)).symm
              · by_cases e2 : (A.getD i 0).testBit j = true
                · rw [hanc j e2]; exact e2.symm
                · by_cases e3 : (A.getD j 0).testBit i = true
                  · have hjl : j < its.length := (List.getElem?_eq_some_iff.1 hjt).1
                    rw [hdesc j hjl e3]
                    rw [Bool.not_eq_true] at e2
                    exact e2.symm
                  · rw [Bool.not_eq_true] at e2 e3
                    rw [e2, e3] at this
                    simp [e1] at this
            · cases hju
        have leanH : HLe (leanHp A (its.take i) σ i it.dl) hp := by
          intro t v hv h1
          refine ⟨v, ?_, rfl, rfl, rfl, Nat.le_refl _⟩
          have hv0 := hv
          unfold leanHp at hv
          rw [get_dels] at hv
          split at hv
          · cases hv
          · rename_i hna
            rw [stAt_hp] at hv
            rw [hhp, ← hv]
            unfold wsH
            rw [lastW_take _ its i 0 _ (fun j hj => hbits j (by omega))]
            refine lastW_agree fun j u hu => ?_
            rw [Nat.zero_add]
            rw [List.getElem?_map] at hu
            obtain ⟨jt, hjt, hju⟩ := Option.map_eq_some_iff.1 hu
            split at hju
            · rename_i hd
              have : aside A i j = false := by
                cases ha : aside A i j with
                | false => rfl
                | true =>
                  have := (has i j it jt hit hjt t hd).2 ha v hv0
                  omega
              unfold aside at this
              by_cases e1 : j = i
              · subst e1; rw [hSi]; exact (hbits j (Nat.le_refl _)).symm
              · by_cases e2 : (A.getD i 0).testBit j = true
                · rw [hanc j e2]; exact e2.symm
                · by_cases e3 : (A.getD j 0).testBit i = true
                  · have hjl : j < its.length := (List.getElem?_eq_some_iff.1 hjt).1
                    rw [hdesc j hjl e3]
                    rw [Bool.not_eq_true] at e2
                    exact e2.symm
                  · rw [Bool.not_eq_true] at e2 e3
                    rw [e2, e3] at this
                    simp [e1] at this
            · cases hju
        -- the set behind it
        have hS' : ∀ j, S (listed.setIfInBounds i true) j = if j = i then true else S listed j := by
          intro j
          show (listed.setIfInBounds i true).getD j false = _
          rw [Array.getD_eq_getD_getElem?, Array.getElem?_setIfInBounds]
          by_cases e : i = j
          · subst e
            have : i < listed.size := by omega
            simp [this]
          · rw [if_neg e, if_neg (fun q => e q.symm)]
            show (listed[j]?).getD false = listed.getD j false
            simp only [Array.getD_eq_getD_getElem?]
        have hSf : S (listed.setIfInBounds i true) = fun j => if j = i then true else S listed j := funext hS'
        have hcnt' : (listed.setIfInBounds i true).toList.count false = fuel := by
          rw [Array.toList_setIfInBounds]
          have hil' : i < listed.toList.length := by simp [hsz, hio]
          have hget : listed.toList[i] = false := by
            have : listed.getD i false = false := hSi
            rw [Array.getD_eq_getD_getElem?, Array.getElem?_eq_getElem (by omega)] at this
            simpa using this
          rw [List.count_set hil', hget, hcnt]
          simp
        have hdn' : Down ops.toList (S (listed.setIfInBounds i true)) := by
          intro j o' ho' hj k hk
          rw [hS'] at hj ⊢
          split
          · rfl
          · split at hj
            · rename_i e; subst e; rw [ho] at ho'; injection ho' with ho'; subst ho'; exact hbo k hk
            · exact hdn j o' ho' hj k hk
        have conf : ∀ j jt, i < j → its[j]? = some jt → S listed j = true → (∀ x, jt.o.dst = some x → it.o.dst ≠ some x) ∧ ∀ y ∈ keysOf it.e, y ∉ keysOf jt.e := by
          intro j jt hij hjt hSj
          have hno : (A.getD j 0).testBit i = true → False := fun q => by
            have := hdesc j (List.getElem?_eq_some_iff.1 hjt).1 q
            rw [this] at hSj; cases hSj
          refine ⟨fun x hx hx' => ?_, fun y hy hy' => hno ((has i j it jt hit hjt y hy').1 hij hy)⟩
          have h2 := hks hjt
          rw [hx] at h2
          rcases wOK_ok hw (hks hit) h2 hij with q | q
          · exact hno q
          · exact q hx'
        have addT : ∀ t, get (putDst ts it.o.dst it.e.val) t = lastW (S (listed.setIfInBounds i true)) 0 (wsT its t) (get σ.ts t) := by
          intro t
          rw [get_putDst, hSf]
          rw [lastW_add (w := if it.o.dst = some t then some it.e.val else none) (Nat.zero_le _) (by simp [wsT, hit]) hSi]
          · split
            · rfl
            · exact hts t
          · intro v j u hv hij hu
            simp only [Nat.sub_zero, wsT, List.getElem?_map] at hu
            obtain ⟨jt, hjt, hju⟩ := Option.map_eq_some_iff.1 hu
            cases hSj : S listed j with
            | false => rfl
            | true =>
              split at hju
              · rename_i hd
                split at hv
                · rename_i hd2
                  exact absurd hd2 ((conf j jt hij hjt hSj).1 t hd)
                · cases hv
              · cases hju
        have addH : ∀ t, get (puts hp it.e.upd) t = lastW (S (listed.setIfInBounds i true)) 0 (wsH its t) (get σ.hp t) := by
          intro t
          rw [get_puts_key, hSf]
          rw [lastW_add (w := if t ∈ keysOf it.e then some (lastOf it.e.upd t none) else none) (Nat.zero_le _) (by simp [wsH, hit]) hSi]
          · unfold keysOf
            split
            · rfl
            · exact hhp t
          · intro v j u hv hij hu
            simp only [Nat.sub_zero, wsH, List.getElem?_map] at hu
            obtain ⟨jt, hjt, hju⟩ := Option.map_eq_some_iff.1 hu
            cases hSj : S listed j with
            | false => rfl
            | true =>
              split at hju
              · rename_i hd
                split at hv
                · rename_i hd2
                  exact absurd hd ((conf j jt hij hjt hSj).2 t hd2)
                · cases hv
              · cases hju
        have rng : ∀ x, it.lo ≤ x → x < it.hi → Fr listed x := by
          intro x h1 h2
          have hci := chain_in hch hit
          refine ⟨by omega, fun j jt hjt hSj hlo => ?_⟩
          rcases Nat.lt_trichotomy j i with q | q | q
          · have := chain_apart hch hjt hit q; omega
          · subst q; rw [hSi] at hSj; cases hSj
          · have := chain_apart hch hit hjt q; omega
        have oi : ops[i]? = some it.o := by rw [← ho]; simp
        unfold wpOpIn
        rw [oi]
        simp only
        have htl : TRel μ (leanTs A ks (its.take i) σ i) nt a := ⟨hr.t.defers, hr.t.size, fun t v hv => hr.t.val t v (leanT t v hv)⟩
        rcases hst' with ⟨hnd, hg, hok⟩ | ⟨hg, he, hhi⟩
        · rw [if_pos (guardOf_ok htl hg)]
          refine wpIn_of_wp (noDefer_ok hnd) (hok B w0 μ _ ts hp nt a w _ Q leanT leanH hr rng (dstOK_ok hdst) fun μ' a' w' hxx hout hr' => ?_)
          have hlo : nI ≤ it.lo := by have := chain_in hch hit; omega
          refine ih _ μ' _ _ a' w' (by simp [hsz]) hcnt' hdn' (hx.trans fun x hxn => hout x fun q => by omega) (hr'.congr (fun _ => rfl) (fun _ => rfl) fun x hx => ?_) addT addH
          refine ⟨⟨hx.1, fun j jt hjt hSj => hx.2 j jt hjt (by rw [hS']; split; rfl; exact hSj)⟩, hx.2 i it hit (by rw [hS']; simp)⟩
        · rw [if_neg (by rw [guardOf_ok htl hg]; simp)]
          refine ⟨fun _ _ => trivial, ih _ μ _ _ (a.put it.o.dst undef) w (by simp [hsz]) hcnt' hdn' hx ?_ addT addH⟩
          rw [he]
          refine ⟨hr.t.put it.o.dst (dstOK_ok hdst) (some undef) undef (fun x hx => by injection hx with hx; subst hx; exact .flat _ rfl), hr.h, hr.below, hr.size, fun x hx => hr.free x ?_, hr.st, fun x b hx hb => hr.dom x b ?_ hb⟩
          · exact ⟨hx.1, fun j jt hjt hSj => hx.2 j jt hjt (by rw [hS']; split; rfl; exact hSj)⟩
          · exact ⟨hx.1, fun j jt hjt hSj => hx.2 j jt hjt (by rw [hS']; split; rfl; exact hSj)⟩
  have hS0 : ∀ j, S (Array.replicate ops.size false) j = false := fun j => by
    show (Array.replicate ops.size false).getD j false = false
    rw [Array.getD_eq_getD_getElem?]
    by_cases h : j < ops.size
    · simp [h]
    · simp [h]
  refine key ops.size _ μ0 σ.ts σ.hp a0 _ (by simp) (by simp) (fun i o _ hi => by rw [hS0] at hi; cases hi) (ExtI.refl _ _) (hr0.drew.congr (fun _ => rfl) (fun _ => rfl) fun i hi => hi.1) (fun t => ?_) (fun i => ?_)
  · exact (lastW_none fun j v _ => hS0 _).symm
  · exact (lastW_none fun j v _ => hS0 _).symm
end
end Go.Am
